/- Contracts of functions and plain laws, for all inputs that the theorems name. -/
import Derived.Test.YtmpcledaoigkaaaGreatXG2
import Derived.ChangeArms
import Derived.Carry
import Derived.Deep.Slices
import Derived.Lib.SmallJoins
import Derived.Test.YtmpcledaoigkaaaGreatProg
import Derived.KernelRfl

set_option linter.unusedSimpArgs false
set_option linter.unusedVariables false
set_option maxHeartbeats 4000000
namespace Go.Abs
open Go.RowKit
variable{P:Program}{T:Tm}{H:Hp}{nx:Nat}
theorem Ky{K:CP}(h:K .normal T H nx):aG P .skip T H nx K:=h
theorem KK{K:CP}{i:Nat}(h:K (.exit i) T H nx):aG P (.exit i) T H nx K:=h
theorem N6{K:CP}(h:K .ret T H nx):aG P .ret T H nx K:=h
theorem Kt{K:CP}{l:List Op2}(h:ah P .text l T H nx λT H nx=>K .normal T H nx):aG P (.ops 0 l) T H nx K:=⟨T,H,nx,_,Gh.refl _ _ _,h⟩
theorem uP{K:CP}{l:List Op2}{C:List Nat}(h:ah P .draw l T H nx λT H nx=>K .normal T H nx):aG P (.mix 1 l C) T H nx K:=.inl ⟨by decide,T,H,nx,_,Gh.refl _ _ _,h⟩
theorem xY{K:CP}{l:List Op2}{C:List Nat}(h:ah P (.fresh nx) l T H nx λT H nx=>K .normal T H nx):aG P (.mix 2 l C) T H nx K:=.inl ⟨by decide,T,H,nx,_,Gh.refl _ _ _,h⟩
theorem J9{K:CP}{m:Nat}{l alt:List Op2}{C:List Nat}(ha:(C.map λk=>l.getD k ⟨none,none,.dead⟩)=alt)(h:ah P .text alt T H nx λT H nx=>K .normal T H nx):aG P (.mix m l C) T H nx K:=by
 subst ha;exact .inr ⟨T,H,nx,_,Gh.refl _ _ _,h⟩
theorem yi{K:CP}{l alt:List Op2}{C:List Nat}(ha:(C.map λk=>l.getD k ⟨none,none,.dead⟩)=alt)(h:ah P .text alt T H nx λT H nx=>K .normal T H nx):aG P (.mix 9 l C) T H nx K:=J9 ha h
theorem Ix{K:CP}{l:List Op2}{C:List (Nat×Nat)}(h:ah P .draw l T H nx λT H nx=>K .normal T H nx):aG P (.mixS 1 l C) T H nx K:=.inl ⟨by decide,T,H,nx,_,Gh.refl _ _ _,h⟩
theorem HP{K:CP}{l:List Op2}{C:List (Nat×Nat)}(h:ah P (.fresh nx) l T H nx λT H nx=>K .normal T H nx):aG P (.mixS 2 l C) T H nx K:=.inl ⟨by decide,T,H,nx,_,Gh.refl _ _ _,h⟩
theorem iL(S:Hp){K:CP}{m:Nat}{l:List Op2}{alt:List (Op2×Nat)}{C:List (Nat×Nat)}(ha:(C.map λk=>(l.getD k.1 ⟨none,none,.dead⟩,k.2))=alt)(hs:Sub S H)(h:bB P S alt T H nx λT H nx=>K .normal T H nx):aG P (.mixS m l C) T H nx K:=by
 subst ha;exact .inr ⟨T,H,nx,_,S,Gh.refl _ _ _,hs,h⟩
theorem L1{S:Hp}{K:SP}(h:K T H nx):bB P S [] T H nx K:=h
theorem JH{S:Hp}{K:SP}{l:List (Op2×Nat)}{d:Option Nat}{i:Ins}{r:AV}(h:cf T S i=some r)(k:bB P S l (aO T d r) H nx K):bB P S ((⟨d,none,i⟩,0)::l) T H nx K:=by
 show ay (cf T S i) λr=>bB P S l (aO T d r) H nx K;rw[h];exact k
theorem Lj{S:Hp}{K:SP}{l:List (Op2×Nat)}{d:Option Nat}{sz:Nat}{z cs:List AV}{parts:List (Nat×Nat×Opd)}{pv:List (Nat×Nat×AV)}(hp:parts.map (λp=>(p.1,p.2.1,ov T p.2.2))=pv)(hc:fu (bv (.agg z) 1) pv=some cs)(hz:sz≠1)(hn:cs.length=sz)(ho:cs.all AV.one=true)
    (k:bB P S l (aO T d (.sl sz [.agg cs])) H nx K):bB P S ((⟨d,none,.bldS sz 1 z parts⟩,3)::l) T H nx K:=by
 show ay (wG T (.bldS sz 1 z parts)) _
 have:wG T (.bldS sz 1 z parts)=some (.sl sz [.agg cs]):=by
  simp only[wG,kU,Nat.one_ne_zero,if_false,hp,hc,uf,ap,if_true];rw[if_neg hz,if_pos ⟨trivial,hn,ho⟩]
 rw[this];exact k
theorem eE{S:Hp}{K:SP}{l:List (Op2×Nat)}{d:Option Nat}{i:Ins}(k:ah P .text [⟨d,none,i⟩] T H nx λT H nx=>Sub S H/\bB P S l T H nx K):bB P S ((⟨d,none,i⟩,1)::l) T H nx K:=by
 have k:bg P .text i T H nx λr H nx=>Sub S H/\bB P S l (aO T d r) H nx K:=k;show bg P .text i T H nx λr H' nx'=>(0=0->Sub S H')/\bB P S l (aO T d r) H' nx' K;exact ot k (λ_ _ _ h=>⟨λ_=>h.1,h.2⟩)
theorem gL{S:Hp}{K:SP}{l:List (Op2×Nat)}{d:Option Nat}{i:Ins}(k:ah P .text [⟨d,none,i⟩] T H nx λT H nx=>bB P S l T H nx K):bB P S ((⟨d,none,i⟩,2)::l) T H nx K:=by
 have k:bg P .text i T H nx λr H nx=>bB P S l (aO T d r) H nx K:=k;show bg P .text i T H nx λr H' nx'=>(1=0->Sub S H')/\bB P S l (aO T d r) H' nx' K;exact ot k (λ_ _ _ h=>⟨λhh=>absurd hh (by decide),h⟩)
theorem KC(I:(Nat->Bool)->Tm->Hp->Nat->Prop){K:CP}{l:List Op2}{B:List (List Nat)}(h0:I (λ_=>false) T H nx)
    (h1:∀(i:Nat)(L:Nat->Bool)(T:Tm)(H:Hp)(nx:Nat),i<l.length->L i=false->(∀k∈B.getD i [],L k=true)->I L T H nx->ah P .text [l.getD i ⟨none,none,.dead⟩] T H nx (I λk=>L k || decide (k=i)))
    (h2:∀(L:Nat->Bool)(T:Tm)(H:Hp)(nx:Nat),(∀k,k<l.length->L k=true)->I L T H nx->K .normal T H nx):aG P (.anyI l B) T H nx K:=⟨T,H,nx,_,I,Gh.refl _ _ _,h0,h1,h2⟩
theorem Lk{K:CP}{l:List Op2}(h:ah P .draw l T H nx λT H nx=>K .normal T H nx):aG P (.ops 1 l) T H nx K:=⟨T,H,nx,_,Gh.refl _ _ _,h⟩
theorem Ki{K:CP}{l:List Op2}(h:ah P (.fresh nx) l T H nx λT H nx=>K .normal T H nx):aG P (.ops 2 l) T H nx K:=⟨T,H,nx,_,Gh.refl _ _ _,h⟩
theorem kE{K:CP}{x y:C2}(h:aG P x T H nx λe T H nx=>aH e (aG P y T H nx K) (K e T H nx)):aG P (.seq x y) T H nx K:=h
theorem mr{K:CP}{i:Nat}{b:C2}(h:aG P b T H nx λe T H nx=>K (rj i e) T H nx):aG P (.block i b) T H nx K:=h
theorem BH{K:CP}{c:Opd}{x y:C2}{b:Bool}(hc:ov T c=.bool b)(h1:b=true->aG P x T H nx K)(h2:b=false->aG P y T H nx K):aG P (.cond c x y) T H nx K:=by
 simp only[aG,hc];exact⟨h1,h2⟩
theorem C5{K:CP}{c:Opd}{x y:C2}(hc:ov T c=.bool true)(h1:aG P x T H nx K):aG P (.cond c x y) T H nx K:=
 BH hc (λ_=>h1) (λh=>by cases h)
theorem Du{K:CP}{c:Opd}{x y:C2}(hc:ov T c=.bool false)(h2:aG P y T H nx K):aG P (.cond c x y) T H nx K:=
 BH hc (λh=>by cases h) (λ_=>h2)
theorem Kz{K:CP}{b:C2}(h:aQ (aG P b) T H nx K):aG P (.loop b) T H nx K:=h
theorem a_n{A B:Prop}(h:A):aH .normal A B:=h
theorem a_x{A B:Prop}{i:Nat}(h:B):aH (.exit i) A B:=h
theorem a_r{A B:Prop}(h:B):aH .ret A B:=h
theorem iS{dm:DM}{K:SP}(h:K T H nx):ah P dm [] T H nx K:=h
theorem pc{dm:DM}{K:SP}{l:List Op2}{d:Option Nat}{i:Ins}{r:AV}(hi:ic i=.val)(hd:dm2 dm T i=true)(h:cf T H i=some r)(k:ah P dm l (aO T d r) H nx K):ah P dm (⟨d,none,i⟩::l) T H nx K:=by
 show bg P dm i T H nx λr H nx=>ah P dm l (aO T d r) H nx K;unfold bg;rw[hi];exact⟨hd,by rw[h];exact k⟩
theorem qK{dm:DM}{K:SP}{l:List Op2}{d:Option Nat}{i:Ins}{r:AV}{H':Hp}{nx':Nat}(hi:ic i=.eff)(hd:dm2 dm T i=true)(h:kU T H nx i=some (r,H',nx'))(k:ah P dm l (aO T d r) H' nx' K):ah P dm (⟨d,none,i⟩::l) T H nx K:=by
 show bg P dm i T H nx λr H nx=>ah P dm l (aO T d r) H nx K;unfold bg;rw[hi];exact .inl ⟨hd,by rw[h];exact k⟩
theorem Cd{K:SP}{l:List Op2}{d:Option Nat}{f:Opd}{args:List Opd}{g:FuncId}{caps:List AV}(hf:ov T f=.func g caps)(k:Fn P g (args.map (ov T)++caps) H nx λr H nx=>ah P .text l (aO T d r) H nx K):
    ah P .text (⟨d,none,.call f args⟩::l) T H nx K:=by
 left;show ay (qq (ov T f)) _;rw[hf];exact k
theorem Dr{dm:DM}(hdm:dm.isText=false){K:SP}{l:List Op2}{d:Option Nat}{f:Opd}{args:List Opd}{g:FuncId}{caps:List AV}(hf:ov T f=.func g caps)(k:aP P g (args.map (ov T)++caps) H λr=>ah P dm l (aO T d r) H nx K):
    ah P dm (⟨d,none,.call f args⟩::l) T H nx K:=by
 left;show ay (qq (ov T f)) _;rw[hf];show(match dm.isText with|false=>_|true=>_);rw[hdm];exact k
theorem qD{K:SP}{l:List Op2}{d:Option Nat}{f:Opd}{args:List Opd}{b:Nat}{xs:List AV}(hf:ov T f=.yld b)(ha:args.map (ov T)=xs)(k:Yl P b xs H nx λr H nx=>ah P .text l (aO T d r) H nx K):
    ah P .text (⟨d,none,.call f args⟩::l) T H nx K:=by
 right;exact⟨rfl,.inl ⟨b,hf,by rw[ha];exact k⟩⟩
theorem wg{K:SP}{l:List Op2}{d:Option Nat}{i:Ins}(hi:ic i=.sp)(k:isp i T H nx λr H nx=>ah P .text l (aO T d r) H nx K):ah P .text (⟨d,none,i⟩::l) T H nx K:=by
 show bg P .text i T H nx λr H nx=>ah P .text l (aO T d r) H nx K;unfold bg;rw[hi];exact⟨rfl,k⟩
theorem pY{K:SP}{l:List Op2}{d:Option Nat}(k:ah P .text l (aO T d (.mp nx)) (ap H nx [.omap [] []]) (nx+1) K):ah P .text (⟨d,none,.mkm none⟩::l) T H nx K:=wg rfl ⟨.inl rfl,k⟩
theorem l7{K:SP}{l:List Op2}{d:Option Nat}{kk:MK}{m key x:Opd}{b:Nat}{ks vs:List AV}{kv xv:AV}{r:Option Nat}(hm:ov T m=.mp b)(hb:H b=some [.omap ks vs])(hk:ov T key=kv)(hx:ov T x=xv)(hfit:oT kk kv=true)(hr:eT kk kv ks=some r)
    (k:ah P .text l (aO T d (.tup [])) (ap H b [.omap (eC kv r ks) (mF xv r vs)]) nx K):ah P .text (⟨d,none,.mput kk m key x⟩::l) T H nx K:=by
 subst hk hx;exact wg rfl ⟨b,ks,vs,r,hm,hb,hfit,hr,k⟩
theorem fC{K:SP}{l:List Op2}{d:Option Nat}{kk:MK}{z:AV}{ok:Bool}{m key:Opd}{b:Nat}{ks vs:List AV}{kv:AV}{r:Option Nat}(hm:ov T m=.mp b)(hb:H b=some [.omap ks vs])(hk:ov T key=kv)(hfit:oT kk kv=true)(hr:eT kk kv ks=some r)
    (k:ah P .text l (aO T d (mget z ok r vs)) H nx K):ah P .text (⟨d,none,.mget kk z ok m key⟩::l) T H nx K:=by
 subst hk;exact wg rfl ⟨b,ks,vs,r,hm,hb,hfit,hr,k⟩
theorem G1{K:SP}{l:List Op2}{d:Option Nat}{kk:MK}{z:AV}{m key:Opd}{b:Nat}{ks vs:List AV}{kv:AV}{r:Option Nat}(hm:ov T m=.mp b)(hb:H b=some [.omap ks vs])(hk:ov T key=kv)(hfit:oT kk kv=true)(hr:eT kk kv ks=some r)
    (k:ah P .text l (aO T d (.tup [DQ z r vs,.int .i64 (BI r ks)])) (ap H b [.omap (eC kv r ks) (oI z r vs)]) nx K):ah P .text (⟨d,none,.mplc kk z m key⟩::l) T H nx K:=by
 subst hk;exact wg rfl ⟨b,ks,vs,r,hm,hb,hfit,hr,k⟩
theorem Fx{K:SP}{l:List Op2}{d:Option Nat}{m s x:Opd}{b i:Nat}{ks vs:List AV}{xv:AV}(hm:ov T m=.mp b)(hb:H b=some [.omap ks vs])(hi:ov T s=.int .i64 (i:Int))(hlt:i<ks.length)(hx:ov T x=xv)
    (k:ah P .text l (aO T d (.tup [])) (ap H b [.omap ks (vs.set i xv)]) nx K):ah P .text (⟨d,none,.mpst m s x⟩::l) T H nx K:=by
 subst hx;exact wg rfl ⟨b,ks,vs,i,hm,hb,hi,hlt,k⟩
theorem Ga{K:SP}{l:List Op2}{d:Option Nat}{m:Opd}{b:Nat}{ks vs:List AV}(hm:ov T m=.mp b)(hb:H b=some [.omap ks vs])(k:ah P .text l (aO T d (.int .i64 ks.length)) H nx K):ah P .text (⟨d,none,.mlen m⟩::l) T H nx K:=wg rfl ⟨b,ks,vs,hm,hb,k⟩
theorem GB{K:SP}{l:List Op2}{d:Option Nat}{sz n:Nat}{x y:Opd}{H':Hp}(h:sf sz (ov T x) (ov T y) H=some (n,H'))(k:ah P .text l (aO T d (.int .i64 n)) H' nx K):ah P .text (⟨d,none,.cpy sz x y⟩::l) T H nx K:=wg rfl ⟨n,H',h,k⟩
theorem NA{K:SP}{l:List Op2}{d:Option Nat}{sz:Nat}{z:AV}{x:Opd}{H':Hp}(h:wa sz z (ov T x) H=some H')(k:ah P .text l (aO T d (.tup [])) H' nx K):ah P .text (⟨d,none,.clr sz z x⟩::l) T H nx K:=wg rfl ⟨H',h,k⟩
theorem OL{K:SP}{l:List Op2}{d:Option Nat}{len sz:Nat}{x:Opd}{b n off:Nat}{cs:List AV}(hx:ov T x=.ptr b n off)(hb:H b=some cs)(hn:cs.length=n)(hf:off+len*sz=n)(k:ah P .text l (aO T d (.msl b n sz off len)) H nx K):ah P .text (⟨d,none,.slp len sz x⟩::l) T H nx K:=wg rfl ⟨b,n,off,cs,hx,hb,hn,hf,k⟩
theorem mY{K:SP}{l:List Op2}{d:Option Nat}{neg:Bool}{x:Opd}{k:Nat}(hx:fS (ov T x)=some k)(h1:0<k->ah P .text l (aO T d (.bool neg)) H nx K)(h2:k=0->ah P .text l (aO T d (.bool true)) H nx K)(h3:k=0->ah P .text l (aO T d (.bool false)) H nx K):ah P .text (⟨d,none,.snil neg x⟩::l) T H nx K:=wg rfl ⟨k,hx,h1,λh=>⟨h2 h,h3 h⟩⟩
theorem Hw{K:CP}{g:Opd}{ps:List Nat}{a b:C2}{f:FuncId}{caps:List AV}(hg:ov T g=.func f caps)
    (h:∀ (c0:AV) (cj:AEx→AV),(∀ (args:List AV) (H':Hp) (nx':Nat) (K':AV→Hp→Nat→Prop),H' nx=some [c0]→args.length=ps.length →
        aG P a (l6 T ps args) H' nx' (λe T2 H2 nx2=>aH e (H2 nx=some [c0]/\aG P b T2 (cC H2 nx) nx2 λe T3 H3 nx3=>aH e (K' (.bool true) (ap H3 nx [c0]) nx3) (K' (.bool false) (ap H3 nx [cj e]) nx3)) False)->
        Yl P nx args H' nx' K')->
     Fn P f (.yld nx::caps) (ap H nx [c0]) (nx+1) λ_ H' nx'=>(H' nx=some [c0]/\K .normal T (cC H' nx) nx')\/ ∃e,e≠.normal/\H' nx=some [cj e]/\K e T (cC H' nx) nx'):aG P (.rangeF g ps a b) T H nx K:=⟨f,caps,hg,h⟩
theorem KX{dm:DM}{K:SP}{l:List Op2}{d:Option Nat}{i:Ins}{t:Nat}{w:Bool}(h:T t=.bool w)(k:ah P dm (⟨d,none,i⟩::l) T H nx K):ah P dm (⟨d,some (t,w),i⟩::l) T H nx K:=by
 show aN (g2 T (some (t,w))) _ _;have:g2 T (some (t,w))=some true:=by simp[g2,h]
 rw[this];exact k
theorem LF{dm:DM}{K:SP}{l:List Op2}{d:Option Nat}{i:Ins}{t:Nat}{w:Bool}(h:T t=.bool (!w)\/T t=.tup [])(k:ah P dm l (aO T d (.tup [])) H nx K):ah P dm (⟨d,some (t,w),i⟩::l) T H nx K:=by
 show aN (g2 T (some (t,w))) _ _
 have:g2 T (some (t,w))=some false:=by
  rcases h with h|h
  ·cases w<;>simp[g2,h]
  ·simp[g2,h]
 rw[this];exact k
theorem bn{e:AEx}{A:Prop}(he:e.ends=true)(h:A):aK e.ends A:=⟨he,h⟩
theorem r_1{K:AV->Prop}{a:RV}{x:AV}(ha:rv T H a=some x)(h:K x):bq T H K [a]:=by
 show ay (rv T H a) K;rw[ha];exact h
theorem r_2{K:AV->Prop}{a b:RV}{x y:AV}(ha:rv T H a=some x)(hb:rv T H b=some y)(h:K (.tup [x,y])):bq T H K [a,b]:=by
 show ay (rv T H a) _;rw[ha];show ay (rv T H b) _;rw[hb];exact h
theorem r_5{K:AV->Prop}{a b c d e:RV}{x y z u v:AV}(ha:rv T H a=some x)(hb:rv T H b=some y)(hc:rv T H c=some z)(hd:rv T H d=some u)(he:rv T H e=some v)(h:K (.tup [x,y,z,u,v])):bq T H K [a,b,c,d,e]:=by
 show yP T H [a,b,c,d,e] λxs=>K (.tup xs);simp only[yP,ha,hb,hc,hd,he];exact h
theorem r_3{K:AV->Prop}{a b c:RV}{x y z:AV}(ha:rv T H a=some x)(hb:rv T H b=some y)(hc:rv T H c=some z)(h:K (.tup [x,y,z])):bq T H K [a,b,c]:=by
 show ay (rv T H a) _;rw[ha];show ay (rv T H b) _;rw[hb];show ay (rv T H c) _;rw[hc];exact h
theorem Bq{T:Tm}{t:Nat}{v:AV}(h:T t=v):upd T t v=T:=by
 funext x;simp only[upd];split
 ·rename_i e;rw[e,h]
 ·rfl
theorem N5{dm:DM}{K:SP}{l:List Op2}{d:Option Nat}{i:Ins}{t:Nat}{w b:Bool}(h:T t=.bool b)(k1:b=w->ah P dm (⟨d,none,i⟩::l) (upd T t (.bool w)) H nx K)
    (k2:b=!w->ah P dm l (aO (upd T t (.bool (!w))) d (.tup [])) H nx K):ah P dm (⟨d,some (t,w),i⟩::l) T H nx K:=by
 by_cases hb:b=w
 ·subst hb;have:=k1 rfl;rw[Bq h] at this;exact KX h this
 ·have hb':b=!w:=by cases b<;>cases w<;>simp_all
  subst hb';have:=k2 rfl;rw[Bq h] at this;exact LF (.inl h) this
theorem sy{α:Type}{f:α->AV}{l:List α}{k:Nat}{u:AV}(d:α)(h:k<l.length):(l.map f).getD k u=f (l.getD k d):=by
 simp[List.getD,h]
theorem CZ{c:Prop}[Decidable c]{x:Option AV}{r:AV}(hc:c)(h:x=some r):(if c then x else none)=some r:=by rw[if_pos hc];exact h
theorem EU{k:IntKind}{n:Int}:AV.cells (.int k n)=[.int k n]:=rfl
end Go.Abs
namespace Go.Abs
open Go.RowKit
def Dat(x:AV):Prop:=∀H,Snap H x x
theorem Dat.int{k:IntKind}{n:Int}:Dat (.int k n):=λ_=>.int _ _
theorem Dat.bool{b:Bool}:Dat (.bool b):=λ_=>.bool _
theorem Dat.str{s:ByteArray}:Dat (.str s):=λ_=>.str _
theorem Dat.esl:Dat .esl:=λ_=>.esl
theorem Dat.nilp:Dat .nilp:=λ_=>.nilp
theorem Dat.nilf:Dat .nilf:=λ_=>.nilf
theorem Dat.sl{sz:Nat}{l:List AV}(h:∀x∈l,∀c∈x.cells,Dat c):Dat (.sl sz l):=λH=>
 .sl sz l l rfl (fun i x y hx hy=>by rw [hx] at hy; cases hy; rfl) (fun i j x y a b hx hy ha hb=>by
  rw[hx] at hy;cases hy;rw[ha] at hb;cases hb;exact h x (iX hx) a (iX ha) H)
theorem Dat.agg{l:List AV}(h:∀x∈l,Dat x):Dat (.agg l):=λH=>
 .agg l l rfl (λi a c ha hc=>by rw[ha] at hc;cases hc;exact h a (iX ha) H)
theorem Dat.tup{l:List AV}(h:∀x∈l,Dat x):Dat (.tup l):=λH=>
 .tup l l rfl (λi a c ha hc=>by rw[ha] at hc;cases hc;exact h a (iX ha) H)
theorem Dat.func{f:FuncId}{l:List AV}(h:∀x∈l,Dat x):Dat (.func f l):=λH=>
 .func f l l rfl (λi a c ha hc=>by rw[ha] at hc;cases hc;exact h a (iX ha) H)
def aD(l:List Int):AV:=.sl 1 (l.map (AV.int .i64))
def bm(l:List (List Int)):AV:=.sl 1 (l.map aD)
theorem fc (l:List Int):Dat (aD l):=Dat.sl (fun x hx c hc=>by
 obtain⟨n,_,rfl⟩:=dF.1 hx;simp only[AV.cells,ed] at hc;subst hc;exact .int)
theorem d8 (l:List (List Int)):Dat (bm l):=Dat.sl (fun x hx c hc=>by
 obtain⟨n,_,rfl⟩:=dF.1 hx;simp only[aD,AV.cells,ed] at hc;subst hc;exact fc n)
theorem Cg{l:List Int}:(aD l).cells=[aD l]:=rfl
theorem ai{H:Hp}:aF H [] []:=aF.nil
theorem bd{H:Hp}{x:AV}{xs ys:List AV}(h:Dat x)(hs:aF H xs ys):aF H (x::xs) (x::ys):=aF.cons (h H) hs
class DatI(x:AV):Prop where
 d:Dat x
instance datI_int{k:IntKind}{n:Int}:DatI (.int k n):=⟨.int⟩
instance datI_bool{b:Bool}:DatI (.bool b):=⟨.bool⟩
instance datI_str{s:ByteArray}:DatI (.str s):=⟨.str⟩
instance datI_esl:DatI .esl:=⟨.esl⟩
instance datI_nilf:DatI .nilf:=⟨.nilf⟩
instance datI_encV{l:List Int}:DatI (aD l):=⟨fc l⟩
instance datI_encVV{l:List (List Int)}:DatI (bm l):=⟨d8 l⟩
theorem bI{H:Hp}{x:AV}{xs ys:List AV}[h:DatI x](hs:aF H xs ys):aF H (x::xs) (x::ys):=bd h.d hs
variable{P:Program}{T:Tm}{H:Hp}{nx:Nat}
theorem dE{dm:DM}{K:SP}{l:List Op2}{d:Option Nat}{f:Opd}{args:List Opd}{g:FuncId}{caps xs ys:List AV}{r:AV}(hf:ov T f=.func g caps)(ha:args.map (ov T)++caps=xs)
    (hp:Pure P g ys r) (hs:ak H xs ys r) (k:ah P dm l (aO T d r) H nx K):ah P dm (⟨d,none,.call f args⟩::l) T H nx K:=by
 subst ha;cases hd:dm.isText with
 |false=>exact Dr hd hf (aP.of_pure hp hs k)
 |true=>
  cases dm with
  |text=>exact Cd hf (Fn.of_pure hp hs k)
  |draw=>cases hd
  |fresh m=>cases hd
theorem oE{dm:DM}{K:SP}{l:List Op2}{d:Option Nat}{f:Opd}{args:List Opd}{g:FuncId}{caps xs ys:List AV}{r:AV}(hf:ov T f=.func g caps)(ha:args.map (ov T)++caps=xs)
    (hp:PureF P g ys r) (hs:aF H xs ys) (k:ah P dm l (aO T d r) H nx K):ah P dm (⟨d,none,.call f args⟩::l) T H nx K:=by
 subst ha;have hc:=hp.callOk hs;cases hd:dm.isText with
 |false=>exact Dr hd hf (aP.of_callOk hc k)
 |true=>
  cases dm with
  |text=>exact Cd hf (Fn.of_callOk hc k)
  |draw=>cases hd
  |fresh m=>cases hd
theorem Dt{dm:DM}{K:SP}{l:List Op2}{d:Option Nat}{f:Opd}{args:List Opd}{g:FuncId}{caps xs:List AV}{r:AV}(hf:ov T f=.func g caps)(ha:args.map (ov T)++caps=xs)
    (hp:Pure P g xs r) (hs:ak H xs xs r) (k:ah P dm l (aO T d r) H nx K):ah P dm (⟨d,none,.call f args⟩::l) T H nx K:=dE hf ha hp hs k
theorem aS{xs ys:List AV}{r:AV}{H:Hp}(h:aF bK xs ys):ak H xs ys r:=.inl h
theorem aB{xs ys:List AV}{r:AV}{H:Hp}(h:aF H xs ys)(hr:r.sca=true):ak H xs ys r:=.inr ⟨h,hr⟩
theorem ui{α:Type}[Inhabited α]{f:α->AV}{l:List α}{sz:Nat}{k:IntKind}{n:Int}:cu sz (.sl sz (l.map f)) (.int k n)=if 0<=n/\n<l.length then some (.iptr (f (l.getD n.toNat default)).cells 0) else none:=by
 simp only[cu,true_and,bC];split
 ·rename_i h;rw[sy default (by omega)]
 ·rfl
theorem rm{α:Type}{f:α->AV}{l:List α}{sz:Nat}:dw (.sl sz (l.map f))=some (.int .i64 l.length):=by simp[dw]
theorem wM{l:List Int}{k:IntKind}{n:Int}:cu 1 (aD l) (.int k n)=if 0<=n/\n<l.length then some (.iptr [.int .i64 (l.getD n.toNat default)] 0) else none:=ui
theorem pz{l:List (List Int)}{k:IntKind}{n:Int}:cu 1 (bm l) (.int k n)=if 0<=n/\n<l.length then some (.iptr [aD (l.getD n.toNat default)] 0) else none:=ui
theorem Cr{l:List Int}:dw (aD l)=some (.int .i64 l.length):=rm
theorem Ac{l:List (List Int)}:dw (bm l)=some (.int .i64 l.length):=rm
end Go.Abs
namespace Go.Abs
theorem SA:(∀(T:Tm)(n:Nat),ov T (.t n)=T n)/\(∀(T:Tm)(v:AV),ov T (.c v)=v)/\(∀(T:Tm)(d t:Nat)(v:AV),upd T d v t=if t=d then v else T t)/\(∀(T:Tm)(d:Nat)(v:AV),aO T (some d) v=upd T d v)/\
    (∀(T:Tm)(v:AV),aO T none v=T)/\(∀(x:AV)(l:List AV),T0 (x::l) 0=x)/\(∀(x:AV)(l:List AV)(n:Nat),T0 (x::l) (n+1)=T0 l n)/\(∀n:Nat,T0 [] n=.undef)/\
    (∀(d t:Nat)(v:AV)(l:List (Nat×AV)),tl ((d,v)::l) t=if t=d then v else tl l t)/\(∀t:Nat,tl [] t=.undef)/\
    (∀(T:Tm)(t:Nat)(ts:List Nat)(x:AV)(xs:List AV),l6 T (t::ts) (x::xs)=l6 (upd T t x) ts xs)/\(∀(T:Tm)(xs:List AV),l6 T [] xs=T):=
 ⟨λ_ _=>rfl,λ_ _=>rfl,λ_ _ _ _=>rfl,λ_ _ _=>rfl,λ_ _=>rfl,λ_ _=>rfl,λ_ _ _=>rfl,λ_=>rfl,λ_ _ _ _=>rfl,λ_=>rfl,λ_ _ _ _ _=>rfl,λ_ xs=>by cases xs<;>rfl⟩
theorem x7{H:Hp}{b n off:Nat}{cs:List AV}(h:H b=some cs)(hn:cs.length=n):rd1 H (.ptr b n off)=cs[off]?:=by
 simp only[rd1,h,hn,if_true]
theorem KO{H:Hp}{b n off k:Nat}{cs:List AV}(h:H b=some cs)(hn:cs.length=n)(hk:off+k<=n):rd H k (.ptr b n off)=some ((cs.drop off).take k):=by
 simp only[rd,h,hn,true_and,hk,if_true]
theorem SV:(∀(T:Tm)(H:Hp)(x:Opd),cf T H (.mov x)=some (ov T x))/\
    (∀(T:Tm)(H:Hp)(c a b:Opd),cf T H (.pick c a b)=match ov T c with|.bool t=>some (if t=true then ov T a else ov T b)|_=>none)/\
    (∀(T:Tm)(H:Hp)(a:Opd),cf T H (.ld1 a)=rd1 H (ov T a))/\(∀(T:Tm)(H:Hp)(k:Nat)(a:Opd),cf T H (.ldn k a)=(rd H k (ov T a)).map .agg)/\
    (∀(T:Tm)(H:Hp)(op:BinOp)(tb tf:Bool)(x y:Opd),cf T H (.bin op tb tf x y)=bo op tb tf (ov T x) (ov T y))/\
    (∀(T:Tm)(H:Hp)(op:UnOp)(x:Opd),cf T H (.un op x)=aun op (ov T x))/\
    (∀(T:Tm)(H:Hp)(f:FuncId)(caps:List Opd),cf T H (.mkfn f caps)=some (.func f (caps.map (ov T))))/\
    (∀(T:Tm)(H:Hp)(k:Nat)(p:Opd),cf T H (.fa k p)=jG k (ov T p))/\
    (∀(T:Tm)(H:Hp)(sz:Nat)(x i:Opd),cf T H (.ixaS sz x i)=cu sz (ov T x) (ov T i))/\
    (∀(T:Tm)(H:Hp)(x:Opd)(i:Nat),cf T H (.ext x i)=jF (ov T x) i)/\
    (∀(T:Tm)(H:Hp)(x:Opd),cf T H (.lenS x)=dw (ov T x))/\
    (∀(T:Tm)(H:Hp)(z:List AV)(parts:List (Nat×Nat×Opd)),cf T H (.bld z parts)=(fu z (parts.map λp=>(p.1,p.2.1,ov T p.2.2))).map .agg)/\
    (∀(T:Tm)(H:Hp)(x:Opd)(l:List Opd),cf T H (.mx x l)=jz mE (ov T x) (l.map (ov T)))/\
    (∀(T:Tm)(H:Hp)(x:Opd)(l:List Opd),cf T H (.mn x l)=jz pd (ov T x) (l.map (ov T)))/\
    (∀(T:Tm)(H:Hp)(k:IntKind)(x:Opd),cf T H (.conv k x)=nF (ov T x) λn=>some (.int k (k.wrap n)))/\
    (∀(T:Tm)(H:Hp)(sz:Nat)(x:Opd)(lo hi mx:Option Opd),cf T H (.sls sz x lo hi mx)=lq sz (ov T x) (lo.map (ov T)) (hi.map (ov T)) (mx.map (ov T)))/\
    (∀(T:Tm)(H:Hp)(off:Nat)(x:Opd),cf T H (.part1 off x)=fv (ov T x) λcs=>cs[off]?)/\
    (∀(T:Tm)(H:Hp)(op:BinOp)(ks:List TK)(x y:Opd),cf T H (.binS op ks x y)=fv (ov T x) λxs=>fv (ov T y) λys=>gP op ks xs ys):=
 ⟨fun _ _ _=>rfl,fun _ _ _ _ _=>rfl,fun _ _ _=>rfl,fun _ _ _ _=>rfl,fun _ _ _ _ _ _ _=>rfl,fun _ _ _ _=>rfl,fun _ _ _ _=>rfl,fun _ _ _ _=>rfl,fun _ _ _ _ _=>rfl,fun _ _ _ _=>rfl,fun _ _ _=>rfl,
  λ_ _ _ _=>rfl,λ_ _ _ _=>rfl,λ_ _ _ _=>rfl,λ_ _ _ _=>rfl,λ_ _ _ _ _ _ _=>rfl,λ_ _ _ _=>rfl,λ_ _ _ _ _ _=>rfl⟩
def po:AV->AV->Option AV
 |.str s,.int _ n=>if 0<=n/\n<s.size then some (.int .u8 (s[n.toNat]?.getD 0).toNat) else none
 |_,_=>none
theorem SV2:(∀(T:Tm)(H:Hp)(x i:Opd),cf T H (.ixStr x i)=po (ov T x) (ov T i))/\
    (∀(s:ByteArray)(k:IntKind)(n:Int),po (.str s) (.int k n)=if 0<=n/\n<s.size then some (.int .u8 (s[n.toNat]?.getD 0).toNat) else none):=
 ⟨fun T H x i=>by
  simp only[cf];cases ov T x<;>cases ov T i<;>rfl,λ_ _ _=>rfl⟩
theorem SN:(∀(k:IntKind)(a b:Int)(tb tf:Bool),bo .lss tb tf (.int k a) (.int k b)=some (.bool (decide (a<b))))/\(∀(k:IntKind)(a b:Int)(tb tf:Bool),bo .leq tb tf (.int k a) (.int k b)=some (.bool (decide (a<=b))))/\
    (∀(k:IntKind)(a b:Int)(tb tf:Bool),bo .gtr tb tf (.int k a) (.int k b)=some (.bool (decide (b<a))))/\(∀(k:IntKind)(a b:Int)(tb tf:Bool),bo .geq tb tf (.int k a) (.int k b)=some (.bool (decide (b<=a))))/\
    (∀(k:IntKind)(a b:Int)(tb tf:Bool),bo .eql tb tf (.int k a) (.int k b)=some (.bool (decide (a=b))))/\(∀(k:IntKind)(a b:Int)(tb tf:Bool),bo .neq tb tf (.int k a) (.int k b)=some (.bool (decide (a≠b))))/\
    (∀(k:IntKind)(a b:Int)(tb tf:Bool),bo .add tb tf (.int k a) (.int k b)=some (.int k (k.wrap (a+b))))/\(∀(k:IntKind)(a b:Int)(tb tf:Bool),bo .sub tb tf (.int k a) (.int k b)=some (.int k (k.wrap (a-b))))/\
    (∀(k:IntKind)(a b:Int)(tb tf:Bool),bo .mul tb tf (.int k a) (.int k b)=some (.int k (k.wrap (a*b))))/\
    (∀(a b:Bool)(tf:Bool),bo .eql true tf (.bool a) (.bool b)=some (.bool (a==b)))/\(∀(a b:Bool)(tf:Bool),bo .neq true tf (.bool a) (.bool b)=some (.bool (!(a==b))))/\
    (∀tb:Bool,bo .eql tb true .nilf .nilf=some (.bool true))/\(∀tb:Bool,bo .neq tb true .nilf .nilf=some (.bool false))/\
    (∀(tb:Bool)(f:FuncId)(c:List AV),bo .eql tb true (.func f c) .nilf=some (.bool false))/\(∀(tb:Bool)(f:FuncId)(c:List AV),bo .neq tb true (.func f c) .nilf=some (.bool true))/\
    (∀b:Bool,aun .not (.bool b)=some (.bool (!b)))/\
    (∀(k:IntKind)(a b:Int),mE (.int k a) (.int k b)=some (.int k (max a b)))/\(∀(k:IntKind)(a b:Int),pd (.int k a) (.int k b)=some (.int k (min a b)))/\
    (∀(f:AV->AV->Option AV)(x:AV),jz f x []=some x)/\(∀(f:AV->AV->Option AV)(x y:AV)(l:List AV),jz f x (y::l)=match f x y with|some z=>jz f z l|none=>none)/\
    (∀(k:Nat)(b n off:Nat),jG k (.ptr b n off)=some (.ptr b n (off+k)))/\(∀(k:Nat)(cs:List AV)(off:Nat),jG k (.iptr cs off)=some (.iptr cs (off+k)))/\
    (∀(cs:List AV)(off:Nat),rd1 bK (.iptr cs off)=cs[off]?):=
 ⟨fun _ _ _ _ _=>Jf,fun _ _ _ _ _=>I7,fun _ _ _ _ _=>Ih,fun _ _ _ _ _=>Jj,fun _ _ _ _ _=>IZ,fun _ _ _ _ _=>HV,fun _ _ _ _ _=>IW,fun _ _ _ _ _=>I5,fun _ _ _ _ _=>Io,
  λ_ _ _=>rfl,λ_ _ _=>rfl,λ_=>rfl,λ_=>rfl,λ_ _ _=>rfl,λ_ _ _=>rfl,λ_=>rfl,
  λk a b=>by simp only[mE,Int.max_def];split<;>split<;>simp <;>omega,λk a b=>by simp only[pd,Int.min_def];split<;>split<;>simp <;>omega,λ_ _=>rfl,λ_ _ _ _=>rfl,λ_ _ _ _=>rfl,λ_ _ _=>rfl,λ_ _=>rfl⟩
theorem SL:(∀(a:AV)(l:List AV),(a::l)[0]?=some a)/\(∀(a:AV)(l:List AV)(n:Nat),(a::l)[n+1]?=l[n]?)/\(∀(l:List AV),l.drop 0=l)/\(∀(a:AV)(l:List AV)(n:Nat),(a::l).drop (n+1)=l.drop n)/\(∀n:Nat,([]:List AV).drop n=[])/\
    (∀(l:List AV),l.take 0=[])/\(∀(a:AV)(l:List AV)(n:Nat),(a::l).take (n+1)=a::l.take n)/\(∀n:Nat,([]:List AV).take n=[])/\(∀(l:List AV),[]++l=l)/\(∀(l:List AV),l++[]=l)/\(∀(a:AV)(l m:List AV),(a::l)++m=a::(l++m))/\
    (∀(cs:List AV)(off:Nat)(new:List AV),bw cs off new=cs.take off++new++cs.drop (off+new.length))/\(([]:List AV).length=0)/\(∀(a:AV)(l:List AV),(a::l).length=l.length+1)/\
    (∀(k:IntKind)(n:Int),(AV.int k n).cells=[.int k n])/\(∀b:Bool,(AV.bool b).cells=[.bool b])/\(∀s:ByteArray,(AV.str s).cells=[.str s])/\(∀(k:Nat)(l:List AV),(AV.sl k l).cells=[.sl k l])/\(∀l:List AV,(AV.agg l).cells=l)/\(AV.esl.cells=[.esl])/\(AV.nilf.cells=[.nilf])/\
    (∀(f:FuncId)(c:List AV),(AV.func f c).cells=[.func f c])/\(∀(b n off:Nat),(AV.ptr b n off).cells=[.ptr b n off])/\(∀(c:List AV)(off:Nat),(AV.iptr c off).cells=[.iptr c off])/\(∀(b n sz off len:Nat),(AV.msl b n sz off len).cells=[.msl b n sz off len])/\(∀b:Nat,(AV.yld b).cells=[.yld b])/\(∀b:Nat,(AV.mp b).cells=[.mp b])/\(AV.nilp.cells=[.nilp])/\(∀(f:FuncId)(c:List AV),(AV.bfn f c).cells=[.bfn f c]):=
 ⟨fun _ _=>rfl,fun _ _ _=>rfl,fun _=>rfl,fun _ _ _=>rfl,fun n=>by cases n <;> rfl,fun _=>rfl,fun _ _ _=>rfl,fun n=>by cases n <;> rfl,fun _=>rfl,fun l=>gH l,fun _ _ _=>rfl,fun _ _ _=>rfl,rfl,fun _ _=>rfl,
  λ_ _=>rfl,λ_=>rfl,λ_=>rfl,λ_ _=>rfl,λ_=>rfl,rfl,rfl,λ_ _=>rfl,λ_ _ _=>rfl,λ_ _=>rfl,λ_ _ _ _ _=>rfl,λ_=>rfl,λ_=>rfl,rfl,λ_ _=>rfl⟩
def AV.ones(l:List AV):Bool:=l.all AV.one
theorem SO:(AV.ones []=true)/\(∀(a:AV)(l:List AV),AV.ones (a::l)=(a.one&&AV.ones l))/\(∀(k:IntKind)(n:Int),(AV.int k n).one=true)/\(∀b:Bool,(AV.bool b).one=true)/\(∀s:ByteArray,(AV.str s).one=true)/\(∀(k:Nat)(l:List AV),(AV.sl k l).one=true)/\(AV.esl.one=true)/\(AV.nilf.one=true)/\
    (∀(f:FuncId)(c:List AV),(AV.func f c).one=true)/\(∀(b n off:Nat),(AV.ptr b n off).one=true)/\(∀(c:List AV)(off:Nat),(AV.iptr c off).one=true)/\(∀(b n sz off len:Nat),(AV.msl b n sz off len).one=true)/\(∀b:Nat,(AV.yld b).one=true)/\(∀b:Nat,(AV.mp b).one=true)/\(AV.nilp.one=true)/\(∀l:List AV,l.all AV.one=AV.ones l):=
 ⟨rfl,λ_ _=>by simp[AV.ones],λ_ _=>rfl,λ_=>rfl,λ_=>rfl,λ_ _=>rfl,rfl,rfl,λ_ _=>rfl,λ_ _ _=>rfl,λ_ _=>rfl,λ_ _ _ _ _=>rfl,λ_=>rfl,λ_=>rfl,rfl,λ_=>rfl⟩
variable{P:Program}{T:Tm}{H:Hp}{nx:Nat}
theorem ye{dm:DM}{K:SP}{l:List Op2}{d:Option Nat}{z:AV}{cs:List AV}(hd:dm2 dm T (.alloc z)=true)(hc:z.cells=cs)(ho:AV.ones cs=true)(k:ah P dm l (aO T d (.ptr nx cs.length 0)) (ap H nx cs) (nx+1) K):ah P dm (⟨d,none,.alloc z⟩::l) T H nx K:=by
 subst hc;refine qK rfl hd ?_ k;simp only[kU,ww];rw[if_pos (show z.flat=true from ho)]
theorem JG{dm:DM}{K:SP}{l:List Op2}{d:Option Nat}{x:Opd}{v:AV}{cs:List AV}(hd:dm2 dm T (.box x)=true)(hx:ov T x=v)(hc:v.cells=cs)(ho:AV.ones cs=true)(k:ah P dm l (aO T d (.ptr nx cs.length 0)) (ap H nx cs) (nx+1) K):ah P dm (⟨d,none,.box x⟩::l) T H nx K:=by
 subst hc hx;refine qK rfl hd ?_ k;simp only[kU,ww];rw[if_pos (show(ov T x).flat=true from ho)]
theorem ml{dm:DM}{K:SP}{l:List Op2}{d:Option Nat}{sz:Nat}{p x:Opd}{b n off:Nat}{v:AV}{cs vs:List AV}(hd:dm2 dm T (.st sz p x)=true)(hp:ov T p=.ptr b n off)(hx:ov T x=v)(hb:H b=some cs)(hc:v.cells=vs)(ho:AV.ones vs=true)(hn:cs.length=n)(hl:vs.length=sz)(hf:off+sz<=n)
    (k:ah P dm l (aO T d (.tup [])) (ap H b (bw cs off vs)) nx K):ah P dm (⟨d,none,.st sz p x⟩::l) T H nx K:=by
 subst hc hx;refine qK rfl hd ?_ k;simp only[kU,hp,hb];rw[if_pos ⟨hn,ho,hl,hf⟩]
theorem mN{dm:DM}{K:SP}{l:List Op2}{d:Option Nat}{sz bytes:Nat}{z:List AV}{x y:Opd}{k1 k2:IntKind}{n m:Int}(hd:dm2 dm T (.mks sz bytes z x y)=true)(hx:ov T x=.int k1 n)(hy:ov T y=.int k2 m)(h0:0<=n)(h1:n<=m)(h2:m<=9223372036854775807)(h3:bytes*m<=281474976710656)
    (k:ah P dm l (aO T d (.msl nx (m.toNat*sz) sz 0 n.toNat)) (ap H nx (bv (.agg z) m.toNat)) (nx+1) K):ah P dm (⟨d,none,.mks sz bytes z x y⟩::l) T H nx K:=by
 refine qK rfl hd ?_ k;simp only[kU,hx,hy];rw[if_pos ⟨h0,h1,h2,h3⟩]
theorem Jx{dm:DM}{K:SP}{l:List Op2}{d:Option Nat}{sz len:Nat}{z:List AV}{parts:List (Nat×Nat×Opd)}{pv:List (Nat×Nat×AV)}{cs:List AV}(hd:dm2 dm T (.bldS sz len z parts)=true)(hl:len≠0)(hp:parts.map (λp=>(p.1,p.2.1,ov T p.2.2))=pv)(hc:fu (bv (.agg z) len) pv=some cs)
    (k:ah P dm l (aO T d (.msl nx cs.length sz 0 len)) (ap H nx cs) (nx+1) K):ah P dm (⟨d,none,.bldS sz len z parts⟩::l) T H nx K:=by
 refine qK rfl hd ?_ k;simp only[kU,hl,if_false,hp,hc]
theorem FR{dm:DM}{K:SP}{l:List Op2}{d:Option Nat}{sz:Nat}{z:List AV}(hd:dm2 dm T (.bldS sz 0 z [])=true)(k:ah P dm l (aO T d .esl) H nx K):ah P dm (⟨d,none,.bldS sz 0 z []⟩::l) T H nx K:=by
 refine qK rfl hd ?_ k;simp[kU]
theorem iK{dm:DM}{K:SP}{l:List Op2}{d:Option Nat}{sz bytes n:Nat}{s x:Opd}{v:AV}{new:List AV}(hd:dm2 dm T (.app sz bytes s x)=true)(hs:ov T s=.esl)(hx:ov T x=v)(hsrc:e7 sz H v=some (n,new))(ho:AV.ones new=true)(h1:n*bytes<=140737488355328)(h2:n<=9223372036854775807)
    (k:ah P dm l (aO T d (.msl nx (n*sz) sz 0 n)) (ap H nx new) (nx+1) K):ah P dm (⟨d,none,.app sz bytes s x⟩::l) T H nx K:=by
 subst hx;refine qK rfl hd ?_ k;simp only[kU,I3,hs,hsrc];rw[if_pos (show new.all AV.one=true from ho),if_pos ⟨h1,h2⟩]
theorem Hg{dm:DM}{K:SP}{l:List Op2}{d:Option Nat}{sz bytes n:Nat}{s x:Opd}{v:AV}{new cs:List AV}{b m len:Nat}(hd:dm2 dm T (.app sz bytes s x)=true)(hs:ov T s=.msl b m sz 0 len)(hb:H b=some cs)(hx:ov T x=v)(hsrc:e7 sz H v=some (n,new))(ho:AV.ones new=true)(hm:cs.length=m)(hl:m=len*sz)
    (h1:(len+n)*bytes<=140737488355328) (h2:len+n<=9223372036854775807)
    (k:ah P dm l (aO T d (.msl b ((len+n)*sz) sz 0 (len+n))) (ap H b (cs++new)) nx K):ah P dm (⟨d,none,.app sz bytes s x⟩::l) T H nx K:=by
 subst hx;refine qK rfl hd ?_ k;simp only[kU,I3,hs,hsrc,hb];rw[if_pos (show new.all AV.one=true from ho),if_pos ⟨hm,trivial⟩,if_pos ⟨trivial,hl,h1,h2⟩]
theorem Kr{K:SP}{l:List Op2}{d:Option Nat}{sz bytes k:Nat}{s x:Opd}{v:AV}{new cs:List AV}{b m off len:Nat}(hs:ov T s=.msl b m sz off len)(hb:H b=some cs)(hx:ov T x=v)(hsrc:e7 sz H v=some (k,new))(ho:AV.ones new=true)(hm:cs.length=m)(h0:0<m)(hf:off+len*sz=m)
    (h1:(len+k)*bytes<=140737488355328) (h2:len+k<=9223372036854775807)
    (k1:ah P .text l (aO T d (.msl b (m+k*sz) sz off (len+k))) (ap H b (cs++new)) nx K)
    (k2:ah P .text l (aO T d (.msl nx ((len+k)*sz) sz 0 (len+k))) (ap H nx (cs.drop off++new)) (nx+1) K):ah P .text (⟨d,none,.app sz bytes s x⟩::l) T H nx K:=by
 subst hx;show bg P .text (.app sz bytes s x) T H nx λr H nx=>ah P .text l (aO T d r) H nx K;exact .inr ⟨rfl,b,m,off,len,k,cs,new,hs,hb,hm,h0,hf,hsrc,ho,h1,h2,k1,k2⟩
theorem B6{dm:DM}{K:SP}{l:List Op2}{d:Option Nat}{sz bytes n:Nat}{s x:Opd}{v:AV}{new cs:List AV}{b m off len:Nat}(hd:dm2 dm T (.app sz bytes s x)=true)(hs:ov T s=.msl b m sz off len)(hb:H b=some cs)(hx:ov T x=v)(hsrc:e7 sz H v=some (n,new))(ho:AV.ones new=true)(hm:cs.length=m)(hl:off=0->m≠len*sz)(h0:0<m)(h1:off+(len+n)*sz<=m)
    (k:ah P dm l (aO T d (.msl b m sz off (len+n))) (ap H b (bw cs (off+len*sz) new)) nx K):ah P dm (⟨d,none,.app sz bytes s x⟩::l) T H nx K:=by
 subst hx;refine qK rfl hd ?_ k;simp only[kU,I3,hs,hsrc,hb];rw[if_pos (show new.all AV.one=true from ho),if_pos ⟨hm,trivial⟩,if_neg (λh=>hl h.1 h.2.1),if_pos ⟨h1,h0⟩]
theorem jq{sz:Nat}{l:List AV}:e7 sz H (.sl sz l)=some (l.length,l.flatMap AV.cells):=by simp[e7]
theorem qe{sz:Nat}:e7 sz H .esl=some (0,[]):=rfl
theorem gr{sz b n off len:Nat}{cs:List AV}(h:H b=some cs)(hn:cs.length=n)(hf:off+len*sz<=n):e7 sz H (.msl b n sz off len)=some (len,(cs.drop off).take (len*sz)):=by
 simp only[e7];split
 ·rename_i h0;subst h0;simp
 ·simp only[h,hn,true_and,hf,if_true]
theorem SR:(∀(H:Hp)(b n off:Nat),rd1 H (.ptr b n off)=match H b with|some cs=>if cs.length=n then cs[off]? else none|none=>none)/\
    (∀(H:Hp)(k b n off:Nat),rd H k (.ptr b n off)=match H b with|some cs=>if cs.length=n/\off+k<=n then some ((cs.drop off).take k) else none|none=>none)/\
    (∀(H:Hp)(cs:List AV)(off:Nat),rd1 H (.iptr cs off)=cs[off]?)/\(∀(H:Hp)(cs:List AV)(off k:Nat),rd H k (.iptr cs off)=if off+k<=cs.length then some ((cs.drop off).take k) else none)/\
    (∀(l:List AV)(i:Nat),jF (.tup l) i=l[i]?)/\(∀(l:List AV)(f:List AV->Option AV),fv (.agg l) f=f l)/\(∀(k:IntKind)(n:Int)(f:Int->Option AV),nF (.int k n) f=f n)/\
    (∀(cs:List AV),fu cs []=some cs)/\
    (∀(cs:List AV)(off sz:Nat)(x:AV)(r:List (Nat×Nat×AV)),fu cs ((off,sz,x)::r)=if AV.ones x.cells=true/\x.cells.length=sz/\off+sz<=cs.length then fu (bw cs off x.cells) r else none)/\
    (∀(b n sz off len:Nat),dw (.msl b n sz off len)=some (.int .i64 len))/\(dw .esl=some (.int .i64 0))/\(∀(sz:Nat)(l:List AV),dw (.sl sz l)=some (.int .i64 l.length))/\
    (∀(z:AV),bv z 0=[])/\(∀(z:AV)(n:Nat),bv z (n+1)=z.cells++bv z n):=
 ⟨λ_ _ _ _=>rfl,λ_ _ _ _ _=>rfl,λ_ _ _=>rfl,λ_ _ _ _=>rfl,λl i=>by cases l<;>rfl,λ_ _=>rfl,λ_ _ _=>rfl,λ_=>rfl,λ_ _ _ _ _=>rfl,λ_ _ _ _ _=>rfl,rfl,λ_ _=>rfl,λ_=>rfl,λz n=>by simp[bv,List.replicate_succ]⟩
end Go.Abs
namespace Go.Abs
theorem cq{H:Hp}{a b:Bool}(h:a=b):Snap H (.bool a) (.bool b):=by subst h;exact .bool _
theorem aA{H:Hp}{k:IntKind}{a b:Int}(h:a=b):Snap H (.int k a) (.int k b):=by subst h;exact .int _ _
theorem cR{H:Hp}{l m:List AV}(h:aF H l m):Snap H (.tup l) (.tup m):=.tup l m h.1 h.2
theorem gy{H:Hp}{l m:List AV}(h:aF H l m):Snap H (.agg l) (.agg m):=.agg l m h.1 h.2
theorem af{H:Hp}{x y:AV}{xs ys:List AV}(h:Snap H x y)(hs:aF H xs ys):aF H (x::xs) (y::ys):=aF.cons h hs
theorem Dat.snap{H:Hp}{x:AV}(h:Dat x):Snap H x x:=h H
theorem br{P:Program}{b:C2}{T:Tm}{H:Hp}{nx:Nat}{K:CP}{X:Type}(L:X->List (Nat×AV))(I:X->Hp->Nat->Prop)(μ:X->Nat)(x0:X)(h0:I x0 H nx)(hT:agr T (L x0))
    (step:∀x H nx,I x H nx->aG P b (tl (L x)) H nx λe T H' nx'=>aH e (∃y,μ y<μ x/\I y H' nx'/\agr T (L y)) (K e T H' nx')):aQ (aG P b) T H nx K:=by
 refine FQ (X:=X×Hp×Nat) (λx=>tl (L x.1)) (λx=>x.2.1) (λx=>x.2.2) (λx=>I x.1 x.2.1 x.2.2) (λx=>μ x.1) ⟨(x0,H,nx),h0,_,Gh.weak (vI hT)⟩ (λx hx=>eH b (step x.1 x.2.1 x.2.2 hx) (λe T H' nx' h=>?_));cases e with
 |normal=>
  obtain⟨y,h1,h2,h3⟩:=h;exact⟨(y,H',nx'),h2,h1,_,Gh.weak (vI h3)⟩
 |exit i=>exact h
 |ret=>exact h
def ew(Hf:Hp)(cs cs':List AV):Prop:=cs'.length=cs.length/\∀(i:Nat)(x x':AV),cs[i]?=some x->cs'[i]?=some x'->x'=x\/Snap Hf x x'
theorem ew.refl(Hf:Hp)(cs:List AV):ew Hf cs cs:=⟨rfl,λi x x' h1 h2=>.inl (by rw[h1] at h2;cases h2;rfl)⟩
theorem ew.snoc{Hf:Hp}{cs:List AV}{x x':AV}(h:Snap Hf x x'):ew Hf (cs++[x]) (cs++[x']):=by
 refine⟨by simp,λi y y' h1 h2=>?_⟩;by_cases hi:i<cs.length
 ·rw[gZ hi] at h1 h2;rw[h1] at h2;cases h2;exact .inl rfl
 ·rw[iG (by omega)] at h1 h2;cases hj:i-cs.length with
  |zero=>rw[hj] at h1 h2;simp at h1 h2;subst h1 h2;exact .inr h
  |succ j=>rw[hj] at h1;simp at h1
structure Fz(Hf H H':Hp):Prop where
 sub:∀b cs,Hf b=some cs->H b=some cs
 to:∀b cs',H' b=some cs'->∃cs,H b=some cs/\Hf b=none/\ew Hf cs cs'
def BE(Hf:Hp)(T:Tm):List (Nat×AV)->Prop
 |[]=>True
 |(d,v)::l=>(T d=v\/Snap Hf (T d) v)/\BE Hf T l
theorem C3{Hf:Hp}{T:Tm}:∀{l:List (Nat×AV)},BE Hf T l->∀t,tl l t=.undef\/tl l t=T t\/Snap Hf (T t) (tl l t)
 |[],_,t=>.inl rfl
 |(d,v)::l,h,t=>by
  simp only[tl];split
  ·rename_i e;subst e;rcases h.1 with h1|h1
   ·exact .inr (.inl h1.symm)
   ·exact .inr (.inr h1)
  ·exact C3 h.2 t
theorem Fz.gh{Hf H H':Hp}{T:Tm}{l:List (Nat×AV)}{nx:Nat}(h:Fz Hf H H')(ha:BE Hf T l):Gh T H nx (tl l) H' nx Hf:=
 ⟨h.sub,ba _,fun b cs' hb=>by
  obtain⟨cs,h1,h2,h3,h4⟩:=h.to b cs' hb;exact .inl ⟨cs,h1,h2,h3,λi x x' hx hx'=>(h4 i x x' hx hx').imp id .inl⟩,λt=>by
  rcases C3 ha t with h1|h1|h1
  ·exact .inl h1
  ·exact .inr (.inl h1)
  ·exact .inr (.inr (.inl h1))⟩
def only(b:Nat)(cs:List AV):Hp:=λx=>if x=b then some cs else none
theorem fF{b:Nat}{cs:List AV}:only b cs b=some cs:=by simp[only]
theorem tQ{P:Program}{T:Tm}{H:Hp}{nx:Nat}{K:CP}{l:List Op2}(Hf H':Hp)(L:List (Nat×AV))(hf:Fz Hf H H')(ha:BE Hf T L)(h:ah P .text l (tl L) H' nx λT H nx=>K .normal T H nx):aG P (.ops 0 l) T H nx K:=⟨_,H',nx,Hf,hf.gh ha,h⟩
theorem Fz.one{H:Hp}{b:Nat}{cs:List AV}(hb:H b=some cs):Fz (only b cs) H (cC H b):=
 ⟨fun x c h=>by unfold only at h; split at h <;> cases h; subst_vars; exact hb,fun x c h=>by
  have:=ji h;exact⟨c,this.2,by simp[only,this.1],ew.refl _ _⟩⟩
theorem Fz.all{H:Hp}:Fz H H bK:=⟨λ_ _ h=>h,λ_ _ h=>(by cases h)⟩
theorem fk{T:Tm}{Hf:Hp}:∀{l:List (Nat×AV)},agr T l->BE Hf T l
 |[],_=>trivial
 |(_,_)::_,h=>⟨.inl h.1,fk h.2⟩
theorem sB{P:Program}{b:C2}{T:Tm}{H:Hp}{nx:Nat}{K:CP}{X:Type}(L:X->List (Nat×AV))(I:X->Hp->Nat->Prop)(μ:X->Nat)(x0:X)(h0:∃Hf H',Fz Hf H H'/\I x0 H' nx/\BE Hf T (L x0))
    (step:∀x H nx,I x H nx->aG P b (tl (L x)) H nx λe T H' nx'=>aH e (∃y,μ y<μ x/\∃Hf H'',Fz Hf H' H''/\I y H'' nx'/\BE Hf T (L y)) (K e T H' nx')):aQ (aG P b) T H nx K:=by
 obtain⟨Hf,H0,hf,hI,ha⟩:=h0;refine FQ (X:=X×Hp×Nat) (λx=>tl (L x.1)) (λx=>x.2.1) (λx=>x.2.2) (λx=>I x.1 x.2.1 x.2.2) (λx=>μ x.1) ⟨(x0,H0,nx),hI,_,hf.gh ha⟩ (λx hx=>eH b (step x.1 x.2.1 x.2.2 hx) (λe T H' nx' h=>?_));cases e with
 |normal=>
  obtain⟨y,h1,Hf,H'',h2,h3,h4⟩:=h;exact⟨(y,H'',nx'),h3,h1,_,h2.gh h4⟩
 |exit i=>exact h
 |ret=>exact h
theorem Fz.none{H:Hp}:Fz bK H H:=⟨λ_ _ h=>(by cases h),λb cs h=>⟨cs,h,rfl,ew.refl _ _⟩⟩
theorem lH{α:Type}[DecidableEq α](k:MK)(enc:α->AV)(h:∀a b,nL k (enc a) (enc b)=some (decide (a=b)))(v:α):∀ks:List α,eT k (enc v) (ks.map enc)=some (if v∈ks then some (ks.idxOf v) else none)
 |[]=>rfl
 |x::l=>by
  simp only[im,eT,h];by_cases e:v=x
  ·subst e;simp
  ·have e':x≠v:=λh=>e h.symm;simp only[e,decide_false,lH k enc h v l,lK,fR,false_or];by_cases hm:v∈l
   ·simp only[hm,if_true,lK];simp[List.idxOf_cons,beq_eq_false_iff_ne.2 e']
   ·simp[hm]
theorem xp{α:Type}{l:List α}{n k:Nat}{d:α}(h:k<n):(l.take n).getD k d=l.getD k d:=by
 simp only[List.getD,jH,if_pos h]
theorem dB{α:Type}[Inhabited α]{l:List α}{k:Nat}(h:k<l.length):l.drop k=l.getD k default::l.drop (k+1):=by
 rw[List.drop_eq_getElem_cons h];simp[List.getD,h]
theorem ac{H:Hp}{b:Nat}{cs:List AV}:ap H b cs b=some cs:=if_pos rfl
theorem iz{H:Hp}{f:FuncId}{l m:List AV}(h:aF H l m):Snap H (.func f l) (.func f m):=.func f l m h.1 h.2
theorem dY{H:Hp}{b n off:Nat}{cs cs':List AV}(hb:H b=some cs)(hn:cs.length=n)(h:aF H cs cs'):Snap H (.ptr b n off) (.iptr cs' off):=.ptr b n off cs cs' hb hn (by rw[h.1,hn]) h.2
theorem wN{H:Hp}{cs cs':List AV}{off:Nat}(h:aF H cs cs'):Snap H (.iptr cs off) (.iptr cs' off):=.iptr cs cs' off h.1 h.2
theorem Dat.iptr{cs:List AV}{off:Nat}(h:∀x∈cs,Dat x):Dat (.iptr cs off):=λH=>.iptr cs cs off rfl (λi a c ha hc=>by rw[ha] at hc;cases hc;exact h a (iX ha) H)
theorem DatL.nil:∀x∈([]:List AV),Dat x:=by simp
theorem DatL.cons{x:AV}{l:List AV}(h:Dat x)(hl:∀y∈l,Dat y):∀y∈x::l,Dat y:=λy hy=>(fR.1 hy).elim (λe=>e▸h) (hl y)
theorem nt{H:Hp}{b n off len:Nat}{cs:List AV}{l:List AV}(hb:H b=some cs)(hn:cs.length=n)(hf:off+len<=n)(hl:l.length=len)(hc:∀y∈l,y.cells=[y])(h:∀(i:Nat)(a c:AV),cs[off+i]?=some a->l[i]?=some c->Snap H a c):Snap H (.msl b n 1 off len) (.sl 1 l):=by
 refine .msl b n 1 off len cs l hb hn (by omega) hl (λy hy=>by rw[hc y hy];rfl) (λi j y a c hy hc' ha=>?_);rw[hc y (iX hy)] at hc';cases j with
 |zero=>simp at hc';subst hc';exact h i a y (by simpa using ha) hy
 |succ j=>simp at hc'
theorem Br{H:Hp}{b n len:Nat}{l:List Int}(hb:H b=some (l.map (AV.int .i64)))(hn:n=len)(hl:l.length=len):Snap H (.msl b n 1 0 len) (aD l):=by
 subst hn;refine nt hb (by simp[hl]) (by omega) (by simp[hl]) (λy hy=>by simp at hy;obtain⟨n,_,rfl⟩:=hy;rfl) (λi a c ha hc=>?_);rw[cp] at ha;rw[ha] at hc;cases hc;simp at ha;obtain⟨n,_,rfl⟩:=ha;exact .int _ _
theorem bc{H:Hp}:∀{l:List AV},(∀x∈l,Dat x)->aF H l l
 |[],_=>aF.nil
 |x::l,h=>aF.cons (h x (by simp) H) (bc (λy hy=>h y (by simp[hy])))
theorem au{α:Type}[Inhabited α]{l:List α}{k:Nat}(h:k<l.length):l.getD k default∈l:=by
 have:l.getD k default=l[k]:=by simp[List.getD,h]
 rw[this];exact nk h
theorem ow{H:Hp}{l:List Int}:e7 1 H (aD l)=some (l.length,l.map (AV.int .i64)):=by
 unfold aD;rw[jq]
 congr 2
 ·simp
 ·induction l with
  |nil=>rfl
  |cons a l ih=>simp only[im,l8,ih];rfl
theorem nI{l:List Int}:AV.ones (l.map (AV.int .i64))=true:=by
 simp[AV.ones,AV.one]
theorem n8{l:List (List Int)}:AV.ones (l.map aD)=true:=by
 simp[AV.ones,aD,AV.one]
theorem mi{H:Hp}{l:List (List Int)}:e7 1 H (bm l)=some (l.length,l.map aD):=by
 unfold bm;rw[jq]
 congr 2
 ·simp
 ·induction l with
  |nil=>rfl
  |cons a l ih=>simp only[im,l8,ih];rfl
theorem va{l:List Int}:fS (aD l)=some l.length:=by simp[fS,aD]
theorem fi{l:List Int}:(aD l).one=true:=rfl
theorem ec{l:List (List Int)}:(bm l).one=true:=rfl
theorem r_0{T:Tm}{H:Hp}{K:AV->Prop}(h:K (.tup [])):bq T H K []:=h
theorem getElem?_map_lt{α:Type}[Inhabited α]{f:α->AV}{l:List α}{k:Nat}(h:k<l.length):(l.map f)[k]?=some (f (l.getD k default)):=by
 simp[List.getD,h]
theorem gu{sz b m off len:Nat}{k:IntKind}{n:Int}:cu sz (.msl b m sz off len) (.int k n)=if 0<=n/\n<len then some (.ptr b m (off+n.toNat*sz)) else none:=by simp[cu]
theorem jh{P:Program}{T:Tm}{H:Hp}{nx:Nat}{K:CP}{g:Opd}{ps:List Nat}{a b:C2}{f:FuncId}{caps:List AV}(y y1:Nat)(hy:nx=y)(hy1:y+1=y1)(hg:ov T g=.func f caps)
    (h:∀ (c0:AV) (cj:AEx→AV),(∀ (args:List AV) (H':Hp) (nx':Nat) (K':AV→Hp→Nat→Prop),H' y=some [c0]→args.length=ps.length →
        aG P a (l6 T ps args) H' nx' (λe T2 H2 nx2=>aH e (H2 y=some [c0]/\aG P b T2 (cC H2 y) nx2 λe T3 H3 nx3=>aH e (K' (.bool true) (ap H3 y [c0]) nx3) (K' (.bool false) (ap H3 y [cj e]) nx3)) False)->
        Yl P y args H' nx' K')->
     Fn P f (.yld y::caps) (ap H y [c0]) y1 λ_ H' nx'=>(H' y=some [c0]/\K .normal T (cC H' y) nx')\/ ∃e,e≠.normal/\H' y=some [cj e]/\K e T (cC H' y) nx'):aG P (.rangeF g ps a b) T H nx K:=by
 subst hy hy1;exact Hw hg h
theorem rM{H:Hp}{b n len:Nat}{l:List Int}(hb:H b=some (l.map (AV.int .i64)))(hn:n=len)(hl:l.length=len):SnapF H (.msl b n 1 0 len) (aD l):=by
 subst hn;refine .msl b n 1 0 n _ _ hb (by simp[hl]) (by omega) (by simp[hl]) (λy hy=>by simp at hy;obtain⟨n,_,rfl⟩:=hy;rfl) (λi j y a c hy hc ha=>?_);rw[jJ] at hy;cases hi:l[i]? with
 |none=>rw[hi] at hy;cases hy
 |some q=>
  rw[hi] at hy;cases hy;cases j with
  |zero=>
   simp only[AV.cells,th,uq] at hc;subst hc;simp[hi] at ha;subst ha;exact .int _ _
  |succ j=>simp[AV.cells] at hc
theorem D6{H:Hp}{l:List Int}(h:l.length=0):SnapF H .esl (aD l):=by
 have:l=[]:=eG.1 h;subst this;exact .eslsl 1
end Go.Abs
namespace Go.Abs
inductive Row(H:Hp)(sz:Nat):AV->List AV->Prop
 |nil:Row H sz .esl []
 |box (b len:Nat) (cs:List AV) (hb:H b=some cs) (hl:cs.length=len*sz):Row H sz (.msl b (len*sz) sz 0 len) cs
def bk:AV->Option Nat
 |.msl b _ _ _ _=>some b
 |_=>none
theorem Row.len{H:Hp}{sz:Nat}{s:AV}{cs:List AV}(h:Row H sz s cs):∃n:Nat,dw s=some (.int .i64 n)/\cs.length=n*sz:=by
 cases h with
 |nil=>exact⟨0,rfl,by simp⟩
 |box b len cs hb hl=>exact⟨len,rfl,hl⟩
theorem Row.lenS{H:Hp}{sz n:Nat}{s:AV}{cs:List AV}(h:Row H sz s cs)(hl:cs.length=n*sz)(hz:0<sz):dw s=some (.int .i64 n):=by
 obtain⟨m,h1,h2⟩:=h.len;have:m=n:=Nat.eq_of_mul_eq_mul_right hz (by omega);subst this;exact h1
theorem Row.same{H H':Hp}{sz:Nat}{s:AV}{cs:List AV}(h:Row H sz s cs)(hs:∀b,bk s=some b->H' b=H b):Row H' sz s cs:=by
 cases h with
 |nil=>exact .nil
 |box b len cs hb hl=>exact .box b len cs ((hs b rfl).trans hb) hl
theorem Row.one{H:Hp}{sz:Nat}{s:AV}{cs:List AV}(h:Row H sz s cs):s.one=true/\s.cells=[s]:=by
 cases h<;>exact⟨rfl,rfl⟩
theorem ab{H:Hp}{b x:Nat}{cs:List AV}(h:x≠b):ap H b cs x=H x:=if_neg h
theorem cA{H:Hp}{b x:Nat}(h:x≠b):cC H b x=H x:=if_neg h
variable{P:Program}{T:Tm}{H:Hp}{nx:Nat}
theorem ef{dm:DM}{K:SP}{l:List Op2}{d:Option Nat}{sz bytes k:Nat}{s x:Opd}{sv xv:AV}{cs new:List AV}(hd:dm2 dm T (.app sz bytes s x)=true)(hs:ov T s=sv)(hrow:Row H sz sv cs)(hx:ov T x=xv)(hsrc:e7 sz H xv=some (k,new))(ho:AV.ones new=true)(hk:new.length=k*sz)
    (hz:0<sz) (h1:(cs.length+k)*bytes<=140737488355328) (h2:cs.length+k<=9223372036854775807)
    (next:∀(sv':AV)(H':Hp)(nx':Nat),Row H' sz sv' (cs++new)->nx<=nx'->nx'<=nx+1->(∀i,i<nx->bk sv≠some i->H' i=H i)->(∀b,bk sv'=some b->bk sv=some b\/b=nx/\nx'=nx+1)->ah P dm l (aO T d sv') H' nx' K):
    ah P dm (⟨d,none,.app sz bytes s x⟩::l) T H nx K:=by
 cases hrow with
 |nil=>
  refine iK hd hs hx hsrc ho (by simpa using h1) (by simpa using h2) ?_;exact next _ _ _ (.box nx k new ac hk) (Nat.le_succ _) (ba _) (λi hi _=>ab (by omega)) (λb hb=>by cases hb;exact .inr ⟨rfl,rfl⟩)
 |box b len cs hb hl=>
  have hle:len<=cs.length:=by rw[hl];exact Nat.le_mul_of_pos_right _ hz
  have hb1:(len+k)*bytes<=140737488355328:=fA (j4 _ (by omega)) h1;refine Hg hd hs hb hx hsrc ho hl rfl hb1 (by omega) ?_;exact next _ _ _ (.box b (len+k) (cs++new) ac (by rw[cm,hl,hk,eJ])) (ba _) (Nat.le_succ _) (λi hi hne=>ab (λe=>hne (by rw[e];rfl))) (λb' hb'=>by cases hb';exact .inl rfl)
theorem Row.snap{H:Hp}{sz:Nat}{s:AV}{elems:List AV}(h:Row H sz s (elems.flatMap AV.cells))(hc:∀y∈elems,y.cells.length=sz)(hz:0<sz)(hd:∀y∈elems,∀c∈y.cells,Dat c):Snap H s (.sl sz elems):=by
 obtain⟨f1,f2⟩:=fT elems hc;generalize he:elems.flatMap AV.cells=cs at h;cases h with
 |nil=>
  have:elems.length*sz=0:=by rw[<-f1,he];rfl
  have:elems=[]:=eG.1 (by
   rcases Nat.mul_eq_zero.1 this with h|h
   ·exact h
   ·omega)
  subst this;exact .eslsl sz
 |box b len cs hb hl=>
  have hlen:elems.length=len:=Nat.eq_of_mul_eq_mul_right hz (by rw[<-f1,he,hl]);refine .msl b (len*sz) sz 0 len cs elems hb hl (by omega) hlen hc (λi j y a c hy hc' ha=>?_);have hj:j<sz:=by rw[<-hc y (iX hy)];exact(bZ.1 hc').1
  have key:∀(l:List AV)(i j:Nat)(y c:AV),(∀z∈l,z.cells.length=sz)->l[i]?=some y->y.cells[j]?=some c->j<sz->(l.flatMap AV.cells)[i*sz+j]?=some c:=by
   intro l
   induction l with
   |nil=>intro i j y c _ h;simp at h
   |cons x l ih=>
    intro i j y c hl hy hc hj;rw[l8];cases i with
    |zero=>
     simp at hy;subst hy;rw[oV,cp,gZ (by rw[hl x (by simp)];exact hj)];exact hc
    |succ i=>
     rw[iG (by rw[hl x (by simp),eJ];omega),hl x (by simp)];have:=ih i j y c (λz hz=>hl z (by simp[hz])) (by simpa using hy) hc hj;rw[<-this];congr 1;rw[eJ];omega
  have:=key elems i j y c hc hy hc' hj;rw[he,<-cp (i*sz)] at this;rw[this] at ha;cases ha;exact hd y (iX hy) a (iX hc') H
theorem js{α:Type}{f:α->AV}(h:∀x,(f x).cells=[f x])(l:List α):(l.map f).flatMap AV.cells=l.map f:=by
 induction l with
 |nil=>rfl
 |cons a l ih=>rw[im,l8,ih,h];rfl
theorem Row.snapV{H:Hp}{s:AV}{l:List (List Int)}(h:Row H 1 s (l.map aD)):Snap H s (bm l):=by
 refine Row.snap (elems:=l.map aD) (by rw[js (λ_=>rfl)];exact h) (λy hy=>?_) ig (λy hy c hc=>?_)
 ·simp at hy;obtain⟨n,_,rfl⟩:=hy;rfl
 ·simp at hy;obtain⟨n,_,rfl⟩:=hy;simp only[Cg,ed] at hc;subst hc;exact fc n
theorem Row.snapI{H:Hp}{s:AV}{l:List Int}(h:Row H 1 s (l.map (AV.int .i64))):Snap H s (aD l):=by
 refine Row.snap (elems:=l.map (AV.int .i64)) (by rw[js (λ_=>rfl)];exact h) (λy hy=>?_) ig (λy hy c hc=>?_)
 ·simp at hy;obtain⟨n,_,rfl⟩:=hy;rfl
 ·simp at hy;obtain⟨n,_,rfl⟩:=hy;simp only[EU,ed] at hc;subst hc;exact .int
theorem db{K:CP}{x y:C2}(M:SP)(h1:aG P x T H nx λe T H nx=>aH e (M T H nx) (K e T H nx))(h2:∀T H nx,M T H nx->aG P y T H nx K):aG P (.seq x y) T H nx K:=by
 refine kE (eH x h1 (λe T H nx h=>?_));cases e with
 |normal=>exact h2 T H nx h
 |exit i=>exact h
 |ret=>exact h
end Go.Abs
namespace Go.Abs
theorem Pi:(∀l:List Int,(aD l).cells=[aD l])/\(∀l:List (List Int),(bm l).cells=[bm l])/\(∀x:Nat,bK x=none)/\
    (∀(α β:Type)(f:α->β)(a:α)(l:List α),(a::l).map f=f a::l.map f)/\(∀(α β:Type)(f:α->β),([]:List α).map f=[])/\(∀(α β:Type)(f:α->β)(a:α),(some a).map f=some (f a))/\(∀(α β:Type)(f:α->β),(none:Option α).map f=none)/\
    (∀n:Nat,0+n=n)/\(∀n:Nat,n+0=n)/\(∀p:Prop,(p/\p)=p)/\(∀p:Prop,(p/\True)=p)/\(∀p:Prop,(True/\p)=p)/\((!true)=false)/\((!false)=true)/\
    (∀(α:Type)(a:α)(l m:List α),(a::l)++m=a::(l++m))/\(∀(α:Type)(l:List α),[]++l=l)/\(∀(α:Type)(l:List α),l++[]=l):=
 ⟨λ_=>rfl,λ_=>rfl,λ_=>rfl,λ_ _ _ _ _=>rfl,λ_ _ _=>rfl,λ_ _ _ _=>rfl,λ_ _ _=>rfl,cp,sL,and_self,and_true,true_and,rfl,rfl,λ_ _ _ _=>rfl,λ_ _=>rfl,λ_ l=>gH l⟩
theorem zz(p:Prop):(p/\p)=p:=and_self p
theorem bU:(∀(H:Hp)(b x:Nat)(cs:List AV),ap H b cs x=if x=b then some cs else H x)/\(∀(H:Hp)(b x:Nat),cC H b x=if x=b then none else H x):=⟨λ_ _ _ _=>rfl,λ_ _ _=>rfl⟩
theorem c9:(∀(H:Hp)(b:Nat)(cs:List AV),ap H b cs b=some cs)/\(∀(H:Hp)(b x:Nat)(cs:List AV),x≠b->ap H b cs x=H x)/\(∀(H:Hp)(b:Nat),cC H b b=none)/\(∀(H:Hp)(b x:Nat),x≠b->cC H b x=H x)/\(∀a b c:Nat,a+b+c=a+(b+c)):=
 ⟨λ_ _ _=>ac,λ_ _ _ _ h=>ab h,λ_ _=>oC,λ_ _ _ h=>cA h,qw⟩
theorem ZA:((∀ l:List Int,(aD l).cells=[aD l])∧(∀ l:List (List Int),(bm l).cells=[bm l])∧(∀ x:Nat,bK x=none) ∧
    (∀(α β:Type)(f:α->β)(a:α)(l:List α),(a::l).map f=f a::l.map f)/\(∀(α β:Type)(f:α->β),([]:List α).map f=[])/\(∀(α β:Type)(f:α->β)(a:α),(some a).map f=some (f a))/\(∀(α β:Type)(f:α->β),(none:Option α).map f=none)/\
    (∀n:Nat,0+n=n)/\(∀n:Nat,n+0=n)/\(∀p:Prop,(p/\p)=p)/\(∀p:Prop,(p/\True)=p)/\(∀p:Prop,(True/\p)=p)/\((!true)=false)/\((!false)=true)/\
    (∀(α:Type)(a:α)(l m:List α),(a::l)++m=a::(l++m))/\(∀(α:Type)(l:List α),[]++l=l)/\(∀(α:Type)(l:List α),l++[]=l))/\
    ((∀ (T:Tm) (n:Nat),ov T (.t n)=T n)∧(∀ (T:Tm) (v:AV),ov T (.c v)=v)∧(∀ (T:Tm) (d t:Nat) (v:AV),upd T d v t=if t=d then v else T t)∧(∀ (T:Tm) (d:Nat) (v:AV),aO T (some d) v=upd T d v) ∧
    (∀(T:Tm)(v:AV),aO T none v=T)/\(∀(x:AV)(l:List AV),T0 (x::l) 0=x)/\(∀(x:AV)(l:List AV)(n:Nat),T0 (x::l) (n+1)=T0 l n)/\(∀n:Nat,T0 [] n=.undef)/\
    (∀(d t:Nat)(v:AV)(l:List (Nat×AV)),tl ((d,v)::l) t=if t=d then v else tl l t)/\(∀t:Nat,tl [] t=.undef)/\
    (∀(T:Tm)(t:Nat)(ts:List Nat)(x:AV)(xs:List AV),l6 T (t::ts) (x::xs)=l6 (upd T t x) ts xs)/\(∀(T:Tm)(xs:List AV),l6 T [] xs=T))/\
    ((∀ (T:Tm) (H:Hp) (x:Opd),cf T H (.mov x)=some (ov T x)) ∧
    (∀(T:Tm)(H:Hp)(c a b:Opd),cf T H (.pick c a b)=match ov T c with|.bool t=>some (if t=true then ov T a else ov T b)|_=>none)/\
    (∀(T:Tm)(H:Hp)(a:Opd),cf T H (.ld1 a)=rd1 H (ov T a))/\(∀(T:Tm)(H:Hp)(k:Nat)(a:Opd),cf T H (.ldn k a)=(rd H k (ov T a)).map .agg)/\
    (∀(T:Tm)(H:Hp)(op:BinOp)(tb tf:Bool)(x y:Opd),cf T H (.bin op tb tf x y)=bo op tb tf (ov T x) (ov T y))/\
    (∀(T:Tm)(H:Hp)(op:UnOp)(x:Opd),cf T H (.un op x)=aun op (ov T x))/\
    (∀(T:Tm)(H:Hp)(f:FuncId)(caps:List Opd),cf T H (.mkfn f caps)=some (.func f (caps.map (ov T))))/\
    (∀(T:Tm)(H:Hp)(k:Nat)(p:Opd),cf T H (.fa k p)=jG k (ov T p))/\
    (∀(T:Tm)(H:Hp)(sz:Nat)(x i:Opd),cf T H (.ixaS sz x i)=cu sz (ov T x) (ov T i))/\
    (∀(T:Tm)(H:Hp)(x:Opd)(i:Nat),cf T H (.ext x i)=jF (ov T x) i)/\
    (∀(T:Tm)(H:Hp)(x:Opd),cf T H (.lenS x)=dw (ov T x))/\
    (∀(T:Tm)(H:Hp)(z:List AV)(parts:List (Nat×Nat×Opd)),cf T H (.bld z parts)=(fu z (parts.map λp=>(p.1,p.2.1,ov T p.2.2))).map .agg)/\
    (∀(T:Tm)(H:Hp)(x:Opd)(l:List Opd),cf T H (.mx x l)=jz mE (ov T x) (l.map (ov T)))/\
    (∀(T:Tm)(H:Hp)(x:Opd)(l:List Opd),cf T H (.mn x l)=jz pd (ov T x) (l.map (ov T)))/\
    (∀(T:Tm)(H:Hp)(k:IntKind)(x:Opd),cf T H (.conv k x)=nF (ov T x) λn=>some (.int k (k.wrap n)))/\
    (∀(T:Tm)(H:Hp)(sz:Nat)(x:Opd)(lo hi mx:Option Opd),cf T H (.sls sz x lo hi mx)=lq sz (ov T x) (lo.map (ov T)) (hi.map (ov T)) (mx.map (ov T)))/\
    (∀(T:Tm)(H:Hp)(off:Nat)(x:Opd),cf T H (.part1 off x)=fv (ov T x) λcs=>cs[off]?)/\
    (∀(T:Tm)(H:Hp)(op:BinOp)(ks:List TK)(x y:Opd),cf T H (.binS op ks x y)=fv (ov T x) λxs=>fv (ov T y) λys=>gP op ks xs ys))/\
    ((∀ (T:Tm) (H:Hp) (x i:Opd),cf T H (.ixStr x i)=po (ov T x) (ov T i)) ∧
    (∀(s:ByteArray)(k:IntKind)(n:Int),po (.str s) (.int k n)=if 0<=n/\n<s.size then some (.int .u8 (s[n.toNat]?.getD 0).toNat) else none))/\
    ((∀ (k:IntKind) (a b:Int) (tb tf:Bool),bo .lss tb tf (.int k a) (.int k b)=some (.bool (decide (a < b))))∧(∀ (k:IntKind) (a b:Int) (tb tf:Bool),bo .leq tb tf (.int k a) (.int k b)=some (.bool (decide (a ≤ b)))) ∧
    (∀(k:IntKind)(a b:Int)(tb tf:Bool),bo .gtr tb tf (.int k a) (.int k b)=some (.bool (decide (b<a))))/\(∀(k:IntKind)(a b:Int)(tb tf:Bool),bo .geq tb tf (.int k a) (.int k b)=some (.bool (decide (b<=a))))/\
    (∀(k:IntKind)(a b:Int)(tb tf:Bool),bo .eql tb tf (.int k a) (.int k b)=some (.bool (decide (a=b))))/\(∀(k:IntKind)(a b:Int)(tb tf:Bool),bo .neq tb tf (.int k a) (.int k b)=some (.bool (decide (a≠b))))/\
    (∀(k:IntKind)(a b:Int)(tb tf:Bool),bo .add tb tf (.int k a) (.int k b)=some (.int k (k.wrap (a+b))))/\(∀(k:IntKind)(a b:Int)(tb tf:Bool),bo .sub tb tf (.int k a) (.int k b)=some (.int k (k.wrap (a-b))))/\
    (∀(k:IntKind)(a b:Int)(tb tf:Bool),bo .mul tb tf (.int k a) (.int k b)=some (.int k (k.wrap (a*b))))/\
    (∀(a b:Bool)(tf:Bool),bo .eql true tf (.bool a) (.bool b)=some (.bool (a==b)))/\(∀(a b:Bool)(tf:Bool),bo .neq true tf (.bool a) (.bool b)=some (.bool (!(a==b))))/\
    (∀tb:Bool,bo .eql tb true .nilf .nilf=some (.bool true))/\(∀tb:Bool,bo .neq tb true .nilf .nilf=some (.bool false))/\
    (∀(tb:Bool)(f:FuncId)(c:List AV),bo .eql tb true (.func f c) .nilf=some (.bool false))/\(∀(tb:Bool)(f:FuncId)(c:List AV),bo .neq tb true (.func f c) .nilf=some (.bool true))/\
    (∀b:Bool,aun .not (.bool b)=some (.bool (!b)))/\
    (∀(k:IntKind)(a b:Int),mE (.int k a) (.int k b)=some (.int k (max a b)))/\(∀(k:IntKind)(a b:Int),pd (.int k a) (.int k b)=some (.int k (min a b)))/\
    (∀(f:AV->AV->Option AV)(x:AV),jz f x []=some x)/\(∀(f:AV->AV->Option AV)(x y:AV)(l:List AV),jz f x (y::l)=match f x y with|some z=>jz f z l|none=>none)/\
    (∀(k:Nat)(b n off:Nat),jG k (.ptr b n off)=some (.ptr b n (off+k)))/\(∀(k:Nat)(cs:List AV)(off:Nat),jG k (.iptr cs off)=some (.iptr cs (off+k)))/\
    (∀(cs:List AV)(off:Nat),rd1 bK (.iptr cs off)=cs[off]?))/\
    ((∀ (H:Hp) (b n off:Nat),rd1 H (.ptr b n off)=match H b with | some cs=>if cs.length=n then cs[off]? else none | none=>none) ∧
    (∀(H:Hp)(k b n off:Nat),rd H k (.ptr b n off)=match H b with|some cs=>if cs.length=n/\off+k<=n then some ((cs.drop off).take k) else none|none=>none)/\
    (∀(H:Hp)(cs:List AV)(off:Nat),rd1 H (.iptr cs off)=cs[off]?)/\(∀(H:Hp)(cs:List AV)(off k:Nat),rd H k (.iptr cs off)=if off+k<=cs.length then some ((cs.drop off).take k) else none)/\
    (∀(l:List AV)(i:Nat),jF (.tup l) i=l[i]?)/\(∀(l:List AV)(f:List AV->Option AV),fv (.agg l) f=f l)/\(∀(k:IntKind)(n:Int)(f:Int->Option AV),nF (.int k n) f=f n)/\
    (∀(cs:List AV),fu cs []=some cs)/\
    (∀(cs:List AV)(off sz:Nat)(x:AV)(r:List (Nat×Nat×AV)),fu cs ((off,sz,x)::r)=if AV.ones x.cells=true/\x.cells.length=sz/\off+sz<=cs.length then fu (bw cs off x.cells) r else none)/\
    (∀(b n sz off len:Nat),dw (.msl b n sz off len)=some (.int .i64 len))/\(dw .esl=some (.int .i64 0))/\(∀(sz:Nat)(l:List AV),dw (.sl sz l)=some (.int .i64 l.length))/\
    (∀(z:AV),bv z 0=[])/\(∀(z:AV)(n:Nat),bv z (n+1)=z.cells++bv z n))/\
    ((∀ (a:AV) (l:List AV),(a :: l)[0]?=some a)∧(∀ (a:AV) (l:List AV) (n:Nat),(a :: l)[n + 1]?=l[n]?)∧(∀ (l:List AV),l.drop 0=l)∧(∀ (a:AV) (l:List AV) (n:Nat),(a :: l).drop (n + 1)=l.drop n)∧(∀ n:Nat,([]:List AV).drop n=[]) ∧
    (∀(l:List AV),l.take 0=[])/\(∀(a:AV)(l:List AV)(n:Nat),(a::l).take (n+1)=a::l.take n)/\(∀n:Nat,([]:List AV).take n=[])/\(∀(l:List AV),[]++l=l)/\(∀(l:List AV),l++[]=l)/\(∀(a:AV)(l m:List AV),(a::l)++m=a::(l++m))/\
    (∀(cs:List AV)(off:Nat)(new:List AV),bw cs off new=cs.take off++new++cs.drop (off+new.length))/\(([]:List AV).length=0)/\(∀(a:AV)(l:List AV),(a::l).length=l.length+1)/\
    (∀(k:IntKind)(n:Int),(AV.int k n).cells=[.int k n])/\(∀b:Bool,(AV.bool b).cells=[.bool b])/\(∀s:ByteArray,(AV.str s).cells=[.str s])/\(∀(k:Nat)(l:List AV),(AV.sl k l).cells=[.sl k l])/\(∀l:List AV,(AV.agg l).cells=l)/\(AV.esl.cells=[.esl])/\(AV.nilf.cells=[.nilf])/\
    (∀(f:FuncId)(c:List AV),(AV.func f c).cells=[.func f c])/\(∀(b n off:Nat),(AV.ptr b n off).cells=[.ptr b n off])/\(∀(c:List AV)(off:Nat),(AV.iptr c off).cells=[.iptr c off])/\(∀(b n sz off len:Nat),(AV.msl b n sz off len).cells=[.msl b n sz off len])/\(∀b:Nat,(AV.yld b).cells=[.yld b])/\(∀b:Nat,(AV.mp b).cells=[.mp b])/\(AV.nilp.cells=[.nilp])/\(∀(f:FuncId)(c:List AV),(AV.bfn f c).cells=[.bfn f c]))/\
    ((∀(b:Bool)(x y:AV),(match (AV.bool b:AV) with|.bool t=>some (if t=true then x else y)|_=>none)=some (if b=true then x else y))):=
 ⟨Pi,SA,SV,SV2,SN,SR,SL,λ_ _ _=>rfl⟩
theorem ZV:((AV.ones []=true)∧(∀ (a:AV) (l:List AV),AV.ones (a :: l)=(a.one && AV.ones l))∧(∀ (k:IntKind) (n:Int),(AV.int k n).one=true)∧(∀ b:Bool,(AV.bool b).one=true)∧(∀ s:ByteArray,(AV.str s).one=true)∧(∀ (k:Nat) (l:List AV),(AV.sl k l).one=true)∧(AV.esl.one=true)∧(AV.nilf.one=true) ∧
    (∀(f:FuncId)(c:List AV),(AV.func f c).one=true)/\(∀(b n off:Nat),(AV.ptr b n off).one=true)/\(∀(c:List AV)(off:Nat),(AV.iptr c off).one=true)/\(∀(b n sz off len:Nat),(AV.msl b n sz off len).one=true)/\(∀b:Nat,(AV.yld b).one=true)/\(∀b:Nat,(AV.mp b).one=true)/\(AV.nilp.one=true)/\(∀l:List AV,l.all AV.one=AV.ones l))/\(∀l:List Int,(aD l).one=true)/\(∀l:List (List Int),(bm l).one=true)/\(∀b:Bool,(b&&b)=b)/\((false=true)=False)/\(∀a:Int,-9223372036854775808<=a->a<=9223372036854775807->IntKind.wrap .i64 a=a)/\
    (∀(l:List Int)(k:IntKind)(n:Int),cu 1 (aD l) (.int k n)=if 0<=n/\n<l.length then some (.iptr [.int .i64 (l.getD n.toNat default)] 0) else none)/\(∀(l:List (List Int))(k:IntKind)(n:Int),cu 1 (bm l) (.int k n)=if 0<=n/\n<l.length then some (.iptr [aD (l.getD n.toNat default)] 0) else none)/\
    (∀l:List Int,dw (aD l)=some (.int .i64 l.length))/\(∀l:List (List Int),dw (bm l)=some (.int .i64 l.length))/\(∀n:Nat,(n:Int).toNat=n)/\(∀(α β:Type)(f:α->β)(l:List α),(l.map f).length=l.length)/\
    (∀(sz b m off len:Nat)(k:IntKind)(n:Int),cu sz (.msl b m sz off len) (.int k n)=if 0<=n/\n<len then some (.ptr b m (off+n.toNat*sz)) else none)/\(∀(α:Type)(_:Inhabited α)(f:α->AV)(l:List α)(k:Nat),k<l.length->(l.map f)[k]?=some (f (l.getD k default)))/\(∀n:Nat,n*1=n):=
 ⟨SO,λ_=>rfl,λ_=>rfl,Bool.and_self,d6,λ_=>jK,λ_ _ _=>wM,λ_ _ _=>pz,λ_=>Cr,λ_=>Ac,bR,λ_ _ _ _=>bC _,λ_ _ _ _ _ _ _=>gu,λ_ _ _ _ _ h=>getElem?_map_lt h,Nat.mul_one⟩
theorem ZG:((∀ (T:Tm) (n:Nat),ov T (.t n)=T n)∧(∀ (T:Tm) (v:AV),ov T (.c v)=v)∧(∀ (T:Tm) (d t:Nat) (v:AV),upd T d v t=if t=d then v else T t)∧(∀ (T:Tm) (d:Nat) (v:AV),aO T (some d) v=upd T d v) ∧
    (∀(T:Tm)(v:AV),aO T none v=T)/\(∀(x:AV)(l:List AV),T0 (x::l) 0=x)/\(∀(x:AV)(l:List AV)(n:Nat),T0 (x::l) (n+1)=T0 l n)/\(∀n:Nat,T0 [] n=.undef)/\
    (∀(d t:Nat)(v:AV)(l:List (Nat×AV)),tl ((d,v)::l) t=if t=d then v else tl l t)/\(∀t:Nat,tl [] t=.undef)/\
    (∀(T:Tm)(t:Nat)(ts:List Nat)(x:AV)(xs:List AV),l6 T (t::ts) (x::xs)=l6 (upd T t x) ts xs)/\(∀(T:Tm)(xs:List AV),l6 T [] xs=T))/\(∀a:Int,-9223372036854775808<=a->a<=9223372036854775807->IntKind.wrap .i64 a=a)/\(∀a b:Nat,((a+b:Nat):Int)=(a:Int)+(b:Int))/\(((1:Nat):Int)=1)/\(((0:Nat):Int)=0)/\(∀p:Prop,(p/\True)=p)/\(∀p:Prop,(p/\p)=p):=
 ⟨SA,λ_=>jK,Int.natCast_add,rfl,rfl,and_true,and_self⟩
theorem ph{P:Program}{b:C2}{T:Tm}{H:Hp}{nx:Nat}{K:CP}(L:Nat->List (Nat×AV))(n:Nat)(p:Nat->Prop)(hT:agr T (L 0))
    (step:∀k,k<=n->(∀i,i<k->p i)->aG P b (tl (L k)) H nx λe T H' nx'=>aH e (k<n/\p k/\agr T (L (k+1))/\H'=H/\nx'=nx) (K e T H' nx')):aQ (aG P b) T H nx K:=by
 refine gn (X:=Nat) L (λk=>k<=n/\∀i,i<k->p i) (λk=>n-k) 0 ⟨bA _,λi h=>(by omega)⟩ hT ?_;rintro k ⟨h1,h2⟩;refine eH b (step k h1 h2) (λe T H' nx' h=>?_);cases e with
 |normal=>
  obtain⟨g1,g2,g3,g4,g5⟩:=h;refine⟨k+1,⟨by omega,λi hi=>?_⟩,by omega,g3,g4,g5⟩;rcases i7.1 hi with h|rfl
  ·exact h2 i h
  ·exact g2
 |exit i=>exact h
 |ret=>exact h
theorem lJ{α:Type}[Inhabited α]{l:List α}{p:α->Bool}(h:∀i,i<l.length->p (l.getD i default)=true):l.all p=true:=by
 rw[eA];intro x hx;obtain⟨i,hi,e⟩:=nr hx;have:=h i hi
 rwa [show l.getD i default=x by simp[List.getD,hi,e]] at this
theorem jc{α:Type}[Inhabited α]{l:List α}{p:α->Bool}{k:Nat}(hk:k<l.length)(h:p (l.getD k default)=false):l.all p=false:=by
 rw[Bool.eq_false_iff,ne_eq,eA];intro hh;have:=hh _ (au hk);rw[h] at this;cases this
theorem Gc{α:Type}[Inhabited α]{l:List α}{p:α->Bool}{k:Nat}(hk:k<l.length)(h:p (l.getD k default)=true):l.any p=true:=kW.2 ⟨_,au hk,h⟩
theorem lW{α:Type}[Inhabited α]{l:List α}{p:α->Bool}(h:∀i,i<l.length->p (l.getD i default)=false):l.any p=false:=by
 rw[List.any_eq_false];intro x hx;obtain⟨i,hi,e⟩:=nr hx;have:=h i hi;rw[show l.getD i default=x by simp[List.getD,hi,e]] at this;simp[this]
theorem vM{n:Nat}{p:Nat->Bool}(h:∀i,i<n->p i=true):(List.range n).all p=true:=eA.2 λi hi=>h i (iR.1 hi)
theorem tv{n k:Nat}{p:Nat->Bool}(hk:k<n)(h:p k=false):(List.range n).all p=false:=by
 rw[Bool.eq_false_iff,ne_eq,eA];intro hh;have:=hh _ (iR.2 hk);rw[h] at this;cases this
def gX{α:Type}(sz:Nat)(f:α->AV)(l:List α):AV:=.sl sz (l.map f)
section
variable{α:Type}{sz:Nat}{f:α->AV}{l:List α}
theorem ka (h:∀ x ∈ l,∀ c ∈ (f x).cells,Dat c):Dat (gX sz f l):=Dat.sl (fun x hx c hc=>by
 obtain⟨y,hy,rfl⟩:=dF.1 hx;exact h y hy c hc)
theorem rP (hc:∀ x,(f x).cells=[f x]) (h:∀ x,Dat (f x)):Dat (gX sz f l):=ka (fun x _ c hx=>by
 rw[hc,ed] at hx;subst hx;exact h x)
theorem gz[Inhabited α]{k:IntKind}{n:Int}:cu sz (gX sz f l) (.int k n)=if 0<=n/\n<l.length then some (.iptr (f (l.getD n.toNat default)).cells 0) else none:=ui
theorem gg:dw (gX sz f l)=some (.int .i64 l.length):=rm
theorem B8:fS (gX sz f l)=some l.length:=by simp[fS,gX]
theorem pM{k:Nat}(h:k<=l.length):lq sz (gX sz f l) (some (.int .i64 k)) none none=some (gX sz f (l.drop k)):=by
 simp[lq,bT,gX,h];rw[iW (by simp)]
theorem Hi(h:∀x,(f x).one=true):AV.ones (l.map f)=true:=by
 simp[AV.ones,h]
theorem wO{H:Hp}(hc:∀x,(f x).cells=[f x]):e7 1 H (gX 1 f l)=some (l.length,l.map f):=by
 unfold gX;rw[jq,js hc];simp
theorem Row.snapL'{H:Hp}{s:AV}(h:Row H 1 s (l.map f))(hc:∀x,(f x).cells=[f x])(hd:∀x∈l,Dat (f x)):Snap H s (gX 1 f l):=by
 refine Row.snap (elems:=l.map f) (by rw[js hc];exact h) (λy hy=>?_) ig (λy hy c hx=>?_)
 ·obtain⟨n,_,rfl⟩:=dF.1 hy;rw[hc];rfl
 ·obtain⟨n,hn,rfl⟩:=dF.1 hy;rw[hc,ed] at hx;subst hx;exact hd n hn
end
theorem jU{a:Int}(h1:0<=a)(h2:a<18446744073709551616):IntKind.wrap .u64 a=a:=by
 simp only[IntKind.wrap,IntKind.bits,IntKind.signed];simp;omega
theorem vK{a:Int}:IntKind.wrap .u8 a=a%256:=by
 simp only[IntKind.wrap,IntKind.bits,IntKind.signed];simp
theorem pQ{k:IntKind}{a:Nat}(h:a<2^k.bits):(BitVec.ofInt k.bits (a:Int)).toNat=a:=by
 rw[BitVec.toNat_ofInt];have:((2^k.bits:Nat):Int)=(2:Int)^k.bits:=by simp
 rw[Int.emod_eq_of_lt (by omega) (by omega)];simp
theorem I2{k:IntKind}{a b:Nat}{tb tf:Bool}(ha:a<2^(k.bits-1))(hb:b<2^(k.bits-1)):bo .and tb tf (.int k a) (.int k b)=some (.int k ((a &&& b:Nat):Int)):=by
 have h1:2^(k.bits-1)<=2^k.bits:=Nat.pow_le_pow_right (by omega) (by omega)
 have h2:(BitVec.ofInt k.bits (a:Int) &&& BitVec.ofInt k.bits (b:Int)).toNat=a &&& b:=by
  rw[BitVec.toNat_and,pQ (by omega),pQ (by omega)]
 show(if (k=k) then eD .and k a b else none)=_;rw[if_pos rfl];simp only[eD,h2];have h3:a &&& b<2^(k.bits-1):=Nat.lt_of_le_of_lt Nat.and_le_left ha
 congr 2
 generalize a &&& b=c at h3;cases k<;>(simp only[IntKind.bits,IntKind.wrap,IntKind.signed] at h3 |-;simp at h3 |-;omega)
theorem K8{k:IntKind}{a b:Nat}{tb tf:Bool}(ha:a<2^(k.bits-1))(hb:b<2^(k.bits-1)):bo .or tb tf (.int k a) (.int k b)=some (.int k ((a ||| b:Nat):Int)):=by
 have h1:2^(k.bits-1)<=2^k.bits:=Nat.pow_le_pow_right (by omega) (by omega)
 have h2:(BitVec.ofInt k.bits (a:Int) ||| BitVec.ofInt k.bits (b:Int)).toNat=a ||| b:=by
  rw[BitVec.toNat_or,pQ (by omega),pQ (by omega)]
 show(if (k=k) then eD .or k a b else none)=_;rw[if_pos rfl];simp only[eD,h2];have h3:a ||| b<2^(k.bits-1):=Nat.or_lt_two_pow ha hb
 congr 2
 generalize a ||| b=c at h3;cases k<;>(simp only[IntKind.bits,IntKind.wrap,IntKind.signed] at h3 |-;simp at h3 |-;omega)
theorem yb{k:IntKind}{a b:Nat}{tb tf:Bool}{k':IntKind}(hb:b<=k.bits):bo .shr tb tf (.int k a) (.int k' b)=some (.int k ((a/2^b:Nat):Int)):=by
 have h:¬((b:Int)<0):=by omega
 simp only[bo,nu,h,if_false,or_true,if_true,bR,Nat.min_eq_left hb]
 congr 2
 rw[Int.fdiv_eq_ediv_of_nonneg _ (Int.le_of_lt (Int.pow_pos (by omega)))];simp
theorem IB{k:IntKind}{a b:Nat}{tb tf:Bool}{k':IntKind}(hb:b<=k.bits)(h:a*2^b<2^(k.bits-1)):bo .shl tb tf (.int k a) (.int k' b)=some (.int k ((a*2^b:Nat):Int)):=by
 have h0:¬((b:Int)<0):=by omega
 simp only[bo,nu,h0,if_false,true_or,if_true,bR,Nat.min_eq_left hb]
 congr 2
 have e:(a:Int)*2^b=((a*2^b:Nat):Int):=by simp
 rw[e];generalize a*2^b=c at h;cases k<;>(simp only[IntKind.bits,IntKind.wrap,IntKind.signed] at h |-;simp at h |-;omega)
theorem GK{n k:Nat}:n &&& (2^k-1)=n%2^k:=Nat.and_two_pow_sub_one_eq_mod n k
theorem yl{k:IntKind}{a b:Int}{tb tf:Bool}(ha:0<=a)(hb:0<b):bo .rem tb tf (.int k a) (.int k b)=some (.int k (a%b)):=by
 show(if (k=k) then eD .rem k a b else none)=_;rw[if_pos rfl];simp only[eD,if_neg (show ¬b=0 by omega),Int.tmod_eq_emod_of_nonneg ha]
theorem qo{a b:Int}{tb tf:Bool}(ha:0<=a)(h2:a<=9223372036854775807)(hb:0<b):bo .quo tb tf (.int .i64 a) (.int .i64 b)=some (.int .i64 (a/b)):=by
 show(if (IntKind.i64=IntKind.i64) then eD .quo .i64 a b else none)=_;rw[if_pos rfl];have h3:0<=a/b:=Int.ediv_nonneg ha (by omega);have h4:a/b<=a:=Int.ediv_le_self _ ha;simp only[eD,if_neg (show ¬b=0 by omega),Int.tdiv_eq_ediv_of_nonneg ha];rw[jK (by omega) (by omega)]
theorem aX{P:Program}{T:Tm}{H:Hp}{nx:Nat}{K:SP}{l:List Op2}{d:Option Nat}{f:Opd}{args:List Opd}{g:FuncId}{caps xs:List AV}{R:AV->Hp->Nat->Prop}(hf:ov T f=.func g caps)(ha:args.map (ov T)++caps=xs)(hc:Fn P g xs H nx R)
    (k:∀r H' nx',R r H' nx'->ah P .text l (aO T d r) H' nx' K):ah P .text (⟨d,none,.call f args⟩::l) T H nx K:=by
 subst ha;exact Cd hf (Fn.mono hc k)
def fZ(l:List UInt8):AV:=.str ⟨l.toArray⟩
theorem eO(l:List UInt8):Dat (fZ l):=.str
instance datI_encS{l:List UInt8}:DatI (fZ l):=⟨eO l⟩
theorem xO{H:Hp}{b n sz off ld ls m k:Nat}{s:AV}{cs new:List AV}(hd:fS s=some ls)(hm:min ls ld=m)(h0:m≠0)(hb:H b=some cs)(hn:cs.length=n)(hs:e7 sz H (zV m s)=some (k,new))(hf:off+m*sz<=n)(ho:AV.ones new=true):
    sf sz (.msl b n sz off ld) s H=some (m,ap H b (bw cs off new)):=by
 simp only[sf,fS] at hd |-;rw[hd];simp only[hm,h0,if_false,hb,hs];rw[if_pos ⟨hn,trivial,hf,ho⟩]
end Go.Abs
namespace Go.Abs
open Go.RowKit
variable{P:Program}{T:Tm}{H:Hp}{nx:Nat}
theorem aI{a b:Prop}(x:a)(y:b):a/\b:=⟨x,y⟩
theorem ev0{α:Type}{a b:α}(h:a=b:=by(try simp only[bU,ZA,Nat.reduceEqDiff,↓reduceIte,Nat.reduceAdd,Nat.reduceLeDiff]);(try with_reducible rfl);first|done|fail):a=b:=h
theorem evZ{α:Type}{a b:α}(h:a=b:=by(try simp only[bU,ZA,Nat.reduceEqDiff,↓reduceIte,Nat.reduceAdd,Nat.reduceLeDiff,zz]);(try with_reducible rfl);first|done|fail):a=b:=h
theorem evY{α:Type}{a b:α}(h:a=b:=by(try simp (disch:=omega) only[c9,ZA,Nat.reduceEqDiff,↓reduceIte,Nat.reduceAdd,Nat.reduceLeDiff,zz]);(try with_reducible rfl);first|done|fail):a=b:=h
theorem ag0{T:Tm}{l:List (Nat×AV)}(h:agr T l:=by simp (disch:=omega) only[agr,ZG,Nat.reduceEqDiff,↓reduceIte];first|done|fail):agr T l:=h
theorem agZ{T:Tm}{l:List (Nat×AV)}(h:agr T l:=by simp (disch:=omega) only[agr,ZG,Nat.reduceEqDiff,↓reduceIte,zz];first|done|fail):agr T l:=h
theorem vZ{dm:DM}{K:SP}{l:List Op2}{d:Option Nat}{i:Ins}{r:AV}(k:ah P dm l (aO T d r) H nx K)(hi:ic i=.val:=by rfl)(hd:dm2 dm T i=true:=by rfl)(h:cf T H i=some r:=by(try simp (disch:=omega) only[bU,ZA,Nat.reduceEqDiff,↓reduceIte,Nat.reduceAdd,Nat.reduceLeDiff,ZV,reduceCtorEq,zz]);first|with_reducible rfl|(apply CZ;(focus omega);with_reducible rfl)):ah P dm (⟨d,none,i⟩::l) T H nx K:=pc hi hd h k
theorem nvZ{S:Hp}{K:SP}{l:List (Op2×Nat)}{d:Option Nat}{i:Ins}{r:AV}(k:bB P S l (aO T d r) H nx K)(h:cf T S i=some r:=by(try simp (disch:=omega) only[bU,ZA,Nat.reduceEqDiff,↓reduceIte,Nat.reduceAdd,Nat.reduceLeDiff,ZV,reduceCtorEq,zz]);first|with_reducible rfl|(apply CZ;(focus omega);with_reducible rfl)):bB P S ((⟨d,none,i⟩,0)::l) T H nx K:=JH h k
theorem cZ{dm:DM}{K:SP}{l:List Op2}{d:Option Nat}{f:Opd}{args:List Opd}{g:FuncId}{caps xs:List AV}{r:AV}(k:ah P dm l (aO T d r) H nx K)(hf:ov T f=.func g caps:=by(try simp only[bU,ZA,Nat.reduceEqDiff,↓reduceIte,Nat.reduceAdd,Nat.reduceLeDiff,zz]);(try with_reducible rfl);first|done|fail)(ha:args.map (ov T)++caps=xs:=by(try simp only[bU,ZA,Nat.reduceEqDiff,↓reduceIte,Nat.reduceAdd,Nat.reduceLeDiff,zz]);(try with_reducible rfl);first|done|fail)(hp:Pure P g xs r)(hs:ak H xs xs r:=by(first|refine aB ?_ rfl|apply aS);(repeat' (first|exact ai|apply bI|(apply bd;(focus with_reducible assumption))));first|done|fail):ah P dm (⟨d,none,.call f args⟩::l) T H nx K:=Dt hf ha hp hs k
theorem alZ{dm:DM}{K:SP}{l:List Op2}{d:Option Nat}{z:AV}{cs:List AV}(k:ah P dm l (aO T d (.ptr nx cs.length 0)) (ap H nx cs) (nx+1) K)(hd:dm2 dm T (.alloc z)=true:=by rfl)(hc:z.cells=cs:=by(try simp only[bU,ZA,Nat.reduceEqDiff,↓reduceIte,Nat.reduceAdd,Nat.reduceLeDiff,zz]);(try with_reducible rfl);first|done|fail)(ho:AV.ones cs=true:=by simp only[SO,Bool.and_self,fi,ec,zz];first|done|fail):ah P dm (⟨d,none,.alloc z⟩::l) T H nx K:=ye hd hc ho k
theorem bxZ{dm:DM}{K:SP}{l:List Op2}{d:Option Nat}{x:Opd}{v:AV}{cs:List AV}(k:ah P dm l (aO T d (.ptr nx cs.length 0)) (ap H nx cs) (nx+1) K)(hd:dm2 dm T (.box x)=true:=by rfl)(hx:ov T x=v:=by(try simp only[bU,ZA,Nat.reduceEqDiff,↓reduceIte,Nat.reduceAdd,Nat.reduceLeDiff,zz]);(try with_reducible rfl);first|done|fail)(hc:v.cells=cs:=by(try simp only[bU,ZA,Nat.reduceEqDiff,↓reduceIte,Nat.reduceAdd,Nat.reduceLeDiff,zz]);(try with_reducible rfl);first|done|fail)(ho:AV.ones cs=true:=by simp only[SO,Bool.and_self,fi,ec,zz];first|done|fail):ah P dm (⟨d,none,.box x⟩::l) T H nx K:=JG hd hx hc ho k
theorem stZ{dm:DM}{K:SP}{l:List Op2}{d:Option Nat}{sz:Nat}{p x:Opd}{b n off:Nat}{v:AV}{cs vs:List AV}(k:ah P dm l (aO T d (.tup [])) (ap H b (bw cs off vs)) nx K)(hd:dm2 dm T (.st sz p x)=true:=by rfl)(hp:ov T p=.ptr b n off:=by(try simp only[bU,ZA,Nat.reduceEqDiff,↓reduceIte,Nat.reduceAdd,Nat.reduceLeDiff,zz]);(try with_reducible rfl);first|done|fail)(hx:ov T x=v:=by(try simp only[bU,ZA,Nat.reduceEqDiff,↓reduceIte,Nat.reduceAdd,Nat.reduceLeDiff,zz]);(try with_reducible rfl);first|done|fail)(hb:H b=some cs:=by(try simp only[bU,ZA,Nat.reduceEqDiff,↓reduceIte,Nat.reduceAdd,Nat.reduceLeDiff,zz]);(try with_reducible rfl);first|done|fail)(hc:v.cells=vs:=by(try simp only[bU,ZA,Nat.reduceEqDiff,↓reduceIte,Nat.reduceAdd,Nat.reduceLeDiff,zz]);(try with_reducible rfl);first|done|fail)(ho:AV.ones vs=true:=by simp only[SO,Bool.and_self,fi,ec,zz];first|done|fail)(hn:cs.length=n:=by(try simp only[SL,Nat.reduceAdd,Nat.reduceMul,bC]);first|done|omega)(hl:vs.length=sz:=by(try simp only[SL,Nat.reduceAdd,Nat.reduceMul,bC]);first|done|omega)(hf:off+sz<=n:=by(try simp only[SL,Nat.reduceAdd,Nat.reduceMul,bC]);first|done|omega):ah P dm (⟨d,none,.st sz p x⟩::l) T H nx K:=ml hd hp hx hb hc ho hn hl hf k
theorem blZ{dm:DM}{K:SP}{l:List Op2}{d:Option Nat}{sz len:Nat}{z:List AV}{parts:List (Nat×Nat×Opd)}{pv:List (Nat×Nat×AV)}{cs:List AV}(k:ah P dm l (aO T d (.msl nx cs.length sz 0 len)) (ap H nx cs) (nx+1) K)(hd:dm2 dm T (.bldS sz len z parts)=true:=by rfl)(hl:len≠0:=by exact Nat.succ_ne_zero _)(hp:parts.map (λp=>(p.1,p.2.1,ov T p.2.2))=pv:=by(try simp only[bU,ZA,Nat.reduceEqDiff,↓reduceIte,Nat.reduceAdd,Nat.reduceLeDiff,zz]);(try with_reducible rfl);first|done|fail)(hc:fu (bv (.agg z) len) pv=some cs:=by(try simp only[bU,ZA,Nat.reduceEqDiff,↓reduceIte,Nat.reduceAdd,Nat.reduceLeDiff,SO,Bool.and_self,fi,ec,zz]);(try with_reducible rfl);first|done|fail):ah P dm (⟨d,none,.bldS sz len z parts⟩::l) T H nx K:=Jx hd hl hp hc k
theorem b0Z{dm:DM}{K:SP}{l:List Op2}{d:Option Nat}{sz:Nat}{z:List AV}(k:ah P dm l (aO T d .esl) H nx K)(hd:dm2 dm T (.bldS sz 0 z [])=true:=by rfl):ah P dm (⟨d,none,.bldS sz 0 z []⟩::l) T H nx K:=FR hd k
theorem a0Z{dm:DM}{K:SP}{l:List Op2}{d:Option Nat}{sz bytes n:Nat}{s x:Opd}{v:AV}{new:List AV}(k:ah P dm l (aO T d (.msl nx (n*sz) sz 0 n)) (ap H nx new) (nx+1) K)(hd:dm2 dm T (.app sz bytes s x)=true:=by rfl)(hs:ov T s=.esl:=by(try simp only[bU,ZA,Nat.reduceEqDiff,↓reduceIte,Nat.reduceAdd,Nat.reduceLeDiff,zz]);(try with_reducible rfl);first|done|fail)(hx:ov T x=v:=by(try simp only[bU,ZA,Nat.reduceEqDiff,↓reduceIte,Nat.reduceAdd,Nat.reduceLeDiff,zz]);(try with_reducible rfl);first|done|fail)(hsrc:e7 sz H v=some (n,new):=by first|exact ow|exact mi|exact qe|(apply gr;(focus ((try simp only[bU,ZA,Nat.reduceEqDiff,↓reduceIte,Nat.reduceAdd,Nat.reduceLeDiff,zz]);(try with_reducible rfl);first|done|fail));(iterate 2 (focus ((try simp only[SL,Nat.reduceAdd,Nat.reduceMul,bC]);first|done|omega))))|exact jq)(ho:AV.ones new=true:=by first|exact nI|exact n8|(simp only[SO,Bool.and_self,fi,ec,zz];first|done|fail))(h1:n*bytes<=140737488355328:=by(try simp only[SL,Nat.reduceAdd,Nat.reduceMul,bC]);first|done|omega)(h2:n<=9223372036854775807:=by(try simp only[SL,Nat.reduceAdd,Nat.reduceMul,bC]);first|done|omega):ah P dm (⟨d,none,.app sz bytes s x⟩::l) T H nx K:=iK hd hs hx hsrc ho h1 h2 k
theorem apZ{dm:DM}{K:SP}{l:List Op2}{d:Option Nat}{sz bytes n:Nat}{s x:Opd}{v:AV}{new cs:List AV}{b m len:Nat}(k:ah P dm l (aO T d (.msl b ((len+n)*sz) sz 0 (len+n))) (ap H b (cs++new)) nx K)(hd:dm2 dm T (.app sz bytes s x)=true:=by rfl)(hs:ov T s=.msl b m sz 0 len:=by(try simp only[bU,ZA,Nat.reduceEqDiff,↓reduceIte,Nat.reduceAdd,Nat.reduceLeDiff,zz]);(try with_reducible rfl);first|done|fail)(hb:H b=some cs:=by(try simp only[bU,ZA,Nat.reduceEqDiff,↓reduceIte,Nat.reduceAdd,Nat.reduceLeDiff,zz]);(try with_reducible rfl);first|done|fail)(hx:ov T x=v:=by(try simp only[bU,ZA,Nat.reduceEqDiff,↓reduceIte,Nat.reduceAdd,Nat.reduceLeDiff,zz]);(try with_reducible rfl);first|done|fail)(hsrc:e7 sz H v=some (n,new):=by first|exact ow|exact mi|exact qe|(apply gr;(focus ((try simp only[bU,ZA,Nat.reduceEqDiff,↓reduceIte,Nat.reduceAdd,Nat.reduceLeDiff,zz]);(try with_reducible rfl);first|done|fail));(iterate 2 (focus ((try simp only[SL,Nat.reduceAdd,Nat.reduceMul,bC]);first|done|omega))))|exact jq)(ho:AV.ones new=true:=by first|exact nI|exact n8|(simp only[SO,Bool.and_self,fi,ec,zz];first|done|fail))(hm:cs.length=m:=by(try simp only[SL,Nat.reduceAdd,Nat.reduceMul,bC]);first|done|omega)(hl:m=len*sz:=by(try simp only[SL,Nat.reduceAdd,Nat.reduceMul,bC]);first|done|omega)(h1:(len+n)*bytes<=140737488355328:=by(try simp only[SL,Nat.reduceAdd,Nat.reduceMul,bC]);first|done|omega)(h2:len+n<=9223372036854775807:=by(try simp only[SL,Nat.reduceAdd,Nat.reduceMul,bC]);first|done|omega):ah P dm (⟨d,none,.app sz bytes s x⟩::l) T H nx K:=Hg hd hs hb hx hsrc ho hm hl h1 h2 k
theorem gTZ{dm:DM}{K:SP}{l:List Op2}{d:Option Nat}{i:Ins}{t:Nat}{w:Bool}(k:ah P dm (⟨d,none,i⟩::l) T H nx K)(h:T t=.bool w:=by simp only[bU,ZA,Nat.reduceEqDiff,↓reduceIte,Nat.reduceAdd,Nat.reduceLeDiff,zz];first|done|fail):ah P dm (⟨d,some (t,w),i⟩::l) T H nx K:=KX h k
theorem gFZ{dm:DM}{K:SP}{l:List Op2}{d:Option Nat}{i:Ins}{t:Nat}{w:Bool}(k:ah P dm l (aO T d (.tup [])) H nx K)(h:T t=.bool (!w)\/T t=.tup []:=by simp only[bU,ZA,Nat.reduceEqDiff,↓reduceIte,Nat.reduceAdd,Nat.reduceLeDiff,or_true,true_or,zz];first|done|fail):ah P dm (⟨d,some (t,w),i⟩::l) T H nx K:=LF h k
theorem cTZ{K:CP}{c:Opd}{x y:C2}(h1:aG P x T H nx K)(hc:ov T c=.bool true:=by simp only[bU,ZA,Nat.reduceEqDiff,↓reduceIte,Nat.reduceAdd,Nat.reduceLeDiff,zz];first|done|fail):aG P (.cond c x y) T H nx K:=C5 hc h1
theorem cFZ{K:CP}{c:Opd}{x y:C2}(h2:aG P y T H nx K)(hc:ov T c=.bool false:=by simp only[bU,ZA,Nat.reduceEqDiff,↓reduceIte,Nat.reduceAdd,Nat.reduceLeDiff,zz];first|done|fail):aG P (.cond c x y) T H nx K:=Du hc h2
theorem r1Z{K:AV->Prop}{a:RV}{x:AV}(h:K x)(ha:rv T H a=some x:=by simp only[rv,bU,ZA,Nat.reduceEqDiff,↓reduceIte,Nat.reduceAdd,Nat.reduceLeDiff,zz];with_reducible rfl):bq T H K [a]:=r_1 ha h
theorem r2Z{K:AV->Prop}{a b:RV}{x y:AV}(h:K (.tup [x,y]))(ha:rv T H a=some x:=by simp only[rv,bU,ZA,Nat.reduceEqDiff,↓reduceIte,Nat.reduceAdd,Nat.reduceLeDiff,zz];with_reducible rfl)(hb:rv T H b=some y:=by simp only[rv,bU,ZA,Nat.reduceEqDiff,↓reduceIte,Nat.reduceAdd,Nat.reduceLeDiff,zz];with_reducible rfl):bq T H K [a,b]:=r_2 ha hb h
theorem r3Z{K:AV->Prop}{a b c:RV}{x y z:AV}(h:K (.tup [x,y,z]))(ha:rv T H a=some x:=by simp only[rv,bU,ZA,Nat.reduceEqDiff,↓reduceIte,Nat.reduceAdd,Nat.reduceLeDiff,zz];with_reducible rfl)(hb:rv T H b=some y:=by simp only[rv,bU,ZA,Nat.reduceEqDiff,↓reduceIte,Nat.reduceAdd,Nat.reduceLeDiff,zz];with_reducible rfl)(hc:rv T H c=some z:=by simp only[rv,bU,ZA,Nat.reduceEqDiff,↓reduceIte,Nat.reduceAdd,Nat.reduceLeDiff,zz];with_reducible rfl):bq T H K [a,b,c]:=r_3 ha hb hc h
theorem r5Z{K:AV->Prop}{a b c d e:RV}{x y z u v:AV}(h:K (.tup [x,y,z,u,v]))(ha:rv T H a=some x:=by simp only[rv,bU,ZA,Nat.reduceEqDiff,↓reduceIte,Nat.reduceAdd,Nat.reduceLeDiff,zz];with_reducible rfl)(hb:rv T H b=some y:=by simp only[rv,bU,ZA,Nat.reduceEqDiff,↓reduceIte,Nat.reduceAdd,Nat.reduceLeDiff,zz];with_reducible rfl)(hc:rv T H c=some z:=by simp only[rv,bU,ZA,Nat.reduceEqDiff,↓reduceIte,Nat.reduceAdd,Nat.reduceLeDiff,zz];with_reducible rfl)(hd:rv T H d=some u:=by simp only[rv,bU,ZA,Nat.reduceEqDiff,↓reduceIte,Nat.reduceAdd,Nat.reduceLeDiff,zz];with_reducible rfl)(he:rv T H e=some v:=by simp only[rv,bU,ZA,Nat.reduceEqDiff,↓reduceIte,Nat.reduceAdd,Nat.reduceLeDiff,zz];with_reducible rfl):bq T H K [a,b,c,d,e]:=r_5 ha hb hc hd he h
theorem vY{dm:DM}{K:SP}{l:List Op2}{d:Option Nat}{i:Ins}{r:AV}(k:ah P dm l (aO T d r) H nx K)(hi:ic i=.val:=by rfl)(hd:dm2 dm T i=true:=by first|rfl|(simp (disch:=omega) only[dm2,sS,wu,c9,ZA,Nat.reduceEqDiff,↓reduceIte,Nat.reduceAdd,Nat.reduceLeDiff,zz,gI];first|done|omega))(h:cf T H i=some r:=by(try simp (disch:=omega) only[c9,ZA,Nat.reduceEqDiff,↓reduceIte,Nat.reduceAdd,Nat.reduceLeDiff,ZV,reduceCtorEq,zz]);first|with_reducible rfl|(apply CZ;(focus omega);with_reducible rfl)):ah P dm (⟨d,none,i⟩::l) T H nx K:=pc hi hd h k
theorem nvY{S:Hp}{K:SP}{l:List (Op2×Nat)}{d:Option Nat}{i:Ins}{r:AV}(k:bB P S l (aO T d r) H nx K)(h:cf T S i=some r:=by(try simp (disch:=omega) only[c9,ZA,Nat.reduceEqDiff,↓reduceIte,Nat.reduceAdd,Nat.reduceLeDiff,ZV,reduceCtorEq,zz]);first|with_reducible rfl|(apply CZ;(focus omega);with_reducible rfl)):bB P S ((⟨d,none,i⟩,0)::l) T H nx K:=JH h k
theorem cY{dm:DM}{K:SP}{l:List Op2}{d:Option Nat}{f:Opd}{args:List Opd}{g:FuncId}{caps xs:List AV}{r:AV}(k:ah P dm l (aO T d r) H nx K)(hf:ov T f=.func g caps:=by(try simp (disch:=omega) only[c9,ZA,Nat.reduceEqDiff,↓reduceIte,Nat.reduceAdd,Nat.reduceLeDiff,zz]);(try with_reducible rfl);first|done|fail)(ha:args.map (ov T)++caps=xs:=by(try simp (disch:=omega) only[c9,ZA,Nat.reduceEqDiff,↓reduceIte,Nat.reduceAdd,Nat.reduceLeDiff,zz]);(try with_reducible rfl);first|done|fail)(hp:Pure P g xs r)(hs:ak H xs xs r:=by(first|refine aB ?_ rfl|apply aS);(repeat' (first|exact ai|apply bI|(apply bd;(focus with_reducible assumption))));first|done|fail):ah P dm (⟨d,none,.call f args⟩::l) T H nx K:=Dt hf ha hp hs k
theorem alY{dm:DM}{K:SP}{l:List Op2}{d:Option Nat}{z:AV}{cs:List AV}(k:ah P dm l (aO T d (.ptr nx cs.length 0)) (ap H nx cs) (nx+1) K)(hd:dm2 dm T (.alloc z)=true:=by first|rfl|(simp (disch:=omega) only[dm2,sS,wu,c9,ZA,Nat.reduceEqDiff,↓reduceIte,Nat.reduceAdd,Nat.reduceLeDiff,zz,gI];first|done|omega))(hc:z.cells=cs:=by(try simp (disch:=omega) only[c9,ZA,Nat.reduceEqDiff,↓reduceIte,Nat.reduceAdd,Nat.reduceLeDiff,zz]);(try with_reducible rfl);first|done|fail)(ho:AV.ones cs=true:=by simp (disch:=omega) only[SO,Bool.and_self,fi,ec,zz];first|done|fail):ah P dm (⟨d,none,.alloc z⟩::l) T H nx K:=ye hd hc ho k
theorem bxY{dm:DM}{K:SP}{l:List Op2}{d:Option Nat}{x:Opd}{v:AV}{cs:List AV}(k:ah P dm l (aO T d (.ptr nx cs.length 0)) (ap H nx cs) (nx+1) K)(hd:dm2 dm T (.box x)=true:=by first|rfl|(simp (disch:=omega) only[dm2,sS,wu,c9,ZA,Nat.reduceEqDiff,↓reduceIte,Nat.reduceAdd,Nat.reduceLeDiff,zz,gI];first|done|omega))(hx:ov T x=v:=by(try simp (disch:=omega) only[c9,ZA,Nat.reduceEqDiff,↓reduceIte,Nat.reduceAdd,Nat.reduceLeDiff,zz]);(try with_reducible rfl);first|done|fail)(hc:v.cells=cs:=by(try simp (disch:=omega) only[c9,ZA,Nat.reduceEqDiff,↓reduceIte,Nat.reduceAdd,Nat.reduceLeDiff,zz]);(try with_reducible rfl);first|done|fail)(ho:AV.ones cs=true:=by simp (disch:=omega) only[SO,Bool.and_self,fi,ec,zz];first|done|fail):ah P dm (⟨d,none,.box x⟩::l) T H nx K:=JG hd hx hc ho k
theorem stY{dm:DM}{K:SP}{l:List Op2}{d:Option Nat}{sz:Nat}{p x:Opd}{b n off:Nat}{v:AV}{cs vs:List AV}(k:ah P dm l (aO T d (.tup [])) (ap H b (bw cs off vs)) nx K)(hd:dm2 dm T (.st sz p x)=true:=by first|rfl|(simp (disch:=omega) only[dm2,sS,wu,c9,ZA,Nat.reduceEqDiff,↓reduceIte,Nat.reduceAdd,Nat.reduceLeDiff,zz,gI];first|done|omega))(hp:ov T p=.ptr b n off:=by(try simp (disch:=omega) only[c9,ZA,Nat.reduceEqDiff,↓reduceIte,Nat.reduceAdd,Nat.reduceLeDiff,zz]);(try with_reducible rfl);first|done|fail)(hx:ov T x=v:=by(try simp (disch:=omega) only[c9,ZA,Nat.reduceEqDiff,↓reduceIte,Nat.reduceAdd,Nat.reduceLeDiff,zz]);(try with_reducible rfl);first|done|fail)(hb:H b=some cs:=by(try simp (disch:=omega) only[c9,ZA,Nat.reduceEqDiff,↓reduceIte,Nat.reduceAdd,Nat.reduceLeDiff,zz]);(try with_reducible rfl);first|done|fail)(hc:v.cells=vs:=by(try simp (disch:=omega) only[c9,ZA,Nat.reduceEqDiff,↓reduceIte,Nat.reduceAdd,Nat.reduceLeDiff,zz]);(try with_reducible rfl);first|done|fail)(ho:AV.ones vs=true:=by simp (disch:=omega) only[SO,Bool.and_self,fi,ec,zz];first|done|fail)(hn:cs.length=n:=by(try simp only[SL,Nat.reduceAdd,Nat.reduceMul,bC]);first|done|omega)(hl:vs.length=sz:=by(try simp only[SL,Nat.reduceAdd,Nat.reduceMul,bC]);first|done|omega)(hf:off+sz<=n:=by(try simp only[SL,Nat.reduceAdd,Nat.reduceMul,bC]);first|done|omega):ah P dm (⟨d,none,.st sz p x⟩::l) T H nx K:=ml hd hp hx hb hc ho hn hl hf k
theorem blY{dm:DM}{K:SP}{l:List Op2}{d:Option Nat}{sz len:Nat}{z:List AV}{parts:List (Nat×Nat×Opd)}{pv:List (Nat×Nat×AV)}{cs:List AV}(k:ah P dm l (aO T d (.msl nx cs.length sz 0 len)) (ap H nx cs) (nx+1) K)(hd:dm2 dm T (.bldS sz len z parts)=true:=by first|rfl|(simp (disch:=omega) only[dm2,sS,wu,c9,ZA,Nat.reduceEqDiff,↓reduceIte,Nat.reduceAdd,Nat.reduceLeDiff,zz,gI];first|done|omega))(hl:len≠0:=by exact Nat.succ_ne_zero _)(hp:parts.map (λp=>(p.1,p.2.1,ov T p.2.2))=pv:=by(try simp (disch:=omega) only[c9,ZA,Nat.reduceEqDiff,↓reduceIte,Nat.reduceAdd,Nat.reduceLeDiff,zz]);(try with_reducible rfl);first|done|fail)(hc:fu (bv (.agg z) len) pv=some cs:=by(try simp (disch:=omega) only[c9,ZA,Nat.reduceEqDiff,↓reduceIte,Nat.reduceAdd,Nat.reduceLeDiff,SO,Bool.and_self,fi,ec,zz]);(try with_reducible rfl);first|done|fail):ah P dm (⟨d,none,.bldS sz len z parts⟩::l) T H nx K:=Jx hd hl hp hc k
theorem b0Y{dm:DM}{K:SP}{l:List Op2}{d:Option Nat}{sz:Nat}{z:List AV}(k:ah P dm l (aO T d .esl) H nx K)(hd:dm2 dm T (.bldS sz 0 z [])=true:=by first|rfl|(simp (disch:=omega) only[dm2,sS,wu,c9,ZA,Nat.reduceEqDiff,↓reduceIte,Nat.reduceAdd,Nat.reduceLeDiff,zz,gI];first|done|omega)):ah P dm (⟨d,none,.bldS sz 0 z []⟩::l) T H nx K:=FR hd k
theorem a0Y{dm:DM}{K:SP}{l:List Op2}{d:Option Nat}{sz bytes n:Nat}{s x:Opd}{v:AV}{new:List AV}(k:ah P dm l (aO T d (.msl nx (n*sz) sz 0 n)) (ap H nx new) (nx+1) K)(hd:dm2 dm T (.app sz bytes s x)=true:=by first|rfl|(simp (disch:=omega) only[dm2,sS,wu,c9,ZA,Nat.reduceEqDiff,↓reduceIte,Nat.reduceAdd,Nat.reduceLeDiff,zz,gI];first|done|omega))(hs:ov T s=.esl:=by(try simp (disch:=omega) only[c9,ZA,Nat.reduceEqDiff,↓reduceIte,Nat.reduceAdd,Nat.reduceLeDiff,zz]);(try with_reducible rfl);first|done|fail)(hx:ov T x=v:=by(try simp (disch:=omega) only[c9,ZA,Nat.reduceEqDiff,↓reduceIte,Nat.reduceAdd,Nat.reduceLeDiff,zz]);(try with_reducible rfl);first|done|fail)(hsrc:e7 sz H v=some (n,new):=by first|exact ow|exact mi|exact qe|(apply gr;(focus ((try simp (disch:=omega) only[c9,ZA,Nat.reduceEqDiff,↓reduceIte,Nat.reduceAdd,Nat.reduceLeDiff,zz]);(try with_reducible rfl);first|done|fail));(iterate 2 (focus ((try simp only[SL,Nat.reduceAdd,Nat.reduceMul,bC]);first|done|omega))))|exact jq)(ho:AV.ones new=true:=by first|exact nI|exact n8|(simp only[SO,Bool.and_self,fi,ec,zz];first|done|fail))(h1:n*bytes<=140737488355328:=by(try simp only[SL,Nat.reduceAdd,Nat.reduceMul,bC]);first|done|omega)(h2:n<=9223372036854775807:=by(try simp only[SL,Nat.reduceAdd,Nat.reduceMul,bC]);first|done|omega):ah P dm (⟨d,none,.app sz bytes s x⟩::l) T H nx K:=iK hd hs hx hsrc ho h1 h2 k
theorem apY{dm:DM}{K:SP}{l:List Op2}{d:Option Nat}{sz bytes n:Nat}{s x:Opd}{v:AV}{new cs:List AV}{b m len:Nat}(k:ah P dm l (aO T d (.msl b ((len+n)*sz) sz 0 (len+n))) (ap H b (cs++new)) nx K)(hd:dm2 dm T (.app sz bytes s x)=true:=by first|rfl|(simp (disch:=omega) only[dm2,sS,wu,c9,ZA,Nat.reduceEqDiff,↓reduceIte,Nat.reduceAdd,Nat.reduceLeDiff,zz,gI];first|done|omega))(hs:ov T s=.msl b m sz 0 len:=by(try simp (disch:=omega) only[c9,ZA,Nat.reduceEqDiff,↓reduceIte,Nat.reduceAdd,Nat.reduceLeDiff,zz]);(try with_reducible rfl);first|done|fail)(hb:H b=some cs:=by(try simp (disch:=omega) only[c9,ZA,Nat.reduceEqDiff,↓reduceIte,Nat.reduceAdd,Nat.reduceLeDiff,zz]);(try with_reducible rfl);first|done|fail)(hx:ov T x=v:=by(try simp (disch:=omega) only[c9,ZA,Nat.reduceEqDiff,↓reduceIte,Nat.reduceAdd,Nat.reduceLeDiff,zz]);(try with_reducible rfl);first|done|fail)(hsrc:e7 sz H v=some (n,new):=by first|exact ow|exact mi|exact qe|(apply gr;(focus ((try simp (disch:=omega) only[c9,ZA,Nat.reduceEqDiff,↓reduceIte,Nat.reduceAdd,Nat.reduceLeDiff,zz]);(try with_reducible rfl);first|done|fail));(iterate 2 (focus ((try simp only[SL,Nat.reduceAdd,Nat.reduceMul,bC]);first|done|omega))))|exact jq)(ho:AV.ones new=true:=by first|exact nI|exact n8|(simp only[SO,Bool.and_self,fi,ec,zz];first|done|fail))(hm:cs.length=m:=by(try simp only[SL,Nat.reduceAdd,Nat.reduceMul,bC]);first|done|omega)(hl:m=len*sz:=by(try simp only[SL,Nat.reduceAdd,Nat.reduceMul,bC]);first|done|omega)(h1:(len+n)*bytes<=140737488355328:=by(try simp only[SL,Nat.reduceAdd,Nat.reduceMul,bC]);first|done|omega)(h2:len+n<=9223372036854775807:=by(try simp only[SL,Nat.reduceAdd,Nat.reduceMul,bC]);first|done|omega):ah P dm (⟨d,none,.app sz bytes s x⟩::l) T H nx K:=Hg hd hs hb hx hsrc ho hm hl h1 h2 k
theorem gTY{dm:DM}{K:SP}{l:List Op2}{d:Option Nat}{i:Ins}{t:Nat}{w:Bool}(k:ah P dm (⟨d,none,i⟩::l) T H nx K)(h:T t=.bool w:=by simp (disch:=omega) only[c9,ZA,Nat.reduceEqDiff,↓reduceIte,Nat.reduceAdd,Nat.reduceLeDiff,zz];first|done|fail):ah P dm (⟨d,some (t,w),i⟩::l) T H nx K:=KX h k
theorem gFY{dm:DM}{K:SP}{l:List Op2}{d:Option Nat}{i:Ins}{t:Nat}{w:Bool}(k:ah P dm l (aO T d (.tup [])) H nx K)(h:T t=.bool (!w)\/T t=.tup []:=by simp (disch:=omega) only[c9,ZA,Nat.reduceEqDiff,↓reduceIte,Nat.reduceAdd,Nat.reduceLeDiff,or_true,true_or,zz];first|done|fail):ah P dm (⟨d,some (t,w),i⟩::l) T H nx K:=LF h k
theorem cTY{K:CP}{c:Opd}{x y:C2}(h1:aG P x T H nx K)(hc:ov T c=.bool true:=by simp (disch:=omega) only[c9,ZA,Nat.reduceEqDiff,↓reduceIte,Nat.reduceAdd,Nat.reduceLeDiff,zz];first|done|fail):aG P (.cond c x y) T H nx K:=C5 hc h1
theorem cFY{K:CP}{c:Opd}{x y:C2}(h2:aG P y T H nx K)(hc:ov T c=.bool false:=by simp (disch:=omega) only[c9,ZA,Nat.reduceEqDiff,↓reduceIte,Nat.reduceAdd,Nat.reduceLeDiff,zz];first|done|fail):aG P (.cond c x y) T H nx K:=Du hc h2
theorem r1Y{K:AV->Prop}{a:RV}{x:AV}(h:K x)(ha:rv T H a=some x:=by simp (disch:=omega) only[rv,c9,ZA,Nat.reduceEqDiff,↓reduceIte,Nat.reduceAdd,Nat.reduceLeDiff,zz];with_reducible rfl):bq T H K [a]:=r_1 ha h
theorem r2Y{K:AV->Prop}{a b:RV}{x y:AV}(h:K (.tup [x,y]))(ha:rv T H a=some x:=by simp (disch:=omega) only[rv,c9,ZA,Nat.reduceEqDiff,↓reduceIte,Nat.reduceAdd,Nat.reduceLeDiff,zz];with_reducible rfl)(hb:rv T H b=some y:=by simp (disch:=omega) only[rv,c9,ZA,Nat.reduceEqDiff,↓reduceIte,Nat.reduceAdd,Nat.reduceLeDiff,zz];with_reducible rfl):bq T H K [a,b]:=r_2 ha hb h
theorem r3Y{K:AV->Prop}{a b c:RV}{x y z:AV}(h:K (.tup [x,y,z]))(ha:rv T H a=some x:=by simp (disch:=omega) only[rv,c9,ZA,Nat.reduceEqDiff,↓reduceIte,Nat.reduceAdd,Nat.reduceLeDiff,zz];with_reducible rfl)(hb:rv T H b=some y:=by simp (disch:=omega) only[rv,c9,ZA,Nat.reduceEqDiff,↓reduceIte,Nat.reduceAdd,Nat.reduceLeDiff,zz];with_reducible rfl)(hc:rv T H c=some z:=by simp (disch:=omega) only[rv,c9,ZA,Nat.reduceEqDiff,↓reduceIte,Nat.reduceAdd,Nat.reduceLeDiff,zz];with_reducible rfl):bq T H K [a,b,c]:=r_3 ha hb hc h
theorem r5Y{K:AV->Prop}{a b c d e:RV}{x y z u v:AV}(h:K (.tup [x,y,z,u,v]))(ha:rv T H a=some x:=by simp (disch:=omega) only[rv,c9,ZA,Nat.reduceEqDiff,↓reduceIte,Nat.reduceAdd,Nat.reduceLeDiff,zz];with_reducible rfl)(hb:rv T H b=some y:=by simp (disch:=omega) only[rv,c9,ZA,Nat.reduceEqDiff,↓reduceIte,Nat.reduceAdd,Nat.reduceLeDiff,zz];with_reducible rfl)(hc:rv T H c=some z:=by simp (disch:=omega) only[rv,c9,ZA,Nat.reduceEqDiff,↓reduceIte,Nat.reduceAdd,Nat.reduceLeDiff,zz];with_reducible rfl)(hd:rv T H d=some u:=by simp (disch:=omega) only[rv,c9,ZA,Nat.reduceEqDiff,↓reduceIte,Nat.reduceAdd,Nat.reduceLeDiff,zz];with_reducible rfl)(he:rv T H e=some v:=by simp (disch:=omega) only[rv,c9,ZA,Nat.reduceEqDiff,↓reduceIte,Nat.reduceAdd,Nat.reduceLeDiff,zz];with_reducible rfl):bq T H K [a,b,c,d,e]:=r_5 ha hb hc hd he h
class StW(A:Prop)(B:outParam Prop):Prop where st:B->A
class StO(A:Prop)(B:outParam Prop):Prop where st:B->A
class StM(A:Prop)(B:outParam Prop):Prop where st:B->A
theorem zW{A B:Prop}[i:StW A B](h:B):A:=i.st h
theorem zO{A B:Prop}[i:StO A B](h:B):A:=i.st h
theorem zM{A B:Prop}[i:StM A B](h:B):A:=i.st h
instance{K:CP}{x y:C2}:StW (aG P (.seq x y) T H nx K) (aG P x T H nx λe T H nx=>aH e (aG P y T H nx K) (K e T H nx)):=⟨kE⟩
instance{K:CP}{i:Nat}{b:C2}:StW (aG P (.block i b) T H nx K) (aG P b T H nx λe T H nx=>K (rj i e) T H nx):=⟨mr⟩
instance{K:CP}{b:C2}:StW (aG P (.loop b) T H nx K) (aQ (aG P b) T H nx K):=⟨Kz⟩
instance{K:CP}:StO (aG P .skip T H nx K) (K .normal T H nx):=⟨Ky⟩
instance{K:CP}{i:Nat}:StO (aG P (.exit i) T H nx K) (K (.exit i) T H nx):=⟨KK⟩
instance{K:CP}:StO (aG P .ret T H nx K) (K .ret T H nx):=⟨N6⟩
instance{K:CP}{l:List Op2}:StO (aG P (.ops 0 l) T H nx K) (ah P .text l T H nx λT H nx=>K .normal T H nx):=⟨Kt⟩
instance{K:CP}{l:List Op2}:StO (aG P (.ops 1 l) T H nx K) (ah P .draw l T H nx λT H nx=>K .normal T H nx):=⟨Lk⟩
instance{K:CP}{l:List Op2}:StO (aG P (.ops 2 l) T H nx K) (ah P (.fresh nx) l T H nx λT H nx=>K .normal T H nx):=⟨Ki⟩
instance{K:CP}{l:List Op2}{C:List Nat}:StO (aG P (.mix 1 l C) T H nx K) (ah P .draw l T H nx λT H nx=>K .normal T H nx):=⟨uP⟩
instance{K:CP}{l:List Op2}{C:List Nat}:StO (aG P (.mix 2 l C) T H nx K) (ah P (.fresh nx) l T H nx λT H nx=>K .normal T H nx):=⟨xY⟩
instance{dm:DM}{K:SP}:StO (ah P dm [] T H nx K) (K T H nx):=⟨iS⟩
instance{S:Hp}{K:SP}:StO (bB P S [] T H nx K) (K T H nx):=⟨L1⟩
instance{S:Hp}{K:SP}{l:List (Op2×Nat)}{d:Option Nat}{i:Ins}:StO (bB P S ((⟨d,none,i⟩,2)::l) T H nx K) (ah P .text [⟨d,none,i⟩] T H nx λT H nx=>bB P S l T H nx K):=⟨gL⟩
instance{K:AV->Prop}:StO (bq T H K []) (K (.tup [])):=⟨r_0⟩
instance{K:CP}{l:List Op2}{C:List (Nat×Nat)}:StM (aG P (.mixS 1 l C) T H nx K) (ah P .draw l T H nx λT H nx=>K .normal T H nx):=⟨Ix⟩
instance{K:CP}{l:List Op2}{C:List (Nat×Nat)}:StM (aG P (.mixS 2 l C) T H nx K) (ah P (.fresh nx) l T H nx λT H nx=>K .normal T H nx):=⟨HP⟩
class NZ(b w:Bool)(p q:outParam Prop):Prop where
 t:b=w->p
 f:b=!w->q
instance(priority:=10){b:Bool}:NZ b true (b=true) (b=false):=⟨id,id⟩
instance(priority:=10){b:Bool}:NZ b false (b=false) (b=true):=⟨id,id⟩
instance{p:Prop}{i:Decidable p}:NZ (decide p) true p (¬p):=⟨sV,of_decide_eq_false⟩
instance{p:Prop}{i:Decidable p}:NZ (decide p) false (¬p) p:=⟨of_decide_eq_false,sV⟩
instance(priority:=2000):NZ true true True False:=⟨λ_=>trivial,λh=>by cases h⟩
instance(priority:=2000):NZ true false False True:=⟨λh=>(by cases h),λ_=>trivial⟩
instance(priority:=2000):NZ false true False True:=⟨λh=>(by cases h),λ_=>trivial⟩
instance(priority:=2000):NZ false false True False:=⟨λ_=>trivial,λh=>by cases h⟩
instance(priority:=2000){i:Decidable True}:NZ (decide True) true True False:=⟨λ_=>trivial,λh=>of_decide_eq_false h trivial⟩
instance(priority:=2000){i:Decidable True}:NZ (decide True) false False True:=⟨λh=>of_decide_eq_false h trivial,λ_=>trivial⟩
instance(priority:=2000){i:Decidable False}:NZ (decide False) true False True:=⟨sV,λ_=>trivial⟩
instance(priority:=2000){i:Decidable False}:NZ (decide False) false True False:=⟨λ_=>trivial,sV⟩
instance{b w:Bool}{p q:Prop}[i:NZ b w p q]:NZ (!b) w q p:=⟨λh=>i.f (by cases b<;>cases w<;>simp_all),λh=>i.t (by cases b<;>cases w<;>simp_all)⟩
class StG(A:Prop)(v:outParam AV)(w:outParam Bool)(B C:outParam Prop):Prop where
 st:∀b:Bool,v=.bool b->(b=w->B)->(b=!w->C)->A
instance{K:CP}{c:Opd}{x y:C2}:StG (aG P (.cond c x y) T H nx K) (ov T c) true (aG P x T H nx K) (aG P y T H nx K):=⟨λ_ h k1 k2=>BH h k1 k2⟩
instance{dm:DM}{K:SP}{l:List Op2}{d:Option Nat}{i:Ins}{t:Nat}:StG (ah P dm (⟨d,some (t,true),i⟩::l) T H nx K) (T t) true (ah P dm (⟨d,none,i⟩::l) (upd T t (.bool true)) H nx K) (ah P dm l (aO (upd T t (.bool false)) d (.tup [])) H nx K):=⟨λ_ h k1 k2=>N5 h k1 k2⟩
instance{dm:DM}{K:SP}{l:List Op2}{d:Option Nat}{i:Ins}{t:Nat}:StG (ah P dm (⟨d,some (t,false),i⟩::l) T H nx K) (T t) false (ah P dm (⟨d,none,i⟩::l) (upd T t (.bool false)) H nx K) (ah P dm l (aO (upd T t (.bool true)) d (.tup [])) H nx K):=⟨λ_ h k1 k2=>N5 h k1 k2⟩
theorem zGZ{A:Prop}{v:AV}{w b:Bool}{B C p q:Prop}[i:StG A v w B C][n:NZ b w p q](k1:p->B)(k2:q->C)(h:v=.bool b:=by(try simp only[bU,ZA,Nat.reduceEqDiff,↓reduceIte,Nat.reduceAdd,Nat.reduceLeDiff,zz]);(try with_reducible rfl);first|done|fail):A:=i.st b h (λh=>k1 (n.t h)) (λh=>k2 (n.f h))
theorem zGY{A:Prop}{v:AV}{w b:Bool}{B C p q:Prop}[i:StG A v w B C][n:NZ b w p q](k1:p->B)(k2:q->C)(h:v=.bool b:=by(try simp (disch:=omega) only[c9,ZA,Nat.reduceEqDiff,↓reduceIte,Nat.reduceAdd,Nat.reduceLeDiff,zz]);(try with_reducible rfl);first|done|fail):A:=i.st b h (λh=>k1 (n.t h)) (λh=>k2 (n.f h))
structure WkQ(B:Prop):Prop where
 q:B
class DatLI(l:List AV):Prop where
 d:∀x∈l,Dat x
instance:DatLI []:=⟨λ_ h=>(by cases h)⟩
instance{x:AV}{l:List AV}[h:DatI x][k:DatLI l]:DatLI (x::l):=⟨DatL.cons h.d k.d⟩
instance{l:List AV}[k:DatLI l]:DatI (.agg l):=⟨Dat.agg k.d⟩
instance{f:FuncId}{l:List AV}[k:DatLI l]:DatI (.func f l):=⟨Dat.func k.d⟩
instance{l:List AV}{n:Nat}[k:DatLI l]:DatI (.iptr l n):=⟨Dat.iptr k.d⟩
theorem wkZ{A B F:Prop}(zz:F)(k:B)(h:F->WkQ B->A:=by intro zz _q;(repeat' (first|refine zW ?_|refine zM ?_|apply a_n|apply a_x|apply a_r|refine zO ?_|refine vZ ?_|refine nvZ ?_|refine cZ ?_ (hp:=by assumption)|refine bxZ ?_|refine alZ ?_|refine blZ ?_|refine b0Z ?_|refine a0Z ?_|refine apZ ?_|refine stZ ?_|refine gTZ ?_|refine gFZ ?_|refine cTZ ?_|refine cFZ ?_|(refine zGZ ?_ ?_<;>(intro _hg;try (exfalso;omega)))|refine bn rfl ?_|refine r1Z ?_|refine r2Z ?_|refine r3Z ?_|refine r5Z ?_|refine yi rfl ?_|fail));first|(exact _q.q;done)|fail):A:=h zz ⟨k⟩
theorem wnZ{A B F:Prop}(zz:F)(k:B)(h:F->WkQ B->A:=by intro zz _q;(repeat' (first|refine zW ?_|apply a_n|apply a_x|apply a_r|refine zO ?_|refine vZ ?_|refine nvZ ?_|refine cZ ?_ (hp:=by assumption)|refine bxZ ?_|refine alZ ?_|refine blZ ?_|refine b0Z ?_|refine a0Z ?_|refine apZ ?_|refine stZ ?_|refine gTZ ?_|refine gFZ ?_|refine cTZ ?_|refine cFZ ?_|(refine zGZ ?_ ?_<;>(intro _hg;try (exfalso;omega)))|refine bn rfl ?_|refine r1Z ?_|refine r2Z ?_|refine r3Z ?_|refine r5Z ?_|refine yi rfl ?_|fail));first|(exact _q.q;done)|fail):A:=h zz ⟨k⟩
theorem wkY{A B F:Prop}(zz:F)(k:B)(h:F->WkQ B->A:=by intro zz _q;(repeat' (first|refine zW ?_|refine zM ?_|apply a_n|apply a_x|apply a_r|refine zO ?_|refine vY ?_|refine nvY ?_|refine cY ?_ (hp:=by assumption)|refine bxY ?_|refine alY ?_|refine blY ?_|refine b0Y ?_|refine a0Y ?_|refine apY ?_|refine stY ?_|refine gTY ?_|refine gFY ?_|refine cTY ?_|refine cFY ?_|(refine zGY ?_ ?_<;>(intro _hg;try (exfalso;omega)))|refine bn rfl ?_|refine r1Y ?_|refine r2Y ?_|refine r3Y ?_|refine r5Y ?_|refine yi rfl ?_|fail));first|(exact _q.q;done)|fail):A:=h zz ⟨k⟩
theorem wnY{A B F:Prop}(zz:F)(k:B)(h:F->WkQ B->A:=by intro zz _q;(repeat' (first|refine zW ?_|apply a_n|apply a_x|apply a_r|refine zO ?_|refine vY ?_|refine nvY ?_|refine cY ?_ (hp:=by assumption)|refine bxY ?_|refine alY ?_|refine blY ?_|refine b0Y ?_|refine a0Y ?_|refine apY ?_|refine stY ?_|refine gTY ?_|refine gFY ?_|refine cTY ?_|refine cFY ?_|(refine zGY ?_ ?_<;>(intro _hg;try (exfalso;omega)))|refine bn rfl ?_|refine r1Y ?_|refine r2Y ?_|refine r3Y ?_|refine r5Y ?_|refine yi rfl ?_|fail));first|(exact _q.q;done)|fail):A:=h zz ⟨k⟩
theorem zI3{a b c:Prop}(xa:a)(xb:b)(xc:c):a/\b/\c:=⟨xa,xb,xc⟩
theorem zI4{a b c d:Prop}(xa:a)(xb:b)(xc:c)(xd:d):a/\b/\c/\d:=⟨xa,xb,xc,xd⟩
theorem zI5{a b c d e:Prop}(xa:a)(xb:b)(xc:c)(xd:d)(xe:e):a/\b/\c/\d/\e:=⟨xa,xb,xc,xd,xe⟩
theorem zI6{a b c d e f:Prop}(xa:a)(xb:b)(xc:c)(xd:d)(xe:e)(xf:f):a/\b/\c/\d/\e/\f:=⟨xa,xb,xc,xd,xe,xf⟩
theorem zI7{a b c d e f g:Prop}(xa:a)(xb:b)(xc:c)(xd:d)(xe:e)(xf:f)(xg:g):a/\b/\c/\d/\e/\f/\g:=⟨xa,xb,xc,xd,xe,xf,xg⟩
theorem zI8{a b c d e f g h:Prop}(xa:a)(xb:b)(xc:c)(xd:d)(xe:e)(xf:f)(xg:g)(xh:h):a/\b/\c/\d/\e/\f/\g/\h:=⟨xa,xb,xc,xd,xe,xf,xg,xh⟩
theorem zI9{a b c d e f g h i:Prop}(xa:a)(xb:b)(xc:c)(xd:d)(xe:e)(xf:f)(xg:g)(xh:h)(xi:i):a/\b/\c/\d/\e/\f/\g/\h/\i:=⟨xa,xb,xc,xd,xe,xf,xg,xh,xi⟩
theorem fI{a b c d e f g h i j:Prop}(xa:a)(xb:b)(xc:c)(xd:d)(xe:e)(xf:f)(xg:g)(xh:h)(xi:i)(xj:j):a/\b/\c/\d/\e/\f/\g/\h/\i/\j:=⟨xa,xb,xc,xd,xe,xf,xg,xh,xi,xj⟩
theorem lpI{b:C2}{K:CP}{X:Type}(L:X->List (Nat×AV))(I:X->Hp->Nat->Prop)(μ:X->Nat)(x0:X)(h0:I x0 H nx)
    (step:∀x H nx,I x H nx->aG P b (tl (L x)) H nx λe T H' nx'=>aH e (∃y,μ y<μ x/\I y H' nx'/\agr T (L y)) (K e T H' nx')) (hT:agr T (L x0):=by(repeat' (first|exact trivial|refine And.intro rfl ?_));first|done|fail):aQ (aG P b) T H nx K:=br L I μ x0 h0 hT step
theorem eR{dm:DM}{K:SP}{l:List Op2}{d:Option Nat}{sz bytes k:Nat}{s x:Opd}{sv xv:AV}{cs new:List AV}(hrow:Row H sz sv cs)(next:∀(sv':AV)(H':Hp)(nx':Nat),Row H' sz sv' (cs++new)->nx<=nx'->nx'<=nx+1->(∀i,i<nx->bk sv≠some i->H' i=H i)->(∀b,bk sv'=some b->bk sv=some b\/b=nx/\nx'=nx+1)->ah P dm l (aO T d sv') H' nx' K)(hd:dm2 dm T (.app sz bytes s x)=true:=by rfl)(hs:ov T s=sv:=by(try simp only[bU,ZA,Nat.reduceEqDiff,↓reduceIte,Nat.reduceAdd,Nat.reduceLeDiff]);(try with_reducible rfl);first|done|fail)(hx:ov T x=xv:=by(try simp only[bU,ZA,Nat.reduceEqDiff,↓reduceIte,Nat.reduceAdd,Nat.reduceLeDiff]);(try with_reducible rfl);first|done|fail)(hsrc:e7 sz H xv=some (k,new):=by first|exact lY|exact xz|fail)(ho:AV.ones new=true:=by rfl)(hk:new.length=k*sz:=by rfl)(hz:0<sz:=by first|exact ig|omega|fail)(h1:(cs.length+k)*bytes<=140737488355328:=by first|(rw[bC];omega)|omega|fail)(h2:cs.length+k<=9223372036854775807:=by first|(rw[bC];omega)|omega|fail):ah P dm (⟨d,none,.app sz bytes s x⟩::l) T H nx K:=ef hd hs hrow hx hsrc ho hk hz h1 h2 next
end Go.Abs
namespace Go.Abs
open Go Go.RowKit
def sZ(W:World):Nat->Prop:=λb=>b<W.heap.size
theorem Ew{W:World}{a:Addr}{v:Value}(h:W.cell? a=some v):sZ W a.block/\a.spot=none:=by
 unfold World.cell? at h;unfold sZ;cases hb:W.heap[a.block]? with
 |none=>simp[hb] at h
 |some o=>
  refine⟨(nP.1 hb).1,?_⟩;cases hs:a.spot with
  |none=>rfl
  |some s=>cases o<;>simp[hb,hs] at h
section
variable{H:Type}{enc:TypeId×Value->H}{P:Program}{W:World}
def dW(enc:TypeId×Value->H)(P:Program)(W:World)(t:TypeId){α:Type}(f:α->AV)(good:α->Prop):Prop:=
 ∀(n:Nat)(cs:List Value)(x:DataW H×List MemPlace),DataW.trod enc P W 0 (λ_=>true) true n t cs=some x->(∀k∈x.1.weights P t,k<=reachBytes)->∃a:α,good a/\dM (E0 (sZ W)) W (f a).cells cs
theorem dW.mono{t:TypeId}{α:Type}{f:α->AV}{good good':α->Prop}(h:dW enc P W t f good)(hg:∀a,good a->good' a):dW enc P W t f good':=
 λn cs x hx hw=>let ⟨a,h1,h2⟩:=h n cs x hx hw;⟨a,hg a h1,h2⟩
theorem ua {E:Env} {w:World} {x:AV} {y:Value} (h:Rel E w x y):dM E w [x] [y]:=⟨rfl,fun i a b ha hb=>by
 cases i with
 |zero=>simp at ha hb;subst ha hb;exact h
 |succ i=>simp at ha⟩
theorem dM.app{E:Env}{w:World}{xs xs':List AV}{ys ys':List Value}(h:dM E w xs ys)(h':dM E w xs' ys'):dM E w (xs++xs') (ys++ys'):=by
 have hl:xs.length=ys.length:=h.1.symm;refine⟨by simp[h.1,h'.1],λi a b ha hb=>?_⟩;by_cases hi:i<xs.length
 ·rw[gZ hi] at ha;rw[gZ (by omega)] at hb;exact h.2 i a b ha hb
 ·rw[iG (by omega)] at ha;rw[iG (by omega)] at hb;rw[hl] at ha;exact h'.2 _ a b ha hb
theorem xK{t:TypeId}{k:IntKind}(ht:P.underlying t=some (.int k)):dW enc P W t (AV.int k) (λn=>(Lit.int k n).wf=true):=λn cs x hx _=>by
 obtain⟨a,rfl,rfl,hw⟩:=DataW.trod_int ht hx;exact⟨a,hw,ua (.int _ _)⟩
theorem nN{e:TypeId}{l:List (DataW H)}{d:DataW H}(h:d∈l){k:Nat}(hk:k∈d.weights P e):k∈DataW.weightsAll P e l:=by
 induction l with
 |nil=>cases h
 |cons a l ih=>
  unfold DataW.weightsAll;rcases fR.1 h with rfl|h
  ·exact qs _ hk
  ·exact sK _ (ih h)
theorem sr{α:Type}{len:Nat}{Q:Nat->α->Prop}(h:∀i,i<len->∃a,Q i a):∃l:List α,l.length=len/\∀i a,l[i]?=some a->Q i a:=by
 induction len with
 |zero=>exact⟨[],rfl,λi a h=>by simp at h⟩
 |succ n ih=>
  obtain⟨l,h1,h2⟩:=ih (λi hi=>h i (by omega));obtain⟨a,ha⟩:=h n (by omega);refine⟨l++[a],by simp[h1],λi b hb=>?_⟩;by_cases hi:i<l.length
  ·rw[gZ hi] at hb;exact h2 i b hb
  ·rw[iG (by omega)] at hb
   have:i-l.length=0:=by
    by_cases h0:i-l.length=0
    ·exact h0
    ·rw[List.getElem?_eq_none (by simp;omega)] at hb;cases hb
   rw[this] at hb;simp at hb;subst hb;have:i=n:=by omega
   subst this;exact ha
theorem jC{t e:TypeId}{sz by_:Nat}{α:Type}{f:α->AV}{good:α->Prop}(ht:P.underlying t=some (.slice e))(hsz:P.cellsOf e=sz)(hby:P.bytesOf e=by_)(hpos:0<sz)(hc:∀a,(f a).cells.length=sz)
    (he:dW enc P W e f good):dW enc P W t (gX sz f) (λl=>(∀a∈l,good a)/\l.length<=9223372036854775807/\l.length*by_<=140737488351232):=λn cs x hx hw=>by
 rcases Go.Deep.open_slice ht hx with⟨rfl,rfl⟩|⟨a,len,cap,m,n',D,Pl,rfl,hb,hlc,hcm,hm,hxe,hel⟩
 ·exact⟨[],⟨λ_ h=>(by cases h),by simp,by simp⟩,ua (.slnil _)⟩
 simp only[if_true] at hm;subst hxe;subst hm;have hw':∀k∈((DataW.slice (H:=H) ((List.range len).map D) ((List.range (m-len)).map λj=>D (len+j))).weights P t),k<=reachBytes:=hw;simp only[DataW.weights,ht] at hw';have hlen:(((List.range len).map D).length+((List.range (m-len)).map λj=>D (len+j)).length)*P.bytesOf e<=reachBytes:=hw' _ (jZ ..)
 have hbd:len*by_<=140737488351232:=by
  rw[hby] at hlen;simp only[bC,List.length_range] at hlen;have h1:len*by_<=(len+(m-len))*by_:=j4 _ (by omega);have h2:reachBytes=140737488351232:=rfl;omega
 have hlm:len<=9223372036854775807:=fA hlc hcm
 have key:∀i,i<len->∃a':α,good a'/\∃cs',W.cells? 0 (a.add (i*sz)) sz=some cs'/\dM (E0 (sZ W)) W (f a').cells cs':=λi hi=>by
  obtain⟨cs',h1,h2⟩:=hel i (by omega);rw[hsz] at h1;obtain⟨a',g1,g2⟩:=he n' cs' _ h2 (λk hk=>hw' k (pF _ (qs _ (nN (dF.2 ⟨i,iR.2 hi,rfl⟩) hk))));exact⟨a',g1,cs',h1,g2⟩
 obtain⟨l,hl,hq⟩:=sr key;refine⟨l,⟨λx hx=>?_,by omega,by rw[hl];exact hbd⟩,ua ?_⟩
 ·obtain⟨i,hi⟩:=uJ hx;exact(hq i x hi).1
 by_cases h0:len=0
 ·subst h0;have:l=[]:=eG.1 hl;subst this;exact .slempty _ _ _
 have hcell:∀i j,i<len->j<sz->∃v,W.cell? ((a.add (i*sz)).add j)=some v:=λi j hi hj=>by
  obtain⟨a',_,cs',h1,h2⟩:=key i hi;unfold World.cells? at h1;rw[if_pos (bA _)] at h1;have h3:=mapM_some_get h1 j j (by simp[hj])
  have h4:j<cs'.length:=by
   have:=mapM_some_length h1;simp at this;omega
  exact⟨cs'[j],by rw[h3];simp[h4]⟩
 obtain⟨v0,hv0⟩:=hcell 0 0 (by omega) hpos;have ho:=Ew hv0;simp only[oV,Addr.add,if_true] at ho;obtain⟨blk,off,sp⟩:=a;obtain⟨ho,hsp⟩:=ho;simp only at hsp ho;subst hsp
 have hadd:∀i j,((⟨blk,off,none⟩:Addr).add (i*sz)).add j=⟨blk,off+(i*sz+j),none⟩:=λi j=>by
  rw[cV,cV,qw]
 have hcell':∀k,k<len*sz->∃v,W.cell? ⟨blk,off+k,none⟩=some v:=λk hk=>by
  have h1:k/sz<len:=Nat.div_lt_of_lt_mul (by rw[Nat.mul_comm];exact hk);have h2:k%sz<sz:=Nat.mod_lt _ hpos;obtain⟨v,hv⟩:=hcell (k/sz) (k%sz) h1 h2;rw[hadd,Nat.div_add_mod'] at hv;exact⟨v,hv⟩
 have hlen2:(l.map f).length=len:=by simp[hl]
 have:=Rel.sl (E:=E0 (sZ W)) (w:=W) sz (l.map f) blk off m (λk=>(W.cell? ⟨blk,off+k,none⟩).getD Go.undef) ho (by rw[hlen2];exact hlc)
  (λx hx=>by obtain⟨b,_,rfl⟩:=dF.1 hx;exact hc b)
  (fun k hk=>by
   rw[hlen2] at hk;obtain⟨v,hv⟩:=hcell' k hk;simp only[hv,sW])
  (fun i j x y hx hy=>by
   rw[jJ,Option.map_eq_some_iff] at hx;obtain⟨a',ha',rfl⟩:=hx;obtain⟨_,cs',h1,h2⟩:=hq i a' ha'
   have hj:j<sz:=by
    have:=(bZ.1 hy).1
    rwa [hc] at this
   have hi:i<len:=by
    have:=(bZ.1 ha').1;omega
   unfold World.cells? at h1;rw[if_pos (bA _)] at h1;have h3:=mapM_some_get h1 j j (by simp[hj])
   have h4:j<cs'.length:=by
    have:=mapM_some_length h1;simp at this;omega
   rw[hadd] at h3;have h5:cs'[j]?=some cs'[j]:=by simp[h4]
   rw[h5] at h3;simp only[h3,sW];exact h2.2 j y _ hy h5)
 rw[hlen2] at this;exact this
def yn(enc:TypeId×Value->H)(P:Program)(W:World)(fs:List Field)(off:Nat){α:Type}(g:α->List AV)(good:α->Prop):Prop:=
 ∀(n tot:Nat)(cs:List Value)(ys:List (DataW H×List MemPlace)),ys.length=fs.length->(∀(i:Nat)(f:Field),fs[i]?=some f->DataW.trod enc P W 0 (λ_=>true) true n f.type ((cs.drop f.offset).take (P.cellsOf f.type))=ys[i]?)->
  (∀k∈DataW.weightsEach P (fs.map λf:Field=>f.type) (ys.map (·.1)),k<=reachBytes)->cs.length=tot->tot=off+(fs.map λf:Field=>P.cellsOf f.type).sum->∃a:α,good a/\dM (E0 (sZ W)) W (g a) (cs.drop off)
theorem io{off:Nat}:yn enc P W [] off (λ_:Unit=>[]) (λ_=>True):=λn tot cs ys _ _ _ h1 h2=>by
 refine⟨(),trivial,?_⟩;rw[nZ (by simp at h2;omega)];exact⟨rfl,λi a b h=>by simp at h⟩
theorem cl{fd:Field}{fs:List Field}{off off':Nat}{α β:Type}{f:α->AV}{g:β->List AV}{good:α->Prop}{good':β->Prop}(ho:fd.offset=off)(ho':off+P.cellsOf fd.type=off')
    (h:dW enc P W fd.type f good) (h':yn enc P W fs off' g good'):yn enc P W (fd::fs) off (λa:α×β=>(f a.1).cells++g a.2) (λa=>good a.1/\good' a.2):=λn tot cs ys hl hy hw h1 h2=>by
 obtain⟨y,ys,rfl⟩:∃y ys',ys=y::ys':=by
  cases ys with
  |nil=>simp at hl
  |cons y ys=>exact⟨y,ys,rfl⟩
 have hy0:=hy 0 fd rfl;simp only[th] at hy0;rw[ho] at hy0;simp only[im,DataW.weightsEach] at hw;obtain⟨a,g1,g2⟩:=h n _ y hy0 (λk hk=>hw k (qs _ hk));simp only[im,List.sum_cons] at h2
 obtain ⟨b,g3,g4⟩:=h' n tot cs ys (by simpa using hl) (fun i f hf=>by
  have:=hy (i+1) f (by simpa using hf);simpa using this) (λk hk=>hw k (sK _ hk)) h1 (by omega)
 refine⟨(a,b),⟨g1,g3⟩,?_⟩
 have e:cs.drop off=(cs.drop off).take (P.cellsOf fd.type)++cs.drop off':=by
  rw[<-ho',<-List.drop_drop,wk]
 rw[e];exact dM.app g2 g4
theorem fo{t:TypeId}{fs:Array Field}{α:Type}{g:α->List AV}{good:α->Prop}(ht:P.underlying t=some (.struct fs))(hsum:P.cellsOf t=(fs.toList.map λf:Field=>P.cellsOf f.type).sum)
    (h:yn enc P W fs.toList 0 g good):dW enc P W t (λa=>.agg (g a)) good:=λn cs x hx hw=>by
 obtain⟨ys,n',rfl,rfl,hl,hs,hy⟩:=DataW.trod_struct ht hx
 obtain ⟨a,g1,g2⟩:=h n' _ cs ys (by rw [hs]; simp) (fun i f hf=>hy i f (by simpa using hf)) (fun k hk=>hw k (by
  simp only[DataW.weights,ht];exact hk)) hl (by rw[cp,hsum])
 exact⟨a,g1,by rw[List.drop_zero] at g2;exact g2⟩
theorem xJ{t e:TypeId}{sz m:Nat}{α:Type}{f:α->AV}{good:α->Prop}(ht:P.underlying t=some (.array m e))(hsz:P.cellsOf e=sz)(htot:P.cellsOf t=m*sz)
    (he:dW enc P W e f good):dW enc P W t (λl:List α=>.agg (l.flatMap λa=>(f a).cells)) (λl=>l.length=m/\∀a∈l,good a):=λn cs x hx hw=>by
 cases n with
 |zero=>simp[DataW.trod] at hx
 |succ n=>
  unfold DataW.trod at hx;rw[ht] at hx
  have hx:(if cs.length=P.cellsOf t then((List.range m).mapM λi=>DataW.trod enc P W 0 (λ_=>true) true n e ((cs.drop (i*P.cellsOf e)).take (P.cellsOf e))).map λxs=>(DataW.agg (xs.map (·.1)),xs.flatMap (·.2)) else none)=some x:=by
   cases cs<;>exact hx
  split at hx
  case isFalse=>cases hx
  case isTrue hl=>
  rw[Option.map_eq_some_iff] at hx;obtain⟨ys,hy,rfl⟩:=hx;rw[hsz] at hy;have hyl:=mapM_some_length hy;simp at hyl
  have hget:∀i,i<m->∃y,ys[i]?=some y/\DataW.trod enc P W 0 (λ_=>true) true n e ((cs.drop (i*sz)).take sz)=some y:=λi hi=>by
   have h1:i<ys.length:=by omega
   exact⟨ys[i],by simp[h1],by rw[mapM_some_get hy i i (by simp[hi])];simp[h1]⟩
  have key:∀i,i<m->∃a,good a/\dM (E0 (sZ W)) W (f a).cells ((cs.drop (i*sz)).take sz):=λi hi=>by
   obtain⟨y,h1,h2⟩:=hget i hi
   exact he n _ y h2 (fun k hk=>hw k (by
    simp only[DataW.weights,ht];exact nN (dF.2 ⟨y,iX h1,rfl⟩) hk))
  obtain⟨l,h1,h2⟩:=sr key;refine⟨l,⟨h1,λa ha=>?_⟩,?_⟩
  ·obtain⟨i,hi⟩:=uJ ha;exact(h2 i a hi).1
  rw[htot] at hl
  have gen:∀(l:List α)(k:Nat),k+l.length=m->(∀i a,l[i]?=some a->dM (E0 (sZ W)) W (f a).cells ((cs.drop ((k+i)*sz)).take sz))->dM (E0 (sZ W)) W (l.flatMap λa=>(f a).cells) (cs.drop (k*sz)):=by
   intro l
   induction l with
   |nil=>
    intro k hk _;rw[nZ (by simp at hk;subst hk;omega)];exact⟨rfl,λi a b h=>by simp at h⟩
   |cons a l ih=>
    intro k hk hq
    have e:cs.drop (k*sz)=(cs.drop (k*sz)).take sz++cs.drop ((k+1)*sz):=by
     rw[eJ,Nat.one_mul,<-List.drop_drop,wk]
    rw[e,l8];refine dM.app (hq 0 a rfl) (ih (k+1) (by simp at hk;omega) (λi b hb=>?_));have:=hq (i+1) b (by simpa using hb)
    rwa [show k+(i+1)=k+1+i by omega] at this
  have:=gen l 0 (by omega) (λi a ha=>by rw[cp];exact(h2 i a ha).2)
  rwa [oV,List.drop_zero] at this
theorem dW.map{t:TypeId}{α β:Type}{f:α->AV}{good:α->Prop}{f':β->AV}{good':β->Prop}(h:dW enc P W t f good)(φ:α->β)(hg:∀a,good a->good' (φ a))(hf:∀a,good a->(f' (φ a)).cells=(f a).cells):dW enc P W t f' good':=λn cs x hx hw=>by
 obtain⟨a,h1,h2⟩:=h n cs x hx hw;exact⟨φ a,hg a h1,by rw[hf a h1];exact h2⟩
theorem dW.at{t u:TypeId}{α:Type}{f:α->AV}{good:α->Prop}(e:t=u)(h:dW enc P W u f good):dW enc P W t f good:=e▸h
theorem dW.argA{t:TypeId}{α:Type}{f:α->AV}{good:α->Prop}(h:dW enc P W t f good){r:Reach}{base:Nat}{v:Value}{d:DataW H}{ps:List MemPlace}(ht:tg P t=true)(hf:∀a,∃cs,f a=.agg cs)
    (hval:Value.okWide P W r base t v) (hd:DataW.Trod enc P W 0 (λ_=>true) true t v d ps) (hw:∀k∈d.weights P t,k<=reachBytes):∃a,good a/\Rel (E0 (sZ W)) W (f a) v:=by
 obtain⟨n,hn⟩:=hd;obtain⟨a,h1,h2⟩:=h n _ _ hn hw;refine⟨a,h1,?_⟩
 obtain⟨cs,hcs,_⟩:∃cs,v=.agg cs/\True:=by
  unfold Value.okWide at hval;unfold tg at ht;split at hval
  ·obtain⟨cs,h,_⟩:=hval;exact⟨cs,h,trivial⟩
  ·obtain⟨cs,h,_⟩:=hval;exact⟨cs,h,trivial⟩
  ·rename_i k1 k2;revert ht;cases hu:P.underlying t with
   |none=>simp
   |some u=>
    cases u with
    |struct fs=>exact absurd hu (k1 fs)
    |array m e=>exact absurd hu (k2 m e)
    |_=>simp
 subst hcs;obtain⟨xs,hx⟩:=hf a;rw[hx] at h2 |-;exact .agg xs cs.toList h2.1 h2.2
theorem pf(hl:laidOutB P=true){W':World}(hb:Below W.heap.size W W'){sp:Nat->Bool}:∀{ts:List TypeId}{vs:List Value}{ds:List (DataW H)}{ps:List MemPlace},(∀t∈ts,P.readableRec t=true/\t<P.types.size)->
    DataW.TrodAll enc P W 0 (λ_=>true) true ts vs ds ps->(∀p∈ps,p.block<W.heap.size)->(∀p∈ps,sp p.block=true)->DataW.TrodAll enc P W' 0 sp true ts vs ds ps
 |[],[],[],ps,_,h,_,_=>h
 |t::ts,v::vs,d::ds,ps,hr,⟨p,q,h1,h2,e⟩,hlt,hsp=>by
  subst e
  exact ⟨p,q,WideElems.Trod_stays hl (hr t (jZ ..)).1 (hr t (jZ ..)).2 h1 (fun x hx=>hb.same (hlt x (qs _ hx))) (fun x hx=>hsp x (qs _ hx)),
   pf hl hb (λt ht=>hr t (pF _ ht)) h2 (λx hx=>hlt x (sK _ hx)) (λx hx=>hsp x (sK _ hx)),rfl⟩
 |[],_::_,_,_,_,h,_,_=>h.elim
 |[],[],_::_,_,_,h,_,_=>h.elim
 |_::_,[],_,_,_,h,_,_=>h.elim
 |_::_,_::_,[],_,_,h,_,_=>h.elim
theorem n7:∀{ts:List TypeId}{ds:List (DataW H)}{i:Nat}{t:TypeId}{d:DataW H},ts[i]?=some t->ds[i]?=some d->∀k∈d.weights P t,k∈DataW.weightsEach P ts ds
 |t::ts,d::ds,0,_,_,h1,h2,k,hk=>by
  simp at h1 h2;subst h1 h2;unfold DataW.weightsEach;exact qs _ hk
 |t::ts,d::ds,i+1,_,_,h1,h2,k,hk=>by
  unfold DataW.weightsEach;exact sK _ (n7 (ts:=ts) (ds:=ds) (by simpa using h1) (by simpa using h2) k hk)
 |[],_,i,_,_,h1,_,_,_=>by simp at h1
 |_::_,[],i,_,_,_,h2,_,_=>by simp at h2
end
end Go.Abs
namespace Go.Abs
open Go.RowKit
end Go.Abs
namespace Go.Proofs.YtmpcledaoigkaaaGreat
open Go Go.Abs Go.Abs.C2 Go.Abs.Ins Go.Abs.Opd Go.Abs.TK Go.Abs.MK
def cO(d:Nat)(i:Ins):Op2:=Op2.mk (some d) none i
def cG(d g:Nat)(b:Bool)(i:Ins):Op2:=Op2.mk (some d) (some (g,b)) i
def cN(k:Int):Opd:=Opd.c (AV.int IntKind.i64 k)
def cM(n:Nat):Ins:=Ins.mov (Opd.t n)
def cD(n:Nat):Ins:=Ins.ld1 (Opd.t n)
def cF(n:Nat):Opd:=Opd.c (AV.func n [])
def cB(o:BinOp)(x y:Opd):Ins:=Ins.bin o false false x y
def IQ:Opd:=Opd.c (AV.bool false)
def Mb:Opd:=Opd.c (AV.bool true)
def aa(d s:Nat):Op2:=Op2.mk (some d) none (Ins.mov (Opd.t s))
def aj(d s:Nat):Op2:=Op2.mk (some d) none (Ins.ld1 (Opd.t s))
def aY(d n s:Nat):Op2:=Op2.mk (some d) none (Ins.ldn n (Opd.t s))
def aV(d s:Nat):Op2:=Op2.mk (some d) none (Ins.lenS (Opd.t s))
def aw(d n s:Nat):Op2:=Op2.mk (some d) none (Ins.fa n (Opd.t s))
def bW(d s n:Nat):Op2:=Op2.mk (some d) none (Ins.ext (Opd.t s) n)
def aM(d f:Nat)(l:List Opd):Op2:=Op2.mk (some d) none (Ins.call (Opd.c (AV.func f [])) l)
def aW(d:Nat)(o:BinOp)(x y:Nat):Op2:=Op2.mk (some d) none (Ins.bin o false false (Opd.t x) (Opd.t y))
def ar(d:Nat)(o:BinOp)(x:Nat)(y:Int):Op2:=Op2.mk (some d) none (Ins.bin o false false (Opd.t x) (Opd.c (AV.int IntKind.i64 y)))
def a7(n p v:Nat):Op2:=Op2.mk none none (Ins.st n (Opd.t p) (Opd.t v))
def aJ(d g:Nat)(i:Ins):Op2:=Op2.mk (some d) (some (g,false)) i
def aq(d g:Nat)(i:Ins):Op2:=Op2.mk (some d) (some (g,true)) i
def co(n:Nat)(x y:C2):C2:=C2.cond (Opd.t n) x y
def ae(l:List Op2)(x:C2):C2:=C2.seq (C2.ops 0 l) x
def cW(k b:Nat):C2:=C2.ops 0 [Op2.mk (some k) none (Ins.bin BinOp.add false false (Opd.t b) (Opd.c (AV.int IntKind.i64 1))),Op2.mk (some b) none (Ins.mov (Opd.t k))]
def Gu(k n:Nat)(x:C2):C2:=C2.seq (C2.cond (Opd.t k) C2.skip (C2.exit n)) x
def dh(k a b n:Nat)(x:C2):C2:=C2.seq (C2.ops 0 [Op2.mk (some k) none (Ins.bin BinOp.lss false false (Opd.t a) (Opd.t b))]) (C2.seq (C2.cond (Opd.t k) C2.skip (C2.exit n)) x)
def ao(d:Nat)(k:Int):Op2:=Op2.mk (some d) none (Ins.mov (Opd.c (AV.int IntKind.i64 k)))
def dQ(d p a:Nat):Op2:=Op2.mk (some d) none (Ins.pick (Opd.t p) (Opd.c (AV.bool true)) (Opd.t a))
def en(d p a:Nat):Op2:=Op2.mk (some d) none (Ins.pick (Opd.t p) (Opd.t a) (Opd.c (AV.bool false)))
def bS(d s:Nat):Op2:=Op2.mk (some d) none (Ins.box (Opd.t s))
def aE(d n s i:Nat):Op2:=Op2.mk (some d) none (Ins.ixaS n (Opd.t s) (Opd.t i))
def ie(d s:Nat):Op2:=Op2.mk (some d) none (Ins.un UnOp.not (Opd.t s))
def fX(d n b s x:Nat):Op2:=Op2.mk (some d) none (Ins.app n b (Opd.t s) (Opd.t x))
def dr(d:Nat):Op2:=Op2.mk (some d) none (Ins.mov (Opd.c AV.esl))
def ct(d:Nat):Op2:=Op2.mk (some d) none (Ins.mov (Opd.c (AV.bool false)))
def kB(d:Nat):Op2:=Op2.mk (some d) none (Ins.mov (Opd.c (AV.bool true)))
def am(l:List Op2):C2:=C2.seq (C2.ops 0 l) C2.ret
def az(n:Nat)(x:C2):C2:=C2.cond (Opd.t n) x C2.skip
def ag:AV:=AV.int IntKind.i64 0
theorem av:(∀(d:Nat)(i:Ins),cO d i=Op2.mk (some d) none i)/\(∀(d g:Nat)(b:Bool)(i:Ins),cG d g b i=Op2.mk (some d) (some (g,b)) i)/\(∀(k:Int),cN k=Opd.c (AV.int IntKind.i64 k))/\(∀(n:Nat),cM n=Ins.mov (Opd.t n))/\(∀(n:Nat),cD n=Ins.ld1 (Opd.t n))/\(∀(n:Nat),cF n=Opd.c (AV.func n []))/\(∀(o:BinOp)(x y:Opd),cB o x y=Ins.bin o false false x y)/\(IQ=Opd.c (AV.bool false))/\(Mb=Opd.c (AV.bool true))/\(∀(d s:Nat),aa d s=Op2.mk (some d) none (Ins.mov (Opd.t s)))/\(∀(d s:Nat),aj d s=Op2.mk (some d) none (Ins.ld1 (Opd.t s)))/\(∀(d n s:Nat),aY d n s=Op2.mk (some d) none (Ins.ldn n (Opd.t s)))/\(∀(d s:Nat),aV d s=Op2.mk (some d) none (Ins.lenS (Opd.t s)))/\(∀(d n s:Nat),aw d n s=Op2.mk (some d) none (Ins.fa n (Opd.t s)))/\(∀(d s n:Nat),bW d s n=Op2.mk (some d) none (Ins.ext (Opd.t s) n))/\(∀(d f:Nat)(l:List Opd),aM d f l=Op2.mk (some d) none (Ins.call (Opd.c (AV.func f [])) l))/\(∀(d:Nat)(o:BinOp)(x y:Nat),aW d o x y=Op2.mk (some d) none (Ins.bin o false false (Opd.t x) (Opd.t y)))/\(∀(d:Nat)(o:BinOp)(x:Nat)(y:Int),ar d o x y=Op2.mk (some d) none (Ins.bin o false false (Opd.t x) (Opd.c (AV.int IntKind.i64 y))))/\(∀(n p v:Nat),a7 n p v=Op2.mk none none (Ins.st n (Opd.t p) (Opd.t v)))/\(∀(d g:Nat)(i:Ins),aJ d g i=Op2.mk (some d) (some (g,false)) i)/\(∀(d g:Nat)(i:Ins),aq d g i=Op2.mk (some d) (some (g,true)) i)/\(∀(n:Nat)(x y:C2),co n x y=C2.cond (Opd.t n) x y)/\(∀(l:List Op2)(x:C2),ae l x=C2.seq (C2.ops 0 l) x)/\(∀(k b:Nat),cW k b=C2.ops 0 [Op2.mk (some k) none (Ins.bin BinOp.add false false (Opd.t b) (Opd.c (AV.int IntKind.i64 1))),Op2.mk (some b) none (Ins.mov (Opd.t k))])/\(∀(k n:Nat)(x:C2),Gu k n x=C2.seq (C2.cond (Opd.t k) C2.skip (C2.exit n)) x)/\(∀(k a b n:Nat)(x:C2),dh k a b n x=C2.seq (C2.ops 0 [Op2.mk (some k) none (Ins.bin BinOp.lss false false (Opd.t a) (Opd.t b))]) (C2.seq (C2.cond (Opd.t k) C2.skip (C2.exit n)) x))/\(∀(d:Nat)(k:Int),ao d k=Op2.mk (some d) none (Ins.mov (Opd.c (AV.int IntKind.i64 k))))/\(∀(d p a:Nat),dQ d p a=Op2.mk (some d) none (Ins.pick (Opd.t p) (Opd.c (AV.bool true)) (Opd.t a)))/\(∀(d p a:Nat),en d p a=Op2.mk (some d) none (Ins.pick (Opd.t p) (Opd.t a) (Opd.c (AV.bool false))))/\(∀(d s:Nat),bS d s=Op2.mk (some d) none (Ins.box (Opd.t s)))/\(∀(d n s i:Nat),aE d n s i=Op2.mk (some d) none (Ins.ixaS n (Opd.t s) (Opd.t i)))/\(∀(d s:Nat),ie d s=Op2.mk (some d) none (Ins.un UnOp.not (Opd.t s)))/\(∀(d n b s x:Nat),fX d n b s x=Op2.mk (some d) none (Ins.app n b (Opd.t s) (Opd.t x)))/\(∀(d:Nat),dr d=Op2.mk (some d) none (Ins.mov (Opd.c AV.esl)))/\(∀(d:Nat),ct d=Op2.mk (some d) none (Ins.mov (Opd.c (AV.bool false))))/\(∀(d:Nat),kB d=Op2.mk (some d) none (Ins.mov (Opd.c (AV.bool true))))/\(∀(l:List Op2),am l=C2.seq (C2.ops 0 l) C2.ret)/\(∀(n:Nat)(x:C2),az n x=C2.cond (Opd.t n) x C2.skip)/\(ag=AV.int IntKind.i64 0):=⟨λ_ _=>rfl,λ_ _ _ _=>rfl,λ_=>rfl,λ_=>rfl,λ_=>rfl,λ_=>rfl,λ_ _ _=>rfl,rfl,rfl,λ_ _=>rfl,λ_ _=>rfl,λ_ _ _=>rfl,λ_ _=>rfl,λ_ _ _=>rfl,λ_ _ _=>rfl,λ_ _ _=>rfl,λ_ _ _ _=>rfl,λ_ _ _ _=>rfl,λ_ _ _=>rfl,λ_ _ _=>rfl,λ_ _ _=>rfl,λ_ _ _=>rfl,λ_ _=>rfl,λ_ _=>rfl,λ_ _ _=>rfl,λ_ _ _ _ _=>rfl,λ_ _=>rfl,λ_ _ _=>rfl,λ_ _ _=>rfl,λ_ _=>rfl,λ_ _ _ _=>rfl,λ_ _=>rfl,λ_ _ _ _ _=>rfl,λ_=>rfl,λ_=>rfl,λ_=>rfl,λ_=>rfl,λ_ _=>rfl,rfl⟩
theorem mkI{P:Program}{f:FuncId}{F:F2}{fn:Func}(h1:P.funcs[f]?=some fn)(h2:zq P fn=some F:=by kernel_rfl):Is P f F:=Is.mk' h1 h2
theorem follows:Tryz.prog.follows .mixedOrders=true:=by rfl
abbrev pU:=@Go.Abs.Pure Tryz.prog
theorem pO{f:FuncId}{F:F2}{args:List AV}{r:AV}(hf:Is Tryz.prog f F)(hb:aG Tryz.prog F.body (T0 args) bK 0 λe T H nx=>aK e.ends (bq T H (λx=>Snap H x r) F.res))(hl:args.length<=F.n:=by exact Nat.le_of_ble_eq_true rfl):Go.Abs.Pure Tryz.prog f args r:=Go.Abs.Pure.of_c2 follows hf hl hb
theorem fO{f:FuncId}{F:F2}{args:List AV}{H:Hp}{nx:Nat}{K:AV->Hp->Nat->Prop}(hf:Is Tryz.prog f F)(hb:aG Tryz.prog F.body (T0 args) H nx λe T H nx=>aK e.ends (bq T H (λx=>K x H nx) F.res))(hl:args.length<=F.n:=by exact Nat.le_of_ble_eq_true rfl):Go.Abs.Fn Tryz.prog f args H nx K:=Go.Abs.Fn.of_c2 follows hf hl hb
theorem qO{f:FuncId}{F:F2}{args:List AV}{r:AV}(hf:Is Tryz.prog f F)(hb:aG Tryz.prog F.body (T0 args) bK 0 λe T H nx=>aK e.ends (bq T H (λx=>SnapF H x r) F.res))(hl:args.length<=F.n:=by exact Nat.le_of_ble_eq_true rfl):Go.Abs.PureF Tryz.prog f args r:=Go.Abs.PureF.of_c2 follows hf hl hb
def b4:F2:=(F2.mk 148 [RV.t 4] (ae [bS 2 0,bS 3 1,ct 4] ((ae [aM 20 5 [],ie 21 20] (az 21 (am [ct 4]))).seq (ae [aY 23 7 2,aM 24 6 [t 23],aa 22 24,bW 25 22 0,bW 26 22 1,bW 27 22 2,bW 28 22 3,cO 5 (alloc (AV.agg [ag,ag,ag,AV.esl,ag,AV.esl,ag,ag,AV.esl,AV.esl])),a7 10 5 25,aa 6 26,aa 7 27,aa 8 28] ((ae [aa 29 7,ie 30 29] (az 30 (am [aa 31 8,aa 4 31]))).seq ((ops 1 [cO 32 (ixaA 2 1 (t 3) (cN 0)),aj 33 32,cO 34 (conv IntKind.i64 (t 33)),aa 35 6,aV 36 35,aW 37 .rem 34 36,cO 38 (ixaA 2 1 (t 3) (cN 1)),aj 39 38,cO 40 (conv IntKind.i64 (t 39)),aa 41 6,aV 42 41,aW 43 .rem 40 42,aa 9 37,aa 10 43]).seq (ae [aY 45 10 5,aM 46 13 [t 45],aa 44 46,bW 47 44 0,bW 48 44 1,cO 11 (alloc (AV.agg [AV.esl])),a7 1 11 47,aa 12 48] (ae [aY 50 1 11,aM 51 14 [t 50],aa 49 51,bW 52 49 0,bW 53 49 1,aa 13 52,aa 14 53] (ae [aY 55 10 5,aM 56 15 [t 55],aa 54 56,bW 57 54 0,bW 58 54 1,aa 15 57,aa 16 58] ((ae [aa 59 12,aa 60 14,aW 61 .add 59 60,aa 62 16,aW 63 .add 61 62,ar 64 .neq 63 0,aa 65 64,aJ 66 65 (cM 13),aJ 67 65 (lenS (t 66)),aJ 68 65 (fa 0 (t 11)),aJ 69 65 (cD 68),aJ 70 65 (lenS (t 69)),aJ 71 65 (cB .neq (t 67) (t 70)),dQ 72 65 71,aa 73 72,aJ 74 73 (cM 15),aJ 75 73 (lenS (t 74)),aJ 76 73 (cM 6),aJ 77 73 (lenS (t 76)),aJ 78 73 (cB .neq (t 75) (t 77)),dQ 79 73 78] (az 79 (am [ct 4]))).seq ((ae [aa 80 6,aa 81 9,aE 82 1 80 81,aj 83 82,aV 84 83,ar 85 .eql 84 0,aa 86 85,aJ 87 86 (cM 6),aJ 88 86 (cM 10),aJ 89 86 (ixaS 1 (t 87) (t 88)),aJ 90 86 (cD 89),aJ 91 86 (lenS (t 90)),aJ 92 86 (cB .eql (t 91) (cN 0)),dQ 93 86 92] (az 93 ((ops 1 [aa 94 9,aa 95 10,aW 96 .eql 94 95,aa 97 96,aJ 98 97 (cM 15),aJ 99 97 (cM 9),aJ 100 97 (ixaS 1 (t 98) (t 99)),aJ 101 97 (cD 100),aJ 102 97 (cM 15),aJ 103 97 (cM 10),aJ 104 97 (ixaS 1 (t 102) (t 103)),aJ 105 97 (cD 104),aJ 106 97 (cB .neq (t 101) (t 105)),dQ 107 97 106,aa 4 107]).seq ret))).seq (ae [cO 108 (mkfn 16 [t 11]),aa 17 108] ((mixS 1 [aa 109 17,aa 110 6,aa 111 9,aE 112 1 110 111,aj 113 112,cO 114 (call (t 109) [t 113]),aa 115 17,aa 116 6,aa 117 10,aE 118 1 116 117,aj 119 118,cO 120 (call (t 115) [t 119]),aa 18 114,aa 19 120] [(0,0),(1,0),(2,0),(3,0),(4,0),(6,0),(7,0),(8,0),(9,0),(10,0),(5,1),(11,2),(12,0),(13,0)]).seq ((ops 1 [aa 121 18,ar 122 .geq 121 0,aa 123 122,aq 124 123 (cM 19),aq 125 123 (cB .geq (t 124) (cN 0)),en 126 123 125,aa 127 126,aq 128 127 (cM 13),aq 129 127 (cM 18),aq 130 127 (ixaS 1 (t 128) (t 129)),aq 131 127 (cD 130),aq 132 127 (cM 13),aq 133 127 (cM 19),aq 134 127 (ixaS 1 (t 132) (t 133)),aq 135 127 (cD 134),aq 136 127 (cB .eql (t 131) (t 135)),aq 137 127 (cM 15),aq 138 127 (cM 9),aq 139 127 (ixaS 1 (t 137) (t 138)),aq 140 127 (cD 139),aq 141 127 (cM 15),aq 142 127 (cM 10),aq 143 127 (ixaS 1 (t 141) (t 142)),aq 144 127 (cD 143),aq 145 127 (cB .eql (t 140) (t 144)),aq 146 127 (bin BinOp.eql true false (t 136) (t 145)),en 147 127 146,aa 4 147]).seq ret))))))))))))))
theorem is4:Is Tryz.prog 4 b4:=mkI Tryz.func4
def b5:F2:=(F2.mk 75 [RV.t 0] (ae [ct 0] (ae [aM 13 21 ([cN ((1))]),aM 14 20 [t 13],aa 12 14,bW 15 12 0,bW 16 12 1,cO 1 (alloc (AV.agg [ag,ag,ag,AV.esl,ag,AV.esl,ag,ag,AV.esl,AV.esl])),a7 10 1 15,aa 2 16] (ae [aY 18 10 1,aM 19 13 [t 18],aa 17 19,bW 20 17 0,bW 21 17 1,cO 3 (alloc (AV.agg [AV.esl])),a7 1 3 20,aa 4 21] (ae [aY 23 1 3,aM 24 22 [t 23],aa 22 24,bW 25 22 0,bW 26 22 1,aa 5 25,aa 6 26] (ae [aY 28 10 1,aM 29 15 [t 28],aa 27 29,bW 30 27 0,bW 31 27 1,aa 7 30,aa 8 31] (ae [aY 33 10 1,aM 34 23 ([t 33,cN ((0)),cN ((11))]),aa 32 34,bW 35 32 0,bW 36 32 1,bW 37 32 2,aa 9 35,aa 10 36,aa 11 37] (am [aa 38 2,aa 39 4,aW 40 .add 38 39,aa 41 6,aW 42 .add 40 41,aa 43 8,aW 44 .add 42 43,aa 45 11,aW 46 .add 44 45,ar 47 .eql 46 0,aa 48 47,aq 49 48 (fa 0 (t 3)),aq 50 48 (cD 49),aq 51 48 (lenS (t 50)),aq 52 48 (cB .eql (t 51) (cN 12)),en 53 48 52,aa 54 53,aq 55 54 (cM 5),aq 56 54 (cB .eql (t 55) (cN 0)),en 57 54 56,aa 58 57,aq 59 58 (cM 7),aq 60 58 (lenS (t 59)),aq 61 58 (cB .eql (t 60) (cN 12)),en 62 58 61,aa 63 62,aq 64 63 (cM 7),aq 65 63 (call (cF 24) [t 64]),aq 66 63 (cB .eql (t 65) (cN 0)),en 67 63 66,aa 68 67,aq 69 68 (cM 10),en 70 68 69,aa 71 70,aq 72 71 (cM 9),aq 73 71 (cB .gtr (t 72) (cN 0)),en 74 71 73,aa 0 74]))))))))
theorem is5:Is Tryz.prog 5 b5:=mkI Tryz.func5
def b6:F2:=(F2.mk 56 [RV.cn 2 10,RV.t 3,RV.t 4,RV.t 5] (ae [bS 1 0,cO 2 (alloc (AV.agg [ag,ag,ag,AV.esl,ag,AV.esl,ag,ag,AV.esl,AV.esl])),dr 3,ct 4,ct 5] ((ae [aY 12 7 1,aM 13 25 [t 12],ie 14 13] (az 14 (am [cO 15 (bld [ag,ag,ag,AV.esl,ag,AV.esl,ag,ag,AV.esl,AV.esl] []),a7 10 2 15,dr 3,ct 4,kB 5]))).seq (ae [aY 17 7 1,aM 18 20 [t 17],aa 16 18,bW 19 16 0,bW 20 16 1,cO 6 (alloc (AV.agg [ag,ag,ag,AV.esl,ag,AV.esl,ag,ag,AV.esl,AV.esl])),a7 10 6 19,aa 7 20] ((ae [aa 21 7,ar 22 .neq 21 0,aa 23 22,aJ 24 23 (fa 9 (t 6)),aJ 25 23 (cD 24),aJ 26 23 (lenS (t 25)),aJ 27 23 (cB .eql (t 26) (cN 0)),dQ 28 23 27] (az 28 (am [aY 29 10 6,a7 10 2 29,dr 3,ct 4,ct 5]))).seq (ae [dr 8] ((ae [aw 30 9 6,aj 31 30,aV 32 31,ao 33 0] (block 0 ((dh 34 33 32 0 ((block 1 (ae [aa 35 33,aa 9 35] (ae [aY 37 10 6,aa 38 9,aM 39 26 [t 37,t 38],aa 36 39,bW 40 36 0,bW 41 36 1,aa 10 40,aa 11 41] ((ae [aa 42 11,ar 43 .neq 42 0,aa 44 43,aq 45 44 (cM 11),aq 46 44 (cB .neq (t 45) (cN 16)),en 47 44 46] (az 47 (am [aY 48 10 6,a7 10 2 48,dr 3,ct 4,ct 5]))).seq (ops 0 [aa 49 8,aa 50 10,cO 51 (bldS 1 1 [AV.esl] [(0,1,t 50)]),fX 52 1 24 49 51,aa 8 52]))))).seq (cW 53 33)))).loop)).seq (am [aY 54 10 6,aa 55 8,a7 10 2 54,aa 3 55,kB 4,kB 5]))))))))
theorem is6:Is Tryz.prog 6 b6:=mkI Tryz.func6
def b8:F2:=(F2.mk 48 [RV.t 4] (ae [dr 4] ((ae [aa 9 1,ar 10 .lss 9 0] (az 10 (ops 0 [cO 11 dead,Op2.mk none none dead]))).seq (ae [aa 13 0,aV 14 13,cO 15 (conv IntKind.u64 (t 14)),aa 16 1,cO 17 (conv IntKind.u64 (t 16)),aM 18 30 [t 15,t 17],aa 12 18,bW 19 12 0,bW 20 12 1,aa 5 19,aa 6 20] ((ae [aa 21 5,cO 22 (cB .gtr (t 21) (c (AV.int IntKind.u64 (0)))),aa 23 22,aJ 24 23 (cM 6),aJ 25 23 (cB .gtr (t 24) (c (AV.int IntKind.u64 (9223372036854775807)))),dQ 26 23 25] (az 26 (ops 0 [cO 27 dead,Op2.mk none none dead]))).seq (ae [aa 28 6,cO 29 (conv IntKind.i64 (t 28)),cO 30 (mks 1 8 [ag] (t 29) (t 29)),aa 7 30] (ae [aa 31 7,aa 32 0,cO 33 (cpy 1 (t 31) (t 32)),aa 8 33] ((block 0 ((ae [aa 34 8,aa 35 7,aV 36 35,aW 37 .lss 34 36] (co 37 skip (exit 0))).seq (block 1 (mix 9 [aa 38 8,aa 39 7,aa 40 8,cO 41 (sls 1 (t 39) (some (t 40)) none none),aa 42 7,aa 43 8,cO 44 (sls 1 (t 42) none (some (t 43)) none),cO 45 (cpy 1 (t 41) (t 44)),aW 46 .add 38 45,aa 8 46] [0,1,2,3,4,5,6,7,8,9]))).loop).seq (am [aa 47 7,aa 4 47])))))))))
theorem is8:Is Tryz.prog 8 b8:=mkI Tryz.func8
def b9:F2:=(F2.mk 9 [RV.t 4] (ae [ct 4] (am [aa 5 0,aa 6 1,aM 7 31 [t 5,t 6],ar 8 .geq 7 0,aa 4 8])))
def b11:F2:=(F2.mk 9 [RV.t 4] (ae [bS 3 1,ct 4] (am [aa 5 0,aY 6 2 3,aM 7 32 [t 5,t 6],ar 8 .geq 7 0,aa 4 8])))
theorem Qa:Is Tryz.prog 11 b11:=mkI Tryz.func11
def b13:F2:=(F2.mk 15 [RV.cn 2 1,RV.t 3] (ae [bS 1 0,cO 2 (alloc (AV.agg [AV.esl])),ao 3 0] ((ae [aY 5 10 1,aM 6 33 [t 5],aa 4 6] (ae [aa 7 4,ar 8 .neq 7 0] (az 8 (am [cO 9 (bld [AV.esl] []),aa 10 4,a7 1 2 9,aa 3 10])))).seq (am [aY 11 10 1,aM 12 34 ([t 11,cN ((-1))]),bW 13 12 0,bW 14 12 1,a7 1 2 13,aa 3 14]))))
theorem P6:Is Tryz.prog 13 b13:=mkI Tryz.func13
def b14:F2:=(F2.mk 90 [RV.t 2,RV.t 3] (ae [bS 1 0,dr 2,ao 3 0] ((ae [aY 20 1 1,aM 21 35 [t 20],aa 4 21] (ae [aa 22 4,ar 23 .neq 22 0] (az 23 (am [aa 24 4,dr 2,aa 3 24])))).seq (ae [cO 25 (mkm none),cO 5 (alloc AV.nilm),a7 1 5 25] (ae [cO 26 (mkfn 36 [t 5]),aa 6 26] ((ae [aw 27 0 1,aj 28 27,aV 29 28,ao 30 0] (block 0 ((dh 31 30 29 0 ((block 1 (ae [aE 32 1 28 30,aj 33 32,aa 8 33] (ae [aa 34 8,cO 35 (sls 2 (t 34) (some (cN 1)) none none),aV 36 35,ao 37 0] (block 2 ((dh 38 37 36 2 ((block 3 (ae [aE 39 2 35 37,aY 40 2 39,cO 10 (alloc (AV.agg [ag,ag])),a7 2 10 40] ((anyI [aa 41 6,aa 42 8,cO 43 (ixaS 2 (t 42) (cN 0)),aY 44 2 43,cO 45 (call (t 41) [t 44]),aa 46 6,aY 47 2 10,cO 48 (call (t 46) [t 47]),cO 11 (alloc (AV.agg [ag,ag])),cO 12 (alloc (AV.agg [ag,ag])),a7 2 11 45,a7 2 12 48] [[],[],[1],[1,2],[0,1,2,3],[],[],[0,1,2,3,4,5,6],[],[],[0,1,2,3,4,5,6,7,8,9],[0,1,2,3,4,5,6,7,8,9,10]]).seq (ae [aY 49 2 11,aY 50 2 12,cO 51 (binS BinOp.neq [int,int] (t 49) (t 50))] (az 51 (ops 0 [aj 52 5,aY 53 2 11,aY 54 2 12,Op2.mk none none (mput (MK.st [int,int]) (t 52) (t 53) (t 54))])))))).seq (cW 55 37)))).loop)))).seq (cW 56 30)))).loop)).seq (ae [cO 57 (mkm none),aa 13 57] (ae [dr 14] ((ae [aw 58 0 1,aj 59 58,aV 60 59,ao 61 0] (block 4 ((dh 62 61 60 4 ((block 5 (ae [aE 63 1 59 61,aj 64 63,aa 16 64] (ae [aa 65 6,aa 66 16,cO 67 (ixaS 2 (t 66) (cN 0)),aY 68 2 67,cO 69 (call (t 65) [t 68]),cO 17 (alloc (AV.agg [ag,ag])),a7 2 17 69] ((ae [aa 71 13,aY 72 2 17,cO 73 (Ins.mget (MK.st [int,int]) (ag) true (t 71) (t 72)),aa 70 73,bW 74 70 0,bW 75 70 1,aa 18 74,aa 19 75] (ae [aa 76 19,ie 77 76] (az 77 (ops 0 [aa 78 13,aY 79 2 17,aa 80 13,cO 81 (mlen (t 80)),Op2.mk none none (mput (MK.st [int,int]) (t 78) (t 79) (t 81))])))).seq (ops 0 [aa 82 14,aa 83 13,aY 84 2 17,cO 85 (Ins.mget (MK.st [int,int]) (ag) false (t 83) (t 84)),cO 86 (bldS 1 1 [ag] [(0,1,t 85)]),fX 87 1 8 82 86,aa 14 87]))))).seq (cW 88 61)))).loop)).seq (am [aa 89 14,aa 2 89,ao 3 0]))))))))))
theorem Qc:Is Tryz.prog 14 b14:=mkI Tryz.func14
def b15:F2:=(F2.mk 38 [RV.t 2,RV.t 3] (ae [bS 1 0,dr 2,ao 3 0] (ae [aY 9 10 1,aM 10 37 [t 9],aa 8 10,bW 11 8 0,bW 12 8 1,aa 4 11,aa 5 12] ((ae [aa 13 5,ar 14 .neq 13 0] (az 14 (am [aa 15 5,dr 2,aa 3 15]))).seq (ae [aa 16 4,aM 17 38 ([t 16,cN ((0))]),aa 6 17] ((ae [ao 7 1] (block 0 ((ae [aa 18 7,aa 19 4,cO 20 (nilck (t 19)),aw 21 0 20,aj 22 21,aW 23 .lss 18 22] (co 23 skip (exit 0))).seq ((block 1 (ae [aa 27 6,aa 28 4,aa 29 7,aM 30 38 [t 28,t 29],aM 31 39 [t 27,t 30],aa 26 31,bW 32 26 0,bW 33 26 1,aa 6 32,aa 5 33] (ae [aa 34 5,ar 35 .neq 34 0] (az 35 (am [aa 36 5,dr 2,aa 3 36]))))).seq (ops 0 [aa 24 7,ar 25 .add 24 1,aa 7 25]))).loop)).seq (am [aa 37 6,aa 2 37,ao 3 0])))))))
theorem P4:Is Tryz.prog 15 b15:=mkI Tryz.func15
def b16:F2:=(F2.mk 8 [RV.t 3] (ae [bS 2 0,ao 3 0] (am [aw 4 0 1,aj 5 4,cO 6 (mkfn 18 [t 2]),aM 7 17 [t 5,t 6],aa 3 7])))
theorem P5:Is Tryz.prog 16 b16:=mkI Tryz.func16
def b17:F2:=(F2.mk 19 [RV.t 4] (ae [ao 4 0] ((ae [aa 6 0,aV 7 6,ao 8 0] (block 0 ((dh 9 8 7 0 ((block 1 (ae [aa 10 8,aa 5 10] (ae [aa 11 1,aa 12 0,aa 13 5,aE 14 1 12 13,aj 15 14,cO 16 (call (t 11) [t 15])] (az 16 (am [aa 17 5,aa 4 17]))))).seq (cW 18 8)))).loop)).seq (am [cO 4 (mov (cN ((-1))))]))))
theorem Qe:Is Tryz.prog 17 b17:=mkI Tryz.func17
def b18:F2:=(F2.mk 13 [RV.t 3] (ae [ct 3] (ae [aj 7 1,aa 8 0,aM 9 19 [t 7,t 8],aa 6 9,bW 10 6 0,bW 11 6 1,aa 4 10,aa 5 11] (am [aa 12 4,aa 3 12]))))
theorem QM:Is Tryz.prog 18 b18:=mkI Tryz.func18
def b19:F2:=(F2.mk 21 [RV.t 4,RV.t 5] (ae [ct 4,ao 5 0] ((ae [aa 7 0,aa 8 1,aM 9 40 [t 7,t 8],aa 6 9] (ae [aa 10 6,ar 11 .neq 10 0] (az 11 (am [aa 12 6,ct 4,aa 5 12])))).seq (am [aa 13 0,aa 14 1,aM 15 42 [t 14],aM 16 41 [t 13,t 15],aV 17 16,aa 18 0,aV 19 18,aW 20 .eql 17 19,aa 4 20,ao 5 0]))))
theorem P7:Is Tryz.prog 19 b19:=mkI Tryz.func19
def b20:F2:=(F2.mk 86 [RV.cn 2 10,RV.c1 3] (ae [bS 1 0,cO 2 (alloc (AV.agg [ag,ag,ag,AV.esl,ag,AV.esl,ag,ag,AV.esl,AV.esl])),cO 3 (alloc (ag))] (ae [aY 12 7 1,aM 13 43 [t 12],aa 11 13,bW 14 11 0,bW 15 11 1,aa 4 14,aa 5 15] ((ae [aa 16 5,ar 17 .neq 16 0] (az 17 (am [cO 18 (bld [ag,ag,ag,AV.esl,ag,AV.esl,ag,ag,AV.esl,AV.esl] []),aa 19 5,a7 10 2 18,a7 1 3 19]))).seq ((ae [aa 20 4,ar 21 .gtr 20 4096] (az 21 (am [cO 22 (bld [ag,ag,ag,AV.esl,ag,AV.esl,ag,ag,AV.esl,AV.esl] []),a7 10 2 22,Op2.mk none none (Ins.st 1 (t 3) (cN 17))]))).seq (ae [aw 24 4 1,aY 25 2 24,aw 26 6 1,aj 27 26,aM 28 44 [t 25,t 27],aa 23 28,bW 29 23 0,bW 30 23 1,aa 6 29,aa 5 30] ((ae [aa 31 5,ar 32 .neq 31 0] (az 32 (am [cO 33 (bld [ag,ag,ag,AV.esl,ag,AV.esl,ag,ag,AV.esl,AV.esl] []),aa 34 5,a7 10 2 33,a7 1 3 34]))).seq (ae [aY 35 7 1,aM 36 45 [t 35],cO 37 (bld [ag,ag,ag,AV.esl,ag,AV.esl,ag,ag,AV.esl,AV.esl] [(0,7,t 36)]),cO 7 (alloc (AV.agg [ag,ag,ag,AV.esl,ag,AV.esl,ag,ag,AV.esl,AV.esl])),a7 10 7 37] (ae [aw 38 0 1,aw 39 0 38,aj 40 39,cO 41 (mkm none),cO 42 (bld [ag,AV.esl,AV.nilm] [(0,1,t 40),(2,1,t 41)]),bS 43 42,cO 8 (alloc AV.nilp),a7 1 8 43] ((ae [aY 44 7 1,aa 45 6,aM 46 46 [t 44,t 45]] (block 0 (rangeF (t 46) [47,48] (ae [aa 9 47] (ops 0 [aa 10 48])) (block 1 ((mixS 1 [aw 49 9 7,aj 50 49,aa 51 9,aa 52 10,aM 53 47 [t 52],aj 54 8,aw 55 0 1,aw 56 3 55,aj 57 56,aa 58 9,aE 59 3 57 58,aw 60 0 59,aj 61 60,aa 62 10,aM 63 48 [t 54,t 61,t 62],cO 64 (bld [ag,AV.esl,AV.esl] [(0,1,t 51),(1,1,t 53),(2,1,t 63)]),cO 65 (bldS 3 1 [ag,AV.esl,AV.esl] [(0,3,t 64)]),fX 66 3 56 50 65,aw 67 9 7,a7 1 67 66] [(0,0),(1,0),(2,0),(3,0),(5,0),(6,0),(7,0),(8,0),(9,0),(10,0),(11,0),(12,0),(13,0),(4,1),(14,1),(15,0),(16,1),(17,2),(18,0),(19,2)]).seq (ae [aj 68 8,cO 69 (nilck (t 68)),aw 70 1 69,aj 71 70,aV 72 71,ar 73 .gtr 72 8192] (az 73 (am [cO 74 (bld [ag,ag,ag,AV.esl,ag,AV.esl,ag,ag,AV.esl,AV.esl] []),a7 10 2 74,Op2.mk none none (Ins.st 1 (t 3) (cN 17))])))))))).seq ((ops 1 [aj 75 8,cO 76 (nilck (t 75)),aw 77 0 76,aj 78 77,aj 79 8,cO 80 (nilck (t 79)),aw 81 1 80,aj 82 81,cO 83 (bld [ag,AV.esl] [(0,1,t 78),(1,1,t 82)]),aw 84 7 7,a7 2 84 83]).seq (am [aY 85 10 7,a7 10 2 85,Op2.mk none none (Ins.st 1 (t 3) (cN 0))]))))))))))))
theorem QE:Is Tryz.prog 20 b20:=mkI Tryz.func20
def b21:F2:=(F2.mk 54 [RV.cn 2 7] (ae [cO 2 (alloc (AV.agg [ag,ag,ag,AV.esl,ag,AV.esl,ag]))] (ae [cO 8 (bldS 1 2 [ag] [(0,1,cN ((0))),(1,1,cN ((0)))]),cO 9 (bldS 1 2 [ag] [(0,1,cN ((1))),(1,1,cN ((1)))]),cO 10 (bldS 1 2 [AV.esl] [(0,1,t 8),(1,1,t 9)]),aa 3 10] ((ops 1 [cO 11 (bldS 1 2 [ag] [(0,1,cN ((0))),(1,1,cN ((0)))]),aa 12 3,cO 13 (sls 1 (t 12) none (some (cN 1)) none),cO 14 (bld [AV.esl,AV.esl,AV.esl] [(0,1,t 11),(1,1,t 13)]),cO 15 (bldS 1 2 [ag] [(0,1,cN ((0))),(1,1,cN ((1)))]),aa 16 3,cO 17 (bld [AV.esl,AV.esl,AV.esl] [(0,1,t 15),(1,1,t 16)]),cO 18 (bldS 1 2 [ag] [(0,1,cN ((1))),(1,1,cN ((0)))]),aa 19 3,cO 20 (bld [AV.esl,AV.esl,AV.esl] [(0,1,t 18),(1,1,t 19)]),cO 21 (bldS 1 2 [ag] [(0,1,cN ((1))),(1,1,cN ((1)))]),aa 22 3,cO 23 (sls 1 (t 22) (some (cN 1)) none none),cO 24 (bld [AV.esl,AV.esl,AV.esl] [(0,1,t 21),(1,1,t 23)]),cO 25 (bldS 3 4 [AV.esl,AV.esl,AV.esl] [(0,3,t 14),(3,3,t 17),(6,3,t 20),(9,3,t 24)]),cO 26 (bld [ag,ag,ag,AV.esl] [(0,1,cN ((2))),(1,1,cN ((2))),(2,1,cN ((2))),(3,1,t 25)]),cO 4 (alloc (AV.agg [ag,ag,ag,AV.esl])),a7 4 4 26]).seq (ae [dr 5] ((ae [cO 27 (bld [ag,ag] [(0,1,cN ((1))),(1,1,cN ((3)))]),cO 28 (bld [ag,ag] [(0,1,cN ((3))),(1,1,cN ((2)))]),cO 29 (bld [ag,ag] [(0,1,cN ((3))),(1,1,cN ((3)))]),cO 30 (bldS 2 3 [ag,ag] [(0,2,t 27),(2,2,t 28),(4,2,t 29)]),aV 31 30,ao 32 0] (block 0 ((dh 33 32 31 0 ((block 1 (ae [aE 34 2 30 32,aY 35 2 34,cO 7 (alloc (AV.agg [ag,ag])),a7 2 7 35] (ops 0 [aa 36 5,cO 37 (ixaA 2 1 (t 7) (cN 0)),aj 38 37,cO 39 (ixaA 2 1 (t 7) (cN 1)),aj 40 39,cO 41 (bld [ag,ag,ag,ag,ag] [(0,1,t 38),(1,1,t 40)]),cO 42 (bld [ag,ag,ag,ag,ag,ag] [(0,1,cN ((2))),(1,5,t 41)]),cO 43 (bld [ag,ag,ag,ag,ag,ag,ag] [(0,6,t 42)]),cO 44 (bld [ag,ag,ag,ag,ag,ag,ag,ag] [(0,7,t 43)]),cO 45 (bldS 8 1 [ag,ag,ag,ag,ag,ag,ag,ag] [(0,8,t 44)]),fX 46 8 64 36 45,aa 5 46]))).seq (cW 47 32)))).loop)).seq (am [aY 48 4 4,aa 49 5,cO 50 (bldS 1 1 [AV.esl] [(0,1,t 49)]),cO 51 (bld [ag,AV.esl] [(0,1,cN ((2))),(1,1,t 50)]),aa 52 0,cO 53 (bld [ag,ag,ag,AV.esl,ag,AV.esl,ag] [(0,4,t 48),(4,2,t 51),(6,1,t 52)]),a7 7 2 53])))))))
theorem Pp:Is Tryz.prog 21 b21:=mkI Tryz.func21
def b22:F2:=(F2.mk 40 [RV.t 2,RV.t 3] (ae [bS 1 0,ao 2 0,ao 3 0] ((ae [aY 9 1 1,aM 10 35 [t 9],aa 4 10] (ae [aa 11 4,ar 12 .neq 11 0] (az 12 (am [aa 13 4,ao 2 0,aa 3 13])))).seq (ae [ao 5 0] ((ae [ao 6 1] (block 0 ((ae [aa 14 6,ar 15 .leq 14 8] (co 15 skip (exit 0))).seq ((block 1 (ae [aw 19 0 1,aj 20 19,aa 21 6,aM 22 49 [t 20,t 21],aa 18 22,bW 23 18 0,bW 24 18 1,aa 7 23,aa 8 24] ((ae [aa 25 8,ar 26 .neq 25 0] (az 26 (am [aa 27 8,ao 2 0,aa 3 27]))).seq (ae [aa 28 6,ar 29 .rem 28 2,ar 30 .eql 29 1] (co 30 (ops 0 [aa 31 5,aa 32 7,aV 33 32,aW 34 .add 31 33,aa 5 34]) (ops 0 [aa 35 5,aa 36 7,aV 37 36,aW 38 .sub 35 37,aa 5 38])))))).seq (ops 0 [aa 16 6,ar 17 .add 16 1,aa 6 17]))).loop)).seq (am [aa 39 5,aa 2 39,ao 3 0]))))))
theorem Qi:Is Tryz.prog 22 b22:=mkI Tryz.func22
def b23:F2:=(F2.mk 33 [RV.t 6,RV.t 7,RV.t 8] (ae [bS 3 0,ao 6 0,ct 7,ao 8 0] (ae [aY 13 10 3,aa 14 1,aa 15 2,cO 16 (bldS 1 2 [ag] [(0,1,t 14),(1,1,t 15)]),aM 17 27 [t 13,t 16],aa 12 17,bW 18 12 0,bW 19 12 1,aa 9 18,aa 10 19] ((ae [aa 20 10,ar 21 .neq 20 0] (az 21 (am [aa 22 10,ao 6 0,ct 7,aa 8 22]))).seq (ae [aa 23 9,aa 24 2,aM 25 28 [t 23,t 24],aa 26 1,aE 27 1 25 26,aj 28 27,aa 11 28] (am [aa 29 11,cO 30 (mx (t 29) [cN ((0))]),aa 31 11,ar 32 .geq 31 0,aa 6 30,aa 7 32,ao 8 0]))))))
theorem Qv:Is Tryz.prog 23 b23:=mkI Tryz.func23
def b24:F2:=(F2.mk 25 [RV.t 2] (ae [ao 2 0] ((ae [aa 5 0,aV 6 5,ar 7 .lss 6 1] (az 7 (ops 0 [cO 8 dead,Op2.mk none none dead]))).seq (ae [aa 9 0,cO 10 (ixaS 1 (t 9) (cN 0)),aj 11 10,aa 3 11] ((ae [ao 4 1] (block 0 ((ae [aa 12 4,aa 13 0,aV 14 13,aW 15 .lss 12 14] (co 15 skip (exit 0))).seq ((block 1 (ops 0 [aa 18 3,aa 19 0,aa 20 4,aE 21 1 19 20,aj 22 21,cO 23 (mx (t 18) [t 22]),aa 3 23])).seq (ops 0 [aa 16 4,ar 17 .add 16 1,aa 4 17]))).loop)).seq (am [aa 24 3,aa 2 24]))))))
theorem QU:Is Tryz.prog 24 b24:=mkI Tryz.func24
def b25:F2:=(F2.mk 15 [RV.t 2] (ae [bS 1 0,ct 2] ((ae [aY 5 7 1,aM 6 50 [t 5],ie 7 6] (az 7 (am [ct 2]))).seq (ae [aY 9 7 1,aM 10 51 [t 9],aa 8 10,bW 11 8 0,bW 12 8 1,cO 3 (alloc (AV.agg [ag,ag,ag,AV.esl,ag,AV.esl,ag,ag,AV.esl,AV.esl])),a7 10 3 11,aa 4 12] (am [aa 13 4,ar 14 .eql 13 0,aa 2 14])))))
theorem Qg:Is Tryz.prog 25 b25:=mkI Tryz.func25
def b26:F2:=(F2.mk 32 [RV.t 4,RV.t 5] (ae [bS 2 0,dr 4,ao 5 0] ((ae [aY 8 10 2,aM 9 33 [t 8],aa 6 9] (ae [aa 10 6,ar 11 .neq 10 0] (az 11 (am [aa 12 6,dr 4,aa 5 12])))).seq ((ae [aa 13 1,ar 14 .lss 13 0,aa 15 14,aJ 16 15 (cM 1),aJ 17 15 (fa 9 (t 2)),aJ 18 15 (cD 17),aJ 19 15 (lenS (t 18)),aJ 20 15 (cB .geq (t 16) (t 19)),dQ 21 15 20] (az 21 (am [dr 4,ao 5 6]))).seq (ae [aw 22 9 2,aj 23 22,aa 24 1,aE 25 3 23 24,aY 26 3 25,aM 27 52 [t 26],aa 7 27] ((ae [aa 28 7,aV 29 28,ar 30 .eql 29 0] (az 30 (am [dr 4,ao 5 16]))).seq (am [aa 31 7,aa 4 31,ao 5 0])))))))
theorem Pu:Is Tryz.prog 26 b26:=mkI Tryz.func26
def b27:F2:=(F2.mk 30 [RV.t 4,RV.t 5] (ae [bS 2 0,cO 4 (mov (c AV.nilp)),ao 5 0] (ae [aY 11 10 2,aM 12 37 [t 11],aa 10 12,bW 13 10 0,bW 14 10 1,aa 6 13,aa 7 14] ((ae [aa 15 7,ar 16 .neq 15 0] (az 16 (am [aa 17 7,cO 4 (mov (c AV.nilp)),aa 5 17]))).seq ((ae [aa 18 1,aV 19 18,ao 20 0] (block 0 ((dh 21 20 19 0 ((block 1 (ae [aE 22 1 18 20,aj 23 22,aa 9 23] (ae [aa 24 6,aa 25 9,aM 26 53 [t 24,t 25],ie 27 26] (az 27 (am [cO 4 (mov (c AV.nilp)),ao 5 6]))))).seq (cW 28 20)))).loop)).seq (am [aa 29 6,aa 4 29,ao 5 0]))))))
theorem Ps:Is Tryz.prog 27 b27:=mkI Tryz.func27
def b28:F2:=(F2.mk 62 [RV.t 4] (ae [dr 4] (ae [aa 9 0,cO 10 (nilck (t 9)),aw 11 1 10,aj 12 11,aV 13 12,cO 14 (mks 1 8 [ag] (t 13) (t 13)),cO 5 (alloc AV.esl),a7 1 5 14] ((ae [aj 15 5,aV 16 15,ao 17 0] (block 0 ((dh 18 17 16 0 ((block 1 (ae [aa 19 17,aa 6 19] (ops 0 [aj 20 5,aa 21 6,aE 22 1 20 21,Op2.mk none none (Ins.st 1 (t 22) (cN ((-1))))]))).seq (cW 23 17)))).loop)).seq (ae [aj 24 5,aa 25 1,aE 26 1 24 25,Op2.mk none none (Ins.st 1 (t 26) (cN 0))] ((ae [aa 27 1,cO 28 (bldS 1 1 [ag] [(0,1,t 27)]),cO 7 (alloc AV.esl),a7 1 7 28] (block 2 ((ae [aj 29 7,aV 30 29,ar 31 .gtr 30 0] (co 31 skip (exit 2))).seq ((block 3 (ae [aa 34 0,aj 35 7,cO 36 (ixaS 1 (t 35) (cN 0)),aj 37 36,aM 38 29 [t 34,t 37]] (block 4 (rangeF (t 38) [39,40] (ops 0 [aa 8 39]) (block 5 (ae [aj 41 5,aa 42 8,aE 43 1 41 42,aj 44 43,ar 45 .lss 44 0] (az 45 ((ops 1 [aj 46 5,aa 47 8,aj 48 5,aj 49 7,cO 50 (ixaS 1 (t 49) (cN 0)),aj 51 50,aE 52 1 48 51,aj 53 52,ar 54 .add 53 1,aE 55 1 46 47,a7 1 55 54]).seq (ops 0 [aj 56 7,aa 57 8,cO 58 (bldS 1 1 [ag] [(0,1,t 57)]),fX 59 1 8 56 58,a7 1 7 59]))))))))).seq ((ae [aj 60 7] (ops 0 [cO 7 (alloc AV.esl),a7 1 7 60])).seq (ops 0 [aj 32 7,cO 33 (sls 1 (t 32) (some (cN 1)) none none),a7 1 7 33])))).loop)).seq (am [aj 61 5,aa 4 61])))))))
theorem Pn:Is Tryz.prog 28 b28:=mkI Tryz.func28
def b29:F2:=(F2.mk 6 [RV.t 4] (ae [bS 2 0,bS 3 1,cO 4 (mov (c AV.nilf))] (am [cO 5 (mkfn 54 [t 2,t 3]),aa 4 5])))
theorem PG:Is Tryz.prog 29 b29:=mkI Tryz.func29
def b30:F2:=(F2.mk 30 [RV.t 4,RV.t 5] (ae [cO 4 (mov (c (AV.int IntKind.u64 (0)))),cO 5 (mov (c (AV.int IntKind.u64 (0))))] ((C2.cond IQ (ae [aa 11 0,cO 12 (conv IntKind.u32 (t 11)),aa 13 1,cO 14 (conv IntKind.u32 (t 13)),aM 15 56 [t 12,t 14],aa 10 15,bW 16 10 0,bW 17 10 1,aa 6 16,aa 7 17] (am [aa 18 6,cO 19 (conv IntKind.u64 (t 18)),aa 20 7,cO 21 (conv IntKind.u64 (t 20)),aa 4 19,aa 5 21])) skip).seq (ae [aa 23 0,aa 24 1,aM 25 57 [t 23,t 24],aa 22 25,bW 26 22 0,bW 27 22 1,aa 8 26,aa 9 27] (am [aa 28 8,aa 29 9,aa 4 28,aa 5 29])))))
theorem Qp:Is Tryz.prog 30 b30:=mkI Tryz.func30
def b32:F2:=(F2.mk 19 [RV.t 4] (ae [bS 3 1,ao 4 0] ((ae [aa 6 0,aV 7 6,ao 8 0] (block 0 ((dh 9 8 7 0 ((block 1 (ae [aa 10 8,aa 5 10] ((ops 1 [aY 11 2 3,aa 12 0,aa 13 5,aE 14 2 12 13,aY 15 2 14,cO 16 (binS BinOp.eql [int,int] (t 11) (t 15))]).seq (az 16 (am [aa 17 5,aa 4 17]))))).seq (cW 18 8)))).loop)).seq (am [cO 4 (mov (cN ((-1))))]))))
theorem Py:Is Tryz.prog 32 b32:=mkI Tryz.func32
def b33:F2:=(F2.mk 39 [RV.t 2] (ae [bS 1 0,ao 2 0] (ae [aw 6 0 1,aY 7 7 6,aM 8 20 [t 7],aa 5 8,bW 9 5 0,bW 10 5 1,cO 3 (alloc (AV.agg [ag,ag,ag,AV.esl,ag,AV.esl,ag,ag,AV.esl,AV.esl])),a7 10 3 9,aa 4 10] ((ae [aa 11 4,ar 12 .neq 11 0] (az 12 (am [aa 13 4,aa 2 13]))).seq ((ae [aw 14 7 1,aw 15 0 14,aj 16 15,aw 17 7 3,aw 18 0 17,aj 19 18,aW 20 .neq 16 19,aa 21 20,aJ 22 21 (fa 7 (t 1)),aJ 23 21 (fa 1 (t 22)),aJ 24 21 (cD 23),aJ 25 21 (fa 7 (t 3)),aJ 26 21 (fa 1 (t 25)),aJ 27 21 (cD 26),aJ 28 21 (call (cF 58) [t 24,t 27]),aJ 29 21 (un UnOp.not (t 28)),dQ 30 21 29,aa 31 30,aJ 32 31 (fa 9 (t 1)),aJ 33 31 (cD 32),aJ 34 31 (fa 9 (t 3)),aJ 35 31 (cD 34),aJ 36 31 (call (cF 59) [t 33,t 35,c (AV.func 60 [])]),aJ 37 31 (un UnOp.not (t 36)),dQ 38 31 37] (az 38 (am [ao 2 3]))).seq (am [ao 2 0]))))))
theorem QO:Is Tryz.prog 33 b33:=mkI Tryz.func33
def b34:F2:=(F2.mk 13 [RV.cn 4 1,RV.t 5] (ae [bS 2 0,cO 4 (alloc (AV.agg [AV.esl])),ao 5 0] (am [aY 6 10 2,aa 7 1,aM 8 63 [t 6,t 7],aM 9 62 [t 8],aM 10 61 [t 9],bW 11 10 0,bW 12 10 1,a7 1 4 11,aa 5 12])))
theorem PD:Is Tryz.prog 34 b34:=mkI Tryz.func34
def b35:F2:=(F2.mk 60 [RV.t 2] (ae [bS 1 0,ao 2 0] ((ae [aw 9 0 1,aj 10 9,aV 11 10,ar 12 .gtr 11 4096] (az 12 (am [ao 2 5]))).seq ((ae [aw 13 0 1,aj 14 13,aV 15 14,ao 16 0] (block 0 ((dh 17 16 15 0 ((block 1 (ae [aa 18 16,aE 19 1 14 16,aj 20 19,aa 3 18,aa 4 20] ((ae [aa 21 4,aM 22 64 [t 21],aa 5 22] (ae [aa 23 5,ar 24 .neq 23 0] (az 24 (am [aa 25 5,aa 2 25])))).seq (ae [aa 26 3,ar 27 .gtr 26 0,aa 28 27,aq 29 28 (fa 0 (t 1)),aq 30 28 (cD 29),aq 31 28 (cM 3),aq 32 28 (cB .sub (t 31) (cN 1)),aq 33 28 (ixaS 1 (t 30) (t 32)),aq 34 28 (cD 33),aq 35 28 (cM 4),aq 36 28 (call (cF 65) [t 34,t 35]),aq 37 28 (cB .geq (t 36) (cN 0)),en 38 28 37] (az 38 (am [ao 2 14])))))).seq (cW 39 16)))).loop)).seq (ae [aw 40 0 1,aj 41 40,aM 42 66 [t 41],aa 6 42] ((ae [aw 43 0 1,aj 44 43,aV 45 44,ao 46 0] (block 2 ((dh 47 46 45 2 ((block 3 (ae [aE 48 1 44 46,aj 49 48,aa 8 49] ((mixS 9 [aw 50 0 1,aj 51 50,aa 52 6,aa 53 8,cO 54 (ixaS 2 (t 53) (cN 0)),aY 55 2 54,cO 56 (Ins.mget (MK.st [int,int]) AV.esl false (t 52) (t 55)),aa 57 8,aM 58 67 [t 51,t 56,t 57]] [(0,0),(1,0),(2,0),(3,0),(4,0),(5,0),(7,0),(6,1),(8,2)]).seq (az 58 (am [ao 2 7]))))).seq (cW 59 46)))).loop)).seq (am [ao 2 0])))))))
theorem PX:Is Tryz.prog 35 b35:=mkI Tryz.func35
def b36:F2:=(F2.mk 16 [RV.cn 3 2] (ae [bS 2 0,cO 3 (alloc (AV.agg [ag,ag]))] (block 0 (block 1 (ae [aj 7 1,aY 8 2 2,cO 9 (Ins.mget (MK.st [int,int]) (AV.agg [ag,ag]) true (t 7) (t 8)),aa 6 9,bW 10 6 0,bW 11 6 1,cO 4 (alloc (AV.agg [ag,ag])),a7 2 4 10,aa 5 11] ((ae [aa 12 5,ie 13 12] (az 13 (am [aY 14 2 2,a7 2 3 14]))).seq (ops 0 [aY 15 2 4,a7 2 2 15])))).loop)))
theorem Pr:Is Tryz.prog 36 b36:=mkI Tryz.func36
def b37:F2:=(F2.mk 77 [RV.t 2,RV.t 3] (ae [bS 1 0,cO 2 (mov (c AV.nilp)),ao 3 0] ((ae [aY 12 10 1,aM 13 33 [t 12],aa 4 13] (ae [aa 14 4,ar 15 .neq 14 0] (az 15 (am [aa 16 4,cO 2 (mov (c AV.nilp)),aa 3 16])))).seq (ae [aw 17 0 1,aw 18 0 17,aw 19 0 18,aj 20 19,cO 21 (bld [ag,AV.esl] [(0,1,t 20)]),bS 22 21,aa 5 22] ((ae [aw 23 9 1,aj 24 23,aV 25 24,ao 26 0] (block 0 ((dh 27 26 25 0 ((block 1 (ae [aE 28 3 24 26,aY 29 3 28,cO 7 (alloc (AV.agg [ag,AV.esl,AV.esl])),a7 3 7 29] (ae [ao 8 0] ((ae [aw 30 1 7,aj 31 30,aV 32 31,aa 9 32] (ae [aa 33 9,ar 34 .gtr 33 0] (az 34 (ops 0 [aw 35 1 7,aj 36 35,aa 37 9,ar 38 .sub 37 1,aE 39 7 36 38,aw 40 6 39,aj 41 40,aa 8 41])))).seq (ae [aw 42 2 7,aj 43 42,aw 44 2 7,aj 45 44,aV 46 45,ar 47 .sub 46 1,aE 48 1 43 47,aj 49 48,cO 50 (app 1 8 (c AV.esl) (t 49)),aa 10 50] ((ae [aa 51 10,aV 52 51,ao 53 0] (block 2 ((dh 54 53 52 2 ((block 3 (ae [aa 55 53,aa 11 55] (ae [aa 56 8,aa 57 11,aW 58 .shr 56 57,ar 59 .and 58 1,ar 60 .eql 59 1] (az 60 (ops 0 [aa 61 10,aa 62 11,aE 63 1 61 62,Op2.mk none none (Ins.st 1 (t 63) (cN ((-1))))]))))).seq (cW 64 53)))).loop)).seq (ops 0 [aa 65 5,aa 66 5,cO 67 (nilck (t 66)),aw 68 1 67,aj 69 68,aa 70 10,cO 71 (bldS 1 1 [AV.esl] [(0,1,t 70)]),fX 72 1 24 69 71,cO 73 (nilck (t 65)),aw 74 1 73,a7 1 74 72]))))))).seq (cW 75 26)))).loop)).seq (am [aa 76 5,aa 2 76,ao 3 0]))))))
theorem P0:Is Tryz.prog 37 b37:=mkI Tryz.func37
def b38:F2:=(F2.mk 51 [RV.t 4] (ae [dr 4] (ae [cO 13 (mkm none),aa 5 13] (ae [dr 6] (ae [ao 7 0] ((ae [aa 14 0,cO 15 (nilck (t 14)),aw 16 1 15,aj 17 16,aV 18 17,ao 19 0] (block 0 ((dh 20 19 18 0 ((block 1 (ae [aE 21 1 17 19,aj 22 21,aa 9 22] (ae [aa 23 9,aa 24 1,aE 25 1 23 24,aj 26 25,aa 10 26] (ae [aa 28 5,aa 29 10,cO 30 (Ins.mget (one int) (ag) true (t 28) (t 29)),aa 27 30,bW 31 27 0,bW 32 27 1,aa 11 31,aa 12 32] ((ae [aa 33 12,ie 34 33,aa 35 34,aJ 36 35 (cM 10),aJ 37 35 (cB .lss (t 36) (cN 0)),dQ 38 35 37] (az 38 (ae [aa 39 7,aa 11 39] (ae [aa 40 7,ar 41 .add 40 1,aa 7 41] (ops 0 [aa 42 5,aa 43 10,aa 44 11,Op2.mk none none (mput (one int) (t 42) (t 43) (t 44))]))))).seq (ops 0 [aa 45 6,aa 46 11,cO 47 (bldS 1 1 [ag] [(0,1,t 46)]),fX 48 1 8 45 47,aa 6 48])))))).seq (cW 49 19)))).loop)).seq (am [aa 50 6,aa 4 50])))))))
theorem Pq:Is Tryz.prog 38 b38:=mkI Tryz.func38
def b39:F2:=(F2.mk 100 [RV.t 4,RV.t 5] (ae [dr 4,ao 5 0] ((ae [aa 21 0,aa 22 1,aM 23 68 [t 21,t 22],aa 6 23] (ae [aa 24 6,ar 25 .neq 24 0] (az 25 (am [aa 26 6,dr 4,aa 5 26])))).seq (ae [aa 27 0,aV 28 27,cO 29 (mks 1 8 [ag] (t 28) (t 28)),cO 7 (alloc AV.esl),a7 1 7 29] ((ae [aj 30 7,aV 31 30,ao 32 0] (block 0 ((dh 33 32 31 0 ((block 1 (ae [aa 34 32,aa 8 34] (ops 0 [aj 35 7,aa 36 8,aa 37 8,aE 38 1 35 36,a7 1 38 37]))).seq (cW 39 32)))).loop)).seq (ae [cO 40 (mkfn 69 [t 7]),aa 9 40] ((ae [aa 41 0,aa 42 1,cO 43 (bldS 1 2 [AV.esl] [(0,1,t 41),(1,1,t 42)]),aV 44 43,ao 45 0] (block 2 ((dh 46 45 44 2 ((block 3 (ae [aE 47 1 43 45,aj 48 47,aa 11 48] (ae [cO 49 (mkm none),aa 12 49] (ae [aa 50 11,aV 51 50,ao 52 0] (block 4 ((dh 53 52 51 4 ((block 5 (ae [aa 54 52,aE 55 1 50 52,aj 56 55,aa 13 54,aa 14 56] (ae [aa 58 12,aa 59 14,cO 60 (Ins.mget (one int) (ag) true (t 58) (t 59)),aa 57 60,bW 61 57 0,bW 62 57 1,aa 15 61,aa 16 62] (ae [aa 63 16] (co 63 (ae [aa 64 9,aa 65 13,cO 66 (call (t 64) [t 65]),aa 67 9,aa 68 15,cO 69 (call (t 67) [t 68]),aa 17 66,aa 18 69] (ops 0 [aj 70 7,aa 71 17,aa 72 18,cO 73 (mx (t 71) [t 72]),aa 74 17,aa 75 18,cO 76 (mn (t 74) [t 75]),aE 77 1 70 73,a7 1 77 76])) (ops 0 [aa 78 12,aa 79 14,aa 80 13,Op2.mk none none (mput (one int) (t 78) (t 79) (t 80))])))))).seq (cW 81 52)))).loop))))).seq (cW 82 45)))).loop)).seq (ae [aa 83 0,aV 84 83,cO 85 (mks 1 8 [ag] (t 84) (t 84)),aa 19 85] ((ae [aa 86 19,aV 87 86,ao 88 0] (block 6 ((dh 89 88 87 6 ((block 7 (ae [aa 90 88,aa 20 90] (ops 0 [aa 91 19,aa 92 20,aa 93 9,aa 94 20,cO 95 (call (t 93) [t 94]),aE 96 1 91 92,a7 1 96 95]))).seq (cW 97 88)))).loop)).seq (am [aa 98 19,aM 99 70 [t 98],aa 4 99,ao 5 0]))))))))))
theorem QX:Is Tryz.prog 39 b39:=mkI Tryz.func39
def b40:F2:=(F2.mk 11 [RV.t 4] (ae [ao 4 0] (am [aa 5 0,aM 6 64 [t 5],aa 7 1,aM 8 64 [t 7],cO 9 (bldS 1 2 [ag] [(0,1,t 6),(1,1,t 8)]),aM 10 71 [t 9],aa 4 10])))
theorem P9:Is Tryz.prog 40 b40:=mkI Tryz.func40
def b41:F2:=(F2.mk 23 [RV.t 4] (ae [dr 4] (ae [dr 5] ((ae [aa 8 0,aV 9 8,ao 10 0] (block 0 ((dh 11 10 9 0 ((block 1 (ae [aE 12 2 8 10,aY 13 2 12,cO 7 (alloc (AV.agg [ag,ag])),a7 2 7 13] (ae [aa 14 1,aY 15 2 7,cO 16 (call (t 14) [t 15])] (az 16 (ops 0 [aa 17 5,aY 18 2 7,cO 19 (bldS 2 1 [ag,ag] [(0,2,t 18)]),fX 20 2 16 17 19,aa 5 20]))))).seq (cW 21 10)))).loop)).seq (am [aa 22 5,aa 4 22])))))
theorem Qx:Is Tryz.prog 41 b41:=mkI Tryz.func41
def b42:F2:=(F2.mk 4 [RV.t 2] (ae [bS 1 0,cO 2 (mov (c AV.nilf))] (am [cO 3 (mkfn 72 [t 1]),aa 2 3])))
theorem QI:Is Tryz.prog 42 b42:=mkI Tryz.func42
def b43:F2:=(F2.mk 33 [RV.t 2,RV.t 3] (ae [bS 1 0,ao 2 0,ao 3 0] ((ae [aY 8 7 1,aM 9 73 [t 8],aa 4 9] (ae [aa 10 4,ar 11 .neq 10 0] (az 11 (am [aa 12 4,ao 2 0,aa 3 12])))).seq (ae [aw 14 4 1,aY 15 2 14,aw 16 6 1,aj 17 16,aM 18 74 [t 15,t 17],aa 13 18,bW 19 13 0,bW 20 13 1,aa 5 19,aa 6 20] ((ae [aa 21 6,ar 22 .neq 21 0] (az 22 (am [aa 23 6,ao 2 0,aa 3 23]))).seq (ae [aa 24 5,aw 25 0 1,aw 26 3 25,aj 27 26,aV 28 27,aW 29 .mul 24 28,aa 7 29] ((ae [aa 30 7,ar 31 .gtr 30 1048576] (az 31 (am [ao 2 0,ao 3 17]))).seq (am [aa 32 7,aa 2 32,ao 3 0]))))))))
theorem PF:Is Tryz.prog 43 b43:=mkI Tryz.func43
def b44:F2:=(F2.mk 27 [RV.t 4,RV.t 5] (ae [bS 2 0,bS 3 1,dr 4,ao 5 0] (ae [aY 11 2 2,aj 12 3,aM 13 75 ([t 11,t 12,cN ((4096))]),aa 10 13,bW 14 10 0,bW 15 10 1,aa 6 14,aa 7 15] ((ae [aa 16 7,ar 17 .neq 16 0] (az 17 (am [aa 18 7,dr 4,aa 5 18]))).seq (ae [aa 19 6,cO 20 (mks 1 24 [AV.esl] (cN 0) (t 19)),cO 8 (alloc AV.esl),a7 1 8 20] (ae [cO 9 (alloc AV.nilf)] (ae [cO 21 (mkfn 76 [t 3,t 8,t 2,t 9]),a7 1 9 21] ((mixS 1 [aj 22 9,aj 23 3,cO 24 (mks 7 56 [ag,ag,ag,ag,ag,ag,ag] (cN 0) (t 23)),cO 25 (call (t 22) [cN ((0)),t 24])] [(0,0),(1,0),(2,1),(3,2)]).seq (am [aj 26 8,aa 4 26,ao 5 0])))))))))
theorem PO:Is Tryz.prog 44 b44:=mkI Tryz.func44
def b45:F2:=(F2.mk 62 [RV.cn 2 7] (ae [bS 1 0,cO 2 (alloc (AV.agg [ag,ag,ag,AV.esl,ag,AV.esl,ag]))] (ae [aw 7 0 1,aw 8 3 7,aj 9 8,aM 10 77 [t 9],aw 11 0 1,aw 12 3 11,a7 1 12 10] ((ae [aw 13 0 1,aw 14 3 13,aj 15 14,aV 16 15,ao 17 0] (block 0 ((dh 18 17 16 0 ((block 1 (ae [aa 19 17,aE 20 3 15 17,aY 21 3 20,cO 4 (alloc (AV.agg [AV.esl,AV.esl,AV.esl])),aa 3 19,a7 3 4 21] (mixS 1 [aw 22 0 1,aw 23 3 22,aj 24 23,aa 25 3,aw 26 0 4,aj 27 26,aM 28 78 [t 27],aw 29 1 4,aj 30 29,aM 31 79 [t 30],aw 32 2 4,aj 33 32,aM 34 79 [t 33],cO 35 (bld [AV.esl,AV.esl,AV.esl] [(0,1,t 28),(1,1,t 31),(2,1,t 34)]),aE 36 3 24 25,a7 3 36 35] [(0,0),(1,0),(2,0),(3,0),(4,0),(5,0),(7,0),(8,0),(10,0),(11,0),(6,1),(9,1),(12,1),(13,0),(14,0),(15,2)]))).seq (cW 37 17)))).loop)).seq (ae [aw 38 4 1,aw 39 1 38,aj 40 39,aM 41 80 [t 40],aw 42 4 1,aw 43 1 42,a7 1 43 41] ((ae [aw 44 4 1,aw 45 1 44,aj 46 45,aV 47 46,ao 48 0] (block 2 ((dh 49 48 47 2 ((block 3 (ae [aa 50 48,aE 51 1 46 48,aj 52 51,aa 5 50,aa 6 52] (mixS 1 [aw 53 4 1,aw 54 1 53,aj 55 54,aa 56 5,aa 57 6,aM 58 81 [t 57],aE 59 1 55 56,a7 1 59 58] [(0,0),(1,0),(2,0),(3,0),(4,0),(5,1),(6,0),(7,2)]))).seq (cW 60 48)))).loop)).seq (am [aY 61 7 1,a7 7 2 61])))))))
theorem Pw:Is Tryz.prog 45 b45:=mkI Tryz.func45
def b46:F2:=(F2.mk 6 [RV.t 4] (ae [bS 2 0,bS 3 1,cO 4 (mov (c AV.nilf))] (am [cO 5 (mkfn 82 [t 2,t 3]),aa 4 5])))
theorem Px:Is Tryz.prog 46 b46:=mkI Tryz.func46
def b47:F2:=(F2.mk 8 [RV.t 2] (ae [dr 2] ((ae [aa 3 0,cO 4 (snil false (t 3))] (az 4 (am [dr 2]))).seq (am [cO 5 (bldS 7 0 [ag,ag,ag,ag,ag,ag,ag] []),aa 6 0,fX 7 7 56 5 6,aa 2 7]))))
theorem QQ:Is Tryz.prog 47 b47:=mkI Tryz.func47
def b48:F2:=(F2.mk 99 [RV.t 6] (ae [dr 6] (ae [aa 17 0,cO 18 (nilck (t 17)),aw 19 0 18,aj 20 19,cO 21 (mks 1 8 [ag] (t 20) (t 20)),aa 7 21] ((ae [aa 22 7,aV 23 22,ao 24 0] (block 0 ((dh 25 24 23 0 ((block 1 (ae [aa 26 24,aa 8 26] (mixS 1 [aa 27 7,aa 28 8,aa 29 0,aa 30 8,aa 31 1,aa 32 8,aE 33 1 31 32,aj 34 33,aM 35 84 [],cO 36 (bld [ag,ag,ag,ag,ag,ag,ag,ag] [(0,1,t 30),(2,1,t 34),(3,5,t 35)]),aM 37 83 [t 29,t 36],aE 38 1 27 28,a7 1 38 37] [(0,0),(1,0),(2,0),(3,0),(4,0),(5,0),(6,0),(7,0),(8,1),(9,0),(10,2),(11,0),(12,2)]))).seq (cW 39 24)))).loop)).seq (ae [aa 40 7,cO 41 (bldS 1 1 [AV.esl] [(0,1,t 40)]),aa 9 41] ((ae [aa 42 2,aV 43 42,ao 44 0] (block 2 ((dh 45 44 43 2 ((block 3 (ae [aa 46 44,aE 47 7 42 44,aY 48 7 47,cO 11 (alloc (AV.agg [ag,ag,ag,ag,ag,ag,ag])),aa 10 46,a7 7 11 48] (ae [aa 49 0,cO 50 (nilck (t 49)),aw 51 0 50,aj 52 51,cO 53 (mks 1 8 [ag] (t 52) (t 52)),aa 12 53] ((ae [aa 54 12,aV 55 54,ao 56 0] (block 4 ((dh 57 56 55 4 ((block 5 (ae [aa 58 56,aa 13 58] (ae [aa 59 13,aa 60 10,ar 61 .add 60 1,aM 62 84 [],cO 63 (bld [ag,ag,ag,ag,ag,ag,ag,ag] [(0,1,t 59),(1,1,t 61),(3,5,t 62)]),cO 14 (alloc (AV.agg [ag,ag,ag,ag,ag,ag,ag,ag])),a7 8 14 63] ((ae [aa 64 7,aV 65 64,ao 66 0] (block 6 ((dh 67 66 65 6 ((block 7 (ae [aa 68 66,aE 69 1 64 66,aj 70 69,aa 15 68,aa 16 70] (ae [aa 71 13,aw 72 0 11,aw 73 1 72,cO 74 (ixaA 5 1 (t 73) (t 71)),aj 75 74,aa 76 15,aW 77 .shr 75 76,ar 78 .and 77 1,ar 79 .eql 78 1] (az 79 (ops 0 [aa 80 15,aa 81 16,aw 82 3 14,cO 83 (ixaA 5 1 (t 82) (t 80)),a7 1 83 81]))))).seq (cW 84 66)))).loop)).seq (ops 0 [aa 85 12,aa 86 13,aa 87 0,aY 88 8 14,aM 89 83 [t 87,t 88],aE 90 1 85 86,a7 1 90 89]))))).seq (cW 91 56)))).loop)).seq (ops 0 [aa 92 9,aa 93 12,cO 94 (bldS 1 1 [AV.esl] [(0,1,t 93)]),fX 95 1 24 92 94,aa 96 12,aa 9 95,aa 7 96]))))).seq (cW 97 44)))).loop)).seq (am [aa 98 9,aa 6 98])))))))
theorem QY:Is Tryz.prog 48 b48:=mkI Tryz.func48
def b49:F2:=(F2.mk 60 [RV.t 4,RV.t 5] (ae [dr 4,ao 5 0] (ae [cO 14 (mkm none),aa 6 14] (ae [dr 7] ((ae [aa 15 0,aV 16 15,ao 17 0] (block 0 ((dh 18 17 16 0 ((block 1 (ae [aE 19 1 15 17,aj 20 19,aa 9 20] ((ae [aa 21 9,aV 22 21,aa 23 1,aW 24 .lss 22 23] (az 24 (exit 1))).seq (ae [aa 26 9,aa 27 1,aM 28 85 [t 26,t 27],aa 25 28,bW 29 25 0,bW 30 25 1,aa 10 29,aa 11 30] ((ae [aa 31 11,ar 32 .neq 31 0] (az 32 (am [aa 33 11,dr 4,aa 5 33]))).seq ((ae [aa 34 10,aV 35 34,ao 36 0] (block 2 ((dh 37 36 35 2 ((block 3 (ae [aE 38 1 34 36,aj 39 38,aa 13 39] (ae [aa 40 6,aa 41 13,aM 42 86 [t 41],cO 43 (Ins.mget (MK.st [int,int,int,int,int,int,int,int,int,int,int,int,int,int,int,int]) (AV.bool false) false (t 40) (t 42)),ie 44 43] (az 44 (ae [aa 45 6,aa 46 13,aM 47 86 [t 46],Op2.mk none none (mput (MK.st [int,int,int,int,int,int,int,int,int,int,int,int,int,int,int,int]) (t 45) (t 47) Mb)] (ops 0 [aa 48 7,aa 49 13,cO 50 (bldS 1 1 [AV.esl] [(0,1,t 49)]),fX 51 1 24 48 50,aa 7 51])))))).seq (cW 52 36)))).loop)).seq (ae [aa 53 7,aV 54 53,ar 55 .gtr 54 4096] (az 55 (am [dr 4,ao 5 17]))))))))).seq (cW 56 17)))).loop)).seq (ae [aa 57 7,aM 58 87 ([t 57,c (AV.func 65 [])])] (am [aa 59 7,aa 4 59,ao 5 0])))))))
theorem QA:Is Tryz.prog 49 b49:=mkI Tryz.func49
def b50:F2:=(F2.mk 37 [RV.t 2] (ae [bS 1 0,ct 2] ((ae [aw 4 0 1,aY 5 4 4,aM 6 88 [t 5],ie 7 6,aa 8 7,aJ 9 8 (fa 4 (t 1)),aJ 10 8 (ldn 2 (t 9)),aJ 11 8 (call (cF 89) [t 10]),aJ 12 8 (un UnOp.not (t 11)),dQ 13 8 12,aa 14 13,aJ 15 14 (fa 0 (t 1)),aJ 16 14 (fa 0 (t 15)),aJ 17 14 (cD 16),aJ 18 14 (cB .gtr (t 17) (cN 3)),aJ 19 14 (cM 18),aq 20 19 (fa 0 (t 1)),aq 21 19 (fa 0 (t 20)),aq 22 19 (cD 21),aq 23 19 (cB .leq (t 22) (cN 5)),aJ 24 14 (pick (t 19) (t 23) IQ),dQ 25 14 24] (az 25 (am [ct 2]))).seq ((ae [aY 26 7 1,aM 27 90 [t 26],ar 28 .neq 27 0] (az 28 (am [kB 2]))).seq (ae [aY 29 7 1,aM 30 91 ([t 29,cN ((4096))]),aa 3 30] (am [aa 31 3,ar 32 .leq 31 60,aa 33 32,aJ 34 33 (cM 3),aJ 35 33 (cB .gtr (t 34) (cN 4096)),dQ 36 33 35,aa 2 36]))))))
theorem Qd:Is Tryz.prog 50 b50:=mkI Tryz.func50
def b51:F2:=(F2.mk 25 [RV.cn 2 10,RV.t 3] (ae [bS 1 0,cO 2 (alloc (AV.agg [ag,ag,ag,AV.esl,ag,AV.esl,ag,ag,AV.esl,AV.esl])),ao 3 0] ((ae [aY 6 7 1,aM 7 90 [t 6],aa 4 7] (ae [aa 8 4,ar 9 .neq 8 0] (az 9 (am [cO 10 (bld [ag,ag,ag,AV.esl,ag,AV.esl,ag,ag,AV.esl,AV.esl] []),aa 11 4,a7 10 2 10,aa 3 11])))).seq ((ae [aY 12 7 1,aM 13 91 ([t 12,cN ((4096))]),ar 14 .gtr 13 4096] (az 14 (am [cO 15 (bld [ag,ag,ag,AV.esl,ag,AV.esl,ag,ag,AV.esl,AV.esl] []),a7 10 2 15,ao 3 17]))).seq (ae [aY 16 7 1,aM 17 92 [t 16],cO 5 (alloc (AV.agg [ag,ag,ag,AV.esl,ag,AV.esl,ag,ag,AV.esl,AV.esl])),a7 10 5 17] ((ae [aw 18 7 5,aw 19 1 18,aj 20 19,aV 21 20,ar 22 .gtr 21 8192] (az 22 (am [cO 23 (bld [ag,ag,ag,AV.esl,ag,AV.esl,ag,ag,AV.esl,AV.esl] []),a7 10 2 23,ao 3 17]))).seq (am [aY 24 10 5,a7 10 2 24,ao 3 0])))))))
theorem J6:Is Tryz.prog 51 b51:=mkI Tryz.func51
def b52:F2:=(F2.mk 47 [RV.t 2] (ae [bS 1 0,dr 2] (ae [ao 3 0] ((ae [aw 8 1 1,aj 9 8,aV 10 9,aa 4 10] (ae [aa 11 4,ar 12 .gtr 11 0] (az 12 (ops 0 [aw 13 1 1,aj 14 13,aa 15 4,ar 16 .sub 15 1,aE 17 7 14 16,aw 18 6 17,aj 19 18,aa 3 19])))).seq (ae [dr 5] ((ae [aw 20 2 1,aj 21 20,aw 22 2 1,aj 23 22,aV 24 23,ar 25 .sub 24 1,aE 26 1 21 25,aj 27 26,aV 28 27,ao 29 0] (block 0 ((dh 30 29 28 0 ((block 1 (ae [aa 31 29,aE 32 1 27 29,aj 33 32,aa 6 31,aa 7 33] (ae [aa 34 3,aa 35 6,aW 36 .shr 34 35,ar 37 .and 36 1,ar 38 .eql 37 0] (az 38 (ops 0 [aa 39 5,aa 40 6,aa 41 7,cO 42 (bld [ag,ag] [(0,1,t 40),(1,1,t 41)]),cO 43 (bldS 2 1 [ag,ag] [(0,2,t 42)]),fX 44 2 16 39 43,aa 5 44]))))).seq (cW 45 29)))).loop)).seq (am [aa 46 5,aa 2 46])))))))
theorem QW:Is Tryz.prog 52 b52:=mkI Tryz.func52
def b53:F2:=(F2.mk 16 [RV.t 4] (ae [ct 4] (am [aa 5 1,ar 6 .geq 5 0,aa 7 6,aq 8 7 (cM 1),aq 9 7 (cM 0),aq 10 7 (nilck (t 9)),aq 11 7 (fa 1 (t 10)),aq 12 7 (cD 11),aq 13 7 (lenS (t 12)),aq 14 7 (cB .lss (t 8) (t 13)),en 15 7 14,aa 4 15])))
theorem QF:Is Tryz.prog 53 b53:=mkI Tryz.func53
def b54:F2:=(F2.mk 39 [] (ae [aj 7 1,cO 8 (nilck (t 7)),aw 9 1 8,aj 10 9,aV 11 10,ao 12 0] (block 0 ((dh 13 12 11 0 ((block 1 (ae [aa 14 12,aa 4 14] (ae [aj 15 1,aj 16 2,aa 17 4,aM 18 55 [t 15,t 16,t 17],aa 5 18] ((ae [aa 19 5,ar 20 .eql 19 0,aa 21 20,aJ 22 21 (cD 2),aJ 23 21 (cM 4),aJ 24 21 (cB .eql (t 22) (t 23)),dQ 25 21 24] (az 25 (exit 1))).seq (ae [ao 6 0] ((block 2 ((ae [aa 26 5,aa 27 6,aW 28 .shr 26 27,ar 29 .and 28 1,ar 30 .eql 29 0] (co 30 skip (exit 2))).seq (block 3 (ops 0 [aa 31 6,ar 32 .add 31 1,aa 6 32]))).loop).seq (ae [aa 33 0,aa 34 4,aa 35 6,cO 36 (call (t 33) [t 34,t 35]),ie 37 36] (co 37 ret skip)))))))).seq (cW 38 12)))).loop)))
theorem Qo:Is Tryz.prog 54 b54:=mkI Tryz.func54
def b55:F2:=(F2.mk 49 [RV.t 6] (ae [ao 6 0] (ae [ao 7 0] ((ae [aa 10 0,cO 11 (nilck (t 10)),aw 12 0 11,aj 13 12,ao 14 0] (block 0 ((dh 15 14 13 0 ((block 1 (ae [aa 16 14,aa 8 16] (ae [aa 17 0,cO 18 (nilck (t 17)),aw 19 1 18,aj 20 19,aa 21 1,aE 22 1 20 21,aj 23 22,aa 24 8,aE 25 1 23 24,aj 26 25,aa 9 26] (ae [aa 27 9,ar 28 .geq 27 0,aa 29 28,aq 30 29 (cM 9),aq 31 29 (cM 0),aq 32 29 (nilck (t 31)),aq 33 29 (fa 1 (t 32)),aq 34 29 (cD 33),aq 35 29 (cM 2),aq 36 29 (ixaS 1 (t 34) (t 35)),aq 37 29 (cD 36),aq 38 29 (cM 8),aq 39 29 (ixaS 1 (t 37) (t 38)),aq 40 29 (cD 39),aq 41 29 (cB .eql (t 30) (t 40)),en 42 29 41] (az 42 (ops 0 [aa 43 7,aa 44 8,cO 45 (cB .shl (cN 1) (t 44)),aW 46 .or 43 45,aa 7 46])))))).seq (cW 47 14)))).loop)).seq (am [aa 48 7,aa 6 48])))))
theorem PU:Is Tryz.prog 55 b55:=mkI Tryz.func55
def b57:F2:=(F2.mk 51 [RV.t 4,RV.t 5] (ae [cO 4 (mov (c (AV.int IntKind.u64 (0)))),cO 5 (mov (c (AV.int IntKind.u64 (0))))] (ae [aa 14 0,cO 15 (cB .and (t 14) (c (AV.int IntKind.u64 (4294967295)))),aa 6 15] (ae [aa 16 0,cO 17 (cB .shr (t 16) (c (AV.int IntKind.u64 (32)))),aa 7 17] (ae [aa 18 1,cO 19 (cB .and (t 18) (c (AV.int IntKind.u64 (4294967295)))),aa 8 19] (ae [aa 20 1,cO 21 (cB .shr (t 20) (c (AV.int IntKind.u64 (32)))),aa 9 21] (ae [aa 22 6,aa 23 8,aW 24 .mul 22 23,aa 10 24] (ae [aa 25 7,aa 26 8,aW 27 .mul 25 26,aa 28 10,cO 29 (cB .shr (t 28) (c (AV.int IntKind.u64 (32)))),aW 30 .add 27 29,aa 11 30] (ae [aa 31 11,cO 32 (cB .and (t 31) (c (AV.int IntKind.u64 (4294967295)))),aa 12 32] (ae [aa 33 11,cO 34 (cB .shr (t 33) (c (AV.int IntKind.u64 (32)))),aa 13 34] (ae [aa 35 12,aa 36 6,aa 37 9,aW 38 .mul 36 37,aW 39 .add 35 38,aa 12 39] (ae [aa 40 7,aa 41 9,aW 42 .mul 40 41,aa 43 13,aW 44 .add 42 43,aa 45 12,cO 46 (cB .shr (t 45) (c (AV.int IntKind.u64 (32)))),aW 47 .add 44 46,aa 4 47] (am [aa 48 0,aa 49 1,aW 50 .mul 48 49,aa 5 50])))))))))))))
theorem Qz:Is Tryz.prog 57 b57:=mkI Tryz.func57
def b58:F2:=(F2.mk 26 [RV.t 4] (ae [ct 4] ((ae [aa 6 0,aV 7 6,aa 8 1,aV 9 8,aW 10 .neq 7 9] (az 10 (am [ct 4]))).seq ((ae [aa 11 0,aV 12 11,ao 13 0] (block 0 ((dh 14 13 12 0 ((block 1 (ae [aa 15 13,aa 5 15] ((ops 1 [aa 16 0,aa 17 5,aE 18 8 16 17,aY 19 8 18,aa 20 1,aa 21 5,aE 22 8 20 21,aY 23 8 22,cO 24 (binS BinOp.neq [int,int,int,int,int,int,int,int] (t 19) (t 23))]).seq (az 24 (am [ct 4]))))).seq (cW 25 13)))).loop)).seq (am [kB 4])))))
theorem PW:Is Tryz.prog 58 b58:=mkI Tryz.func58
def b59:F2:=(F2.mk 32 [RV.t 6] (ae [ct 6] ((ae [aa 10 0,aV 11 10,aa 12 1,aV 13 12,aW 14 .neq 11 13] (az 14 (am [ct 6]))).seq ((ae [aa 15 0,aV 16 15,ao 17 0] (block 0 ((dh 18 17 16 0 ((block 1 (ae [aa 19 17,aE 20 3 15 17,aY 21 3 20,cO 8 (alloc (AV.agg [ag,AV.esl,AV.esl])),aa 7 19,a7 3 8 21] (ae [aa 22 1,aa 23 7,aE 24 3 22 23,aY 25 3 24,cO 9 (alloc (AV.agg [ag,AV.esl,AV.esl])),a7 3 9 25] (ae [aa 26 2,aY 27 3 8,aY 28 3 9,cO 29 (call (t 26) [t 27,t 28]),ie 30 29] (az 30 (am [ct 6])))))).seq (cW 31 17)))).loop)).seq (am [kB 6])))))
theorem QN:Is Tryz.prog 59 b59:=mkI Tryz.func59
def b60:F2:=(F2.mk 24 [RV.t 4] (ae [bS 2 0,bS 3 1,ct 4] (am [aw 5 0 2,aj 6 5,aw 7 0 3,aj 8 7,aW 9 .eql 6 8,aa 10 9,aq 11 10 (fa 1 (t 2)),aq 12 10 (cD 11),aq 13 10 (fa 1 (t 3)),aq 14 10 (cD 13),aq 15 10 (call (cF 93) [t 12,t 14]),en 16 10 15,aa 17 16,aq 18 17 (fa 2 (t 2)),aq 19 17 (cD 18),aq 20 17 (fa 2 (t 3)),aq 21 17 (cD 20),aq 22 17 (call (cF 94) [t 19,t 21,c (AV.func 95 [])]),en 23 17 22,aa 4 23])))
theorem Qb:Is Tryz.prog 60 b60:=mkI Tryz.func60
def b61:F2:=(F2.mk 26 [RV.cn 2 1,RV.t 3] (ae [cO 2 (alloc (AV.agg [AV.esl])),ao 3 0] ((ae [aa 7 0,aV 8 7,ar 9 .gtr 8 4096] (az 9 (am [cO 10 (bld [AV.esl] []),a7 1 2 10,ao 3 5]))).seq ((ae [aa 11 0,aV 12 11,ao 13 0] (block 0 ((dh 14 13 12 0 ((block 1 (ae [aE 15 1 11 13,aj 16 15,aa 5 16] (ae [aa 17 5,aM 18 64 [t 17],aa 6 18] (ae [aa 19 6,ar 20 .neq 19 0] (az 20 (am [cO 21 (bld [AV.esl] []),aa 22 6,a7 1 2 21,aa 3 22])))))).seq (cW 23 13)))).loop)).seq (am [aa 24 0,aM 25 96 [t 24],a7 1 2 25,ao 3 0])))))
theorem PR:Is Tryz.prog 61 b61:=mkI Tryz.func61
def b62:F2:=(F2.mk 5 [RV.t 2] (ae [dr 2] (am [aa 3 0,aM 4 97 [c AV.esl,t 3],aa 2 4])))
theorem Md:Is Tryz.prog 62 b62:=mkI Tryz.func62
def b63:F2:=(F2.mk 6 [RV.t 4] (ae [bS 2 0,bS 3 1,cO 4 (mov (c AV.nilf))] (am [cO 5 (mkfn 98 [t 2,t 3]),aa 4 5])))
theorem P3:Is Tryz.prog 63 b63:=mkI Tryz.func63
def b64:F2:=(F2.mk 36 [RV.t 2] (ae [ao 2 0] ((block 0 (ae [aa 6 0,aV 7 6,ar 8 .eql 7 0,aa 5 8] (co 5 (am [ao 2 16]) (ae [aa 10 0,aV 11 10,ar 12 .gtr 11 8,aa 9 12] (az 9 (am [ao 2 5])))))).seq ((ae [aa 13 0,aV 14 13,ao 15 0] (block 1 ((dh 16 15 14 1 ((block 2 (ae [aa 17 15,aE 18 2 13 15,aY 19 2 18,cO 4 (alloc (AV.agg [ag,ag])),aa 3 17,a7 2 4 19] ((ae [aY 20 2 4,aM 21 99 [t 20],ie 22 21] (az 22 (am [ao 2 2]))).seq ((mixS 1 [aa 23 3,ar 24 .gtr 23 0,aa 25 24,aq 26 25 (cM 0),aq 27 25 (cM 3),aq 28 25 (cB .sub (t 27) (cN 1)),aq 29 25 (ixaS 2 (t 26) (t 28)),aq 30 25 (ldn 2 (t 29)),aq 31 25 (ldn 2 (t 4)),aq 32 25 (call (cF 100) [t 30,t 31]),aq 33 25 (cB .geq (t 32) (cN 0)),en 34 25 33] [(0,0),(1,0),(2,0),(3,0),(4,0),(5,0),(6,0),(7,0),(8,0),(9,2),(10,0),(11,0)]).seq (az 34 (am [ao 2 14])))))).seq (cW 35 15)))).loop)).seq (am [ao 2 0])))))
theorem Pv:Is Tryz.prog 64 b64:=mkI Tryz.func64
def b65:F2:=(F2.mk 8 [RV.t 4] (ae [ao 4 0] (am [aa 5 0,aa 6 1,aM 7 101 ([t 5,t 6,c (AV.func 100 [])]),aa 4 7])))
theorem PP:Is Tryz.prog 65 b65:=mkI Tryz.func65
def b66:F2:=(F2.mk 33 [RV.t 2] (ae [cO 2 (mov (c AV.nilm))] (ae [cO 8 (mkm none),aa 3 8] ((ae [aa 9 0,aV 10 9,ao 11 0] (block 0 ((dh 12 11 10 0 ((block 1 (ae [aa 13 11,aE 14 1 9 11,aj 15 14,aa 4 13,aa 5 15] (ae [aa 16 5,aV 17 16,ao 18 0] (block 2 ((dh 19 18 17 2 ((block 3 (ae [aE 20 2 16 18,aY 21 2 20,cO 7 (alloc (AV.agg [ag,ag])),a7 2 7 21] (ops 0 [aa 22 3,aY 23 2 7,aa 25 4,cO 26 (bldS 1 1 [ag] [(0,1,t 25)]),cO 27 (mplc (MK.st [int,int]) AV.esl (t 22) (t 23)),bW 24 27 0,fX 28 1 8 24 26,bW 29 27 1,Op2.mk none none (mpst (t 22) (t 29) (t 28))]))).seq (cW 30 18)))).loop)))).seq (cW 31 11)))).loop)).seq (am [aa 32 3,aa 2 32])))))
theorem QR:Is Tryz.prog 66 b66:=mkI Tryz.func66
def b67:F2:=(F2.mk 10 [RV.t 6] (ae [bS 3 0,bS 5 2,ct 6] (am [aa 7 1,cO 8 (mkfn 103 [t 3,t 5]),aM 9 102 [t 7,t 8],aa 6 9])))
theorem QJ:Is Tryz.prog 67 b67:=mkI Tryz.func67
def b68:F2:=(F2.mk 27 [RV.t 4] (ae [ao 4 0] ((ae [aa 8 0,aa 9 1,cO 10 (bldS 1 2 [AV.esl] [(0,1,t 8),(1,1,t 9)]),aV 11 10,ao 12 0] (block 0 ((dh 13 12 11 0 ((block 1 (ae [aE 14 1 10 12,aj 15 14,aa 6 15] (ae [aa 16 6,aM 17 105 [t 16],aa 7 17] (ae [aa 18 7,ar 19 .neq 18 0] (az 19 (am [aa 20 7,aa 4 20])))))).seq (cW 21 12)))).loop)).seq ((ae [aa 22 0,aV 23 22,aa 24 1,aV 25 24,aW 26 .neq 23 25] (az 26 (am [ao 4 15]))).seq (am [ao 4 0])))))
theorem Qs:Is Tryz.prog 68 b68:=mkI Tryz.func68
def b69:F2:=(F2.mk 25 [RV.t 3] (ae [ao 3 0] ((block 0 ((ae [aj 4 1,aa 5 0,aE 6 1 4 5,aj 7 6,aa 8 0,aW 9 .neq 7 8] (co 9 skip (exit 0))).seq (block 1 ((ops 1 [aj 10 1,aa 11 0,aj 12 1,aj 13 1,aa 14 0,aE 15 1 13 14,aj 16 15,aE 17 1 12 16,aj 18 17,aE 19 1 10 11,a7 1 19 18]).seq (ops 0 [aj 20 1,aa 21 0,aE 22 1 20 21,aj 23 22,aa 0 23])))).loop).seq (am [aa 24 0,aa 3 24]))))
theorem QH:Is Tryz.prog 69 b69:=mkI Tryz.func69
def b70:F2:=(F2.mk 39 [RV.t 2] (ae [dr 2] (ae [cO 9 (mkm none),aa 3 9] (ae [aa 10 0,aV 11 10,cO 12 (mks 1 8 [ag] (t 11) (t 11)),aa 4 12] ((ae [aa 13 0,aV 14 13,ao 15 0] (block 0 ((dh 16 15 14 0 ((block 1 (ae [aa 17 15,aE 18 1 13 15,aj 19 18,aa 5 17,aa 6 19] (ae [aa 21 3,aa 22 6,cO 23 (Ins.mget (one int) (ag) true (t 21) (t 22)),aa 20 23,bW 24 20 0,bW 25 20 1,aa 7 24,aa 8 25] ((ae [aa 26 8,ie 27 26] (az 27 (ae [aa 28 3,cO 29 (mlen (t 28)),aa 7 29] (ops 0 [aa 30 3,aa 31 6,aa 32 7,Op2.mk none none (mput (one int) (t 30) (t 31) (t 32))])))).seq (ops 0 [aa 33 4,aa 34 5,aa 35 7,aE 36 1 33 34,a7 1 36 35]))))).seq (cW 37 15)))).loop)).seq (am [aa 38 4,aa 2 38]))))))
theorem QT:Is Tryz.prog 70 b70:=mkI Tryz.func70
def b71:F2:=(F2.mk 18 [RV.t 2] (ae [ao 2 0] (ae [ao 3 0] ((ae [aa 6 0,aV 7 6,ao 8 0] (block 0 ((dh 9 8 7 0 ((block 1 (ae [aE 10 1 6 8,aj 11 10,aa 5 11] (ae [aa 12 5,aa 13 3,aW 14 .neq 12 13] (az 14 (am [aa 15 5,aa 2 15]))))).seq (cW 16 8)))).loop)).seq (am [aa 17 3,aa 2 17])))))
theorem PH:Is Tryz.prog 71 b71:=mkI Tryz.func71
def b72:F2:=(F2.mk 7 [RV.t 3] (ae [bS 2 0,ct 3] (am [aj 4 1,aY 5 2 2,aM 6 11 [t 4,t 5],aa 3 6])))
theorem Ql:Is Tryz.prog 72 b72:=mkI Tryz.func72
def b73:F2:=(F2.mk 34 [RV.t 2] (ae [bS 1 0,ao 2 0] ((ae [aw 5 0 1,aY 6 4 5,aM 7 106 [t 6],aa 3 7] (ae [aa 8 3,ar 9 .neq 8 0] (az 9 (am [aa 10 3,aa 2 10])))).seq ((ae [aw 11 4 1,aY 12 2 11,aM 13 107 [t 12],aa 4 13] (ae [aa 14 4,ar 15 .neq 14 0] (az 15 (am [aa 16 4,aa 2 16])))).seq ((block 0 (ae [aw 18 0 1,aw 19 0 18,aj 20 19,aw 21 4 1,aw 22 0 21,aj 23 22,aW 24 .neq 20 23,aa 17 24] (co 17 (am [ao 2 22]) (ae [aw 26 6 1,aj 27 26,ar 28 .lss 27 0,aa 29 28,aJ 30 29 (fa 6 (t 1)),aJ 31 29 (cD 30),aJ 32 29 (cB .gtr (t 31) (cN 6)),dQ 33 29 32,aa 25 33] (az 25 (am [ao 2 2])))))).seq (am [ao 2 0]))))))
theorem P8:Is Tryz.prog 73 b73:=mkI Tryz.func73
def b74:F2:=(F2.mk 11 [RV.t 4,RV.t 5] (ae [bS 2 0,ao 4 0,ao 5 0] (am [aY 6 2 2,aa 7 1,aM 8 75 ([t 6,t 7,cN ((1048576))]),bW 9 8 0,bW 10 8 1,aa 4 9,aa 5 10])))
theorem Pz:Is Tryz.prog 74 b74:=mkI Tryz.func74
def b75:F2:=(F2.mk 29 [RV.t 6,RV.t 7] (ae [bS 3 0,ao 6 0,ao 7 0] ((ae [aY 10 2 3,aM 11 107 [t 10],aa 8 11] (ae [aa 12 8,ar 13 .neq 12 0] (az 13 (am [aa 14 8,ao 6 0,aa 7 14])))).seq ((ae [aa 15 1,ar 16 .lss 15 0,aa 17 16,aJ 18 17 (cM 1),aJ 19 17 (cB .gtr (t 18) (cN 6)),dQ 20 17 19] (az 20 (am [ao 6 0,ao 7 2]))).seq (ae [aY 21 2 3,aa 22 1,aa 23 2,aM 24 108 [t 21,t 22,t 23],aa 9 24] ((ae [aa 25 9,aa 26 2,aW 27 .gtr 25 26] (az 27 (am [ao 6 0,ao 7 17]))).seq (am [aa 28 9,aa 6 28,ao 7 0])))))))
theorem PB:Is Tryz.prog 75 b75:=mkI Tryz.func75
def b76:F2:=(F2.mk 39 [] ((ae [aa 10 1,aV 11 10,aj 12 2,aW 13 .eql 11 12] (az 13 ((mixS 1 [aj 14 3,aa 15 1,aM 16 47 [t 15],cO 17 (bldS 1 1 [AV.esl] [(0,1,t 16)]),fX 18 1 24 14 17,a7 1 3 18] [(0,0),(1,0),(2,1),(3,1),(4,2),(5,2)]).seq ret))).seq (ae [aw 19 1 4,aj 20 19,aa 21 0,aE 22 1 20 21,aj 23 22,aV 24 23,ao 25 0] (block 0 ((dh 26 25 24 0 ((block 1 (ae [aE 27 8 23 25,aY 28 8 27,cO 9 (alloc (AV.agg [ag,ag,ag,ag,ag,ag,ag,ag])),a7 8 9 28] (mixS 2 [aj 29 5,aw 30 7 9,aj 31 30,aa 32 1,aw 33 0 9,aY 34 7 33,cO 35 (bldS 7 1 [ag,ag,ag,ag,ag,ag,ag] [(0,7,t 34)]),fX 36 7 56 32 35,cO 37 (call (t 29) [t 31,t 36])] [(0,0),(1,0),(2,0),(3,0),(4,0),(5,0),(6,1),(7,1),(8,2)]))).seq (cW 38 25)))).loop))))
theorem Nw:Is Tryz.prog 76 b76:=mkI Tryz.func76
def b77:F2:=(F2.mk 8 [RV.t 2] (ae [dr 2] ((ae [aa 3 0,cO 4 (snil false (t 3))] (az 4 (am [dr 2]))).seq (am [cO 5 (bldS 3 0 [AV.esl,AV.esl,AV.esl] []),aa 6 0,fX 7 3 72 5 6,aa 2 7]))))
theorem Qm:Is Tryz.prog 77 b77:=mkI Tryz.func77
def b78:F2:=(F2.mk 8 [RV.t 2] (ae [dr 2] ((ae [aa 3 0,cO 4 (snil false (t 3))] (az 4 (am [dr 2]))).seq (am [cO 5 (bldS 1 0 [ag] []),aa 6 0,fX 7 1 8 5 6,aa 2 7]))))
theorem QD:Is Tryz.prog 78 b78:=mkI Tryz.func78
def b79:F2:=(F2.mk 19 [RV.t 2] (ae [dr 2] (ae [dr 3] ((ae [aa 6 0,aV 7 6,ao 8 0] (block 0 ((dh 9 8 7 0 ((block 1 (ae [aE 10 1 6 8,aj 11 10,aa 5 11] (ops 0 [aa 12 3,aa 13 5,aM 14 78 [t 13],cO 15 (bldS 1 1 [AV.esl] [(0,1,t 14)]),fX 16 1 24 12 15,aa 3 16]))).seq (cW 17 8)))).loop)).seq (am [aa 18 3,aa 2 18])))))
theorem PN:Is Tryz.prog 79 b79:=mkI Tryz.func79
def b80:F2:=(F2.mk 8 [RV.t 2] (ae [dr 2] ((ae [aa 3 0,cO 4 (snil false (t 3))] (az 4 (am [dr 2]))).seq (am [cO 5 (bldS 1 0 [AV.esl] []),aa 6 0,fX 7 1 24 5 6,aa 2 7]))))
theorem Qj:Is Tryz.prog 80 b80:=mkI Tryz.func80
def b81:F2:=(F2.mk 8 [RV.t 2] (ae [dr 2] ((ae [aa 3 0,cO 4 (snil false (t 3))] (az 4 (am [dr 2]))).seq (am [cO 5 (bldS 8 0 [ag,ag,ag,ag,ag,ag,ag,ag] []),aa 6 0,fX 7 8 64 5 6,aa 2 7]))))
theorem PA:Is Tryz.prog 81 b81:=mkI Tryz.func81
def b82:F2:=(F2.mk 27 [] (ae [aw 7 0 1,aw 8 3 7,aj 9 8,aV 10 9,ao 11 0] (block 0 ((dh 12 11 10 0 ((block 1 (ae [aa 13 11,aa 4 13] (ae [aj 14 2,aV 15 14,ao 16 0] (block 2 ((dh 17 16 15 2 ((block 3 (ae [aE 18 1 14 16,aj 19 18,aa 6 19] (ae [aa 20 0,aa 21 4,aa 22 6,cO 23 (call (t 20) [t 21,t 22]),ie 24 23] (co 24 ret skip)))).seq (cW 25 16)))).loop)))).seq (cW 26 11)))).loop)))
theorem Qt:Is Tryz.prog 82 b82:=mkI Tryz.func82
def b83:F2:=(F2.mk 40 [RV.t 4] (ae [bS 3 1,ao 4 0] ((mixS 9 [aa 8 0,cO 9 (nilck (t 8)),aw 10 2 9,aj 11 10,aY 12 8 3,cO 13 (Ins.mget (MK.st [int,int,int,int,int,int,int,int]) (ag) true (t 11) (t 12)),aa 7 13,bW 14 7 0,bW 15 7 1,aa 5 14,aa 6 15] [(0,0),(1,0),(2,0),(3,0),(4,0),(5,2),(6,0),(7,0),(8,0),(9,0),(10,0)]).seq ((ae [aa 16 6,ie 17 16] (az 17 (ae [aa 18 0,cO 19 (nilck (t 18)),aw 20 1 19,aj 21 20,aV 22 21,aa 5 22] ((mixS 9 [aa 23 0,cO 24 (nilck (t 23)),aw 25 2 24,aj 26 25,aY 27 8 3,aa 28 5,Op2.mk none none (mput (MK.st [int,int,int,int,int,int,int,int]) (t 26) (t 27) (t 28))] [(0,0),(1,0),(2,0),(3,0),(4,0),(5,0),(6,2)]).seq (ops 1 [aa 29 0,aa 30 0,cO 31 (nilck (t 30)),aw 32 1 31,aj 33 32,aY 34 8 3,cO 35 (bldS 8 1 [ag,ag,ag,ag,ag,ag,ag,ag] [(0,8,t 34)]),fX 36 8 64 33 35,cO 37 (nilck (t 29)),aw 38 1 37,a7 1 38 36]))))).seq (am [aa 39 5,aa 4 39])))))
theorem Qr:Is Tryz.prog 83 b83:=mkI Tryz.func83
def b84:F2:=(F2.mk 10 [RV.cn 0 5] (ae [cO 0 (alloc (AV.agg [ag,ag,ag,ag,ag]))] (ae [cO 1 (alloc (AV.agg [ag,ag,ag,ag,ag]))] ((ae [ao 3 0] (block 0 (ae [ar 4 .lss 3 5] (Gu 4 0 ((block 1 (ae [aa 5 3,aa 2 5] (ops 0 [aa 6 2,cO 7 (ixaA 5 1 (t 1) (t 6)),Op2.mk none none (Ins.st 1 (t 7) (cN ((-1))))]))).seq (cW 8 3)))).loop)).seq (am [aY 9 5 1,a7 5 0 9])))))
theorem P2:Is Tryz.prog 84 b84:=mkI Tryz.func84
def b85:F2:=(F2.mk 24 [RV.t 4,RV.t 5] (ae [dr 4,ao 5 0] ((ae [aa 7 0,aM 8 64 [t 7],aa 6 8] (ae [aa 9 6,ar 10 .neq 9 0] (az 10 (am [aa 11 6,dr 4,aa 5 11])))).seq ((ae [aa 12 1,ar 13 .lss 12 1,aa 14 13,aJ 15 14 (cM 1),aJ 16 14 (cM 0),aJ 17 14 (lenS (t 16)),aJ 18 14 (cB .gtr (t 15) (t 17)),dQ 19 14 18] (az 19 (am [dr 4,ao 5 2]))).seq (am [aa 20 0,aa 21 1,aM 22 109 [t 20,t 21],aM 23 62 [t 22],aa 4 23,ao 5 0])))))
theorem QS:Is Tryz.prog 85 b85:=mkI Tryz.func85
def b86:F2:=(F2.mk 16 [RV.cn 2 16] (ae [cO 2 (alloc (AV.agg [ag,ag,ag,ag,ag,ag,ag,ag,ag,ag,ag,ag,ag,ag,ag,ag]))] (ae [cO 3 (alloc (AV.agg [ag,ag,ag,ag,ag,ag,ag,ag,ag,ag,ag,ag,ag,ag,ag,ag]))] ((ae [ao 5 0] (block 0 (ae [ar 6 .lss 5 8] (Gu 6 0 ((block 1 (ae [aa 7 5,aa 4 7] (ops 0 [aa 8 4,cO 9 (ixaA 8 2 (t 3) (t 8)),aw 10 0 9,Op2.mk none none (Ins.st 1 (t 10) (cN ((-1))))]))).seq (cW 11 5)))).loop)).seq (ae [cO 12 (slp 8 2 (t 3)),aa 13 0,cO 14 (cpy 2 (t 12) (t 13))] (am [aY 15 16 3,a7 16 2 15]))))))
theorem PY:Is Tryz.prog 86 b86:=mkI Tryz.func86
def b87:F2:=(F2.mk 14 [] (ae [aa 5 0,aV 6 5,aa 4 6] (ops 0 [aa 7 0,aa 8 4,aa 9 4,cO 10 (conv IntKind.u64 (t 9)),aM 11 111 [t 10],aa 12 1,aM 13 110 ([t 7,cN ((0)),t 8,t 11,t 12])])))
theorem Ny:Is Tryz.prog 87 b87:=mkI Tryz.func87
def b88:F2:=(F2.mk 37 [RV.t 2] (ae [bS 1 0,ct 2] ((ae [aw 5 3 1,aj 6 5,aV 7 6,ar 8 .gtr 7 30] (az 8 (am [ct 2]))).seq ((ae [ao 3 0] (block 0 ((ae [aa 9 3,aw 10 3 1,aj 11 10,aV 12 11,aW 13 .lss 9 12] (co 13 skip (exit 0))).seq ((block 1 (ae [aw 16 3 1,aj 17 16,aa 18 3,aE 19 3 17 18,aY 20 3 19,cO 4 (alloc (AV.agg [AV.esl,AV.esl,AV.esl])),a7 3 4 20] (ae [aw 21 0 4,aj 22 21,aV 23 22,ar 24 .gtr 23 10,aa 25 24,aJ 26 25 (fa 1 (t 4)),aJ 27 25 (cD 26),aJ 28 25 (call (cF 112) [t 27,cN ((30))]),aJ 29 25 (un UnOp.not (t 28)),dQ 30 25 29,aa 31 30,aJ 32 31 (fa 2 (t 4)),aJ 33 31 (cD 32),aJ 34 31 (call (cF 112) [t 33,cN ((30))]),aJ 35 31 (un UnOp.not (t 34)),dQ 36 31 35] (az 36 (am [ct 2]))))).seq (ops 0 [aa 14 3,ar 15 .add 14 1,aa 3 15]))).loop)).seq (am [kB 2])))))
theorem PK:Is Tryz.prog 88 b88:=mkI Tryz.func88
def b89:F2:=(F2.mk 12 [RV.t 2] (ae [bS 1 0,ct 2] (am [aw 3 1 1,aj 4 3,aV 5 4,ar 6 .leq 5 8,aa 7 6,aq 8 7 (ldn 2 (t 1)),aq 9 7 (call (cF 113) [t 8]),aq 10 7 (cB .leq (t 9) (cN 40)),en 11 7 10,aa 2 11])))
theorem Qh:Is Tryz.prog 89 b89:=mkI Tryz.func89
def b90:F2:=(F2.mk 32 [RV.t 2] (ae [bS 1 0,ao 2 0] ((ae [aw 5 0 1,aY 6 4 5,aM 7 114 [t 6],aa 3 7] (ae [aa 8 3,ar 9 .neq 8 0] (az 9 (am [aa 10 3,aa 2 10])))).seq ((ae [aw 11 4 1,aY 12 2 11,aM 13 115 [t 12],aa 4 13] (ae [aa 14 4,ar 15 .neq 14 0] (az 15 (am [aa 16 4,aa 2 16])))).seq ((ae [aw 17 0 1,aw 18 0 17,aj 19 18,aw 20 4 1,aw 21 0 20,aj 22 21,aW 23 .neq 19 22] (az 23 (am [ao 2 22]))).seq ((ae [aw 24 6 1,aj 25 24,ar 26 .lss 25 0,aa 27 26,aJ 28 27 (fa 6 (t 1)),aJ 29 27 (cD 28),aJ 30 27 (cB .gtr (t 29) (cN 6)),dQ 31 27 30] (az 31 (am [ao 2 2]))).seq (am [ao 2 0])))))))
theorem Qw:Is Tryz.prog 90 b90:=mkI Tryz.func90
def b91:F2:=(F2.mk 16 [RV.t 4] (ae [bS 2 0,ao 4 0] ((mixS 1 [aw 5 0 2,aw 6 3 5,aj 7 6,aV 8 7,aw 9 4 2,aY 10 2 9,aw 11 6 2,aj 12 11,aa 13 1,aM 14 116 [t 10,t 12,t 13],aW 15 .mul 8 14,aa 4 15] [(0,0),(1,0),(2,0),(3,0),(4,0),(5,0),(6,0),(7,0),(8,0),(9,1),(10,0),(11,0)]).seq ret)))
theorem Qy:Is Tryz.prog 91 b91:=mkI Tryz.func91
def b92:F2:=(F2.mk 116 [RV.cn 2 10] (ae [bS 1 0,cO 2 (alloc (AV.agg [ag,ag,ag,AV.esl,ag,AV.esl,ag,ag,AV.esl,AV.esl]))] (ae [aY 14 7 1,aw 15 0 1,aw 16 0 15,aj 17 16,cO 18 (bld [ag,AV.esl] [(0,1,t 17)]),cO 19 (bld [ag,ag,ag,AV.esl,ag,AV.esl,ag,ag,AV.esl,AV.esl] [(0,7,t 14),(7,2,t 18)]),cO 3 (alloc (AV.agg [ag,ag,ag,AV.esl,ag,AV.esl,ag,ag,AV.esl,AV.esl])),a7 10 3 19] (ae [aw 20 4 1,aY 21 2 20,aw 22 6 1,aj 23 22,aM 24 117 ([t 21,cN ((0)),t 23]),aa 4 24] ((ae [ao 5 0] (block 0 ((ae [aa 25 5,aw 26 0 1,aw 27 3 26,aj 28 27,aV 29 28,aW 30 .lss 25 29] (co 30 skip (exit 0))).seq ((block 1 (ae [ao 6 0] (block 2 ((ae [aa 33 6,aa 34 4,aV 35 34,aW 36 .lss 33 35] (co 36 skip (exit 2))).seq ((block 3 (ae [aa 39 5,aa 40 4,aa 41 6,aE 42 1 40 41,aj 43 42,cO 44 (bld [ag,AV.esl,AV.esl] [(0,1,t 39),(1,1,t 43)]),cO 7 (alloc (AV.agg [ag,AV.esl,AV.esl])),a7 3 7 44] ((ae [ao 8 0] (block 4 ((ae [aa 45 8,aw 46 6 1,aj 47 46,aW 48 .leq 45 47] (co 48 skip (exit 4))).seq ((block 5 (ae [dr 9] ((ae [ao 10 0] (block 6 ((ae [aa 51 10,aw 52 0 1,aw 53 0 52,aj 54 53,aW 55 .lss 51 54] (co 55 skip (exit 6))).seq ((block 7 (ae [aa 58 10,aw 59 0 1,aw 60 3 59,aj 61 60,aa 62 5,aE 63 3 61 62,aw 64 0 63,aj 65 64,aa 66 10,aE 67 1 65 66,aj 68 67,aM 69 118 [t 58,t 68],cO 11 (alloc (AV.agg [ag,ag,ag,ag,ag,ag,ag,ag])),a7 8 11 69] ((ae [aa 70 8,cO 71 (cB .gtr (t 70) (cN ((Int.ofNat 0))))] (az 71 (mixS 1 [aa 72 4,aa 73 6,aE 74 1 72 73,aj 75 74,aa 76 8,cO 77 (cB .sub (t 76) (cN ((Int.ofNat 1)))),aE 78 7 75 77,aw 79 0 78,aY 80 6 79,aa 81 8,aa 82 10,aw 83 2 7,aj 84 83,aa 85 8,cO 86 (cB .sub (t 85) (cN ((Int.ofNat 1)))),aE 87 1 84 86,aj 88 87,aM 89 119 [t 80,t 81,t 82,t 88],a7 8 11 89] [(0,0),(1,0),(2,0),(3,0),(4,0),(5,0),(6,0),(7,0),(8,0),(9,0),(10,0),(11,0),(12,0),(13,0),(14,0),(15,0),(16,0),(17,2),(18,2)]))).seq (ae [aw 91 7 3,aY 92 2 91,aY 93 8 11,aM 94 120 [t 92,t 93],aa 90 94,bW 95 90 0,bW 96 90 1,cO 12 (alloc (AV.agg [ag,AV.esl])),a7 2 12 95,aa 13 96] (ae [aY 97 2 12,aw 98 7 3,a7 2 98 97] (ops 0 [aa 99 9,aa 100 13,cO 101 (bldS 1 1 [ag] [(0,1,t 100)]),fX 102 1 8 99 101,aa 9 102])))))).seq (ops 0 [aa 56 10,ar 57 .add 56 1,aa 10 57]))).loop)).seq (ops 0 [aw 103 2 7,aj 104 103,aa 105 9,cO 106 (bldS 1 1 [AV.esl] [(0,1,t 105)]),fX 107 1 24 104 106,aw 108 2 7,a7 1 108 107])))).seq (ops 0 [aa 49 8,ar 50 .add 49 1,aa 8 50]))).loop)).seq (ops 0 [aw 109 9 3,aj 110 109,aY 111 3 7,cO 112 (bldS 3 1 [ag,AV.esl,AV.esl] [(0,3,t 111)]),fX 113 3 56 110 112,aw 114 9 3,a7 1 114 113])))).seq (ops 0 [aa 37 6,ar 38 .add 37 1,aa 6 38]))).loop))).seq (ops 0 [aa 31 5,ar 32 .add 31 1,aa 5 32]))).loop)).seq (am [aY 115 10 3,a7 10 2 115]))))))
theorem QB:Is Tryz.prog 92 b92:=mkI Tryz.func92
def b93:F2:=(F2.mk 26 [RV.t 4] (ae [ct 4] ((ae [aa 6 0,aV 7 6,aa 8 1,aV 9 8,aW 10 .neq 7 9] (az 10 (am [ct 4]))).seq ((ae [aa 11 0,aV 12 11,ao 13 0] (block 0 ((dh 14 13 12 0 ((block 1 (ae [aa 15 13,aa 5 15] ((ops 1 [aa 16 0,aa 17 5,aE 18 7 16 17,aY 19 7 18,aa 20 1,aa 21 5,aE 22 7 20 21,aY 23 7 22,cO 24 (binS BinOp.neq [int,int,int,int,int,int,int] (t 19) (t 23))]).seq (az 24 (am [ct 4]))))).seq (cW 25 13)))).loop)).seq (am [kB 4])))))
theorem QC:Is Tryz.prog 93 b93:=mkI Tryz.func93
def b94:F2:=(F2.mk 32 [RV.t 6] (ae [ct 6] ((ae [aa 10 0,aV 11 10,aa 12 1,aV 13 12,aW 14 .neq 11 13] (az 14 (am [ct 6]))).seq ((ae [aa 15 0,aV 16 15,ao 17 0] (block 0 ((dh 18 17 16 0 ((block 1 (ae [aa 19 17,aE 20 1 15 17,aj 21 20,aa 7 19,aa 8 21] (ae [aa 22 1,aa 23 7,aE 24 1 22 23,aj 25 24,aa 9 25] (ae [aa 26 2,aa 27 8,aa 28 9,cO 29 (call (t 26) [t 27,t 28]),ie 30 29] (az 30 (am [ct 6])))))).seq (cW 31 17)))).loop)).seq (am [kB 6])))))
theorem PQ:Is Tryz.prog 94 b94:=mkI Tryz.func94
def b95:F2:=(F2.mk 26 [RV.t 4] (ae [ct 4] ((ae [aa 6 0,aV 7 6,aa 8 1,aV 9 8,aW 10 .neq 7 9] (az 10 (am [ct 4]))).seq ((ae [aa 11 0,aV 12 11,ao 13 0] (block 0 ((dh 14 13 12 0 ((block 1 (ae [aa 15 13,aa 5 15] ((ops 1 [aa 16 0,aa 17 5,aE 18 1 16 17,aj 19 18,aa 20 1,aa 21 5,aE 22 1 20 21,aj 23 22,aW 24 .neq 19 23]).seq (az 24 (am [ct 4]))))).seq (cW 25 13)))).loop)).seq (am [kB 4])))))
theorem QL:Is Tryz.prog 95 b95:=mkI Tryz.func95
def b96:F2:=(F2.mk 39 [RV.cn 2 1] (ae [cO 2 (alloc (AV.agg [AV.esl]))] (ae [aa 7 0,aM 8 121 [t 7],aa 0 8] (ae [aa 9 0,aM 10 87 ([t 9,c (AV.func 65 [])])] (ae [aa 11 0,aM 12 122 ([t 11,c (AV.func 123 [])]),aa 0 12] (ae [aa 13 0,aM 14 66 [t 13],aa 3 14] (ae [cO 4 (alloc (AV.agg [AV.esl]))] ((ae [aa 15 0,aV 16 15,ao 17 0] (block 0 ((dh 18 17 16 0 ((block 1 (ae [aE 19 1 15 17,aj 20 19,aa 6 20] (ae [aa 21 0,aa 22 3,aa 23 6,cO 24 (ixaS 2 (t 23) (cN 0)),aY 25 2 24,cO 26 (Ins.mget (MK.st [int,int]) AV.esl false (t 22) (t 25)),aa 27 6,aM 28 67 [t 21,t 26,t 27],ie 29 28] (az 29 (mixS 1 [aw 30 0 4,aj 31 30,aa 32 6,aM 33 124 [t 32],cO 34 (bldS 1 1 [AV.esl] [(0,1,t 33)]),fX 35 1 24 31 34,aw 36 0 4,a7 1 36 35] [(0,0),(1,0),(2,0),(3,1),(4,1),(5,2),(6,0),(7,2)]))))).seq (cW 37 17)))).loop)).seq (am [aY 38 1 4,a7 1 2 38])))))))))
theorem Qq:Is Tryz.prog 96 b96:=mkI Tryz.func96
def b97:F2:=(F2.mk 13 [RV.t 4] (ae [bS 2 0,dr 4] ((ae [aa 6 1] (block 0 (rangeF (t 6) [7] (ops 0 [aa 5 7]) (block 1 (ops 0 [aj 8 2,aa 9 5,cO 10 (bldS 1 1 [AV.esl] [(0,1,t 9)]),fX 11 1 24 8 10,a7 1 2 11]))))).seq (am [aj 12 2,aa 4 12]))))
theorem M7:Is Tryz.prog 97 b97:=mkI Tryz.func97
def b98:F2:=(F2.mk 34 [] (ae [aw 7 9 1,aj 8 7,aV 9 8,ao 10 0] (block 0 ((dh 11 10 9 0 ((block 1 (ae [aE 12 3 8 10,aY 13 3 12,cO 5 (alloc (AV.agg [ag,AV.esl,AV.esl])),a7 3 5 13] ((ae [aj 14 2,ar 15 .geq 14 0,aa 16 15,aq 17 16 (fa 0 (t 5)),aq 18 16 (cD 17),aq 19 16 (cD 2),aq 20 16 (cB .neq (t 18) (t 19)),en 21 16 20] (az 21 (exit 1))).seq (ae [aY 22 3 5,aM 23 52 [t 22],aa 6 23] (ae [aa 24 6,aV 25 24,ar 26 .gtr 25 0,aa 27 26,aq 28 27 (cM 0),aq 29 27 (cM 6),aq 30 27 (call (t 28) [t 29]),aq 31 27 (un UnOp.not (t 30)),en 32 27 31] (co 32 ret skip)))))).seq (cW 33 10)))).loop)))
theorem QK:Is Tryz.prog 98 b98:=mkI Tryz.func98
def b99:F2:=(F2.mk 21 [RV.t 2] (ae [bS 1 0,ct 2] (am [aw 3 0 1,aj 4 3,ar 5 .geq 4 0,aa 6 5,aq 7 6 (fa 0 (t 1)),aq 8 6 (cD 7),aq 9 6 (cB .lss (t 8) (cN 8)),en 10 6 9,aa 11 10,aq 12 11 (fa 1 (t 1)),aq 13 11 (cD 12),aq 14 11 (cB .geq (t 13) (cN 0)),en 15 11 14,aa 16 15,aq 17 16 (fa 1 (t 1)),aq 18 16 (cD 17),aq 19 16 (cB .leq (t 18) (cN 1048576)),en 20 16 19,aa 2 20])))
theorem PT:Is Tryz.prog 99 b99:=mkI Tryz.func99
def Ni:F2:=(F2.mk 17 [RV.t 4] (ae [bS 2 0,bS 3 1,ao 4 0] ((mixS 1 [aw 5 0 2,aj 6 5,aw 7 0 3,aj 8 7,aM 9 126 [t 6,t 8],aw 10 1 2,aj 11 10,aw 12 1 3,aj 13 12,aM 14 126 [t 11,t 13],cO 15 (bldS 1 2 [ag] [(0,1,t 9),(1,1,t 14)]),aM 16 125 [t 15],aa 4 16] [(0,0),(1,0),(2,0),(3,0),(5,0),(6,0),(7,0),(8,0),(4,1),(9,2),(10,2),(11,2),(12,0)]).seq ret)))
theorem Nf:Is Tryz.prog 100 Ni:=mkI Tryz.func100
def NG:F2:=(F2.mk 39 [RV.t 6] (ae [ao 6 0] ((ae [aa 11 0,aV 12 11,ao 13 0] (block 0 ((dh 14 13 12 0 ((block 1 (ae [aa 15 13,aE 16 2 11 13,aY 17 2 16,cO 8 (alloc (AV.agg [ag,ag])),aa 7 15,a7 2 8 17] ((ae [aa 18 7,aa 19 1,aV 20 19,aW 21 .geq 18 20] (az 21 (am [ao 6 1]))).seq (ae [aa 22 1,aa 23 7,aE 24 2 22 23,aY 25 2 24,cO 9 (alloc (AV.agg [ag,ag])),a7 2 9 25] (ae [aa 26 2,aY 27 2 8,aY 28 2 9,cO 29 (call (t 26) [t 27,t 28]),aa 10 29] (ae [aa 30 10,ar 31 .neq 30 0] (az 31 (am [aa 32 10,aa 6 32])))))))).seq (cW 33 13)))).loop)).seq ((ae [aa 34 0,aV 35 34,aa 36 1,aV 37 36,aW 38 .lss 35 37] (az 38 (am [cO 6 (mov (cN ((-1))))]))).seq (am [ao 6 0])))))
theorem Nl:Is Tryz.prog 101 NG:=mkI Tryz.func101
def K2:F2:=(F2.mk 9 [RV.t 4] (ae [ct 4] (am [aa 5 0,aa 6 1,aM 7 127 [t 5,t 6],ar 8 .geq 7 0,aa 4 8])))
theorem JN:Is Tryz.prog 102 K2:=mkI Tryz.func102
def MW:F2:=(F2.mk 21 [RV.t 4] (ae [ct 4] ((mixS 1 [aj 5 1,aa 6 0,aE 7 1 5 6,aj 8 7,aV 9 8,aj 10 2,aV 11 10,aW 12 .gtr 9 11,aa 13 12,aq 14 13 (cD 2),aq 15 13 (cD 1),aq 16 13 (cM 0),aq 17 13 (ixaS 1 (t 15) (t 16)),aq 18 13 (cD 17),aq 19 13 (call (cF 104) [t 14,t 18]),en 20 13 19,aa 4 20] [(0,0),(1,0),(2,0),(3,0),(4,0),(5,0),(6,0),(7,0),(8,0),(9,0),(10,0),(11,0),(12,0),(13,0),(14,2),(15,0),(16,0)]).seq ret)))
theorem Mq:Is Tryz.prog 103 MW:=mkI Tryz.func103
def O4:F2:=(F2.mk 29 [RV.t 4] (ae [ct 4] ((ae [aa 7 0,aV 8 7,ao 9 0] (block 0 ((dh 10 9 8 0 ((block 1 (ae [aE 11 2 7 9,aY 12 2 11,cO 6 (alloc (AV.agg [ag,ag])),a7 2 6 12] ((block 2 (((ops 1 [aa 13 1,aV 14 13,ar 15 .gtr 14 0,aa 16 15,aq 17 16 (cM 1),aq 18 16 (ixaS 2 (t 17) (cN 0)),aq 19 16 (ldn 2 (t 18)),aq 20 16 (ldn 2 (t 6)),aq 21 16 (binS BinOp.neq [int,int] (t 19) (t 20)),en 22 16 21]).seq (co 22 skip (exit 2))).seq (block 3 (ops 0 [aa 23 1,cO 24 (sls 2 (t 23) (some (cN 1)) none none),aa 1 24]))).loop).seq (ae [aa 25 1,aV 26 25,ar 27 .eql 26 0] (az 27 (am [ct 4])))))).seq (cW 28 9)))).loop)).seq (am [kB 4]))))
theorem MG:Is Tryz.prog 104 O4:=mkI Tryz.func104
def Od:F2:=(F2.mk 29 [RV.t 2] (ae [ao 2 0] ((ae [aa 6 0,aV 7 6,ar 8 .gtr 7 65536] (az 8 (am [ao 2 5]))).seq (ae [ao 3 0] ((ae [aa 9 0,aV 10 9,ao 11 0] (block 0 ((dh 12 11 10 0 ((block 1 (ae [aE 13 1 9 11,aj 14 13,aa 5 14] (block 2 (ae [aa 16 5,ar 17 .lss 16 0,aa 15 17] (co 15 (am [ao 2 2]) (ae [aa 19 5,aa 20 3,aW 21 .gtr 19 20,aa 18 21] (co 18 (am [ao 2 14]) (ae [aa 23 5,aa 24 3,aW 25 .eql 23 24,aa 22 25] (az 22 (ops 0 [aa 26 3,ar 27 .add 26 1,aa 3 27])))))))))).seq (cW 28 11)))).loop)).seq (am [ao 2 0]))))))
theorem OT:Is Tryz.prog 105 Od:=mkI Tryz.func105
def Oi:F2:=(F2.mk 83 [RV.t 2] (ae [bS 1 0,ao 2 0] ((block 0 ((ae [aw 8 0 1,aj 9 8,ar 10 .lss 9 1,aa 11 10,aJ 12 11 (fa 0 (t 1)),aJ 13 11 (cD 12),aJ 14 11 (cB .gtr (t 13) (cN 5)),dQ 15 11 14,aa 7 15] (co 7 skip (ae [aw 16 1 1,aj 17 16,ar 18 .lss 17 1,aa 19 18,aJ 20 19 (fa 1 (t 1)),aJ 21 19 (cD 20),aJ 22 19 (cB .gtr (t 21) (cN 8)),dQ 23 19 22,aa 7 23] (co 7 skip (ops 0 [aw 24 2 1,aj 25 24,ar 26 .lss 25 1,aa 27 26,aJ 28 27 (fa 2 (t 1)),aJ 29 27 (cD 28),aJ 30 27 (cB .gtr (t 29) (cN 8)),dQ 31 27 30,aa 7 31]))))).seq (co 7 (am [ao 2 2]) (ae [aw 33 3 1,aj 34 33,aV 35 34,ar 36 .lss 35 1,aa 37 36,aJ 38 37 (fa 3 (t 1)),aJ 39 37 (cD 38),aJ 40 37 (lenS (t 39)),aJ 41 37 (cB .gtr (t 40) (cN 1024)),dQ 42 37 41,aa 32 42] (az 32 (am [ao 2 5])))))).seq ((ae [aw 43 3 1,aj 44 43,aV 45 44,ao 46 0] (block 1 ((dh 47 46 45 1 ((block 2 (ae [aa 48 46,aE 49 3 44 46,aY 50 3 49,cO 4 (alloc (AV.agg [AV.esl,AV.esl,AV.esl])),aa 3 48,a7 3 4 50] ((ae [aw 51 0 4,aj 52 51,aw 53 0 1,aj 54 53,aw 55 1 1,aj 56 55,aM 57 128 [t 52,t 54,t 56],aa 5 57] (ae [aa 58 5,ar 59 .neq 58 0] (az 59 (am [aa 60 5,aa 2 60])))).seq (((mixS 1 [aa 61 3,ar 62 .gtr 61 0,aa 63 62,aq 64 63 (fa 3 (t 1)),aq 65 63 (cD 64),aq 66 63 (cM 3),aq 67 63 (cB .sub (t 66) (cN 1)),aq 68 63 (ixaS 3 (t 65) (t 67)),aq 69 63 (fa 0 (t 68)),aq 70 63 (cD 69),aq 71 63 (fa 0 (t 4)),aq 72 63 (cD 71),aq 73 63 (call (cF 129) [t 70,t 72]),aq 74 63 (cB .geq (t 73) (cN 0)),en 75 63 74] [(0,0),(1,0),(2,0),(3,0),(4,0),(5,0),(6,0),(7,0),(8,0),(9,0),(10,0),(11,0),(12,2),(13,0),(14,0)]).seq (az 75 (am [ao 2 14]))).seq (ae [aY 76 4 1,aY 77 3 4,aM 78 130 [t 76,t 77],aa 6 78] (ae [aa 79 6,ar 80 .neq 79 0] (az 80 (am [aa 81 6,aa 2 81])))))))).seq (cW 82 46)))).loop)).seq (am [ao 2 0])))))
theorem N4:Is Tryz.prog 106 Oi:=mkI Tryz.func106
def NB:F2:=(F2.mk 62 [RV.c1 2] (ae [bS 1 0,cO 2 (alloc (ag))] ((ae [aw 11 0 1,aj 12 11,ar 13 .lss 12 1,aa 14 13,aJ 15 14 (fa 0 (t 1)),aJ 16 14 (cD 15),aJ 17 14 (cB .gtr (t 16) (cN 5)),dQ 18 14 17] (az 18 (am [Op2.mk none none (Ins.st 1 (t 2) (cN 2))]))).seq ((ae [aY 19 2 1,aM 20 131 [t 19],aa 3 20] (ae [aa 21 3,ar 22 .neq 21 0] (az 22 (am [aa 23 3,a7 1 2 23])))).seq ((ae [aw 24 1 1,aj 25 24,aV 26 25,ao 27 0] (block 0 ((dh 28 27 26 0 ((block 1 (ae [aE 29 1 25 27,aj 30 29,aa 5 30] (ae [aY 31 2 1,aa 32 5,aM 33 132 [t 31,t 32],aa 6 33] (ae [aa 34 6,ar 35 .neq 34 0] (az 35 (am [aa 36 6,a7 1 2 36])))))).seq (cW 37 27)))).loop)).seq ((ae [aY 38 2 1,aM 39 133 [t 38]] (block 2 (rangeF (t 39) [40,41] (ops 0 [cO 8 (alloc (AV.agg [ag,ag,ag,ag,ag,ag,ag,ag])),a7 8 8 41]) (block 3 (ae [aw 42 1 1,aj 43 42,aw 44 7 8,aj 45 44,aE 46 1 43 45,aj 47 46,aV 48 47,ao 49 0] (block 4 ((dh 50 49 48 4 ((block 5 (ae [aE 51 8 47 49,aY 52 8 51,cO 10 (alloc (AV.agg [ag,ag,ag,ag,ag,ag,ag,ag])),a7 8 10 52] (ae [aw 53 0 8,aw 54 6 53,aj 55 54,aw 56 0 10,aw 57 6 56,aj 58 57,aW 59 .andNot 55 58,ar 60 .neq 59 0] (az 60 (am [Op2.mk none none (Ins.st 1 (t 2) (cN 21))]))))).seq (cW 61 49)))).loop)))))).seq (am [Op2.mk none none (Ins.st 1 (t 2) (cN 0))])))))))
theorem Nr:Is Tryz.prog 107 NB:=mkI Tryz.func107
def Me:F2:=(F2.mk 47 [RV.t 6] (ae [bS 3 0,bS 5 2,ao 6 0] (ae [cO 11 (bldS 1 1 [ag] [(0,1,cN ((1)))]),aw 12 1 3,aj 13 12,aV 14 13,aM 15 8 [t 11,t 14],cO 7 (alloc AV.esl),a7 1 7 15] ((ae [aa 16 1,ao 17 0] (block 0 ((dh 18 17 16 0 ((block 1 (ae [aj 19 7,aV 20 19,cO 21 (mks 1 8 [ag] (t 20) (t 20)),cO 8 (alloc AV.esl),a7 1 8 21] ((ae [aY 22 2 3,aM 23 133 [t 22]] (block 2 (rangeF (t 23) [24,25] (ae [aa 9 24] (ops 0 [cO 10 (alloc (AV.agg [ag,ag,ag,ag,ag,ag,ag,ag])),a7 8 10 25])) (block 3 (ops 1 [aj 26 8,aa 27 9,aj 28 8,aa 29 9,aE 30 1 28 29,aj 31 30,aj 32 7,aw 33 7 10,aj 34 33,aE 35 1 32 34,aj 36 35,aW 37 .add 31 36,aj 38 5,ar 39 .add 38 1,cO 40 (mn (t 37) [t 39]),aE 41 1 26 27,a7 1 41 40]))))).seq (ops 0 [aj 42 8,a7 1 7 42])))).seq (cW 43 17)))).loop)).seq (am [aj 44 7,cO 45 (ixaS 1 (t 44) (cN 0)),aj 46 45,aa 6 46])))))
theorem Pk:Is Tryz.prog 108 Me:=mkI Tryz.func108
def N2:F2:=(F2.mk 6 [RV.t 4] (ae [bS 2 0,bS 3 1,cO 4 (mov (c AV.nilf))] (am [cO 5 (mkfn 134 [t 3,t 2]),aa 4 5])))
theorem Mx:Is Tryz.prog 109 N2:=mkI Tryz.func109
def Kc:F2:=(F2.mk 148 [] (ae [kB 10] (ae [kB 11] (block 0 (block 1 (ae [aa 21 2,aa 22 1,aW 23 .sub 21 22,aa 12 23] ((ae [aa 24 12,ar 25 .leq 24 12] (az 25 (am [aa 26 0,aa 27 1,aa 28 2,aa 29 4,aM 30 136 [t 26,t 27,t 28,t 29]]))).seq ((ae [aa 31 3,ar 32 .eql 31 0] (az 32 (am [aa 33 0,aa 34 1,aa 35 2,aa 36 4,aM 37 137 [t 33,t 34,t 35,t 36]]))).seq ((ae [aa 38 10,ie 39 38] (az 39 (ae [aa 40 0,aa 41 1,aa 42 2,aa 43 4,aM 44 138 [t 40,t 41,t 42,t 43]] (ops 0 [aa 45 3,ar 46 .sub 45 1,aa 3 46])))).seq (ae [aa 48 0,aa 49 1,aa 50 2,aa 51 4,aM 52 139 [t 48,t 49,t 50,t 51],aa 47 52,bW 53 47 0,bW 54 47 1,aa 13 53,aa 14 54] ((ae [aa 55 14,ar 56 .eql 55 2] (az 56 (ae [aa 57 0,aa 58 1,aa 59 2,aa 60 4,aM 61 140 [t 57,t 58,t 59,t 60]] (ae [aa 62 2,ar 63 .sub 62 1,aa 64 13,aa 65 1,aW 66 .sub 64 65,aW 67 .sub 63 66,aa 13 67] (ops 0 [ao 14 1]))))).seq ((ae [aa 68 10,aa 69 68,aq 70 69 (cM 11),en 71 69 70,aa 72 71,aq 73 72 (cM 14),aq 74 72 (cB .eql (t 73) (cN 1)),en 75 72 74] (az 75 (ae [aa 76 0,aa 77 1,aa 78 2,aa 79 4,aM 80 141 [t 76,t 77,t 78,t 79]] (co 80 ret skip)))).seq (((mixS 1 [aa 81 1,ar 82 .gtr 81 0,aa 83 82,aq 84 83 (cM 4),aq 85 83 (cM 0),aq 86 83 (cM 1),aq 87 83 (cB .sub (t 86) (cN 1)),aq 88 83 (ixaS 1 (t 85) (t 87)),aq 89 83 (cD 88),aq 90 83 (cM 0),aq 91 83 (cM 13),aq 92 83 (ixaS 1 (t 90) (t 91)),aq 93 83 (cD 92),aq 94 83 (call (t 84) [t 89,t 93]),aq 95 83 (cB .lss (t 94) (cN 0)),aq 96 83 (un UnOp.not (t 95)),en 97 83 96] [(0,0),(1,0),(2,0),(3,0),(4,0),(5,0),(6,0),(7,0),(8,0),(9,0),(10,0),(11,0),(12,0),(13,2),(14,0),(15,0),(16,0)]).seq (az 97 (ae [aa 98 0,aa 99 1,aa 100 2,aa 101 13,aa 102 4,aM 103 142 [t 98,t 99,t 100,t 101,t 102],aa 15 103] (ae [aa 104 15,aa 1 104] (exit 1))))).seq (ae [aa 106 0,aa 107 1,aa 108 2,aa 109 13,aa 110 4,aM 111 143 [t 106,t 107,t 108,t 109,t 110],aa 105 111,bW 112 105 0,bW 113 105 1,aa 16 112,aa 17 113] (ae [aa 114 17,aa 11 114] (ae [aa 115 16,aa 116 1,aW 117 .sub 115 116,aa 118 2,aa 119 16,aW 120 .sub 118 119,aa 18 117,aa 19 120] (ae [aa 121 12,ar 122 .quo 121 8,aa 20 122] (ae [aa 123 18,aa 124 19,aW 125 .lss 123 124] (co 125 (ae [aa 126 18,aa 127 20,aW 128 .geq 126 127,aa 10 128] (ae [aa 129 0,aa 130 1,aa 131 16,aa 132 3,aa 133 4,aM 134 110 [t 129,t 130,t 131,t 132,t 133]] (ops 0 [aa 135 16,ar 136 .add 135 1,aa 1 136]))) (ae [aa 137 19,aa 138 20,aW 139 .geq 137 138,aa 10 139] (ae [aa 140 0,aa 141 16,ar 142 .add 141 1,aa 143 2,aa 144 3,aa 145 4,aM 146 110 [t 140,t 142,t 143,t 144,t 145]] (ops 0 [aa 147 16,aa 2 147])))))))))))))))))).loop))))
theorem JF:Is Tryz.prog 110 Kc:=mkI Tryz.func110
def JY:F2:=(F2.mk 8 [RV.t 2] (ae [ao 2 0] ((C2.cond IQ (am [aa 3 0,cO 4 (conv IntKind.u32 (t 3)),aM 5 144 [t 4],aa 2 5]) skip).seq (am [aa 6 0,aM 7 145 [t 6],aa 2 7]))))
theorem JX:Is Tryz.prog 111 JY:=mkI Tryz.func111
def M5:F2:=(F2.mk 22 [RV.t 4] (ae [ct 4] ((ae [aa 6 0,aV 7 6,aa 8 1,aW 9 .gtr 7 8] (az 9 (am [ct 4]))).seq ((ae [ao 5 0] (block 0 ((ae [aa 10 5,aa 11 0,aV 12 11,aW 13 .lss 10 12] (co 13 skip (exit 0))).seq ((block 1 (ae [aa 16 0,aa 17 5,aE 18 1 16 17,aj 19 18,aV 20 19,ar 21 .gtr 20 10] (az 21 (am [ct 4])))).seq (ops 0 [aa 14 5,ar 15 .add 14 1,aa 5 15]))).loop)).seq (am [kB 4])))))
theorem Nk:Is Tryz.prog 112 M5:=mkI Tryz.func112
def Mv:F2:=(F2.mk 21 [RV.t 2] (ae [bS 1 0,ao 2 0] (ae [ao 3 0] ((ae [ao 4 0] (block 0 ((ae [aa 5 4,aw 6 1 1,aj 7 6,aV 8 7,aW 9 .lss 5 8] (co 9 skip (exit 0))).seq ((block 1 (ops 0 [aa 12 3,aw 13 1 1,aj 14 13,aa 15 4,aE 16 1 14 15,aj 17 16,aV 18 17,aW 19 .add 12 18,aa 3 19])).seq (ops 0 [aa 10 4,ar 11 .add 10 1,aa 4 11]))).loop)).seq (am [aa 20 3,aa 2 20])))))
theorem Ph:Is Tryz.prog 113 Mv:=mkI Tryz.func113
def N3:F2:=(F2.mk 56 [RV.t 2] (ae [bS 1 0,ao 2 0] ((ae [aw 5 0 1,aj 6 5,ar 7 .lss 6 1,aa 8 7,aJ 9 8 (fa 0 (t 1)),aJ 10 8 (cD 9),aJ 11 8 (cB .gtr (t 10) (cN 5)),dQ 12 8 11,aa 13 12,aJ 14 13 (fa 1 (t 1)),aJ 15 13 (cD 14),aJ 16 13 (cB .lss (t 15) (cN 1)),dQ 17 13 16,aa 18 17,aJ 19 18 (fa 1 (t 1)),aJ 20 18 (cD 19),aJ 21 18 (cB .gtr (t 20) (cN 8)),dQ 22 18 21,aa 23 22,aJ 24 23 (fa 2 (t 1)),aJ 25 23 (cD 24),aJ 26 23 (cB .lss (t 25) (cN 1)),dQ 27 23 26,aa 28 27,aJ 29 28 (fa 2 (t 1)),aJ 30 28 (cD 29),aJ 31 28 (cB .gtr (t 30) (cN 8)),dQ 32 28 31] (az 32 (am [ao 2 2]))).seq ((ae [aw 33 3 1,aj 34 33,aV 35 34,ar 36 .lss 35 1,aa 37 36,aJ 38 37 (fa 3 (t 1)),aJ 39 37 (cD 38),aJ 40 37 (lenS (t 39)),aJ 41 37 (cB .gtr (t 40) (cN 1024)),dQ 42 37 41] (az 42 (am [ao 2 5]))).seq ((ae [ao 3 0] (block 0 ((ae [aa 43 3,aw 44 3 1,aj 45 44,aV 46 45,aW 47 .lss 43 46] (co 47 skip (exit 0))).seq ((block 1 (ae [aY 50 4 1,aa 51 3,aM 52 146 [t 50,t 51],aa 4 52] (ae [aa 53 4,ar 54 .neq 53 0] (az 54 (am [aa 55 4,aa 2 55]))))).seq (ops 0 [aa 48 3,ar 49 .add 48 1,aa 3 49]))).loop)).seq (am [ao 2 0]))))))
theorem OH:Is Tryz.prog 114 N3:=mkI Tryz.func114
def NH:F2:=(F2.mk 67 [RV.t 2] (ae [bS 1 0,ao 2 0] ((ae [aw 6 0 1,aj 7 6,ar 8 .lss 7 1,aa 9 8,aJ 10 9 (fa 0 (t 1)),aJ 11 9 (cD 10),aJ 12 9 (cB .gtr (t 11) (cN 5)),dQ 13 9 12] (az 13 (am [ao 2 2]))).seq ((ae [aw 14 1 1,aj 15 14,aV 16 15,ar 17 .lss 16 1,aa 18 17,aJ 19 18 (fa 1 (t 1)),aJ 20 18 (cD 19),aJ 21 18 (lenS (t 20)),aJ 22 18 (cB .gtr (t 21) (cN 256)),dQ 23 18 22,aa 24 23,aJ 25 24 (ldn 2 (t 1)),aJ 26 24 (call (cF 113) [t 25]),aJ 27 24 (cB .gtr (t 26) (cN 4096)),dQ 28 24 27] (az 28 (am [ao 2 5]))).seq ((ae [ao 3 0] (block 0 ((ae [aa 29 3,aw 30 1 1,aj 31 30,aV 32 31,aW 33 .lss 29 32] (co 33 skip (exit 0))).seq ((block 1 ((ae [aw 36 1 1,aj 37 36,aa 38 3,aE 39 1 37 38,aj 40 39,aV 41 40,ar 42 .eql 41 0] (az 42 (am [ao 2 19]))).seq (ae [ao 4 0] (block 2 ((ae [aa 43 4,aw 44 1 1,aj 45 44,aa 46 3,aE 47 1 45 46,aj 48 47,aV 49 48,aW 50 .lss 43 49] (co 50 skip (exit 2))).seq ((block 3 ((mixS 1 [aY 53 2 1,aw 54 1 1,aj 55 54,aa 56 3,aE 57 1 55 56,aj 58 57,aa 59 4,aM 60 147 [t 53,t 58,t 59],aa 5 60] [(0,0),(1,0),(2,0),(3,0),(4,0),(5,0),(6,0),(7,2),(8,0)]).seq (ae [aa 61 5,ar 62 .neq 61 0] (az 62 (am [aa 63 5,aa 2 63]))))).seq (ops 0 [aa 51 4,ar 52 .add 51 1,aa 4 52]))).loop)))).seq (ops 0 [aa 34 3,ar 35 .add 34 1,aa 3 35]))).loop)).seq ((ae [aY 64 2 1,aM 65 148 [t 64],ie 66 65] (az 66 (am [ao 2 21]))).seq (am [ao 2 0])))))))
theorem Nh:Is Tryz.prog 115 NH:=mkI Tryz.func115
def MY:F2:=(F2.mk 71 [RV.t 6] (ae [bS 3 0,ao 6 0] (ae [dr 7] ((ae [ao 8 0] (block 0 ((ae [aa 14 8,aw 15 1 3,aj 16 15,aV 17 16,aW 18 .lss 14 17] (co 18 skip (exit 0))).seq ((block 1 (ops 0 [aa 21 7,cO 22 (bldS 1 1 [ag] [(0,1,cN ((1)))]),fX 23 1 8 21 22,aa 7 23])).seq (ops 0 [aa 19 8,ar 20 .add 19 1,aa 8 20]))).loop)).seq ((ae [ao 9 0] (block 2 ((ae [aa 24 9,aa 25 1,aW 26 .lss 24 25] (co 26 skip (exit 2))).seq ((block 3 (ae [dr 10] ((ae [ao 11 0] (block 4 ((ae [aa 29 11,aw 30 1 3,aj 31 30,aV 32 31,aW 33 .lss 29 32] (co 33 skip (exit 4))).seq ((block 5 (ae [ao 12 0] ((ae [ao 13 0] (block 6 ((ae [aa 36 13,aw 37 1 3,aj 38 37,aa 39 11,aE 40 1 38 39,aj 41 40,aV 42 41,aW 43 .lss 36 42] (co 43 skip (exit 6))).seq ((block 7 (ops 0 [aa 46 12,aa 47 7,aw 48 1 3,aj 49 48,aa 50 11,aE 51 1 49 50,aj 52 51,aa 53 13,aE 54 8 52 53,aw 55 7 54,aj 56 55,aE 57 1 47 56,aj 58 57,aW 59 .add 46 58,aa 60 2,ar 61 .add 60 1,cO 62 (mn (t 59) [t 61]),aa 12 62])).seq (ops 0 [aa 44 13,ar 45 .add 44 1,aa 13 45]))).loop)).seq (ops 0 [aa 63 10,aa 64 12,cO 65 (bldS 1 1 [ag] [(0,1,t 64)]),fX 66 1 8 63 65,aa 10 66])))).seq (ops 0 [aa 34 11,ar 35 .add 34 1,aa 11 35]))).loop)).seq (ops 0 [aa 67 10,aa 7 67])))).seq (ops 0 [aa 27 9,ar 28 .add 27 1,aa 9 28]))).loop)).seq (am [aa 68 7,cO 69 (ixaS 1 (t 68) (cN 0)),aj 70 69,aa 6 70]))))))
theorem N7:Is Tryz.prog 116 MY:=mkI Tryz.func116
def Lx:F2:=(F2.mk 59 [RV.t 6] (ae [bS 3 0,dr 6] ((ae [aa 13 2,ar 14 .eql 13 0] (az 14 (am [cO 15 (bldS 1 1 [AV.esl] [(0,1,c AV.esl)]),aa 6 15]))).seq (ae [dr 7] ((ae [ao 8 0] (block 0 ((ae [aa 16 8,aw 17 1 3,aj 18 17,aa 19 1,aE 20 1 18 19,aj 21 20,aV 22 21,aW 23 .lss 16 22] (co 23 skip (exit 0))).seq ((block 1 (ae [aw 26 1 3,aj 27 26,aa 28 1,aE 29 1 27 28,aj 30 29,aa 31 8,aE 32 8 30 31,aY 33 8 32,cO 9 (alloc (AV.agg [ag,ag,ag,ag,ag,ag,ag,ag])),a7 8 9 33] (ae [aY 34 2 3,aw 35 7 9,aj 36 35,aa 37 2,ar 38 .sub 37 1,aM 39 117 [t 34,t 36,t 38],aa 10 39] (ae [ao 11 0] (block 2 ((ae [aa 40 11,aa 41 10,aV 42 41,aW 43 .lss 40 42] (co 43 skip (exit 2))).seq ((block 3 (ae [aw 46 0 9,aY 47 7 46,cO 48 (bldS 7 1 [ag,ag,ag,ag,ag,ag,ag] [(0,7,t 47)]),aa 12 48] (ops 0 [aa 49 7,aa 50 12,aa 51 10,aa 52 11,aE 53 1 51 52,aj 54 53,fX 55 7 56 50 54,cO 56 (bldS 1 1 [AV.esl] [(0,1,t 55)]),fX 57 1 24 49 56,aa 7 57]))).seq (ops 0 [aa 44 11,ar 45 .add 44 1,aa 11 45]))).loop))))).seq (ops 0 [aa 24 8,ar 25 .add 24 1,aa 8 25]))).loop)).seq (am [aa 58 7,aa 6 58]))))))
theorem JJ:Is Tryz.prog 117 Lx:=mkI Tryz.func117
def LY:F2:=(F2.mk 18 [RV.cn 4 8] (ae [cO 4 (alloc (AV.agg [ag,ag,ag,ag,ag,ag,ag,ag]))] (ae [aa 7 0,aa 8 1,cO 9 (bld [ag,ag,ag,ag,ag,ag,ag,ag] [(0,1,t 7),(2,1,t 8)]),cO 5 (alloc (AV.agg [ag,ag,ag,ag,ag,ag,ag,ag])),a7 8 5 9] ((ae [ao 6 0] (block 0 ((ae [aa 10 6,ar 11 .lss 10 5] (co 11 skip (exit 0))).seq ((block 1 (ops 0 [aa 14 6,aw 15 3 5,cO 16 (ixaA 5 1 (t 15) (t 14)),Op2.mk none none (Ins.st 1 (t 16) (cN ((-1))))])).seq (ops 0 [aa 12 6,ar 13 .add 12 1,aa 6 13]))).loop)).seq (am [aY 17 8 5,a7 8 4 17])))))
theorem OI:Is Tryz.prog 118 LY:=mkI Tryz.func118
def ME:F2:=(F2.mk 41 [RV.cn 8 8] (ae [bS 4 0,cO 8 (alloc (AV.agg [ag,ag,ag,ag,ag,ag,ag,ag]))] (ae [aa 11 2,aa 12 1,cO 13 (bld [ag,ag,ag,ag,ag,ag,ag,ag] [(0,1,t 11),(1,1,t 12)]),cO 9 (alloc (AV.agg [ag,ag,ag,ag,ag,ag,ag,ag])),a7 8 9 13] ((ae [ao 10 0] (block 0 ((ae [aa 14 10,ar 15 .lss 14 5] (co 15 skip (exit 0))).seq ((block 1 (ae [aa 18 10,aw 19 3 9,cO 20 (ixaA 5 1 (t 19) (t 18)),Op2.mk none none (Ins.st 1 (t 20) (cN ((-1))))] (ae [aa 21 10,aw 22 0 4,aj 23 22,aW 24 .lss 21 23,aa 25 24,aq 26 25 (cM 2),aq 27 25 (fa 1 (t 4)),aq 28 25 (ixaA 5 1 (t 27) (t 26)),aq 29 25 (cD 28),aq 30 25 (cM 10),aq 31 25 (call (cF 149) [t 29,t 30]),en 32 25 31] (az 32 (ops 0 [aa 33 10,aa 34 3,aa 35 10,aE 36 1 34 35,aj 37 36,aw 38 3 9,cO 39 (ixaA 5 1 (t 38) (t 33)),a7 1 39 37]))))).seq (ops 0 [aa 16 10,ar 17 .add 16 1,aa 10 17]))).loop)).seq (am [aY 40 8 9,a7 8 8 40])))))
theorem Ow:Is Tryz.prog 119 ME:=mkI Tryz.func119
def OM:F2:=(F2.mk 31 [RV.cn 4 2,RV.t 5] (ae [bS 2 0,bS 3 1,cO 4 (alloc (AV.agg [ag,AV.esl])),ao 5 0] ((ae [aY 8 2 2,aY 9 8 3,aM 10 150 [t 8,t 9],aa 6 10] (ae [aa 11 6,ar 12 .geq 11 0] (az 12 (am [aY 13 2 2,aa 14 6,a7 2 4 13,aa 5 14])))).seq (ae [aw 15 0 2,aj 16 15,cO 17 (bld [ag,AV.esl] [(0,1,t 16)]),cO 7 (alloc (AV.agg [ag,AV.esl])),a7 2 7 17] ((mixS 9 [aw 18 1 7,aj 19 18,aw 20 1 2,aj 21 20,fX 22 8 64 19 21,aY 23 8 3,cO 24 (bldS 8 1 [ag,ag,ag,ag,ag,ag,ag,ag] [(0,8,t 23)]),fX 25 8 64 22 24,aw 26 1 7,a7 1 26 25] [(0,0),(1,0),(2,0),(3,0),(5,0),(6,3),(4,1),(7,2),(8,0),(9,2)]).seq ((mixS 2 [aY 27 2 7,aw 28 1 2,aj 29 28,aV 30 29,a7 2 4 27,aa 5 30] [(0,0),(1,0),(2,0),(3,0),(4,1),(5,0)]).seq ret))))))
theorem LK:Is Tryz.prog 120 OM:=mkI Tryz.func120
def Ns:F2:=(F2.mk 8 [RV.t 2] (ae [dr 2] ((ae [aa 3 0,cO 4 (snil false (t 3))] (az 4 (am [dr 2]))).seq (am [cO 5 (bldS 1 0 [AV.esl] []),aa 6 0,fX 7 1 24 5 6,aa 2 7]))))
theorem O7:Is Tryz.prog 121 Ns:=mkI Tryz.func121
def Ks:F2:=(F2.mk 66 [RV.t 4] (ae [dr 4] ((ae [aa 8 0,aV 9 8,ar 10 .lss 9 2] (az 10 (am [aa 11 0,aa 4 11]))).seq ((ae [ao 5 1] (block 0 ((ae [aa 12 5,aa 13 0,aV 14 13,aW 15 .lss 12 14] (co 15 skip (exit 0))).seq ((block 1 ((mixS 1 [aa 18 1,aa 19 0,aa 20 5,aE 21 1 19 20,aj 22 21,aa 23 0,aa 24 5,ar 25 .sub 24 1,aE 26 1 23 25,aj 27 26,cO 28 (call (t 18) [t 22,t 27])] [(0,0),(1,0),(2,0),(3,0),(4,0),(5,0),(6,0),(7,0),(8,0),(9,0),(10,2)]).seq (az 28 (ae [aa 29 0,aa 30 5,cO 31 (sls 1 (t 29) (some (t 30)) none none),aa 6 31] ((ae [ao 7 1] (block 2 ((ae [aa 32 7,aa 33 6,aV 34 33,aW 35 .lss 32 34] (co 35 skip (exit 2))).seq ((block 3 ((mixS 1 [aa 38 1,aa 39 6,aa 40 7,aE 41 1 39 40,aj 42 41,aa 43 6,aa 44 7,ar 45 .sub 44 1,aE 46 1 43 45,aj 47 46,cO 48 (call (t 38) [t 42,t 47]),ie 49 48] [(0,0),(1,0),(2,0),(3,0),(4,0),(5,0),(6,0),(7,0),(8,0),(9,0),(10,2),(11,0)]).seq (az 49 (ae [aa 50 0,aa 51 5,aa 52 6,aa 53 7,aE 54 1 52 53,aj 55 54,aE 56 1 50 51,a7 1 56 55] (ops 0 [aa 57 5,ar 58 .add 57 1,aa 5 58]))))).seq (ops 0 [aa 36 7,ar 37 .add 36 1,aa 7 37]))).loop)).seq (ae [aa 59 0,aa 60 5,cO 61 (sls 1 (t 59) (some (t 60)) none none),Op2.mk none none (clr 1 AV.esl (t 61))] (am [aa 62 0,aa 63 5,cO 64 (sls 1 (t 62) none (some (t 63)) none),aa 4 64]))))))).seq (ops 0 [aa 16 5,ar 17 .add 16 1,aa 5 17]))).loop)).seq (am [aa 65 0,aa 4 65])))))
theorem JK:Is Tryz.prog 122 Ks:=mkI Tryz.func122
def Pj:F2:=(F2.mk 26 [RV.t 4] (ae [ct 4] ((ae [aa 6 0,aV 7 6,aa 8 1,aV 9 8,aW 10 .neq 7 9] (az 10 (am [ct 4]))).seq ((ae [aa 11 0,aV 12 11,ao 13 0] (block 0 ((dh 14 13 12 0 ((block 1 (ae [aa 15 13,aa 5 15] ((ops 1 [aa 16 0,aa 17 5,aE 18 2 16 17,aY 19 2 18,aa 20 1,aa 21 5,aE 22 2 20 21,aY 23 2 22,cO 24 (binS BinOp.neq [int,int] (t 19) (t 23))]).seq (az 24 (am [ct 4]))))).seq (cW 25 13)))).loop)).seq (am [kB 4])))))
theorem MZ:Is Tryz.prog 123 Pj:=mkI Tryz.func123
def KN:F2:=(F2.mk 8 [RV.t 2] (ae [dr 2] ((ae [aa 3 0,cO 4 (snil false (t 3))] (az 4 (am [dr 2]))).seq (am [cO 5 (bldS 2 0 [ag,ag] []),aa 6 0,fX 7 2 16 5 6,aa 2 7]))))
theorem Jz:Is Tryz.prog 124 KN:=mkI Tryz.func124
def Np:F2:=(F2.mk 18 [RV.t 2] (ae [ao 2 0] (ae [ao 3 0] ((ae [aa 6 0,aV 7 6,ao 8 0] (block 0 ((dh 9 8 7 0 ((block 1 (ae [aE 10 1 6 8,aj 11 10,aa 5 11] (ae [aa 12 5,aa 13 3,aW 14 .neq 12 13] (az 14 (am [aa 15 5,aa 2 15]))))).seq (cW 16 8)))).loop)).seq (am [aa 17 3,aa 2 17])))))
theorem Ml:Is Tryz.prog 125 Np:=mkI Tryz.func125
def Kn:F2:=(F2.mk 20 [RV.t 4] (ae [ao 4 0] (ae [aa 7 0,aM 8 151 [t 7],aa 5 8] (ae [aa 9 1,aM 10 151 [t 9],aa 6 10] ((ae [aa 11 5] (az 11 ((ae [aa 12 6] (az 12 (am [ao 4 0]))).seq (am [cO 4 (mov (cN ((-1))))])))).seq ((ae [aa 13 6] (az 13 (am [ao 4 1]))).seq ((ae [aa 14 0,aa 15 1,aW 16 .lss 14 15] (az 16 (am [cO 4 (mov (cN ((-1))))]))).seq ((ae [aa 17 0,aa 18 1,aW 19 .gtr 17 18] (az 19 (am [ao 4 1]))).seq (am [ao 4 0])))))))))
theorem Jt:Is Tryz.prog 126 Kn:=mkI Tryz.func126
def K9:F2:=(F2.mk 19 [RV.t 4] (ae [ao 4 0] ((ae [aa 6 0,aV 7 6,ao 8 0] (block 0 ((dh 9 8 7 0 ((block 1 (ae [aa 10 8,aa 5 10] (ae [aa 11 1,aa 12 0,aa 13 5,aE 14 1 12 13,aj 15 14,cO 16 (call (t 11) [t 15])] (az 16 (am [aa 17 5,aa 4 17]))))).seq (cW 18 8)))).loop)).seq (am [cO 4 (mov (cN ((-1))))]))))
theorem Jw:Is Tryz.prog 127 K9:=mkI Tryz.func127
def O2:F2:=(F2.mk 14 [RV.t 6] (ae [bS 5 2,ao 6 0] ((ae [aa 7 0,aV 8 7,aa 9 1,aW 10 .neq 8 9] (az 10 (am [ao 6 15]))).seq ((ae [aa 11 0,cO 12 (mkfn 152 [t 5]),aM 13 102 [t 11,t 12]] (az 13 (am [ao 6 2]))).seq (am [ao 6 0])))))
theorem MO:Is Tryz.prog 128 O2:=mkI Tryz.func128
def NL:F2:=(F2.mk 36 [RV.t 4] (ae [ao 4 0] ((ae [aa 9 0,aV 10 9,ao 11 0] (block 0 ((dh 12 11 10 0 ((block 1 (ae [aa 13 11,aE 14 1 9 11,aj 15 14,aa 5 13,aa 6 15] ((ae [aa 16 5,aa 17 1,aV 18 17,aW 19 .geq 16 18] (az 19 (am [ao 4 1]))).seq (ae [aa 20 1,aa 21 5,aE 22 1 20 21,aj 23 22,aa 7 23] (ae [aa 24 6,aa 25 7,aM 26 126 [t 24,t 25],aa 8 26] (ae [aa 27 8,ar 28 .neq 27 0] (az 28 (am [aa 29 8,aa 4 29])))))))).seq (cW 30 11)))).loop)).seq ((ae [aa 31 0,aV 32 31,aa 33 1,aV 34 33,aW 35 .lss 32 34] (az 35 (am [cO 4 (mov (cN ((-1))))]))).seq (am [ao 4 0])))))
theorem LW:Is Tryz.prog 129 NL:=mkI Tryz.func129
def MM:F2:=(F2.mk 60 [RV.t 4] (ae [bS 2 0,bS 3 1,ao 4 0] ((ae [aw 10 1 3,aj 11 10,aV 12 11,ar 13 .lss 12 1,aa 14 13,aJ 15 14 (fa 1 (t 3)),aJ 16 14 (cD 15),aJ 17 14 (lenS (t 16)),aJ 18 14 (cB .gtr (t 17) (cN 1024)),dQ 19 14 18] (az 19 (am [ao 4 5]))).seq ((ae [aw 20 1 3,aj 21 20,aV 22 21,ao 23 0] (block 0 ((dh 24 23 22 0 ((block 1 (ae [aa 25 23,aE 26 1 21 23,aj 27 26,aa 5 25,aa 6 27] ((ae [aa 28 6,aw 29 0 2,aj 30 29,aw 31 2 2,aj 32 31,aM 33 128 [t 28,t 30,t 32],aa 7 33] (ae [aa 34 7,ar 35 .neq 34 0] (az 35 (am [aa 36 7,aa 4 36])))).seq (ae [aw 37 1 3,aj 38 37,aa 39 5,aM 40 153 [t 38,t 39]] (az 40 (am [ao 4 14])))))).seq (cW 41 23)))).loop)).seq ((ae [aw 42 2 3,aj 43 42,aV 44 43,ao 45 0] (block 2 ((dh 46 45 44 2 ((block 3 (ae [aa 47 45,aE 48 1 43 45,aj 49 48,aa 8 47,aa 9 49] ((ae [aw 50 1 3,aj 51 50,aa 52 9,aM 53 154 [t 51,t 52],ie 54 53] (az 54 (am [ao 4 6]))).seq (ae [aw 55 2 3,aj 56 55,aa 57 8,aM 58 153 [t 56,t 57]] (az 58 (am [ao 4 14])))))).seq (cW 59 45)))).loop)).seq (am [ao 4 0]))))))
theorem Ol:Is Tryz.prog 130 MM:=mkI Tryz.func130
def NI:F2:=(F2.mk 24 [RV.t 2] (ae [bS 1 0,ao 2 0] (ae [cO 3 (alloc (ag)),Op2.mk none none (Ins.st 1 (t 3) (cN 0))] ((ae [aY 4 2 1,aM 5 133 [t 4]] (block 0 (rangeF (t 5) [6,7] skip (block 1 (ops 0 [aj 8 3,ar 9 .add 8 1,a7 1 3 9]))))).seq ((ae [aw 10 1 1,aj 11 10,aV 12 11,ar 13 .lss 12 1,aa 14 13,aJ 15 14 (fa 1 (t 1)),aJ 16 14 (cD 15),aJ 17 14 (lenS (t 16)),aJ 18 14 (cB .gtr (t 17) (cN 256)),dQ 19 14 18,aa 20 19,aJ 21 20 (cD 3),aJ 22 20 (cB .gtr (t 21) (cN 4096)),dQ 23 20 22] (az 23 (am [ao 2 5]))).seq (am [ao 2 0]))))))
theorem OD:Is Tryz.prog 131 NI:=mkI Tryz.func131
def Oy:F2:=(F2.mk 60 [RV.t 4] (ae [bS 2 0,ao 4 0] ((ae [aa 8 1,aV 9 8,ar 10 .eql 9 0] (az 10 (am [ao 4 19]))).seq ((ae [aa 11 1,aV 12 11,ao 13 0] (block 0 ((dh 14 13 12 0 ((block 1 (ae [aa 15 13,aE 16 8 11 13,aY 17 8 16,cO 6 (alloc (AV.agg [ag,ag,ag,ag,ag,ag,ag,ag])),aa 5 15,a7 8 6 17] ((ae [aw 18 0 6,aY 19 7 18,aM 20 155 [t 19],aa 7 20] (ae [aa 21 7,ar 22 .neq 21 0] (az 22 (am [aa 23 7,aa 4 23])))).seq (block 2 (ae [aw 25 0 6,aw 26 0 25,aw 27 0 26,aj 28 27,aw 29 0 2,aj 30 29,aW 31 .neq 28 30,aa 24 31] (co 24 (am [ao 4 22]) ((mixS 1 [aa 33 5,ar 34 .gtr 33 0,aa 35 34,aq 36 35 (cM 1),aq 37 35 (cM 5),aq 38 35 (cB .sub (t 37) (cN 1)),aq 39 35 (ixaS 8 (t 36) (t 38)),aq 40 35 (fa 0 (t 39)),aq 41 35 (ldn 7 (t 40)),aq 42 35 (fa 0 (t 6)),aq 43 35 (ldn 7 (t 42)),aq 44 35 (call (cF 156) [t 41,t 43]),aq 45 35 (cB .geq (t 44) (cN 0)),en 46 35 45,aa 32 46] [(0,0),(1,0),(2,0),(3,0),(4,0),(5,0),(6,0),(7,0),(8,0),(9,0),(10,0),(11,2),(12,0),(13,0),(14,0)]).seq (co 32 (am [ao 4 14]) (ae [aw 48 7 6,aj 49 48,ar 50 .lss 49 0,aa 51 50,aJ 52 51 (fa 7 (t 6)),aJ 53 51 (cD 52),aJ 54 51 (fa 1 (t 2)),aJ 55 51 (cD 54),aJ 56 51 (lenS (t 55)),aJ 57 51 (cB .geq (t 53) (t 56)),dQ 58 51 57,aa 47 58] (az 47 (am [ao 4 2]))))))))))).seq (cW 59 13)))).loop)).seq (am [ao 4 0])))))
theorem Ob:Is Tryz.prog 132 Oy:=mkI Tryz.func132
def Oj:F2:=(F2.mk 4 [RV.t 2] (ae [bS 1 0,cO 2 (mov (c AV.nilf))] (am [cO 3 (mkfn 157 [t 1]),aa 2 3])))
theorem Nt:Is Tryz.prog 133 Oj:=mkI Tryz.func133
def Na:F2:=(F2.mk 10 [] (ae [bS 3 0] (ae [cO 4 (alloc AV.nilf)] (ae [cO 5 (mkfn 135 [t 1,t 3,t 2,t 4]),a7 1 4 5] (mixS 1 [aj 6 4,aj 7 1,cO 8 (mks 2 16 [ag,ag] (cN 0) (t 7)),cO 9 (call (t 6) [cN ((0)),t 8])] [(0,0),(1,0),(2,1),(3,2)])))))
theorem OQ:Is Tryz.prog 134 Na:=mkI Tryz.func134
def KB:F2:=(F2.mk 37 [RV.t 8] (ae [ct 8] ((ae [aa 10 1,aV 11 10,aj 12 2,aW 13 .eql 11 12] (az 13 ((mixS 1 [aj 14 3,aa 15 1,aM 16 124 [t 15],cO 17 (call (t 14) [t 16]),aa 8 17] [(0,0),(1,0),(2,1),(3,2),(4,0)]).seq ret))).seq ((ae [aa 18 0,aa 9 18] (block 0 ((ae [aa 19 9,aj 20 4,aV 21 20,aW 22 .lss 19 21] (co 22 skip (exit 0))).seq ((block 1 ((mixS 2 [aj 25 5,aa 26 9,ar 27 .add 26 1,aa 28 1,aj 29 4,aa 30 9,aE 31 2 29 30,aY 32 2 31,cO 33 (bldS 2 1 [ag,ag] [(0,2,t 32)]),fX 34 2 16 28 33,cO 35 (call (t 25) [t 27,t 34]),ie 36 35] [(0,0),(1,0),(2,0),(3,0),(4,0),(5,0),(6,0),(7,0),(8,1),(9,1),(10,2),(11,0)]).seq (az 36 (am [ct 8])))).seq (ops 0 [aa 23 9,ar 24 .add 23 1,aa 9 24]))).loop)).seq (am [kB 8])))))
theorem JV:Is Tryz.prog 135 KB:=mkI Tryz.func135
def K6:F2:=(F2.mk 53 [] (ae [aa 10 1,ar 11 .add 10 1,aa 8 11] (block 0 ((ae [aa 12 8,aa 13 2,aW 14 .lss 12 13] (co 14 skip (exit 0))).seq ((block 1 (ae [aa 17 8,aa 9 17] (block 2 (((mixS 1 [aa 18 9,aa 19 1,aW 20 .gtr 18 19,aa 21 20,aq 22 21 (cM 3),aq 23 21 (cM 0),aq 24 21 (cM 9),aq 25 21 (ixaS 1 (t 23) (t 24)),aq 26 21 (cD 25),aq 27 21 (cM 0),aq 28 21 (cM 9),aq 29 21 (cB .sub (t 28) (cN 1)),aq 30 21 (ixaS 1 (t 27) (t 29)),aq 31 21 (cD 30),aq 32 21 (call (t 22) [t 26,t 31]),aq 33 21 (cB .lss (t 32) (cN 0)),en 34 21 33] [(0,0),(1,0),(2,0),(3,0),(4,0),(5,0),(6,0),(7,0),(8,0),(9,0),(10,0),(11,0),(12,0),(13,0),(14,2),(15,0),(16,0)]).seq (co 34 skip (exit 2))).seq ((block 3 (ops 1 [aa 37 0,aa 38 9,aa 39 0,aa 40 9,ar 41 .sub 40 1,aa 42 0,aa 43 9,ar 44 .sub 43 1,aE 45 1 42 44,aj 46 45,aa 47 0,aa 48 9,aE 49 1 47 48,aj 50 49,aE 51 1 37 38,a7 1 51 46,aE 52 1 39 41,a7 1 52 50])).seq (ops 0 [aa 35 9,ar 36 .sub 35 1,aa 9 36]))).loop))).seq (ops 0 [aa 15 8,ar 16 .add 15 1,aa 8 16]))).loop)))
theorem JM:Is Tryz.prog 136 K6:=mkI Tryz.func136
def Mj:F2:=(F2.mk 60 [] (ae [aa 13 1,aa 8 13] (ae [ao 9 0] (ae [aa 14 2,aa 15 1,aW 16 .sub 14 15,aa 10 16] ((ae [aa 17 10,ar 18 .sub 17 1,ar 19 .quo 18 2,aa 11 19] (block 0 ((ae [aa 20 11,ar 21 .geq 20 0] (co 21 skip (exit 0))).seq ((block 1 (ops 0 [aa 24 0,aa 25 11,aa 26 10,aa 27 8,aa 28 3,aM 29 158 [t 24,t 25,t 26,t 27,t 28]])).seq (ops 0 [aa 22 11,ar 23 .sub 22 1,aa 11 23]))).loop)).seq (ae [aa 30 10,ar 31 .sub 30 1,aa 12 31] (block 2 ((ae [aa 32 12,ar 33 .geq 32 0] (co 33 skip (exit 2))).seq ((block 3 ((ops 1 [aa 36 0,aa 37 8,aa 38 0,aa 39 8,aa 40 12,aW 41 .add 39 40,aa 42 0,aa 43 8,aa 44 12,aW 45 .add 43 44,aE 46 1 42 45,aj 47 46,aa 48 0,aa 49 8,aE 50 1 48 49,aj 51 50,aE 52 1 36 37,a7 1 52 47,aE 53 1 38 41,a7 1 53 51]).seq (ops 0 [aa 54 0,aa 55 9,aa 56 12,aa 57 8,aa 58 3,aM 59 158 [t 54,t 55,t 56,t 57,t 58]]))).seq (ops 0 [aa 34 12,ar 35 .sub 34 1,aa 12 35]))).loop)))))))
theorem Nc:Is Tryz.prog 137 Mj:=mkI Tryz.func137
def ND:F2:=(F2.mk 67 [] (ae [aa 13 2,aa 14 1,aW 15 .sub 13 14,aa 8 15] (ae [aa 16 8,ar 17 .geq 16 8] (az 17 (ae [aa 18 8,cO 19 (conv IntKind.u64 (t 18)),cO 9 (alloc (AV.int IntKind.u64 (0))),a7 1 9 19] (ae [aa 20 8,aM 21 159 [t 20],aa 10 21] (ae [aa 22 1,aa 23 8,ar 24 .quo 23 4,ar 25 .mul 24 2,aW 26 .add 22 25,ar 27 .sub 26 1,aa 11 27] (block 0 ((ae [aa 28 11,aa 29 1,aa 30 8,ar 31 .quo 30 4,ar 32 .mul 31 2,aW 33 .add 29 32,ar 34 .add 33 1,aW 35 .leq 28 34] (co 35 skip (exit 0))).seq ((block 1 (ae [aM 38 160 [t 9],aa 39 10,cO 40 (cB .sub (t 39) (c (AV.int IntKind.u64 (1)))),aW 41 .and 38 40,cO 42 (conv IntKind.i64 (t 41)),aa 12 42] ((ae [aa 43 12,aa 44 8,aW 45 .geq 43 44] (az 45 (ops 0 [aa 46 12,aa 47 8,aW 48 .sub 46 47,aa 12 48]))).seq (ops 1 [aa 49 0,aa 50 11,aa 51 0,aa 52 1,aa 53 12,aW 54 .add 52 53,aa 55 0,aa 56 1,aa 57 12,aW 58 .add 56 57,aE 59 1 55 58,aj 60 59,aa 61 0,aa 62 11,aE 63 1 61 62,aj 64 63,aE 65 1 49 50,a7 1 65 60,aE 66 1 51 54,a7 1 66 64])))).seq (ops 0 [aa 36 11,ar 37 .add 36 1,aa 11 37]))).loop))))))))
theorem M3:Is Tryz.prog 138 ND:=mkI Tryz.func138
def NR:F2:=(F2.mk 63 [RV.t 8,RV.t 9] (ae [ao 8 0,ao 9 0] (ae [aa 15 2,aa 16 1,aW 17 .sub 15 16,aa 10 17] (ae [cO 11 (alloc (ag))] (ae [aa 18 1,aa 19 10,ar 20 .quo 19 4,ar 21 .mul 20 1,aW 22 .add 18 21,aa 12 22] (ae [aa 23 1,aa 24 10,ar 25 .quo 24 4,ar 26 .mul 25 2,aW 27 .add 23 26,aa 13 27] (ae [aa 28 1,aa 29 10,ar 30 .quo 29 4,ar 31 .mul 30 3,aW 32 .add 28 31,aa 14 32] ((ae [aa 33 10,ar 34 .geq 33 8] (az 34 ((ae [aa 35 10,ar 36 .geq 35 50] (az 36 (ae [aa 37 0,aa 38 12,aa 39 3,aM 40 161 [t 37,t 38,t 11,t 39],aa 12 40] (ae [aa 41 0,aa 42 13,aa 43 3,aM 44 161 [t 41,t 42,t 11,t 43],aa 13 44] (ops 0 [aa 45 0,aa 46 14,aa 47 3,aM 48 161 [t 45,t 46,t 11,t 47],aa 14 48]))))).seq (ops 0 [aa 49 0,aa 50 12,aa 51 13,aa 52 14,aa 53 3,aM 54 162 [t 49,t 50,t 51,t 52,t 11,t 53],aa 13 54])))).seq (ae [aj 55 11] (block 0 (ae [ar 58 .eql 55 0,aa 57 58] (co 57 (am [aa 59 13,aa 8 59,ao 9 1]) (ae [ar 61 .eql 55 12,aa 60 61] (co 60 (am [aa 62 13,aa 8 62,ao 9 2]) (am [aa 56 13,aa 8 56,ao 9 0])))))))))))))))
theorem Mg:Is Tryz.prog 139 NR:=mkI Tryz.func139
def M9:F2:=(F2.mk 34 [] (ae [aa 10 1,aa 8 10] (ae [aa 11 2,ar 12 .sub 11 1,aa 9 12] (block 0 ((ae [aa 13 8,aa 14 9,aW 15 .lss 13 14] (co 15 skip (exit 0))).seq (block 1 ((ops 1 [aa 16 0,aa 17 8,aa 18 0,aa 19 9,aa 20 0,aa 21 9,aE 22 1 20 21,aj 23 22,aa 24 0,aa 25 8,aE 26 1 24 25,aj 27 26,aE 28 1 16 17,a7 1 28 23,aE 29 1 18 19,a7 1 29 27]).seq (ae [aa 30 8,ar 31 .add 30 1,aa 8 31] (ops 0 [aa 32 9,ar 33 .sub 32 1,aa 9 33]))))).loop))))
theorem NV:Is Tryz.prog 140 M9:=mkI Tryz.func140
def Pd:F2:=(F2.mk 141 [RV.t 8] (ae [ct 8] (ae [aa 13 1,ar 14 .add 13 1,aa 9 14] ((ae [ao 10 0] (block 0 ((ae [aa 15 10,ar 16 .lss 15 5] (co 16 skip (exit 0))).seq ((block 1 ((block 2 (((mixS 1 [aa 19 9,aa 20 2,aW 21 .lss 19 20,aa 22 21,aq 23 22 (cM 3),aq 24 22 (cM 0),aq 25 22 (cM 9),aq 26 22 (ixaS 1 (t 24) (t 25)),aq 27 22 (cD 26),aq 28 22 (cM 0),aq 29 22 (cM 9),aq 30 22 (cB .sub (t 29) (cN 1)),aq 31 22 (ixaS 1 (t 28) (t 30)),aq 32 22 (cD 31),aq 33 22 (call (t 23) [t 27,t 32]),aq 34 22 (cB .lss (t 33) (cN 0)),aq 35 22 (un UnOp.not (t 34)),en 36 22 35] [(0,0),(1,0),(2,0),(3,0),(4,0),(5,0),(6,0),(7,0),(8,0),(9,0),(10,0),(11,0),(12,0),(13,0),(14,2),(15,0),(16,0),(17,0)]).seq (co 36 skip (exit 2))).seq (block 3 (ops 0 [aa 37 9,ar 38 .add 37 1,aa 9 38]))).loop).seq ((ae [aa 39 9,aa 40 2,aW 41 .eql 39 40] (az 41 (am [kB 8]))).seq ((ae [aa 42 2,aa 43 1,aW 44 .sub 42 43,ar 45 .lss 44 50] (az 45 (am [ct 8]))).seq ((ops 1 [aa 46 0,aa 47 9,aa 48 0,aa 49 9,ar 50 .sub 49 1,aa 51 0,aa 52 9,ar 53 .sub 52 1,aE 54 1 51 53,aj 55 54,aa 56 0,aa 57 9,aE 58 1 56 57,aj 59 58,aE 60 1 46 47,a7 1 60 55,aE 61 1 48 50,a7 1 61 59]).seq ((ae [aa 62 9,aa 63 1,aW 64 .sub 62 63,ar 65 .geq 64 2] (az 65 (ae [aa 66 9,ar 67 .sub 66 1,aa 11 67] (block 4 ((ae [aa 68 11,ar 69 .geq 68 1] (co 69 skip (exit 4))).seq ((block 5 (((mixS 1 [aa 72 3,aa 73 0,aa 74 11,aE 75 1 73 74,aj 76 75,aa 77 0,aa 78 11,ar 79 .sub 78 1,aE 80 1 77 79,aj 81 80,cO 82 (call (t 72) [t 76,t 81]),ar 83 .lss 82 0,ie 84 83] [(0,0),(1,0),(2,0),(3,0),(4,0),(5,0),(6,0),(7,0),(8,0),(9,0),(10,2),(11,0),(12,0)]).seq (az 84 (exit 4))).seq (ops 1 [aa 85 0,aa 86 11,aa 87 0,aa 88 11,ar 89 .sub 88 1,aa 90 0,aa 91 11,ar 92 .sub 91 1,aE 93 1 90 92,aj 94 93,aa 95 0,aa 96 11,aE 97 1 95 96,aj 98 97,aE 99 1 85 86,a7 1 99 94,aE 100 1 87 89,a7 1 100 98]))).seq (ops 0 [aa 70 11,ar 71 .sub 70 1,aa 11 71]))).loop)))).seq (ae [aa 101 2,aa 102 9,aW 103 .sub 101 102,ar 104 .geq 103 2] (az 104 (ae [aa 105 9,ar 106 .add 105 1,aa 12 106] (block 6 ((ae [aa 107 12,aa 108 2,aW 109 .lss 107 108] (co 109 skip (exit 6))).seq ((block 7 (((mixS 1 [aa 112 3,aa 113 0,aa 114 12,aE 115 1 113 114,aj 116 115,aa 117 0,aa 118 12,ar 119 .sub 118 1,aE 120 1 117 119,aj 121 120,cO 122 (call (t 112) [t 116,t 121]),ar 123 .lss 122 0,ie 124 123] [(0,0),(1,0),(2,0),(3,0),(4,0),(5,0),(6,0),(7,0),(8,0),(9,0),(10,2),(11,0),(12,0)]).seq (az 124 (exit 6))).seq (ops 1 [aa 125 0,aa 126 12,aa 127 0,aa 128 12,ar 129 .sub 128 1,aa 130 0,aa 131 12,ar 132 .sub 131 1,aE 133 1 130 132,aj 134 133,aa 135 0,aa 136 12,aE 137 1 135 136,aj 138 137,aE 139 1 125 126,a7 1 139 134,aE 140 1 127 129,a7 1 140 138]))).seq (ops 0 [aa 110 12,ar 111 .add 110 1,aa 12 111]))).loop)))))))))).seq (ops 0 [aa 17 10,ar 18 .add 17 1,aa 10 18]))).loop)).seq (am [ct 8])))))
theorem Nn:Is Tryz.prog 141 Pd:=mkI Tryz.func141
def MD:F2:=(F2.mk 90 [RV.t 10] (ae [ao 10 0] ((ops 1 [aa 13 0,aa 14 1,aa 15 0,aa 16 3,aa 17 0,aa 18 3,aE 19 1 17 18,aj 20 19,aa 21 0,aa 22 1,aE 23 1 21 22,aj 24 23,aE 25 1 13 14,a7 1 25 20,aE 26 1 15 16,a7 1 26 24]).seq (ae [aa 27 1,ar 28 .add 27 1,aa 29 2,ar 30 .sub 29 1,aa 11 28,aa 12 30] ((block 0 (block 1 ((block 2 (((mixS 1 [aa 31 11,aa 32 12,aW 33 .leq 31 32,aa 34 33,aq 35 34 (cM 4),aq 36 34 (cM 0),aq 37 34 (cM 1),aq 38 34 (ixaS 1 (t 36) (t 37)),aq 39 34 (cD 38),aq 40 34 (cM 0),aq 41 34 (cM 11),aq 42 34 (ixaS 1 (t 40) (t 41)),aq 43 34 (cD 42),aq 44 34 (call (t 35) [t 39,t 43]),aq 45 34 (cB .lss (t 44) (cN 0)),aq 46 34 (un UnOp.not (t 45)),en 47 34 46] [(0,0),(1,0),(2,0),(3,0),(4,0),(5,0),(6,0),(7,0),(8,0),(9,0),(10,0),(11,0),(12,0),(13,2),(14,0),(15,0),(16,0)]).seq (co 47 skip (exit 2))).seq (block 3 (ops 0 [aa 48 11,ar 49 .add 48 1,aa 11 49]))).loop).seq ((block 4 (((mixS 1 [aa 50 11,aa 51 12,aW 52 .leq 50 51,aa 53 52,aq 54 53 (cM 4),aq 55 53 (cM 0),aq 56 53 (cM 1),aq 57 53 (ixaS 1 (t 55) (t 56)),aq 58 53 (cD 57),aq 59 53 (cM 0),aq 60 53 (cM 12),aq 61 53 (ixaS 1 (t 59) (t 60)),aq 62 53 (cD 61),aq 63 53 (call (t 54) [t 58,t 62]),aq 64 53 (cB .lss (t 63) (cN 0)),en 65 53 64] [(0,0),(1,0),(2,0),(3,0),(4,0),(5,0),(6,0),(7,0),(8,0),(9,0),(10,0),(11,0),(12,0),(13,2),(14,0),(15,0)]).seq (co 65 skip (exit 4))).seq (block 5 (ops 0 [aa 66 12,ar 67 .sub 66 1,aa 12 67]))).loop).seq ((ae [aa 68 11,aa 69 12,aW 70 .gtr 68 69] (az 70 (exit 0))).seq ((ops 1 [aa 71 0,aa 72 11,aa 73 0,aa 74 12,aa 75 0,aa 76 12,aE 77 1 75 76,aj 78 77,aa 79 0,aa 80 11,aE 81 1 79 80,aj 82 81,aE 83 1 71 72,a7 1 83 78,aE 84 1 73 74,a7 1 84 82]).seq (ae [aa 85 11,ar 86 .add 85 1,aa 11 86] (ops 0 [aa 87 12,ar 88 .sub 87 1,aa 12 88]))))))).loop).seq (am [aa 89 11,aa 10 89]))))))
theorem LX:Is Tryz.prog 142 MD:=mkI Tryz.func142
def Ma:F2:=(F2.mk 178 [RV.t 10,RV.t 11] (ae [ao 10 0,ct 11] ((ops 1 [aa 14 0,aa 15 1,aa 16 0,aa 17 3,aa 18 0,aa 19 3,aE 20 1 18 19,aj 21 20,aa 22 0,aa 23 1,aE 24 1 22 23,aj 25 24,aE 26 1 14 15,a7 1 26 21,aE 27 1 16 17,a7 1 27 25]).seq (ae [aa 28 1,ar 29 .add 28 1,aa 30 2,ar 31 .sub 30 1,aa 12 29,aa 13 31] ((block 0 (((mixS 1 [aa 32 12,aa 33 13,aW 34 .leq 32 33,aa 35 34,aq 36 35 (cM 4),aq 37 35 (cM 0),aq 38 35 (cM 12),aq 39 35 (ixaS 1 (t 37) (t 38)),aq 40 35 (cD 39),aq 41 35 (cM 0),aq 42 35 (cM 1),aq 43 35 (ixaS 1 (t 41) (t 42)),aq 44 35 (cD 43),aq 45 35 (call (t 36) [t 40,t 44]),aq 46 35 (cB .lss (t 45) (cN 0)),en 47 35 46] [(0,0),(1,0),(2,0),(3,0),(4,0),(5,0),(6,0),(7,0),(8,0),(9,0),(10,0),(11,0),(12,0),(13,2),(14,0),(15,0)]).seq (co 47 skip (exit 0))).seq (block 1 (ops 0 [aa 48 12,ar 49 .add 48 1,aa 12 49]))).loop).seq ((block 2 (((mixS 1 [aa 50 12,aa 51 13,aW 52 .leq 50 51,aa 53 52,aq 54 53 (cM 4),aq 55 53 (cM 0),aq 56 53 (cM 13),aq 57 53 (ixaS 1 (t 55) (t 56)),aq 58 53 (cD 57),aq 59 53 (cM 0),aq 60 53 (cM 1),aq 61 53 (ixaS 1 (t 59) (t 60)),aq 62 53 (cD 61),aq 63 53 (call (t 54) [t 58,t 62]),aq 64 53 (cB .lss (t 63) (cN 0)),aq 65 53 (un UnOp.not (t 64)),en 66 53 65] [(0,0),(1,0),(2,0),(3,0),(4,0),(5,0),(6,0),(7,0),(8,0),(9,0),(10,0),(11,0),(12,0),(13,2),(14,0),(15,0),(16,0)]).seq (co 66 skip (exit 2))).seq (block 3 (ops 0 [aa 67 13,ar 68 .sub 67 1,aa 13 68]))).loop).seq ((ae [aa 69 12,aa 70 13,aW 71 .gtr 69 70] (az 71 ((ops 1 [aa 72 0,aa 73 13,aa 74 0,aa 75 1,aa 76 0,aa 77 1,aE 78 1 76 77,aj 79 78,aa 80 0,aa 81 13,aE 82 1 80 81,aj 83 82,aE 84 1 72 73,a7 1 84 79,aE 85 1 74 75,a7 1 85 83]).seq (am [aa 86 13,aa 10 86,kB 11])))).seq ((ops 1 [aa 87 0,aa 88 12,aa 89 0,aa 90 13,aa 91 0,aa 92 13,aE 93 1 91 92,aj 94 93,aa 95 0,aa 96 12,aE 97 1 95 96,aj 98 97,aE 99 1 87 88,a7 1 99 94,aE 100 1 89 90,a7 1 100 98]).seq (ae [aa 101 12,ar 102 .add 101 1,aa 12 102] (ae [aa 103 13,ar 104 .sub 103 1,aa 13 104] ((block 4 (block 5 ((block 6 (((mixS 1 [aa 105 12,aa 106 13,aW 107 .leq 105 106,aa 108 107,aq 109 108 (cM 4),aq 110 108 (cM 0),aq 111 108 (cM 12),aq 112 108 (ixaS 1 (t 110) (t 111)),aq 113 108 (cD 112),aq 114 108 (cM 0),aq 115 108 (cM 1),aq 116 108 (ixaS 1 (t 114) (t 115)),aq 117 108 (cD 116),aq 118 108 (call (t 109) [t 113,t 117]),aq 119 108 (cB .lss (t 118) (cN 0)),en 120 108 119] [(0,0),(1,0),(2,0),(3,0),(4,0),(5,0),(6,0),(7,0),(8,0),(9,0),(10,0),(11,0),(12,0),(13,2),(14,0),(15,0)]).seq (co 120 skip (exit 6))).seq (block 7 (ops 0 [aa 121 12,ar 122 .add 121 1,aa 12 122]))).loop).seq ((block 8 (((mixS 1 [aa 123 12,aa 124 13,aW 125 .leq 123 124,aa 126 125,aq 127 126 (cM 4),aq 128 126 (cM 0),aq 129 126 (cM 13),aq 130 126 (ixaS 1 (t 128) (t 129)),aq 131 126 (cD 130),aq 132 126 (cM 0),aq 133 126 (cM 1),aq 134 126 (ixaS 1 (t 132) (t 133)),aq 135 126 (cD 134),aq 136 126 (call (t 127) [t 131,t 135]),aq 137 126 (cB .lss (t 136) (cN 0)),aq 138 126 (un UnOp.not (t 137)),en 139 126 138] [(0,0),(1,0),(2,0),(3,0),(4,0),(5,0),(6,0),(7,0),(8,0),(9,0),(10,0),(11,0),(12,0),(13,2),(14,0),(15,0),(16,0)]).seq (co 139 skip (exit 8))).seq (block 9 (ops 0 [aa 140 13,ar 141 .sub 140 1,aa 13 141]))).loop).seq ((ae [aa 142 12,aa 143 13,aW 144 .gtr 142 143] (az 144 (exit 4))).seq ((ops 1 [aa 145 0,aa 146 12,aa 147 0,aa 148 13,aa 149 0,aa 150 13,aE 151 1 149 150,aj 152 151,aa 153 0,aa 154 12,aE 155 1 153 154,aj 156 155,aE 157 1 145 146,a7 1 157 152,aE 158 1 147 148,a7 1 158 156]).seq (ae [aa 159 12,ar 160 .add 159 1,aa 12 160] (ops 0 [aa 161 13,ar 162 .sub 161 1,aa 13 162]))))))).loop).seq ((ops 1 [aa 163 0,aa 164 13,aa 165 0,aa 166 1,aa 167 0,aa 168 1,aE 169 1 167 168,aj 170 169,aa 171 0,aa 172 13,aE 173 1 171 172,aj 174 173,aE 175 1 163 164,a7 1 175 170,aE 176 1 165 166,a7 1 176 174]).seq (am [aa 177 13,aa 10 177,ct 11])))))))))))))
theorem Oz:Is Tryz.prog 143 Ma:=mkI Tryz.func143
def LG:F2:=(F2.mk 25 [RV.t 2] (ae [ao 2 0] ((ae [aa 3 0,cO 4 (cB .geq (t 3) (c (AV.int IntKind.u64 (4294967296))))] (az 4 (ae [aa 5 0,cO 6 (cB .shr (t 5) (c (AV.int IntKind.u64 (32)))),aa 0 6] (ops 0 [ao 2 32])))).seq ((ae [aa 7 0,cO 8 (cB .geq (t 7) (c (AV.int IntKind.u64 (65536))))] (az 8 (ae [aa 9 0,cO 10 (cB .shr (t 9) (c (AV.int IntKind.u64 (16)))),aa 0 10] (ops 0 [aa 11 2,ar 12 .add 11 16,aa 2 12])))).seq ((ae [aa 13 0,cO 14 (cB .geq (t 13) (c (AV.int IntKind.u64 (256))))] (az 14 (ae [aa 15 0,cO 16 (cB .shr (t 15) (c (AV.int IntKind.u64 (8)))),aa 0 16] (ops 0 [aa 17 2,ar 18 .add 17 8,aa 2 18])))).seq (am [aa 19 2,aa 20 0,cO 21 (conv IntKind.u8 (t 20)),cO 22 (ixStr (c (AV.str (ByteArray.mk (Array.mk [0,1,2,2,3,3,3,3,4,4,4,4,4,4,4,4,5,5,5,5,5,5,5,5,5,5,5,5,5,5,5,5,6,6,6,6,6,6,6,6,6,6,6,6,6,6,6,6,6,6,6,6,6,6,6,6,6,6,6,6,6,6,6,6,7,7,7,7,7,7,7,7,7,7,7,7,7,7,7,7,7,7,7,7,7,7,7,7,7,7,7,7,7,7,7,7,7,7,7,7,7,7,7,7,7,7,7,7,7,7,7,7,7,7,7,7,7,7,7,7,7,7,7,7,7,7,7,7,8,8,8,8,8,8,8,8,8,8,8,8,8,8,8,8,8,8,8,8,8,8,8,8,8,8,8,8,8,8,8,8,8,8,8,8,8,8,8,8,8,8,8,8,8,8,8,8,8,8,8,8,8,8,8,8,8,8,8,8,8,8,8,8,8,8,8,8,8,8,8,8,8,8,8,8,8,8,8,8,8,8,8,8,8,8,8,8,8,8,8,8,8,8,8,8,8,8,8,8,8,8,8,8,8,8,8,8,8,8,8,8,8,8,8,8,8,8,8,8,8,8,8,8,8,8,8,8])))) (t 21)),cO 23 (conv IntKind.i64 (t 22)),aW 24 .add 19 23,aa 2 24]))))))
theorem JB:Is Tryz.prog 145 LG:=mkI Tryz.func145
def Ox:F2:=(F2.mk 120 [RV.t 4] (ae [bS 2 0,ao 4 0] (ae [aw 10 3 2,aj 11 10,aa 12 1,aE 13 3 11 12,aY 14 3 13,cO 5 (alloc (AV.agg [AV.esl,AV.esl,AV.esl])),a7 3 5 14] ((ae [aw 15 0 5,aj 16 15,aw 17 0 2,aj 18 17,aw 19 1 2,aj 20 19,aM 21 163 [t 16,t 18,t 20],aa 6 21] (ae [aa 22 6,ar 23 .neq 22 0] (az 23 (am [aa 24 6,aa 4 24])))).seq (((mixS 1 [aa 25 1,ar 26 .gtr 25 0,aa 27 26,aq 28 27 (fa 3 (t 2)),aq 29 27 (cD 28),aq 30 27 (cM 1),aq 31 27 (cB .sub (t 30) (cN 1)),aq 32 27 (ixaS 3 (t 29) (t 31)),aq 33 27 (fa 0 (t 32)),aq 34 27 (cD 33),aq 35 27 (fa 0 (t 5)),aq 36 27 (cD 35),aq 37 27 (call (cF 164) [t 34,t 36]),aq 38 27 (cB .geq (t 37) (cN 0)),en 39 27 38] [(0,0),(1,0),(2,0),(3,0),(4,0),(5,0),(6,0),(7,0),(8,0),(9,0),(10,0),(11,0),(12,2),(13,0),(14,0)]).seq (az 39 (am [ao 4 14]))).seq ((ae [aw 40 1 5,aj 41 40,aV 42 41,ar 43 .lss 42 1,aa 44 43,aJ 45 44 (fa 1 (t 5)),aJ 46 44 (cD 45),aJ 47 44 (lenS (t 46)),aJ 48 44 (cB .gtr (t 47) (cN 1024)),dQ 49 44 48] (az 49 (am [ao 4 5]))).seq ((ae [ao 7 0] (block 0 ((ae [aa 50 7,aw 51 1 5,aj 52 51,aV 53 52,aW 54 .lss 50 53] (co 54 skip (exit 0))).seq ((block 1 (((mixS 1 [aw 57 1 5,aj 58 57,aa 59 7,aE 60 1 58 59,aj 61 60,aw 62 0 2,aj 63 62,aw 64 2 2,aj 65 64,aM 66 163 [t 61,t 63,t 65],aa 8 66] [(0,0),(1,0),(2,0),(3,0),(4,0),(5,0),(6,0),(7,0),(8,0),(9,2),(10,0)]).seq (ae [aa 67 8,ar 68 .neq 67 0] (az 68 (am [aa 69 8,aa 4 69])))).seq ((mixS 1 [aa 70 7,ar 71 .gtr 70 0,aa 72 71,aq 73 72 (fa 1 (t 5)),aq 74 72 (cD 73),aq 75 72 (cM 7),aq 76 72 (cB .sub (t 75) (cN 1)),aq 77 72 (ixaS 1 (t 74) (t 76)),aq 78 72 (cD 77),aq 79 72 (fa 1 (t 5)),aq 80 72 (cD 79),aq 81 72 (cM 7),aq 82 72 (ixaS 1 (t 80) (t 81)),aq 83 72 (cD 82),aq 84 72 (call (cF 164) [t 78,t 83]),aq 85 72 (cB .geq (t 84) (cN 0)),en 86 72 85] [(0,0),(1,0),(2,0),(3,0),(4,0),(5,0),(6,0),(7,0),(8,0),(9,0),(10,0),(11,0),(12,0),(13,0),(14,2),(15,0),(16,0)]).seq (az 86 (am [ao 4 14]))))).seq (ops 0 [aa 55 7,ar 56 .add 55 1,aa 7 56]))).loop)).seq ((ae [ao 9 0] (block 2 ((ae [aa 87 9,aw 88 2 5,aj 89 88,aV 90 89,aW 91 .lss 87 90] (co 91 skip (exit 2))).seq ((block 3 (((mixS 1 [aw 94 1 5,aj 95 94,aw 96 2 5,aj 97 96,aa 98 9,aE 99 1 97 98,aj 100 99,aM 101 165 [t 95,t 100],ie 102 101] [(0,0),(1,0),(2,0),(3,0),(4,0),(5,0),(6,0),(7,2),(8,0)]).seq (az 102 (am [ao 4 6]))).seq ((mixS 1 [aa 103 9,ar 104 .gtr 103 0,aa 105 104,aq 106 105 (fa 2 (t 5)),aq 107 105 (cD 106),aq 108 105 (cM 9),aq 109 105 (cB .sub (t 108) (cN 1)),aq 110 105 (ixaS 1 (t 107) (t 109)),aq 111 105 (cD 110),aq 112 105 (fa 2 (t 5)),aq 113 105 (cD 112),aq 114 105 (cM 9),aq 115 105 (ixaS 1 (t 113) (t 114)),aq 116 105 (cD 115),aq 117 105 (call (cF 164) [t 111,t 116]),aq 118 105 (cB .geq (t 117) (cN 0)),en 119 105 118] [(0,0),(1,0),(2,0),(3,0),(4,0),(5,0),(6,0),(7,0),(8,0),(9,0),(10,0),(11,0),(12,0),(13,0),(14,2),(15,0),(16,0)]).seq (az 119 (am [ao 4 14]))))).seq (ops 0 [aa 92 9,ar 93 .add 92 1,aa 9 93]))).loop)).seq (am [ao 4 0])))))))))
theorem OX:Is Tryz.prog 146 Ox:=mkI Tryz.func146
def Nm:F2:=(F2.mk 55 [RV.t 6] (ae [bS 3 0,ao 6 0] (ae [aa 9 1,aa 10 2,aE 11 8 9 10,aw 12 0 11,aY 13 7 12,cO 7 (alloc (AV.agg [ag,ag,ag,ag,ag,ag,ag])),a7 7 7 13] ((ae [aY 14 7 7,aM 15 166 [t 14],aa 8 15] (ae [aa 16 8,ar 17 .neq 16 0] (az 17 (am [aa 18 8,aa 6 18])))).seq ((ae [aw 19 0 7,aw 20 0 19,aj 21 20,aw 22 0 3,aj 23 22,aW 24 .neq 21 23] (az 24 (am [ao 6 22]))).seq (((mixS 1 [aa 25 2,ar 26 .gtr 25 0,aa 27 26,aq 28 27 (cM 1),aq 29 27 (cM 2),aq 30 27 (cB .sub (t 29) (cN 1)),aq 31 27 (ixaS 8 (t 28) (t 30)),aq 32 27 (fa 0 (t 31)),aq 33 27 (ldn 7 (t 32)),aq 34 27 (ldn 7 (t 7)),aq 35 27 (call (cF 167) [t 33,t 34]),aq 36 27 (cB .geq (t 35) (cN 0)),en 37 27 36] [(0,0),(1,0),(2,0),(3,0),(4,0),(5,0),(6,0),(7,0),(8,0),(9,0),(10,2),(11,0),(12,0)]).seq (az 37 (am [ao 6 14]))).seq (((ops 1 [aa 38 1,aa 39 2,aE 40 8 38 39,aw 41 7 40,aj 42 41,ar 43 .lss 42 0,aa 44 43,aJ 45 44 (cM 1),aJ 46 44 (cM 2),aJ 47 44 (ixaS 8 (t 45) (t 46)),aJ 48 44 (fa 7 (t 47)),aJ 49 44 (cD 48),aJ 50 44 (fa 1 (t 3)),aJ 51 44 (cD 50),aJ 52 44 (lenS (t 51)),aJ 53 44 (cB .geq (t 49) (t 52)),dQ 54 44 53]).seq (az 54 (am [ao 6 2]))).seq (am [ao 6 0]))))))))
theorem L8:Is Tryz.prog 147 Nm:=mkI Tryz.func147
def NF:F2:=(F2.mk 59 [RV.t 2] (ae [bS 1 0,ct 2] ((ae [ao 3 0] (block 0 ((ae [aa 7 3,aw 8 1 1,aj 9 8,aV 10 9,aW 11 .lss 7 10] (co 11 skip (exit 0))).seq ((block 1 (ae [ao 4 0] (block 2 ((ae [aa 14 4,aw 15 1 1,aj 16 15,aa 17 3,aE 18 1 16 17,aj 19 18,aV 20 19,aW 21 .lss 14 20] (co 21 skip (exit 2))).seq ((block 3 (ae [aw 24 1 1,aj 25 24,aa 26 3,aE 27 1 25 26,aj 28 27,aa 29 4,aE 30 8 28 29,aY 31 8 30,cO 5 (alloc (AV.agg [ag,ag,ag,ag,ag,ag,ag,ag])),a7 8 5 31] (ae [ao 6 0] (block 4 ((ae [aa 32 6,aw 33 1 1,aj 34 33,aw 35 7 5,aj 36 35,aE 37 1 34 36,aj 38 37,aV 39 38,aW 40 .lss 32 39] (co 40 skip (exit 4))).seq ((block 5 ((mixS 1 [aw 43 0 5,aw 44 6 43,aj 45 44,aw 46 1 1,aj 47 46,aw 48 7 5,aj 49 48,aE 50 1 47 49,aj 51 50,aa 52 6,aE 53 8 51 52,aw 54 0 53,aw 55 6 54,aj 56 55,aM 57 168 [t 45,t 56],ie 58 57] [(0,0),(1,0),(2,0),(3,0),(4,0),(5,0),(6,0),(7,0),(8,0),(9,0),(10,0),(11,0),(12,0),(13,0),(14,2),(15,0)]).seq (az 58 (am [ct 2])))).seq (ops 0 [aa 41 6,ar 42 .add 41 1,aa 6 42]))).loop)))).seq (ops 0 [aa 22 4,ar 23 .add 22 1,aa 4 23]))).loop))).seq (ops 0 [aa 12 3,ar 13 .add 12 1,aa 3 13]))).loop)).seq (am [kB 2]))))
theorem MU:Is Tryz.prog 148 NF:=mkI Tryz.func148
def MV:F2:=(F2.mk 11 [RV.t 4] (ae [ct 4] (am [aa 5 0,aa 6 1,aM 7 169 [t 6],aW 8 .quo 5 7,ar 9 .rem 8 2,ar 10 .eql 9 1,aa 4 10])))
theorem L4:Is Tryz.prog 149 MV:=mkI Tryz.func149
def N8:F2:=(F2.mk 21 [RV.t 4] (ae [bS 2 0,bS 3 1,ao 4 0] ((ae [ao 5 0] (block 0 ((ae [aa 6 5,aw 7 1 2,aj 8 7,aV 9 8,aW 10 .lss 6 9] (co 10 skip (exit 0))).seq ((block 1 ((ops 1 [aw 13 1 2,aj 14 13,aa 15 5,aE 16 8 14 15,aY 17 8 16,aY 18 8 3,cO 19 (binS BinOp.eql [int,int,int,int,int,int,int,int] (t 17) (t 18))]).seq (az 19 (am [aa 20 5,aa 4 20])))).seq (ops 0 [aa 11 5,ar 12 .add 11 1,aa 5 12]))).loop)).seq (am [cO 4 (mov (cN ((-1))))]))))
theorem NK:Is Tryz.prog 150 N8:=mkI Tryz.func150
def KV:F2:=(F2.mk 6 [RV.t 2] (ae [ct 2] (am [aa 3 0,aa 4 0,aW 5 .neq 3 4,aa 2 5])))
theorem Jy:Is Tryz.prog 151 KV:=mkI Tryz.func151
def Mf:F2:=(F2.mk 11 [RV.t 3] (ae [ct 3] (am [aa 4 0,ar 5 .lss 4 0,aa 6 5,aJ 7 6 (cM 0),aJ 8 6 (cD 1),aJ 9 6 (cB .geq (t 7) (t 8)),dQ 10 6 9,aa 3 10])))
theorem MJ:Is Tryz.prog 152 Mf:=mkI Tryz.func152
def Oe:F2:=(F2.mk 20 [RV.t 4] (ae [ct 4] ((mixS 1 [aa 5 1,ar 6 .gtr 5 0,aa 7 6,aq 8 7 (cM 0),aq 9 7 (cM 1),aq 10 7 (cB .sub (t 9) (cN 1)),aq 11 7 (ixaS 1 (t 8) (t 10)),aq 12 7 (cD 11),aq 13 7 (cM 0),aq 14 7 (cM 1),aq 15 7 (ixaS 1 (t 13) (t 14)),aq 16 7 (cD 15),aq 17 7 (call (cF 129) [t 12,t 16]),aq 18 7 (cB .geq (t 17) (cN 0)),en 19 7 18,aa 4 19] [(0,0),(1,0),(2,0),(3,0),(4,0),(5,0),(6,0),(7,0),(8,0),(9,0),(10,0),(11,0),(12,2),(13,0),(14,0),(15,0)]).seq ret)))
theorem OW:Is Tryz.prog 153 Oe:=mkI Tryz.func153
def Mi:F2:=(F2.mk 8 [RV.t 4] (ae [bS 3 1,ct 4] (am [aa 5 0,cO 6 (mkfn 171 [t 3]),aM 7 170 [t 5,t 6],aa 4 7])))
theorem L6:Is Tryz.prog 154 Mi:=mkI Tryz.func154
def Nd:F2:=(F2.mk 16 [RV.t 2] (ae [bS 1 0,ao 2 0] ((ae [aw 4 0 1,aY 5 6 4,aM 6 172 [t 5],aa 3 6] (ae [aa 7 3,ar 8 .neq 7 0] (az 8 (am [aa 9 3,aa 2 9])))).seq (am [aw 10 0 1,aw 11 0 10,aj 12 11,aw 13 6 1,aj 14 13,aM 15 173 [t 12,t 14],aa 2 15]))))
theorem Pf:Is Tryz.prog 155 Nd:=mkI Tryz.func155
def L7:F2:=(F2.mk 23 [RV.t 4] (ae [bS 2 0,bS 3 1,ao 4 0] ((ae [aY 5 7 2,aY 6 7 3,cO 7 (binS BinOp.eql [int,int,int,int,int,int,int] (t 5) (t 6))] (az 7 (am [ao 4 0]))).seq ((ae [aw 8 0 2,aY 9 6 8,aw 10 0 3,aY 11 6 10,cO 12 (binS BinOp.neq [int,int,int,int,int,int] (t 9) (t 11))] (az 12 (am [aw 13 0 2,aY 14 6 13,aw 15 0 3,aY 16 6 15,aM 17 174 [t 14,t 16],aa 4 17]))).seq (am [aw 18 6 2,aj 19 18,aw 20 6 3,aj 21 20,aM 22 126 [t 19,t 21],aa 4 22])))))
theorem Nq:Is Tryz.prog 156 L7:=mkI Tryz.func156
def OV:F2:=(F2.mk 28 [] (ae [aw 7 1 1,aj 8 7,aV 9 8,ao 10 0] (block 0 ((dh 11 10 9 0 ((block 1 (ae [aa 12 10,aE 13 1 8 10,aj 14 13,aa 3 12,aa 4 14] (ae [aa 15 4,aV 16 15,ao 17 0] (block 2 ((dh 18 17 16 2 ((block 3 (ae [aE 19 8 15 17,aY 20 8 19,cO 6 (alloc (AV.agg [ag,ag,ag,ag,ag,ag,ag,ag])),a7 8 6 20] (ae [aa 21 0,aa 22 3,aY 23 8 6,cO 24 (call (t 21) [t 22,t 23]),ie 25 24] (co 25 ret skip)))).seq (cW 26 17)))).loop)))).seq (cW 27 10)))).loop)))
theorem Oq:Is Tryz.prog 157 OV:=mkI Tryz.func157
def OU:F2:=(F2.mk 82 [] (ae [aa 12 1,aa 10 12] (block 0 (block 1 (ae [aa 13 10,cO 14 (cB .mul (cN 2) (t 13)),ar 15 .add 14 1,aa 11 15] ((ae [aa 16 11,aa 17 2,aW 18 .geq 16 17] (az 18 (exit 0))).seq (((mixS 1 [aa 19 11,ar 20 .add 19 1,aa 21 2,aW 22 .lss 20 21,aa 23 22,aq 24 23 (cM 4),aq 25 23 (cM 0),aq 26 23 (cM 3),aq 27 23 (cM 11),aq 28 23 (cB .add (t 26) (t 27)),aq 29 23 (ixaS 1 (t 25) (t 28)),aq 30 23 (cD 29),aq 31 23 (cM 0),aq 32 23 (cM 3),aq 33 23 (cM 11),aq 34 23 (cB .add (t 32) (t 33)),aq 35 23 (cB .add (t 34) (cN 1)),aq 36 23 (ixaS 1 (t 31) (t 35)),aq 37 23 (cD 36),aq 38 23 (call (t 24) [t 30,t 37]),aq 39 23 (cB .lss (t 38) (cN 0)),en 40 23 39] [(0,0),(1,0),(2,0),(3,0),(4,0),(5,0),(6,0),(7,0),(8,0),(9,0),(10,0),(11,0),(12,0),(13,0),(14,0),(15,0),(16,0),(17,0),(18,0),(19,2),(20,0),(21,0)]).seq (az 40 (ops 0 [aa 41 11,ar 42 .add 41 1,aa 11 42]))).seq (((mixS 1 [aa 43 4,aa 44 0,aa 45 3,aa 46 10,aW 47 .add 45 46,aE 48 1 44 47,aj 49 48,aa 50 0,aa 51 3,aa 52 11,aW 53 .add 51 52,aE 54 1 50 53,aj 55 54,cO 56 (call (t 43) [t 49,t 55]),ar 57 .lss 56 0,ie 58 57] [(0,0),(1,0),(2,0),(3,0),(4,0),(5,0),(6,0),(7,0),(8,0),(9,0),(10,0),(11,0),(12,0),(13,2),(14,0),(15,0)]).seq (co 58 ret skip)).seq ((ops 1 [aa 59 0,aa 60 3,aa 61 10,aW 62 .add 60 61,aa 63 0,aa 64 3,aa 65 11,aW 66 .add 64 65,aa 67 0,aa 68 3,aa 69 11,aW 70 .add 68 69,aE 71 1 67 70,aj 72 71,aa 73 0,aa 74 3,aa 75 10,aW 76 .add 74 75,aE 77 1 73 76,aj 78 77,aE 79 1 59 62,a7 1 79 72,aE 80 1 63 66,a7 1 80 78]).seq (ops 0 [aa 81 11,aa 10 81]))))))).loop)))
theorem Nv:Is Tryz.prog 158 OU:=mkI Tryz.func158
def M8:F2:=(F2.mk 7 [RV.t 2] (ae [cO 2 (mov (c (AV.int IntKind.u64 (0))))] (am [aa 3 0,cO 4 (conv IntKind.u64 (t 3)),aM 5 111 [t 4],cO 6 (cB .shl (c (AV.int IntKind.u64 (1))) (t 5)),aa 2 6])))
theorem OB:Is Tryz.prog 159 M8:=mkI Tryz.func159
def Pe:F2:=(F2.mk 33 [RV.t 2] (ae [cO 2 (mov (c (AV.int IntKind.u64 (0))))] ((ops 1 [aa 3 0,cO 4 (nilck (t 3)),aj 5 4,aa 6 0,cO 7 (nilck (t 6)),aj 8 7,cO 9 (cB .shl (t 8) (c (AV.int IntKind.u64 (13)))),aW 10 .xor 5 9,cO 11 (nilck (t 3)),a7 1 11 10]).seq ((ops 1 [aa 12 0,cO 13 (nilck (t 12)),aj 14 13,aa 15 0,cO 16 (nilck (t 15)),aj 17 16,cO 18 (cB .shr (t 17) (c (AV.int IntKind.u64 (7)))),aW 19 .xor 14 18,cO 20 (nilck (t 12)),a7 1 20 19]).seq ((ops 1 [aa 21 0,cO 22 (nilck (t 21)),aj 23 22,aa 24 0,cO 25 (nilck (t 24)),aj 26 25,cO 27 (cB .shl (t 26) (c (AV.int IntKind.u64 (17)))),aW 28 .xor 23 27,cO 29 (nilck (t 21)),a7 1 29 28]).seq (am [aa 30 0,cO 31 (nilck (t 30)),aj 32 31,aa 2 32]))))))
theorem NU:Is Tryz.prog 160 Pe:=mkI Tryz.func160
def Oa:F2:=(F2.mk 18 [RV.t 8] (ae [ao 8 0] (am [aa 9 0,aa 10 1,ar 11 .sub 10 1,aa 12 1,aa 13 1,ar 14 .add 13 1,aa 15 2,aa 16 3,aM 17 162 [t 9,t 11,t 12,t 14,t 15,t 16],aa 8 17])))
theorem NT:Is Tryz.prog 161 Oa:=mkI Tryz.func161
def MC:F2:=(F2.mk 41 [RV.t 12] (ae [ao 12 0] (ae [aa 14 0,aa 15 1,aa 16 2,aa 17 4,aa 18 5,aM 19 175 [t 14,t 15,t 16,t 17,t 18],aa 13 19,bW 20 13 0,bW 21 13 1,aa 1 20,aa 2 21] (ae [aa 23 0,aa 24 2,aa 25 3,aa 26 4,aa 27 5,aM 28 175 [t 23,t 24,t 25,t 26,t 27],aa 22 28,bW 29 22 0,bW 30 22 1,aa 2 29,aa 3 30] (ae [aa 32 0,aa 33 1,aa 34 2,aa 35 4,aa 36 5,aM 37 175 [t 32,t 33,t 34,t 35,t 36],aa 31 37,bW 38 31 0,bW 39 31 1,aa 1 38,aa 2 39] (am [aa 40 2,aa 12 40]))))))
theorem Ot:Is Tryz.prog 162 MC:=mkI Tryz.func162
def Nx:F2:=(F2.mk 30 [RV.t 6] (ae [ao 6 0] ((ae [aa 8 0,aV 9 8,aa 10 1,aW 11 .neq 9 10] (az 11 (am [ao 6 15]))).seq ((ae [ao 7 0] (block 0 ((ae [aa 12 7,aa 13 1,aW 14 .lss 12 13] (co 14 skip (exit 0))).seq ((block 1 (ae [aa 17 0,aa 18 7,aE 19 1 17 18,aj 20 19,ar 21 .lss 20 0,aa 22 21,aJ 23 22 (cM 0),aJ 24 22 (cM 7),aJ 25 22 (ixaS 1 (t 23) (t 24)),aJ 26 22 (cD 25),aJ 27 22 (cM 2),aJ 28 22 (cB .geq (t 26) (t 27)),dQ 29 22 28] (az 29 (am [ao 6 2])))).seq (ops 0 [aa 15 7,ar 16 .add 15 1,aa 7 16]))).loop)).seq (am [ao 6 0])))))
theorem ML:Is Tryz.prog 163 Nx:=mkI Tryz.func163
def Oc:F2:=(F2.mk 46 [RV.t 4] (ae [ao 4 0] ((ae [ao 5 0] (block 0 ((ae [aa 6 5,aa 7 0,aV 8 7,aW 9 .lss 6 8,aa 10 9,aq 11 10 (cM 5),aq 12 10 (cM 1),aq 13 10 (lenS (t 12)),aq 14 10 (cB .lss (t 11) (t 13)),en 15 10 14] (co 15 skip (exit 0))).seq ((block 1 (((ops 1 [aa 18 0,aa 19 5,aE 20 1 18 19,aj 21 20,aa 22 1,aa 23 5,aE 24 1 22 23,aj 25 24,aW 26 .lss 21 25]).seq (az 26 (am [cO 4 (mov (cN ((-1))))]))).seq ((ops 1 [aa 27 0,aa 28 5,aE 29 1 27 28,aj 30 29,aa 31 1,aa 32 5,aE 33 1 31 32,aj 34 33,aW 35 .gtr 30 34]).seq (az 35 (am [ao 4 1]))))).seq (ops 0 [aa 16 5,ar 17 .add 16 1,aa 5 17]))).loop)).seq ((ae [aa 36 0,aV 37 36,aa 38 1,aV 39 38,aW 40 .lss 37 39] (az 40 (am [cO 4 (mov (cN ((-1))))]))).seq ((ae [aa 41 0,aV 42 41,aa 43 1,aV 44 43,aW 45 .gtr 42 44] (az 45 (am [ao 4 1]))).seq (am [ao 4 0]))))))
theorem N0:Is Tryz.prog 164 Oc:=mkI Tryz.func164
def O8:F2:=(F2.mk 19 [RV.t 4] (ae [ct 4] ((ae [ao 5 0] (block 0 ((ae [aa 6 5,aa 7 0,aV 8 7,aW 9 .lss 6 8] (co 9 skip (exit 0))).seq ((block 1 (ae [aa 12 0,aa 13 5,aE 14 1 12 13,aj 15 14,aa 16 1,aM 17 164 [t 15,t 16],ar 18 .eql 17 0] (az 18 (am [kB 4])))).seq (ops 0 [aa 10 5,ar 11 .add 10 1,aa 5 11]))).loop)).seq (am [ct 4]))))
theorem Mp:Is Tryz.prog 165 O8:=mkI Tryz.func165
def LR:F2:=(F2.mk 16 [RV.t 2] (ae [bS 1 0,ao 2 0] ((ae [aw 4 0 1,aY 5 6 4,aM 6 176 [t 5],aa 3 6] (ae [aa 7 3,ar 8 .neq 7 0] (az 8 (am [aa 9 3,aa 2 9])))).seq (am [aw 10 0 1,aw 11 0 10,aj 12 11,aw 13 6 1,aj 14 13,aM 15 177 [t 12,t 14],aa 2 15]))))
theorem MS:Is Tryz.prog 166 LR:=mkI Tryz.func166
def LZ:F2:=(F2.mk 24 [RV.t 4] (ae [bS 2 0,bS 3 1,ao 4 0] ((ae [aw 6 0 2,aY 7 6 6,aw 8 0 3,aY 9 6 8,aM 10 178 [t 7,t 9],aa 5 10] (ae [aa 11 5,ar 12 .neq 11 0] (az 12 (am [aa 13 5,aa 4 13])))).seq ((ae [aw 14 6 2,aj 15 14,aw 16 6 3,aj 17 16,aW 18 .lss 15 17] (az 18 (am [cO 4 (mov (cN ((-1))))]))).seq ((ae [aw 19 6 2,aj 20 19,aw 21 6 3,aj 22 21,aW 23 .gtr 20 22] (az 23 (am [ao 4 1]))).seq (am [ao 4 0]))))))
theorem M6:Is Tryz.prog 167 LZ:=mkI Tryz.func167
def O3:F2:=(F2.mk 19 [RV.t 4] (ae [ct 4] ((ae [ao 5 0] (block 0 ((ae [aa 6 5,ar 7 .lss 6 5] (co 7 skip (exit 0))).seq ((block 1 (ae [aa 10 0,aa 11 5,aM 12 149 [t 10,t 11],aa 13 12,aq 14 13 (cM 1),aq 15 13 (cM 5),aq 16 13 (call (cF 149) [t 14,t 15]),aq 17 13 (un UnOp.not (t 16)),en 18 13 17] (az 18 (am [ct 4])))).seq (ops 0 [aa 8 5,ar 9 .add 8 1,aa 5 9]))).loop)).seq (am [kB 4]))))
theorem Mn:Is Tryz.prog 168 O3:=mkI Tryz.func168
def MA:F2:=(F2.mk 13 [RV.t 2] (ae [ao 2 0] (ae [ao 3 1] ((ae [ao 4 0] (block 0 ((ae [aa 5 4,aa 6 0,aW 7 .lss 5 6] (co 7 skip (exit 0))).seq ((block 1 (ops 0 [aa 10 3,ar 11 .mul 10 2,aa 3 11])).seq (ops 0 [aa 8 4,ar 9 .add 8 1,aa 4 9]))).loop)).seq (am [aa 12 3,aa 2 12])))))
theorem MX:Is Tryz.prog 169 MA:=mkI Tryz.func169
def NJ:F2:=(F2.mk 9 [RV.t 4] (ae [ct 4] (am [aa 5 0,aa 6 1,aM 7 179 [t 5,t 6],ar 8 .geq 7 0,aa 4 8])))
theorem NW:Is Tryz.prog 170 NJ:=mkI Tryz.func170
def NS:F2:=(F2.mk 7 [RV.t 3] (ae [ct 3] (am [aa 4 0,aj 5 1,aM 6 95 [t 4,t 5],aa 3 6])))
theorem Pc:Is Tryz.prog 171 NS:=mkI Tryz.func171
def LU:F2:=(F2.mk 50 [RV.t 2] (ae [bS 1 0,ao 2 0] ((ae [aw 5 0 1,aj 6 5,ar 7 .lss 6 1,aa 8 7,aJ 9 8 (fa 0 (t 1)),aJ 10 8 (cD 9),aJ 11 8 (cB .gtr (t 10) (cN 5)),dQ 12 8 11] (az 12 (am [ao 2 2]))).seq ((ae [aw 13 1 1,aY 14 5 13,ao 15 0] (block 0 (ae [ar 16 .lss 15 5] (Gu 16 0 ((block 1 (ae [aa 17 15,cO 18 (ixA1 5 1 (t 14) (t 15)),aa 3 17,aa 4 18] (block 2 (ae [aa 20 3,aw 21 0 1,aj 22 21,aW 23 .geq 20 22,aa 24 23,aq 25 24 (cM 4),aq 26 24 (cB .neq (t 25) (cN 0)),en 27 24 26,aa 19 27] (co 19 (am [ao 2 3]) (ae [aa 29 3,aw 30 0 1,aj 31 30,aW 32 .geq 29 31,aa 28 32] (co 28 skip (ae [aa 34 4,ar 35 .lss 34 0,aa 36 35,aJ 37 36 (cM 4),aJ 38 36 (fa 0 (t 1)),aJ 39 36 (cD 38),aJ 40 36 (call (cF 180) [t 39]),aJ 41 36 (cB .gtr (t 37) (t 40)),dQ 42 36 41,aa 33 42] (co 33 (am [ao 2 2]) (ae [aa 44 4,aa 45 3,aW 46 .shr 44 45,ar 47 .and 46 1,ar 48 .eql 47 0,aa 43 48] (az 43 (am [ao 2 3])))))))))))).seq (cW 49 15)))).loop)).seq (am [ao 2 0])))))
theorem Mr:Is Tryz.prog 172 LU:=mkI Tryz.func172
def LN:F2:=(F2.mk 19 [RV.t 4] (ae [ao 4 0] ((ae [aa 6 0,aM 7 181 [t 6],aa 5 7] (ae [aa 8 5,ar 9 .neq 8 0] (az 9 (am [aa 10 5,aa 4 10])))).seq ((ae [aa 11 1,ar 12 .lss 11 0,aa 13 12,aJ 14 13 (cM 1),aJ 15 13 (cM 0),aJ 16 13 (cB .shr (t 14) (t 15)),aJ 17 13 (cB .neq (t 16) (cN 0)),dQ 18 13 17] (az 18 (am [ao 4 2]))).seq (am [ao 4 0])))))
theorem Pb:Is Tryz.prog 173 LN:=mkI Tryz.func173
def N1:F2:=(F2.mk 36 [RV.t 4] (ae [bS 2 0,bS 3 1,ao 4 0] ((ae [aY 7 6 2,aY 8 6 3,cO 9 (binS BinOp.eql [int,int,int,int,int,int] (t 7) (t 8))] (az 9 (am [ao 4 0]))).seq ((ae [aw 10 0 2,aj 11 10,aw 12 0 3,aj 13 12,aW 14 .neq 11 13] (az 14 (am [aw 15 0 2,aj 16 15,aw 17 0 3,aj 18 17,aM 19 126 [t 16,t 18],aa 4 19]))).seq ((ae [ao 20 0] (block 0 (ae [ar 21 .lss 20 5] (Gu 21 0 ((block 1 (ae [aa 22 20,aa 5 22] ((mixS 1 [aa 23 5,aw 24 1 2,cO 25 (ixaA 5 1 (t 24) (t 23)),aj 26 25,aa 27 5,aw 28 1 3,cO 29 (ixaA 5 1 (t 28) (t 27)),aj 30 29,aM 31 126 [t 26,t 30],aa 6 31] [(0,0),(1,0),(2,0),(3,0),(4,0),(5,0),(6,0),(7,0),(8,2),(9,0)]).seq (ae [aa 32 6,ar 33 .neq 32 0] (az 33 (am [aa 34 6,aa 4 34])))))).seq (cW 35 20)))).loop)).seq (am [ao 4 0]))))))
theorem N9:Is Tryz.prog 174 N1:=mkI Tryz.func174
def LL:F2:=(F2.mk 32 [RV.t 10,RV.t 11] (ae [ao 10 0,ao 11 0] (((mixS 1 [aa 12 4,aa 13 0,aa 14 2,aE 15 1 13 14,aj 16 15,aa 17 0,aa 18 1,aE 19 1 17 18,aj 20 19,cO 21 (call (t 12) [t 16,t 20]),ar 22 .lss 21 0] [(0,0),(1,0),(2,0),(3,0),(4,0),(5,0),(6,0),(7,0),(8,0),(9,2),(10,0)]).seq (az 22 (ae [aa 23 3,cO 24 (nilck (t 23)),aj 25 24,ar 26 .add 25 1,cO 27 (nilck (t 23)),a7 1 27 26] (am [aa 28 2,aa 29 1,aa 10 28,aa 11 29])))).seq (am [aa 30 1,aa 31 2,aa 10 30,aa 11 31]))))
theorem NC:Is Tryz.prog 175 LL:=mkI Tryz.func175
def Ou:F2:=(F2.mk 40 [RV.t 2] (ae [bS 1 0,ao 2 0] ((ae [aw 5 0 1,aj 6 5,ar 7 .lss 6 1,aa 8 7,aJ 9 8 (fa 0 (t 1)),aJ 10 8 (cD 9),aJ 11 8 (cB .gtr (t 10) (cN 5)),dQ 12 8 11] (az 12 (am [ao 2 2]))).seq ((ae [ao 3 0] (block 0 ((ae [aa 13 3,ar 14 .lss 13 5] (co 14 skip (exit 0))).seq ((block 1 (ae [aa 17 3,aw 18 1 1,cO 19 (ixaA 5 1 (t 18) (t 17)),aj 20 19,aa 4 20] ((ae [aa 21 3,aw 22 0 1,aj 23 22,aW 24 .geq 21 23] (az 24 ((ae [aa 25 4,ar 26 .neq 25 0] (az 26 (am [ao 2 3]))).seq (exit 1)))).seq ((ae [aa 27 4,ar 28 .lss 27 0,aa 29 28,aJ 30 29 (cM 4),aJ 31 29 (fa 0 (t 1)),aJ 32 29 (cD 31),aJ 33 29 (call (cF 182) [t 32]),aJ 34 29 (cB .gtr (t 30) (t 33)),dQ 35 29 34] (az 35 (am [ao 2 2]))).seq (ae [aa 36 4,aa 37 3,aM 38 149 [t 36,t 37],ie 39 38] (az 39 (am [ao 2 3]))))))).seq (ops 0 [aa 15 3,ar 16 .add 15 1,aa 3 16]))).loop)).seq (am [ao 2 0])))))
theorem O1:Is Tryz.prog 176 Ou:=mkI Tryz.func176
def MQ:F2:=(F2.mk 19 [RV.t 4] (ae [ao 4 0] ((ae [aa 6 0,aM 7 183 [t 6],aa 5 7] (ae [aa 8 5,ar 9 .neq 8 0] (az 9 (am [aa 10 5,aa 4 10])))).seq ((ae [aa 11 1,ar 12 .lss 11 0,aa 13 12,aJ 14 13 (cM 1),aJ 15 13 (cM 0),aJ 16 13 (call (cF 169) [t 15]),aJ 17 13 (cB .geq (t 14) (t 16)),dQ 18 13 17] (az 18 (am [ao 4 2]))).seq (am [ao 4 0])))))
theorem NQ:Is Tryz.prog 177 MQ:=mkI Tryz.func177
def Pg:F2:=(F2.mk 38 [RV.t 4] (ae [bS 2 0,bS 3 1,ao 4 0] ((ae [aw 6 0 2,aj 7 6,aw 8 0 3,aj 9 8,aW 10 .lss 7 9] (az 10 (am [cO 4 (mov (cN ((-1))))]))).seq ((ae [aw 11 0 2,aj 12 11,aw 13 0 3,aj 14 13,aW 15 .gtr 12 14] (az 15 (am [ao 4 1]))).seq ((ae [ao 5 0] (block 0 ((ae [aa 16 5,ar 17 .lss 16 5] (co 17 skip (exit 0))).seq ((block 1 (((ops 1 [aa 20 5,aw 21 1 2,cO 22 (ixaA 5 1 (t 21) (t 20)),aj 23 22,aa 24 5,aw 25 1 3,cO 26 (ixaA 5 1 (t 25) (t 24)),aj 27 26,aW 28 .lss 23 27]).seq (az 28 (am [cO 4 (mov (cN ((-1))))]))).seq ((ops 1 [aa 29 5,aw 30 1 2,cO 31 (ixaA 5 1 (t 30) (t 29)),aj 32 31,aa 33 5,aw 34 1 3,cO 35 (ixaA 5 1 (t 34) (t 33)),aj 36 35,aW 37 .gtr 32 36]).seq (az 37 (am [ao 4 1]))))).seq (ops 0 [aa 18 5,ar 19 .add 18 1,aa 5 19]))).loop)).seq (am [ao 4 0]))))))
theorem LO:Is Tryz.prog 178 Pg:=mkI Tryz.func178
def Mw:F2:=(F2.mk 19 [RV.t 4] (ae [ao 4 0] ((ae [aa 6 0,aV 7 6,ao 8 0] (block 0 ((dh 9 8 7 0 ((block 1 (ae [aa 10 8,aa 5 10] (ae [aa 11 1,aa 12 0,aa 13 5,aE 14 1 12 13,aj 15 14,cO 16 (call (t 11) [t 15])] (az 16 (am [aa 17 5,aa 4 17]))))).seq (cW 18 8)))).loop)).seq (am [cO 4 (mov (cN ((-1))))]))))
theorem M4:Is Tryz.prog 179 Mw:=mkI Tryz.func179
def Oh:F2:=(F2.mk 6 [RV.t 2] (ae [ao 2 0] (am [aa 3 0,cO 4 (cB .shl (cN 1) (t 3)),ar 5 .sub 4 1,aa 2 5])))
theorem L5:Is Tryz.prog 180 Oh:=mkI Tryz.func180
def Mm:F2:=(F2.mk 9 [RV.t 2] (ae [ao 2 0] ((ae [aa 3 0,ar 4 .lss 3 1,aa 5 4,aJ 6 5 (cM 0),aJ 7 5 (cB .gtr (t 6) (cN 5)),dQ 8 5 7] (az 8 (am [ao 2 1]))).seq (am [ao 2 0]))))
theorem L3:Is Tryz.prog 181 Mm:=mkI Tryz.func181
def Ng:F2:=(F2.mk 6 [RV.t 2] (ae [ao 2 0] (am [aa 3 0,aM 4 169 [t 3],ar 5 .sub 4 1,aa 2 5])))
theorem Nj:Is Tryz.prog 182 Ng:=mkI Tryz.func182
def My:F2:=(F2.mk 9 [RV.t 2] (ae [ao 2 0] ((ae [aa 3 0,ar 4 .lss 3 1,aa 5 4,aJ 6 5 (cM 0),aJ 7 5 (cB .gtr (t 6) (cN 5)),dQ 8 5 7] (az 8 (am [ao 2 1]))).seq (am [ao 2 0]))))
theorem Nz:Is Tryz.prog 183 My:=mkI Tryz.func183
end Go.Proofs.YtmpcledaoigkaaaGreat
namespace Go.Proofs.YtmpcledaoigkaaaGreat.Tk
open Go Go.Abs
open Nat (reduceEqDiff reduceAdd reduceLeDiff)
abbrev Sh{α:Type}(l:List α):Prop:=l.length<=17592186044416
structure CaseV where
 inp:List Int
 out:List (List Int)
 calm:List (List Int)
 deriving Inhabited,DecidableEq
structure TaskV where
 n:Int
 ins:Int
 outs:Int
 cases:List CaseV
 deriving Inhabited,DecidableEq
def kD(c:CaseV):AV:=.agg [aD c.inp,bm c.out,bm c.calm]
def cI(l:List CaseV):AV:=.sl 3 (l.map kD)
def qj(t:TaskV):AV:=.agg [.int .i64 t.n,.int .i64 t.ins,.int .i64 t.outs,cI t.cases]
theorem jd (l:List CaseV):Dat (cI l):=Dat.sl (fun x hx c hc=>by
 simp at hx;obtain⟨q,_,rfl⟩:=hx;simp only[kD,AV.cells,fR,List.not_mem_nil,or_false] at hc;rcases hc with rfl|rfl|rfl
 ·exact fc _
 ·exact d8 _
 ·exact d8 _)
theorem nw(t:TaskV):Dat (qj t):=by
 refine Dat.agg λx hx=>?_;simp only[fR,List.not_mem_nil,or_false] at hx;rcases hx with rfl|rfl|rfl|rfl
 ·exact .int
 ·exact .int
 ·exact .int
 ·exact jd _
theorem bE(l:List CaseV):(cI l).one=true:=rfl
theorem bi(l:List CaseV):(cI l).cells=[cI l]:=rfl
theorem bf(l:List CaseV):dw (cI l)=some (.int .i64 l.length):=by simp[dw,cI]
theorem aixS_encCs{l:List CaseV}{k:Nat}(h:k<l.length):cu 3 (cI l) (.int .i64 k)=some (.iptr [aD (l.getD k default).inp,bm (l.getD k default).out,bm (l.getD k default).calm] 0):=by
 simp[cu,cI,h,List.getD,kD,AV.cells]
def ShC(c:CaseV):Prop:=Sh c.inp/\Sh c.out/\(∀x∈c.out,Sh x)/\Sh c.calm/\∀x∈c.calm,Sh x
def bz:List Int->List Int->Int
 |[],[]=>0
 |[],_::_=>-1
 |_::_,[]=>1
 |a::l,b::m=>if a<b then-1 else if a>b then 1 else bz l m
def cJ(f:Nat->Int):Nat->Int
 |0=>0
 |n+1=>if cJ f n≠0 then cJ f n else f n
theorem dI{f:Nat->Int}:∀{n:Nat},(∀i,i<n->f i=0)->cJ f n=0
 |0,_=>rfl
 |n+1,h=>by
  have:=dI (f:=f) (n:=n) (λi hi=>h i (by omega));rw[cJ,this,if_neg (by simp)];exact h n (by omega)
theorem dS{f:Nat->Int}:∀{n k:Nat},k<n->(∀i,i<k->f i=0)->f k≠0->cJ f n=f k
 |0,k,h,_,_=>absurd h (by omega)
 |n+1,k,h,h0,hk=>by
  rw[cJ];by_cases e:k=n
  ·subst e;rw[dI h0,if_neg (by simp)]
  ·rw[dS (n:=n) (by omega) h0 hk,if_pos hk]
theorem i9{f:Nat->Int}:∀{n:Nat},cJ f n=0->∀i,i<n->f i=0
 |0,_,i,h=>absurd h (by omega)
 |n+1,h,i,hi=>by
  rw[cJ] at h;by_cases e:cJ f n=0
  ·rw[e,if_neg (by simp)] at h;by_cases ei:i=n
   ·subst ei;exact h
   ·exact i9 e i (by omega)
  ·rw[if_pos e] at h;exact absurd h e
def cz(v:List Int)(n most:Int):Int:=if (v.length:Int)≠n then 15 else if v.any (λx=>decide (x<0\/most<=x)) then 2 else 0
def iO(l:List (List Int))(i:Nat):Bool:=decide (0<i)&&decide (0<=bz (l.getD (i-1) default) (l.getD i default))
def oM(n outs:Int)(l:List (List Int))(k:Nat):Int:=if cz (l.getD k default) n outs≠0 then cz (l.getD k default) n outs else if iO l k then 14 else 0
def oZ(out calm:List (List Int))(k:Nat):Int:=if calm.getD k default∈out then(if iO calm k then 14 else 0) else 6
def eI(n outs:Int)(c:CaseV):Int:=if c.out.length<1\/1024<c.out.length then 5 else if cJ (oM n outs c.out) c.out.length≠0 then cJ (oM n outs c.out) c.out.length else cJ (oZ c.out c.calm) c.calm.length
def jE(t:TaskV)(k:Nat):Int:=if cz (t.cases.getD k default).inp t.n t.ins≠0 then cz (t.cases.getD k default).inp t.n t.ins else if iO (t.cases.map CaseV.inp) k then 14 else eI t.n t.outs (t.cases.getD k default)
def eF(t:TaskV):Int:=if t.n<1\/5<t.n\/t.ins<1\/8<t.ins\/t.outs<1\/8<t.outs then 2 else if t.cases.length<1\/1024<t.cases.length then 5 else cJ (jE t) t.cases.length
theorem pE:∀l:List Int,bz l l=0
 |[]=>rfl
 |a::l=>by rw[bz,if_neg (by omega),if_neg (by omega)];exact pE l
theorem ul:∀{l m:List Int},bz l m=0->l=m
 |[],[],_=>rfl
 |[],_::_,h=>by simp[bz] at h
 |_::_,[],h=>by simp[bz] at h
 |a::l,b::m,h=>by
  rw[bz] at h;split at h
  ·omega
  ·split at h
   ·omega
   ·rw[ul h,show a=b by omega]
theorem rF{l m:List Int}:bz l m=0↔l=m:=⟨ul,λh=>h▸pE l⟩
theorem pS{t:TaskV}{k:Nat}(h:k<t.cases.length):(t.cases.map CaseV.inp).getD k default=(t.cases.getD k default).inp:=by simp[List.getD,h]
theorem IG(l:List (List Int))(v:List Int):(l.any λx=>decide (x=v))=decide (v∈l):=by
 by_cases h:v∈l
 ·rw[bH h,kW];exact⟨v,h,by simp⟩
 ·rw[bL h,List.any_eq_false];intro x hx e;rw[EY] at e;subst e;exact h hx
def pH(l:List (List Int)):Bool:=decide (l.length<=30)&&l.all λv=>decide (v.length<=10)
def ws(c:CaseV):Bool:=decide (c.inp.length<=10)&&pH c.out&&pH c.calm
def Cu(t:TaskV):Bool:=decide (t.cases.length<=30)&&t.cases.all ws
theorem An{l:List (List Int)}{v:List Int}:v∈l↔ ∃i,i<l.length/\l.getD i default=v:=by
 constructor
 ·intro h;obtain⟨i,hi,e⟩:=nr h;exact⟨i,hi,by simp[List.getD,hi,e]⟩
 ·rintro⟨i,hi,rfl⟩;exact au hi
section
attribute [local irreducible] aG ah bg aQ aH aK ay aN aR bq Go.Abs.Fn aP Go.Abs.Pure ak aF Yl
def FP(l:List Int)(p:Int->Bool):Int:=if l.any p then(l.findIdx p:Nat) else-1
theorem HG{l:List Int}{p:Int->Bool}{k:Nat}(hk:k<l.length)(h:∀i,i<k->p (l.getD i default)=false)(hv:p (l.getD k default)=true):FP l p=k:=by
 have e:l.getD k default=l[k]:=by simp[List.getD,hk]
 have hm:l.any p=true:=kW.2 ⟨l[k],nk hk,by rw[<-e];exact hv⟩;unfold FP;rw[if_pos hm];have:l.findIdx p=k:=(List.findIdx_eq hk).2 ⟨by rw[<-e];exact hv,λj hj=>by have:=h j hj;rwa [show l.getD j default=l[j] by simp[List.getD,show j<l.length by omega]] at this⟩;rw[this]
theorem EA{l:List Int}{p:Int->Bool}(h:∀i,i<l.length->p (l.getD i default)=false):l.any p=false:=by
 rw[List.any_eq_false];intro x hx;obtain⟨i,hi,e⟩:=nr hx;have:=h i hi;rw[show l.getD i default=l[i] by simp[List.getD,hi],e] at this;simp[this]
theorem GU(l:List Int)(p:Int->Bool)(g:Nat)(caps:List AV)(hd:∀x∈caps,Dat x)(hg:∀x∈l,pU g (.int .i64 x::caps) (.bool (p x)))(hl:Sh l):pU 127 [aD l,.func g caps] (.int .i64 (FP l p)):=by
 refine pO Jw ?_;simp only[K9,av];refine wnZ and_self ?_;refine gn (X:=Nat) (λk=>[(0,aD l),(1,.func g caps),(6,aD l),(7,.int .i64 l.length),(8,.int .i64 k)]) (λk=>k<=l.length/\∀i,i<k->p (l.getD i default)=false) (λk=>l.length-k) 0 ⟨bA _,by simp⟩ ag0 ?_;rintro k ⟨h1,h2⟩
 repeat' (first|refine zW ?_|apply a_n|apply a_x|apply a_r|refine zO ?_|refine vZ ?_|refine cZ ?_ (hp:=by exact hg _ (au (by omega))) (hs:=by(first|refine aB ?_ rfl|apply aS);(repeat' (first|exact ai|apply bI|apply bd|exact bc hd));first|done|fail)|(refine zGZ ?_ ?_<;>(intro _hg;try (exfalso;omega)))|refine bn rfl ?_|refine r1Z ?_|fail)
 ·refine aA ?_;rw[HG (by omega) h2 _hg]
 ·refine⟨k+1,⟨by omega,λi hi=>?_⟩,by omega,ag0,rfl,rfl⟩;rcases i7.1 hi with h|rfl
  ·exact h2 i h
  ·exact _hg
 ·refine aA ?_;unfold FP;rw[EA λi hi=>h2 i (by omega)];rfl
theorem AR(l:List Int)(p:Int->Bool)(g:Nat)(caps:List AV)(hd:∀x∈caps,Dat x)(hg:∀x∈l,pU g (.int .i64 x::caps) (.bool (p x)))(hl:Sh l):pU 102 [aD l,.func g caps] (.bool (l.any p)):=by
 refine pO JN ?_;simp only[K2,av]
 repeat' (first|refine zW ?_|apply a_n|refine zO ?_|refine vZ ?_|refine cZ ?_ (hp:=by exact GU l p g caps hd hg hl) (hs:=by(first|refine aB ?_ rfl|apply aS);(repeat' (first|exact ai|apply bI|apply bd|exact Dat.func hd));first|done|fail)|refine bn rfl ?_|refine r1Z ?_|fail)
 refine cq ?_;unfold FP;split<;>simp_all
theorem cloneF_c(l:List Int)(hl:Sh l):PureF Tryz.prog 78 [aD l] (aD l):=by
 refine qO QD ?_;simp only[b78,av];refine wnZ and_self ?_;refine mY (k:=l.length) (by((try simp only[bU,ZA,reduceEqDiff,↓reduceIte,reduceAdd,reduceLeDiff]);(try with_reducible rfl));exact va) (λh=>?_) (λh=>?_) (λh=>?_)
 ((all_goals (try have zz:=and_self));(repeat' (first|refine zW ?_|apply a_n|apply a_r|refine zO ?_|refine vZ ?_|refine b0Z ?_|refine a0Z ?_|refine cTZ ?_|refine cFZ ?_|refine bn rfl ?_|refine r1Z ?_|fail));(all_goals (try clear zz)))
 ·exact rM ac (by omega) rfl
 ·exact D6 h
 ·exact rM ac (by omega) rfl
theorem equalV_c(l m:List Int)(hl:Sh l)(hm:Sh m):pU 95 [aD l,aD m] (.bool (decide (l=m))):=by
 refine pO QL ?_;simp only[b95,av]
 repeat' (first|refine zW ?_|apply a_n|apply a_r|refine zO ?_|refine vZ ?_|(refine zGZ ?_ ?_<;>(intro _hg;try (exfalso;omega)))|refine bn rfl ?_|refine r1Z ?_|fail)
 ·refine cq ?_
  symm;rw[decide_eq_false_iff_not];rintro rfl;omega
 refine gn (X:=Nat) (λk=>[(0,aD l),(1,aD m),(12,.int .i64 l.length),(13,.int .i64 k)]) (λk=>k<=l.length/\∀i,i<k->l.getD i default=m.getD i default) (λk=>l.length-k) 0 ⟨bA _,by simp⟩ ag0 ?_;rintro k ⟨h1,h2⟩
 repeat' (first|refine zW ?_|apply a_n|apply a_x|apply a_r|refine zO ?_|refine vZ ?_|(refine zGZ ?_ ?_<;>(intro _hg;try (exfalso;omega)))|refine bn rfl ?_|refine r1Z ?_|fail)
 ·refine cq ?_
  symm;rw[decide_eq_false_iff_not];rintro rfl;exact absurd rfl ‹_›
 ·refine⟨k+1,⟨by omega,λi hi=>?_⟩,by omega,ag0,rfl,rfl⟩;rcases i7.1 hi with h|rfl
  ·exact h2 i h
  ·omega
 ·refine cq ?_
  symm;rw[EY]
  refine List.ext_getElem (by omega) (λi h3 h4=>?_);have:=h2 i (by omega);simpa[List.getD,h3,h4] using this
theorem HX(n:Int):pU 151 [.int .i64 n] (.bool false):=by
 refine pO Jy ?_;simp only[KV,av];refine wnZ and_self ?_;exact cq (by simp)
theorem CC(a b:Int):pU 126 [.int .i64 a,.int .i64 b] (.int .i64 (if a<b then-1 else if a>b then 1 else 0)):=by
 refine pO Jt ?_;simp only[Kn,av];have zz:=@d6;repeat' (first|refine zW ?_|apply a_n|apply a_r|refine zO ?_|refine vZ ?_|refine cZ ?_ (hp:=by exact HX _)|refine cFZ ?_|(refine zGZ ?_ ?_<;>(intro _hg;try (exfalso;omega)))|refine bn rfl ?_|refine r1Z ?_|fail)
 all_goals (refine aA ?_)
 ·rw[if_pos ‹_›]
 ·rw[if_neg ‹_›,if_pos ‹_›]
 ·rw[if_neg (by omega),if_neg (by omega)]
theorem j7(a b:List Int)(ha:Sh a)(hb:Sh b):pU 129 [aD a,aD b] (.int .i64 (bz a b)):=by
 refine pO LW ?_;simp only[NL,av];refine wnZ and_self ?_;refine gn (X:=Nat) (λk=>[(0,aD a),(1,aD b),(9,aD a),(10,.int .i64 a.length),(11,.int .i64 k)]) (λk=>k<=a.length/\k<=b.length/\bz a b=bz (a.drop k) (b.drop k)) (λk=>a.length-k) 0 ⟨bA _,bA _,rfl⟩ ag0 ?_;rintro k ⟨h1,h2,h3⟩
 repeat' (first|refine zW ?_|apply a_n|apply a_x|apply a_r|refine zO ?_|refine vZ ?_|refine cZ ?_ (hp:=by exact CC _ _)|(refine zGZ ?_ ?_<;>(intro _hg;try (exfalso;omega)))|refine bn rfl ?_|refine r1Z ?_|fail)
 ·refine aA ?_;rw[h3,nZ (show b.length<=k by omega),dB (l:=a) (by omega)];rfl
 ·refine aA ?_;rw[h3,dB (l:=a) (by omega),dB (l:=b) (by omega),bz];split
  ·rfl
  ·rename_i h;split
   ·rfl
   ·rename_i h';exact absurd (show(if a.getD k default<b.getD k default then(-1:Int) else if a.getD k default>b.getD k default then 1 else 0)=0 by rw[if_neg h,if_neg h']) ‹_›
 ·refine⟨k+1,⟨by omega,by omega,?_⟩,by omega,ag0,rfl,rfl⟩;rw[h3,dB (l:=a) (by omega),dB (l:=b) (by omega),bz];by_cases h:a.getD k default<b.getD k default
  ·rw[if_pos h] at _hg;exact absurd (by decide) _hg
  ·by_cases h':a.getD k default>b.getD k default
   ·rw[if_neg h,if_pos h'] at _hg;exact absurd (by decide) _hg
   ·rw[if_neg h,if_neg h']
 ·refine aA ?_;rw[h3,nZ (show a.length<=k by omega),dB (l:=b) (by omega)];rfl
 ·refine aA ?_;rw[h3,nZ (show a.length<=k by omega),nZ (show b.length<=k by omega)];rfl
theorem D4(l:List (List Int))(p:List Int->Bool)(g:Nat)(caps:List AV)(hd:∀x∈caps,Dat x)(hg:∀x∈l,pU g (aD x::caps) (.bool (p x)))(hl:Sh l):pU 179 [bm l,.func g caps] (.int .i64 (if l.any p then(l.findIdx p:Nat) else-1)):=by
 refine pO M4 ?_;simp only[Mw,av];refine wnZ and_self ?_;refine gn (X:=Nat) (λk=>[(0,bm l),(1,.func g caps),(7,.int .i64 l.length),(8,.int .i64 k)]) (λk=>k<=l.length/\∀i,i<k->p (l.getD i default)=false) (λk=>l.length-k) 0 ⟨bA _,by simp⟩ ag0 ?_;rintro k ⟨h1,h2⟩
 repeat' (first|refine zW ?_|apply a_n|apply a_x|apply a_r|refine zO ?_|refine vZ ?_|refine cZ ?_ (hp:=by exact hg _ (au (by omega))) (hs:=by(first|refine aB ?_ rfl|apply aS);(repeat' (first|exact ai|apply bI|apply bd|exact bc hd));first|done|fail)|(refine zGZ ?_ ?_<;>(intro _hg;try (exfalso;omega)))|refine bn rfl ?_|refine r1Z ?_|fail)
 ·refine aA ?_;have hk:k<l.length:=by omega
  have e:l.getD k default=l[k]:=by simp[List.getD,hk]
  rw[e] at _hg;have hm:l.any p=true:=kW.2 ⟨l[k],nk hk,_hg⟩;rw[if_pos hm,(List.findIdx_eq hk).2 ⟨_hg,λj hj=>by have:=h2 j hj;rwa [show l.getD j default=l[j] by simp[List.getD,show j<l.length by omega]] at this⟩]
 ·refine⟨k+1,⟨by omega,λi hi=>?_⟩,by omega,ag0,rfl,rfl⟩;rcases i7.1 hi with h|rfl
  ·exact h2 i h
  ·exact _hg
 ·refine aA ?_;rw[if_neg];rw[Bool.not_eq_true,List.any_eq_false];intro x hx;obtain⟨i,hi,e⟩:=nr hx;have:=h2 i (by omega);rw[show l.getD i default=x by simp[List.getD,hi,e]] at this;simp[this]
theorem x5(l:List (List Int))(p:List Int->Bool)(g:Nat)(caps:List AV)(hd:∀x∈caps,Dat x)(hg:∀x∈l,pU g (aD x::caps) (.bool (p x)))(hl:Sh l):pU 170 [bm l,.func g caps] (.bool (l.any p)):=by
 refine pO NW ?_;simp only[NJ,av]
 repeat' (first|refine zW ?_|apply a_n|refine zO ?_|refine vZ ?_|refine cZ ?_ (hp:=by exact D4 l p g caps hd hg hl) (hs:=by(first|refine aB ?_ rfl|apply aS);(repeat' (first|exact ai|apply bI|apply bd|exact Dat.func hd));first|done|fail)|refine bn rfl ?_|refine r1Z ?_|fail)
 refine cq ?_;split<;>simp_all
theorem JZ(v x:List Int)(hv:Sh v)(hx:Sh x):pU 171 [aD x,.iptr [aD v] 0] (.bool (decide (x=v))):=by
 refine pO Pc ?_;simp only[NS,av]
 repeat' (first|refine zW ?_|apply a_n|refine zO ?_|refine vZ ?_|refine cZ ?_ (hp:=by exact equalV_c _ _ hx hv)|refine bn rfl ?_|refine r1Z ?_|fail)
 exact .bool _
theorem O6(l:List (List Int))(v:List Int)(hl:Sh l)(hs:∀x∈l,Sh x)(hv:Sh v):pU 154 [bm l,aD v] (.bool (l.any λx=>decide (x=v))):=by
 refine pO L6 ?_;simp only[Mi,av];refine wnZ and_self ?_;refine dE ev0 ev0 (x5 l (λx=>decide (x=v)) 171 [.iptr [aD v] 0] (DatL.cons (Dat.iptr (DatL.cons (fc _) DatL.nil)) DatL.nil) (λx hx=>JZ v x hv (hs x hx)) hl) (aB (by(repeat' (first|exact ai|exact Dat.snap Dat.int|exact Dat.snap Dat.bool|exact Dat.snap Dat.str|exact Dat.snap Dat.esl|exact Dat.snap Dat.nilf|exact Dat.snap (fc _)|exact Dat.snap (d8 _)|apply af|apply iz|apply wN|(apply dY;(focus ((try simp only[bU,ZA,reduceEqDiff,↓reduceIte,reduceAdd,reduceLeDiff]);with_reducible rfl));(focus rfl))))) rfl) ?_;refine wnZ and_self ?_;exact .bool _
theorem EP(x most:Int):pU 152 [.int .i64 x,.iptr [.int .i64 most] 0] (.bool (decide (x<0\/most<=x))):=by
 refine pO MJ ?_;simp only[Mf,av]
 repeat' (first|refine zW ?_|apply a_n|refine zO ?_|refine vZ ?_|refine gTZ ?_|refine gFZ ?_|(refine zGZ ?_ ?_<;>(intro _hg;try (exfalso;omega)))|refine bn rfl ?_|refine r1Z ?_|fail)
 all_goals (refine cq ?_)
 ·exact decide_eq_decide.2 (by omega)
 ·rw[bH (by omega)]
theorem ss(l:List (List Int))(i:Nat)(hi:i<l.length)(hl:Sh l)(hs:∀x∈l,Sh x):pU 153 [bm l,.int .i64 i] (.bool (decide (0<i)&&decide (0<=bz (l.getD (i-1) default) (l.getD i default)))):=by
 refine pO OW ?_;simp only[Oe,av];by_cases h0:i=0
 ·subst h0;refine wkZ (show((0:Nat):Int)=0 from rfl) ?_;exact cq (by simp)
 ·have e:((i:Int)-1).toNat=i-1:=by omega
  have hc:=j7 (l.getD (i-1) default) (l.getD i default) (hs _ (au (by omega))) (hs _ (au (by omega)));refine wkZ @e ?_;refine cq ?_;rw[bH (show 0<i by omega),Bool.true_and]
theorem Fs(tb tf:Bool)(n:Int)(h0:0<=n)(h1:n<=5):bo .shl tb tf (.int .i64 1) (.int .i64 n)=some (.int .i64 (2^n.toNat:Nat)):=by
 have:n=0\/n=1\/n=2\/n=3\/n=4\/n=5:=by omega
 rcases this with rfl|rfl|rfl|rfl|rfl|rfl<;>rfl
def qk(a:Int):Int:=IntKind.wrap .i64 (BitVec.ofInt 64 a &&& BitVec.ofInt 64 1).toNat
def kw(f:Int)(p:Nat):Int:=f.fdiv (2^(min p 64))
theorem rh(tb tf:Bool)(f:Int)(p:Nat):bo .shr tb tf (.int .i64 f) (.int .i64 p)=some (.int .i64 (kw f p)):=by
 have h:¬((p:Int)<0):=by omega
 simp only[bo,nu,h,if_false,or_true,if_true];rfl
theorem pZ(tb tf:Bool)(a:Int):bo .and tb tf (.int .i64 a) (.int .i64 1)=some (.int .i64 (qk a)):=rfl
theorem AO(v:List Int)(n most:Int)(hv:Sh v):pU 128 [aD v,.int .i64 n,.int .i64 most] (.int .i64 (cz v n most)):=by
 refine pO MO ?_;simp only[O2,av];have hv':v.length<=17592186044416:=hv;by_cases hn:(v.length:Int)=n
 rotate_left
 ·have e:cz v n most=15:=by unfold cz;rw[if_pos hn]
  rw[e];refine wnZ and_self ?_
  all_goals exact .int _ _
 have e:cz v n most=if v.any (λx=>decide (x<0\/most<=x)) then 2 else 0:=by unfold cz;rw[if_neg (λh=>h hn)]
 rw[e];have hc:=AR v (λx=>decide (x<0\/most<=x)) 152 [.iptr [.int .i64 most] 0] (DatL.cons (Dat.iptr (DatL.cons .int DatL.nil)) DatL.nil) (λx _=>EP x most) hv;refine wnZ and_self ?_;refine dE ev0 ev0 hc (aB (by(repeat' (first|exact ai|exact Dat.snap Dat.int|exact Dat.snap Dat.bool|exact Dat.snap Dat.str|exact Dat.snap Dat.esl|exact Dat.snap Dat.nilf|exact Dat.snap (fc _)|exact Dat.snap (d8 _)|apply af|apply iz|apply wN|(apply dY;(focus ((try simp only[bU,ZA,reduceEqDiff,↓reduceIte,reduceAdd,reduceLeDiff]);with_reducible rfl));(focus rfl))))) rfl) ?_;cases hb:v.any (λx=>decide (x<0\/most<=x))
 ·refine wnZ @d6 ?_
  all_goals exact .int _ _
 ·refine wnZ @d6 ?_
  all_goals exact .int _ _
theorem EB(n ins outs:Int)(cs:AV)(hcs:Dat cs/\cs.cells=[cs]/\cs.one=true)(c:CaseV)(hs:ShC c):pU 130 [.agg [.int .i64 n,.int .i64 ins,.int .i64 outs,cs],.agg [aD c.inp,bm c.out,bm c.calm]] (.int .i64 (eI n outs c)):=by
 refine pO Ol ?_;simp only[MM,av];obtain⟨hc1,hc2,hc3⟩:=hcs;obtain⟨s1,s2,s3,s4,s5⟩:=hs;have s2':c.out.length<=17592186044416:=s2;have s4':c.calm.length<=17592186044416:=s4;by_cases h0:c.out.length<1\/1024<c.out.length
 ·have e:eI n outs c=5:=by unfold eI;rw[if_pos h0]
  rw[e];have zz:=aI @hc2 @hc3;repeat' (first|refine zW ?_|apply a_n|apply a_r|refine zO ?_|refine vZ ?_|refine bxZ ?_|refine gTZ ?_|refine gFZ ?_|refine cTZ ?_|(refine zGZ ?_ ?_<;>(intro _hg;try (exfalso;omega)))|refine bn rfl ?_|refine r1Z ?_|fail)
  all_goals exact .int _ _
 have e:eI n outs c=if cJ (oM n outs c.out) c.out.length≠0 then cJ (oM n outs c.out) c.out.length else cJ (oZ c.out c.calm) c.calm.length:=by unfold eI;rw[if_neg h0]
 rw[e];refine wnZ (aI @hc2 @hc3) ?_;refine gn (X:=Nat) (λk=>[(2,.ptr 0 4 0),(3,.ptr 1 3 0),(21,bm c.out),(22,.int .i64 c.out.length),(23,.int .i64 k)]) (λk=>k<=c.out.length/\∀i,i<k->oM n outs c.out i=0) (λk=>c.out.length-k) 0 ⟨bA _,λi h=>absurd h (by omega)⟩ (by simp (disch:=omega) only[agr,ZG,reduceEqDiff,↓reduceIte,d5,iH,reduceAdd,cp]) ?_;rintro k ⟨hk,hz⟩;by_cases hj:k<c.out.length
 ·have hm:=au hj;have hv:=AO (c.out.getD k default) n outs (s3 _ hm);have hu:=ss c.out k hj s2 s3;have ho:oM n outs c.out k=if cz (c.out.getD k default) n outs≠0 then cz (c.out.getD k default) n outs else if iO c.out k then 14 else 0:=rfl
  change Pure _ _ _ (.bool (iO c.out k)) at hu;generalize cz (c.out.getD k default) n outs=V at *;by_cases hV:V=0
  ·subst hV;cases hub:iO c.out k
   ·rw[hub] at hu ho;refine wnZ (zI3 @hc2 @hc3 @d6) ?_;refine⟨k+1,⟨by omega,λi hi=>?_⟩,by omega,ag0,rfl,rfl⟩;rcases i7.1 hi with h|rfl
    ·exact hz i h
    ·exact ho
   ·rw[hub] at hu ho;refine wnZ (zI3 @hc2 @hc3 @d6) ?_;refine aA ?_;rw[dS hj hz (by rw[ho];decide),if_pos (by rw[ho];decide),ho];rfl
  ·have ho':oM n outs c.out k=V:=by rw[ho,if_pos hV]
   refine wnZ (zI3 @hc2 @hc3 @d6) ?_;refine aA ?_;rw[dS hj hz (by rw[ho'];exact hV),if_pos (by rw[ho'];exact hV),ho']
 ·have hz0:=dI (f:=oM n outs c.out) (n:=c.out.length) (λi hi=>hz i (by omega));rw[hz0,if_neg (λh=>h rfl)];refine wnZ (aI @hc2 @hc3) ?_;refine gn (X:=Nat) (λk=>[(2,.ptr 0 4 0),(3,.ptr 1 3 0),(43,bm c.calm),(44,.int .i64 c.calm.length),(45,.int .i64 k)]) (λk=>k<=c.calm.length/\∀i,i<k->oZ c.out c.calm i=0) (λk=>c.calm.length-k) 0 ⟨bA _,λi h=>absurd h (by omega)⟩ ag0 ?_;rintro k ⟨hk,hz⟩;by_cases hj:k<c.calm.length
  ·have hm:=au hj;have hv:=O6 c.out (c.calm.getD k default) s2 s3 (s5 _ hm);rw[IG] at hv;have hu:=ss c.calm k hj s4 s5;have ho:oZ c.out c.calm k=if c.calm.getD k default∈c.out then(if iO c.calm k then 14 else 0) else 6:=rfl
   change Pure _ _ _ (.bool (iO c.calm k)) at hu;by_cases hh:c.calm.getD k default∈c.out
   ·rw[bH hh] at hv;rw[if_pos hh] at ho;cases hub:iO c.calm k
    ·rw[hub] at hu ho;refine wnZ (zI3 @hc2 @hc3 @d6) ?_;refine⟨k+1,⟨by omega,λi hi=>?_⟩,by omega,ag0,rfl,rfl⟩;rcases i7.1 hi with h|rfl
     ·exact hz i h
     ·exact ho
    ·rw[hub] at hu ho;refine wnZ (zI3 @hc2 @hc3 @d6) ?_;refine aA ?_;rw[dS hj hz (by rw[ho];decide),ho];rfl
   ·rw[bL hh] at hv;rw[if_neg hh] at ho;refine wnZ (zI3 @hc2 @hc3 @d6) ?_;refine aA ?_;rw[dS hj hz (by rw[ho];decide),ho]
  ·refine wnZ (aI @hc2 @hc3) ?_;refine aA ?_;rw[dI λi hi=>hz i (by omega)]
theorem check_c(t:TaskV)(hs:∀c∈t.cases,ShC c)(hsc:Sh t.cases):pU 106 [qj t] (.int .i64 (eF t)):=by
 refine pO N4 ?_;simp only[Oi,av];have hsc':t.cases.length<=17592186044416:=hsc;unfold qj;by_cases h0:t.n<1\/5<t.n\/t.ins<1\/8<t.ins\/t.outs<1\/8<t.outs
 ·have e:eF t=2:=by unfold eF;rw[if_pos h0]
  rw[e];have zz:=aI @bE (aI @bi @bf);repeat' (first|refine zW ?_|apply a_n|apply a_r|refine zO ?_|refine vZ ?_|refine bxZ ?_|refine gTZ ?_|refine gFZ ?_|refine cTZ ?_|(refine zGZ ?_ ?_<;>(intro _hg;try (exfalso;omega)))|refine bn rfl ?_|refine r1Z ?_|fail)
  all_goals exact .int _ _
 by_cases h1:t.cases.length<1\/1024<t.cases.length
 ·have e:eF t=5:=by unfold eF;rw[if_neg h0,if_pos h1]
  rw[e];have zz:=aI @bE (aI @bi @bf);repeat' (first|refine zW ?_|apply a_n|apply a_r|refine zO ?_|refine vZ ?_|refine bxZ ?_|refine gTZ ?_|refine gFZ ?_|refine cTZ ?_|(refine zGZ ?_ ?_<;>(intro _hg;try (exfalso;omega)))|refine bn rfl ?_|refine r1Z ?_|fail)
  all_goals exact .int _ _
 have e:eF t=cJ (jE t) t.cases.length:=by unfold eF;rw[if_neg h0,if_neg h1]
 rw[e];refine wnZ (zI3 @bE @bi @bf) ?_;refine br (X:=Nat) (λk=>[(1,.ptr 0 4 0),(44,cI t.cases),(45,.int .i64 t.cases.length),(46,.int .i64 k)]) (λk H nx=>k<=t.cases.length/\(∀i,i<k->jE t i=0)/\1<=nx/\H 0=some [.int .i64 t.n,.int .i64 t.ins,.int .i64 t.outs,cI t.cases]) (λk=>t.cases.length-k) 0 ⟨bA _,λi h=>absurd h (by omega),ba _,rfl⟩ (by simp (disch:=omega) only[agr,ZG,reduceEqDiff,↓reduceIte,d5,iH,reduceAdd]) ?_;rintro k H nx ⟨hk,hz,hn,g0⟩;by_cases hj:k<t.cases.length
 rotate_left
 ·refine wnY (zI6 @g0 @bE @bi @bf @aixS_encCs @d6) ?_;refine aA ?_;rw[dI λi hi=>hz i (by omega)]
 have hm:=au hj;have hsh:=hs _ hm;have hv:=AO _ t.n t.ins hsh.1;have hvs:=EB t.n t.ins t.outs (cI t.cases) ⟨jd _,rfl,rfl⟩ _ hsh;have d1:Dat (kD (t.cases.getD k default)):=Dat.agg (DatL.cons (fc _) (DatL.cons (d8 _) (DatL.cons (d8 _) DatL.nil)));have d2:=nw t;unfold kD at d1;unfold qj at d2;have hce:jE t k=if cz (t.cases.getD k default).inp t.n t.ins≠0 then cz (t.cases.getD k default).inp t.n t.ins else if iO (t.cases.map CaseV.inp) k then 14 else eI t.n t.outs (t.cases.getD k default):=rfl
 have fin:jE t k≠0->cJ (jE t) t.cases.length=jE t k:=λh=>dS hj hz h
 have hnext:jE t k=0->∀i,i<k+1->jE t i=0:=λh i hi=>by
  rcases i7.1 hi with h'|rfl
  ·exact hz i h'
  ·exact h
 by_cases hk0:k=0
 ·subst hk0;have hu:iO (t.cases.map CaseV.inp) 0=false:=rfl;rw[hu] at hce;have hi0:cu 3 (cI t.cases) (.int .i64 0)=_:=aixS_encCs (l:=t.cases) (k:=0) hj;generalize cz (t.cases.getD 0 default).inp t.n t.ins=V at *;generalize eI t.n t.outs (t.cases.getD 0 default)=W at *;by_cases hV:V=0
  ·subst hV;rw[if_neg (λh=>h rfl),if_neg (by simp)] at hce;by_cases hW:W=0
   ·subst hW;refine wkY (zI8 @g0 @bE @bi @bf @aixS_encCs @d6 (show((0:Nat):Int)=0 from rfl) @hi0) ?_;refine⟨0+1,by omega,⟨by omega,hnext hce,by omega,?_⟩,by simp (disch:=omega) only[agr,ZG,reduceEqDiff,↓reduceIte,Int.zero_add]⟩;rw[ab (by omega),ab (by omega),g0]
   ·refine wkY (zI8 @g0 @bE @bi @bf @aixS_encCs @d6 (show((0:Nat):Int)=0 from rfl) @hi0) ?_;refine aA ?_;rw[fin (by rw[hce];exact hW),hce]
  ·rw[if_pos hV] at hce;refine wnY (zI8 @g0 @bE @bi @bf @aixS_encCs @d6 (show((0:Nat):Int)=0 from rfl) @hi0) ?_;refine aA ?_;rw[fin (by rw[hce];exact hV),hce]
 ·have e1:(k:Int)-1=((k-1:Nat):Int):=by omega
  have ho:=j7 (t.cases.getD (k-1) default).inp (t.cases.getD k default).inp (hs _ (au (by omega))).1 hsh.1;have hi1:=aixS_encCs (l:=t.cases) (k:=k-1) (by omega);rw[<-e1] at hi1
  have hu:iO (t.cases.map CaseV.inp) k=decide (0<=bz (t.cases.getD (k-1) default).inp (t.cases.getD k default).inp):=by
   unfold iO;rw[pS hj,pS (by omega),bH (show 0<k by omega),Bool.true_and]
  rw[hu] at hce;generalize bz (t.cases.getD (k-1) default).inp (t.cases.getD k default).inp=O at *;generalize cz (t.cases.getD k default).inp t.n t.ins=V at *;generalize eI t.n t.outs (t.cases.getD k default)=W at *;by_cases hV:V=0
  ·subst hV;rw[if_neg (λh=>h rfl)] at hce;by_cases hO:0<=O
   ·rw[bH hO,if_pos rfl] at hce;refine wkY (zI7 @g0 @bE @bi @bf @aixS_encCs @d6 @hi1) ?_;refine aA ?_;rw[fin (by rw[hce];decide),hce]
   ·rw[bL hO,if_neg (by simp)] at hce;by_cases hW:W=0
    ·subst hW;refine wkY (zI7 @g0 @bE @bi @bf @aixS_encCs @d6 @hi1) ?_;refine⟨k+1,by omega,⟨by omega,hnext hce,by omega,?_⟩,ag0⟩;rw[ab (by omega),ab (by omega),g0]
    ·refine wkY (zI7 @g0 @bE @bi @bf @aixS_encCs @d6 @hi1) ?_;refine aA ?_;rw[fin (by rw[hce];exact hW),hce]
  ·rw[if_pos hV] at hce;refine wnY (zI7 @g0 @bE @bi @bf @aixS_encCs @d6 @hi1) ?_;refine aA ?_;rw[fin (by rw[hce];exact hV),hce]
end
end Go.Proofs.YtmpcledaoigkaaaGreat.Tk
