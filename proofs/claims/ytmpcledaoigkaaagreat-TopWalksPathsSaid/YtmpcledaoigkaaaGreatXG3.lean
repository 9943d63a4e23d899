/- Contracts of functions and plain laws, for all inputs that the theorems name. -/
import Derived.Test.YtmpcledaoigkaaaGreatXG2
import Derived.ChangeArms
import Derived.Carry
import Derived.Deep.Slices
import Derived.Lib.SmallJoins
import Derived.Test.YtmpcledaoigkaaaGreatProg
import Derived.KernelRfl

set_option linter.unusedSimpArgs false
set_option linter.unusedVariables false
set_option maxHeartbeats 4000000
namespace Go.Abs
open Go.RowKit
variable{P:Program}{T:Tm}{H:Hp}{nx:Nat}
theorem JJ{K:CP}(h:K .normal T H nx):aE P .skip T H nx K:=h
theorem JW{K:CP}{i:Nat}(h:K (.exit i) T H nx):aE P (.exit i) T H nx K:=h
theorem Nf{K:CP}(h:K .ret T H nx):aE P .ret T H nx K:=h
theorem JC{K:CP}{l:List Op2}(h:ai P .text l T H nx λT H nx=>K .normal T H nx):aE P (.ops 0 l) T H nx K:=⟨T,H,nx,_,Gh.refl _ _ _,h⟩
theorem uk{K:CP}{l:List Op2}{C:List Nat}(h:ai P .draw l T H nx λT H nx=>K .normal T H nx):aE P (.mix 1 l C) T H nx K:=.inl ⟨by decide,T,H,nx,_,Gh.refl _ _ _,h⟩
theorem xp{K:CP}{l:List Op2}{C:List Nat}(h:ai P (.fresh nx) l T H nx λT H nx=>K .normal T H nx):aE P (.mix 2 l C) T H nx K:=.inl ⟨by decide,T,H,nx,_,Gh.refl _ _ _,h⟩
theorem Jk{K:CP}{m:Nat}{l alt:List Op2}{C:List Nat}(ha:(C.map λk=>l.getD k ⟨none,none,.dead⟩)=alt)(h:ai P .text alt T H nx λT H nx=>K .normal T H nx):aE P (.mix m l C) T H nx K:=by
 subst ha;exact .inr ⟨T,H,nx,_,Gh.refl _ _ _,h⟩
theorem xG{K:CP}{l alt:List Op2}{C:List Nat}(ha:(C.map λk=>l.getD k ⟨none,none,.dead⟩)=alt)(h:ai P .text alt T H nx λT H nx=>K .normal T H nx):aE P (.mix 9 l C) T H nx K:=Jk ha h
theorem Hw{K:CP}{l:List Op2}{C:List (Nat×Nat)}(h:ai P .draw l T H nx λT H nx=>K .normal T H nx):aE P (.mixS 1 l C) T H nx K:=.inl ⟨by decide,T,H,nx,_,Gh.refl _ _ _,h⟩
theorem G1{K:CP}{l:List Op2}{C:List (Nat×Nat)}(h:ai P (.fresh nx) l T H nx λT H nx=>K .normal T H nx):aE P (.mixS 2 l C) T H nx K:=.inl ⟨by decide,T,H,nx,_,Gh.refl _ _ _,h⟩
theorem ir(S:Hp){K:CP}{m:Nat}{l:List Op2}{alt:List (Op2×Nat)}{C:List (Nat×Nat)}(ha:(C.map λk=>(l.getD k.1 ⟨none,none,.dead⟩,k.2))=alt)(hs:Sub S H)(h:bv P S alt T H nx λT H nx=>K .normal T H nx):aE P (.mixS m l C) T H nx K:=by
 subst ha;exact .inr ⟨T,H,nx,_,S,Gh.refl _ _ _,hs,h⟩
theorem Lb{S:Hp}{K:SP}(h:K T H nx):bv P S [] T H nx K:=h
theorem IQ{S:Hp}{K:SP}{l:List (Op2×Nat)}{d:Option Nat}{i:Ins}{r:AV}(h:bW T S i=some r)(k:bv P S l (aN T d r) H nx K):bv P S ((⟨d,none,i⟩,0)::l) T H nx K:=by
 show ay (bW T S i) λr=>bv P S l (aN T d r) H nx K;rw[h];exact k
theorem Kv{S:Hp}{K:SP}{l:List (Op2×Nat)}{d:Option Nat}{sz:Nat}{z cs:List AV}{parts:List (Nat×Nat×Opd)}{pv:List (Nat×Nat×AV)}(hp:parts.map (λp=>(p.1,p.2.1,ov T p.2.2))=pv)(hc:ff (bt (.agg z) 1) pv=some cs)(hz:sz≠1)(hn:cs.length=sz)(ho:cs.all AV.one=true)
    (k:bv P S l (aN T d (.sl sz [.agg cs])) H nx K):bv P S ((⟨d,none,.bldS sz 1 z parts⟩,3)::l) T H nx K:=by
 show ay (vQ T (.bldS sz 1 z parts)) _
 have:vQ T (.bldS sz 1 z parts)=some (.sl sz [.agg cs]):=by
  simp only[vQ,kH,Nat.one_ne_zero,if_false,hp,hc,tE,ar,if_true];rw[if_neg hz,if_pos ⟨trivial,hn,ho⟩]
 rw[this];exact k
theorem eh{S:Hp}{K:SP}{l:List (Op2×Nat)}{d:Option Nat}{i:Ins}(k:ai P .text [⟨d,none,i⟩] T H nx λT H nx=>Sub S H/\bv P S l T H nx K):bv P S ((⟨d,none,i⟩,1)::l) T H nx K:=by
 have k:be P .text i T H nx λr H nx=>Sub S H/\bv P S l (aN T d r) H nx K:=k;show be P .text i T H nx λr H' nx'=>(0=0->Sub S H')/\bv P S l (aN T d r) H' nx' K;exact nR k (λ_ _ _ h=>⟨λ_=>h.1,h.2⟩)
theorem ga{S:Hp}{K:SP}{l:List (Op2×Nat)}{d:Option Nat}{i:Ins}(k:ai P .text [⟨d,none,i⟩] T H nx λT H nx=>bv P S l T H nx K):bv P S ((⟨d,none,i⟩,2)::l) T H nx K:=by
 have k:be P .text i T H nx λr H nx=>bv P S l (aN T d r) H nx K:=k;show be P .text i T H nx λr H' nx'=>(1=0->Sub S H')/\bv P S l (aN T d r) H' nx' K;exact nR k (λ_ _ _ h=>⟨λhh=>absurd hh (by decide),h⟩)
theorem Kx{K:CP}{l:List Op2}(h:ai P .draw l T H nx λT H nx=>K .normal T H nx):aE P (.ops 1 l) T H nx K:=⟨T,H,nx,_,Gh.refl _ _ _,h⟩
theorem Jr{K:CP}{l:List Op2}(h:ai P (.fresh nx) l T H nx λT H nx=>K .normal T H nx):aE P (.ops 2 l) T H nx K:=⟨T,H,nx,_,Gh.refl _ _ _,h⟩
theorem jw{K:CP}{x y:C2}(h:aE P x T H nx λe T H nx=>aJ e (aE P y T H nx K) (K e T H nx)):aE P (.seq x y) T H nx K:=h
theorem lW{K:CP}{i:Nat}{b:C2}(h:aE P b T H nx λe T H nx=>K (mX i e) T H nx):aE P (.block i b) T H nx K:=h
theorem A0{K:CP}{c:Opd}{x y:C2}{b:Bool}(hc:ov T c=.bool b)(h1:b=true->aE P x T H nx K)(h2:b=false->aE P y T H nx K):aE P (.cond c x y) T H nx K:=by
 simp only[aE,hc];exact⟨h1,h2⟩
theorem Cl{K:CP}{c:Opd}{x y:C2}(hc:ov T c=.bool true)(h1:aE P x T H nx K):aE P (.cond c x y) T H nx K:=
 A0 hc (λ_=>h1) (λh=>by cases h)
theorem CL{K:CP}{c:Opd}{x y:C2}(hc:ov T c=.bool false)(h2:aE P y T H nx K):aE P (.cond c x y) T H nx K:=
 A0 hc (λh=>by cases h) (λ_=>h2)
theorem JK{K:CP}{b:C2}(h:aP (aE P b) T H nx K):aE P (.loop b) T H nx K:=h
theorem a_n{A B:Prop}(h:A):aJ .normal A B:=h
theorem a_x{A B:Prop}{i:Nat}(h:B):aJ (.exit i) A B:=h
theorem a_r{A B:Prop}(h:B):aJ .ret A B:=h
theorem jg{dm:DM}{K:SP}(h:K T H nx):ai P dm [] T H nx K:=h
theorem oE{dm:DM}{K:SP}{l:List Op2}{d:Option Nat}{i:Ins}{r:AV}(hi:ic i=.val)(hd:dm2 dm T i=true)(h:bW T H i=some r)(k:ai P dm l (aN T d r) H nx K):ai P dm (⟨d,none,i⟩::l) T H nx K:=by
 show be P dm i T H nx λr H nx=>ai P dm l (aN T d r) H nx K;unfold be;rw[hi];exact⟨hd,by rw[h];exact k⟩
theorem qj{dm:DM}{K:SP}{l:List Op2}{d:Option Nat}{i:Ins}{r:AV}{H':Hp}{nx':Nat}(hi:ic i=.eff)(hd:dm2 dm T i=true)(h:kH T H nx i=some (r,H',nx'))(k:ai P dm l (aN T d r) H' nx' K):ai P dm (⟨d,none,i⟩::l) T H nx K:=by
 show be P dm i T H nx λr H nx=>ai P dm l (aN T d r) H nx K;unfold be;rw[hi];exact .inl ⟨hd,by rw[h];exact k⟩
theorem Br{K:SP}{l:List Op2}{d:Option Nat}{f:Opd}{args:List Opd}{g:FuncId}{caps:List AV}(hf:ov T f=.func g caps)(k:Fn P g (args.map (ov T)++caps) H nx λr H nx=>ai P .text l (aN T d r) H nx K):
    ai P .text (⟨d,none,.call f args⟩::l) T H nx K:=by
 left;show ay (pR (ov T f)) _;rw[hf];exact k
theorem CH{dm:DM}(hdm:dm.isText=false){K:SP}{l:List Op2}{d:Option Nat}{f:Opd}{args:List Opd}{g:FuncId}{caps:List AV}(hf:ov T f=.func g caps)(k:aO P g (args.map (ov T)++caps) H λr=>ai P dm l (aN T d r) H nx K):
    ai P dm (⟨d,none,.call f args⟩::l) T H nx K:=by
 left;show ay (pR (ov T f)) _;rw[hf];show(match dm.isText with|false=>_|true=>_);rw[hdm];exact k
theorem qd{K:SP}{l:List Op2}{d:Option Nat}{f:Opd}{args:List Opd}{b:Nat}{xs:List AV}(hf:ov T f=.yld b)(ha:args.map (ov T)=xs)(k:Yl P b xs H nx λr H nx=>ai P .text l (aN T d r) H nx K):
    ai P .text (⟨d,none,.call f args⟩::l) T H nx K:=by
 right;exact⟨rfl,.inl ⟨b,hf,by rw[ha];exact k⟩⟩
theorem vA{K:SP}{l:List Op2}{d:Option Nat}{i:Ins}(hi:ic i=.sp)(k:isp i T H nx λr H nx=>ai P .text l (aN T d r) H nx K):ai P .text (⟨d,none,i⟩::l) T H nx K:=by
 show be P .text i T H nx λr H nx=>ai P .text l (aN T d r) H nx K;unfold be;rw[hi];exact⟨rfl,k⟩
theorem tY{K:SP}{l:List Op2}{d:Option Nat}(k:ai P .text l (aN T d (.mp nx)) (ar H nx [.omap [] []]) (nx+1) K):ai P .text (⟨d,none,.mkm none⟩::l) T H nx K:=vA rfl ⟨.inl rfl,k⟩
theorem oL{K:SP}{l:List Op2}{d:Option Nat}{kk:MK}{m key x:Opd}{b:Nat}{ks vs:List AV}{kv xv:AV}{r:Option Nat}(hm:ov T m=.mp b)(hb:H b=some [.omap ks vs])(hk:ov T key=kv)(hx:ov T x=xv)(hfit:oq kk kv=true)(hr:eF kk kv ks=some r)
    (k:ai P .text l (aN T d (.tup [])) (ar H b [.omap (eD kv r ks) (nu xv r vs)]) nx K):ai P .text (⟨d,none,.mput kk m key x⟩::l) T H nx K:=by
 subst hk hx;exact vA rfl ⟨b,ks,vs,r,hm,hb,hfit,hr,k⟩
theorem il{K:SP}{l:List Op2}{d:Option Nat}{kk:MK}{z:AV}{ok:Bool}{m key:Opd}{b:Nat}{ks vs:List AV}{kv:AV}{r:Option Nat}(hm:ov T m=.mp b)(hb:H b=some [.omap ks vs])(hk:ov T key=kv)(hfit:oq kk kv=true)(hr:eF kk kv ks=some r)
    (k:ai P .text l (aN T d (mget z ok r vs)) H nx K):ai P .text (⟨d,none,.mget kk z ok m key⟩::l) T H nx K:=by
 subst hk;exact vA rfl ⟨b,ks,vs,r,hm,hb,hfit,hr,k⟩
theorem F8{K:SP}{l:List Op2}{d:Option Nat}{kk:MK}{z:AV}{m key:Opd}{b:Nat}{ks vs:List AV}{kv:AV}{r:Option Nat}(hm:ov T m=.mp b)(hb:H b=some [.omap ks vs])(hk:ov T key=kv)(hfit:oq kk kv=true)(hr:eF kk kv ks=some r)
    (k:ai P .text l (aN T d (.tup [C9 z r vs,.int .i64 (A1 r ks)])) (ar H b [.omap (eD kv r ks) (od z r vs)]) nx K):ai P .text (⟨d,none,.mplc kk z m key⟩::l) T H nx K:=by
 subst hk;exact vA rfl ⟨b,ks,vs,r,hm,hb,hfit,hr,k⟩
theorem EN{K:SP}{l:List Op2}{d:Option Nat}{m s x:Opd}{b i:Nat}{ks vs:List AV}{xv:AV}(hm:ov T m=.mp b)(hb:H b=some [.omap ks vs])(hi:ov T s=.int .i64 (i:Int))(hlt:i<ks.length)(hx:ov T x=xv)
    (k:ai P .text l (aN T d (.tup [])) (ar H b [.omap ks (vs.set i xv)]) nx K):ai P .text (⟨d,none,.mpst m s x⟩::l) T H nx K:=by
 subst hx;exact vA rfl ⟨b,ks,vs,i,hm,hb,hi,hlt,k⟩
theorem JT{K:SP}{l:List Op2}{d:Option Nat}{m:Opd}{b:Nat}{ks vs:List AV}(hm:ov T m=.mp b)(hb:H b=some [.omap ks vs])(k:ai P .text l (aN T d (.int .i64 ks.length)) H nx K):ai P .text (⟨d,none,.mlen m⟩::l) T H nx K:=vA rfl ⟨b,ks,vs,hm,hb,k⟩
theorem zN{K:SP}{l:List Op2}{d:Option Nat}{sz n:Nat}{x y:Opd}{H':Hp}(h:pF sz (ov T x) (ov T y) H=some (n,H'))(k:ai P .text l (aN T d (.int .i64 n)) H' nx K):ai P .text (⟨d,none,.cpy sz x y⟩::l) T H nx K:=vA rfl ⟨n,H',h,k⟩
theorem MG{K:SP}{l:List Op2}{d:Option Nat}{sz:Nat}{z:AV}{x:Opd}{H':Hp}(h:vt sz z (ov T x) H=some H')(k:ai P .text l (aN T d (.tup [])) H' nx K):ai P .text (⟨d,none,.clr sz z x⟩::l) T H nx K:=vA rfl ⟨H',h,k⟩
theorem NK{K:SP}{l:List Op2}{d:Option Nat}{len sz:Nat}{x:Opd}{b n off:Nat}{cs:List AV}(hx:ov T x=.ptr b n off)(hb:H b=some cs)(hn:cs.length=n)(hf:off+len*sz=n)(k:ai P .text l (aN T d (.msl b n sz off len)) H nx K):ai P .text (⟨d,none,.slp len sz x⟩::l) T H nx K:=vA rfl ⟨b,n,off,cs,hx,hb,hn,hf,k⟩
theorem mC{K:SP}{l:List Op2}{d:Option Nat}{neg:Bool}{x:Opd}{k:Nat}(hx:fv (ov T x)=some k)(h1:0<k->ai P .text l (aN T d (.bool neg)) H nx K)(h2:k=0->ai P .text l (aN T d (.bool true)) H nx K)(h3:k=0->ai P .text l (aN T d (.bool false)) H nx K):ai P .text (⟨d,none,.snil neg x⟩::l) T H nx K:=vA rfl ⟨k,hx,h1,λh=>⟨h2 h,h3 h⟩⟩
theorem GH{K:CP}{g:Opd}{ps:List Nat}{a b:C2}{f:FuncId}{caps:List AV}(hg:ov T g=.func f caps)
    (h:∀ (c0:AV) (cj:AEx→AV),(∀ (args:List AV) (H':Hp) (nx':Nat) (K':AV→Hp→Nat→Prop),H' nx=some [c0]→args.length=ps.length →
        aE P a (lI T ps args) H' nx' (λe T2 H2 nx2=>aJ e (H2 nx=some [c0]/\aE P b T2 (cl H2 nx) nx2 λe T3 H3 nx3=>aJ e (K' (.bool true) (ar H3 nx [c0]) nx3) (K' (.bool false) (ar H3 nx [cj e]) nx3)) False)->
        Yl P nx args H' nx' K')->
     Fn P f (.yld nx::caps) (ar H nx [c0]) (nx+1) λ_ H' nx'=>(H' nx=some [c0]/\K .normal T (cl H' nx) nx')\/ ∃e,e≠.normal/\H' nx=some [cj e]/\K e T (cl H' nx) nx'):aE P (.rangeF g ps a b) T H nx K:=⟨f,caps,hg,h⟩
theorem Ka{dm:DM}{K:SP}{l:List Op2}{d:Option Nat}{i:Ins}{t:Nat}{w:Bool}(h:T t=.bool w)(k:ai P dm (⟨d,none,i⟩::l) T H nx K):ai P dm (⟨d,some (t,w),i⟩::l) T H nx K:=by
 show aL (g2 T (some (t,w))) _ _;have:g2 T (some (t,w))=some true:=by simp[g2,h]
 rw[this];exact k
theorem KQ{dm:DM}{K:SP}{l:List Op2}{d:Option Nat}{i:Ins}{t:Nat}{w:Bool}(h:T t=.bool (!w)\/T t=.tup [])(k:ai P dm l (aN T d (.tup [])) H nx K):ai P dm (⟨d,some (t,w),i⟩::l) T H nx K:=by
 show aL (g2 T (some (t,w))) _ _
 have:g2 T (some (t,w))=some false:=by
  rcases h with h|h
  ·cases w<;>simp[g2,h]
  ·simp[g2,h]
 rw[this];exact k
theorem bk{e:AEx}{A:Prop}(he:e.ends=true)(h:A):aK e.ends A:=⟨he,h⟩
theorem r_1{K:AV->Prop}{a:RV}{x:AV}(ha:rv T H a=some x)(h:K x):bn T H K [a]:=by
 show ay (rv T H a) K;rw[ha];exact h
theorem r_2{K:AV->Prop}{a b:RV}{x y:AV}(ha:rv T H a=some x)(hb:rv T H b=some y)(h:K (.tup [x,y])):bn T H K [a,b]:=by
 show ay (rv T H a) _;rw[ha];show ay (rv T H b) _;rw[hb];exact h
theorem r_5{K:AV->Prop}{a b c d e:RV}{x y z u v:AV}(ha:rv T H a=some x)(hb:rv T H b=some y)(hc:rv T H c=some z)(hd:rv T H d=some u)(he:rv T H e=some v)(h:K (.tup [x,y,z,u,v])):bn T H K [a,b,c,d,e]:=by
 show yf T H [a,b,c,d,e] λxs=>K (.tup xs);simp only[yf,ha,hb,hc,hd,he];exact h
theorem r_3{K:AV->Prop}{a b c:RV}{x y z:AV}(ha:rv T H a=some x)(hb:rv T H b=some y)(hc:rv T H c=some z)(h:K (.tup [x,y,z])):bn T H K [a,b,c]:=by
 show ay (rv T H a) _;rw[ha];show ay (rv T H b) _;rw[hb];show ay (rv T H c) _;rw[hc];exact h
theorem AI{T:Tm}{t:Nat}{v:AV}(h:T t=v):upd T t v=T:=by
 funext x;simp only[upd];split
 ·rename_i e;rw[e,h]
 ·rfl
theorem Nd{dm:DM}{K:SP}{l:List Op2}{d:Option Nat}{i:Ins}{t:Nat}{w b:Bool}(h:T t=.bool b)(k1:b=w->ai P dm (⟨d,none,i⟩::l) (upd T t (.bool w)) H nx K)
    (k2:b=!w->ai P dm l (aN (upd T t (.bool (!w))) d (.tup [])) H nx K):ai P dm (⟨d,some (t,w),i⟩::l) T H nx K:=by
 by_cases hb:b=w
 ·subst hb;have:=k1 rfl;rw[AI h] at this;exact Ka h this
 ·have hb':b=!w:=by cases b<;>cases w<;>simp_all
  subst hb';have:=k2 rfl;rw[AI h] at this;exact KQ (.inl h) this
theorem zQ{α:Type}{f:α->AV}{l:List α}{k:Nat}{u:AV}(d:α)(h:k<l.length):(l.map f).getD k u=f (l.getD k d):=by
 simp[List.getD,h]
theorem Ci{c:Prop}[Decidable c]{x:Option AV}{r:AV}(hc:c)(h:x=some r):(if c then x else none)=some r:=by rw[if_pos hc];exact h
theorem Eh{k:IntKind}{n:Int}:AV.cells (.int k n)=[.int k n]:=rfl
end Go.Abs
namespace Go.Abs
open Go.RowKit
def Dat(x:AV):Prop:=∀H,Snap H x x
theorem Dat.int{k:IntKind}{n:Int}:Dat (.int k n):=λ_=>.int _ _
theorem Dat.bool{b:Bool}:Dat (.bool b):=λ_=>.bool _
theorem Dat.str{s:ByteArray}:Dat (.str s):=λ_=>.str _
theorem Dat.esl:Dat .esl:=λ_=>.esl
theorem Dat.nilp:Dat .nilp:=λ_=>.nilp
theorem Dat.nilf:Dat .nilf:=λ_=>.nilf
theorem Dat.sl{sz:Nat}{l:List AV}(h:∀x∈l,∀c∈x.cells,Dat c):Dat (.sl sz l):=λH=>
 .sl sz l l rfl (fun i x y hx hy=>by rw [hx] at hy; cases hy; rfl) (fun i j x y a b hx hy ha hb=>by
  rw[hx] at hy;cases hy;rw[ha] at hb;cases hb;exact h x (iC hx) a (iC ha) H)
theorem Dat.agg{l:List AV}(h:∀x∈l,Dat x):Dat (.agg l):=λH=>
 .agg l l rfl (λi a c ha hc=>by rw[ha] at hc;cases hc;exact h a (iC ha) H)
theorem Dat.tup{l:List AV}(h:∀x∈l,Dat x):Dat (.tup l):=λH=>
 .tup l l rfl (λi a c ha hc=>by rw[ha] at hc;cases hc;exact h a (iC ha) H)
theorem Dat.func{f:FuncId}{l:List AV}(h:∀x∈l,Dat x):Dat (.func f l):=λH=>
 .func f l l rfl (λi a c ha hc=>by rw[ha] at hc;cases hc;exact h a (iC ha) H)
def aH(l:List Int):AV:=.sl 1 (l.map (AV.int .i64))
def bi(l:List (List Int)):AV:=.sl 1 (l.map aH)
theorem eV (l:List Int):Dat (aH l):=Dat.sl (fun x hx c hc=>by
 obtain⟨n,_,rfl⟩:=dK.1 hx;simp only[AV.cells,eM] at hc;subst hc;exact .int)
theorem dZ (l:List (List Int)):Dat (bi l):=Dat.sl (fun x hx c hc=>by
 obtain⟨n,_,rfl⟩:=dK.1 hx;simp only[aH,AV.cells,eM] at hc;subst hc;exact eV n)
theorem Bt{l:List Int}:(aH l).cells=[aH l]:=rfl
theorem aj{H:Hp}:aD H [] []:=aD.nil
theorem a8{H:Hp}{x:AV}{xs ys:List AV}(h:Dat x)(hs:aD H xs ys):aD H (x::xs) (x::ys):=aD.cons (h H) hs
class DatI(x:AV):Prop where
 d:Dat x
instance datI_int{k:IntKind}{n:Int}:DatI (.int k n):=⟨.int⟩
instance datI_bool{b:Bool}:DatI (.bool b):=⟨.bool⟩
instance datI_str{s:ByteArray}:DatI (.str s):=⟨.str⟩
instance datI_esl:DatI .esl:=⟨.esl⟩
instance datI_nilf:DatI .nilf:=⟨.nilf⟩
instance datI_encV{l:List Int}:DatI (aH l):=⟨eV l⟩
instance datI_encVV{l:List (List Int)}:DatI (bi l):=⟨dZ l⟩
theorem bB{H:Hp}{x:AV}{xs ys:List AV}[h:DatI x](hs:aD H xs ys):aD H (x::xs) (x::ys):=a8 h.d hs
variable{P:Program}{T:Tm}{H:Hp}{nx:Nat}
theorem ec{dm:DM}{K:SP}{l:List Op2}{d:Option Nat}{f:Opd}{args:List Opd}{g:FuncId}{caps xs ys:List AV}{r:AV}(hf:ov T f=.func g caps)(ha:args.map (ov T)++caps=xs)
    (hp:Pure P g ys r) (hs:ak H xs ys r) (k:ai P dm l (aN T d r) H nx K):ai P dm (⟨d,none,.call f args⟩::l) T H nx K:=by
 subst ha;cases hd:dm.isText with
 |false=>exact CH hd hf (aO.of_pure hp hs k)
 |true=>
  cases dm with
  |text=>exact Br hf (Fn.of_pure hp hs k)
  |draw=>cases hd
  |fresh m=>cases hd
theorem n8{dm:DM}{K:SP}{l:List Op2}{d:Option Nat}{f:Opd}{args:List Opd}{g:FuncId}{caps xs ys:List AV}{r:AV}(hf:ov T f=.func g caps)(ha:args.map (ov T)++caps=xs)
    (hp:PureF P g ys r) (hs:aD H xs ys) (k:ai P dm l (aN T d r) H nx K):ai P dm (⟨d,none,.call f args⟩::l) T H nx K:=by
 subst ha;have hc:=hp.callOk hs;cases hd:dm.isText with
 |false=>exact CH hd hf (aO.of_callOk hc k)
 |true=>
  cases dm with
  |text=>exact Br hf (Fn.of_callOk hc k)
  |draw=>cases hd
  |fresh m=>cases hd
theorem CK{dm:DM}{K:SP}{l:List Op2}{d:Option Nat}{f:Opd}{args:List Opd}{g:FuncId}{caps xs:List AV}{r:AV}(hf:ov T f=.func g caps)(ha:args.map (ov T)++caps=xs)
    (hp:Pure P g xs r) (hs:ak H xs xs r) (k:ai P dm l (aN T d r) H nx K):ai P dm (⟨d,none,.call f args⟩::l) T H nx K:=ec hf ha hp hs k
theorem aQ{xs ys:List AV}{r:AV}{H:Hp}(h:aD bM xs ys):ak H xs ys r:=.inl h
theorem aC{xs ys:List AV}{r:AV}{H:Hp}(h:aD H xs ys)(hr:r.sca=true):ak H xs ys r:=.inr ⟨h,hr⟩
theorem tI{α:Type}[Inhabited α]{f:α->AV}{l:List α}{sz:Nat}{k:IntKind}{n:Int}:cA sz (.sl sz (l.map f)) (.int k n)=if 0<=n/\n<l.length then some (.iptr (f (l.getD n.toNat default)).cells 0) else none:=by
 simp only[cA,true_and,bD];split
 ·rename_i h;rw[zQ default (by omega)]
 ·rfl
theorem qR{α:Type}{f:α->AV}{l:List α}{sz:Nat}:dl (.sl sz (l.map f))=some (.int .i64 l.length):=by simp[dl]
theorem vX{l:List Int}{k:IntKind}{n:Int}:cA 1 (aH l) (.int k n)=if 0<=n/\n<l.length then some (.iptr [.int .i64 (l.getD n.toNat default)] 0) else none:=tI
theorem pd{l:List (List Int)}{k:IntKind}{n:Int}:cA 1 (bi l) (.int k n)=if 0<=n/\n<l.length then some (.iptr [aH (l.getD n.toNat default)] 0) else none:=tI
theorem BG{l:List Int}:dl (aH l)=some (.int .i64 l.length):=qR
theorem zj{l:List (List Int)}:dl (bi l)=some (.int .i64 l.length):=qR
end Go.Abs
namespace Go.Abs
theorem SA:(∀(T:Tm)(n:Nat),ov T (.t n)=T n)/\(∀(T:Tm)(v:AV),ov T (.c v)=v)/\(∀(T:Tm)(d t:Nat)(v:AV),upd T d v t=if t=d then v else T t)/\(∀(T:Tm)(d:Nat)(v:AV),aN T (some d) v=upd T d v)/\
    (∀(T:Tm)(v:AV),aN T none v=T)/\(∀(x:AV)(l:List AV),T0 (x::l) 0=x)/\(∀(x:AV)(l:List AV)(n:Nat),T0 (x::l) (n+1)=T0 l n)/\(∀n:Nat,T0 [] n=.undef)/\
    (∀(d t:Nat)(v:AV)(l:List (Nat×AV)),tl ((d,v)::l) t=if t=d then v else tl l t)/\(∀t:Nat,tl [] t=.undef)/\
    (∀(T:Tm)(t:Nat)(ts:List Nat)(x:AV)(xs:List AV),lI T (t::ts) (x::xs)=lI (upd T t x) ts xs)/\(∀(T:Tm)(xs:List AV),lI T [] xs=T):=
 ⟨λ_ _=>rfl,λ_ _=>rfl,λ_ _ _ _=>rfl,λ_ _ _=>rfl,λ_ _=>rfl,λ_ _=>rfl,λ_ _ _=>rfl,λ_=>rfl,λ_ _ _ _=>rfl,λ_=>rfl,λ_ _ _ _ _=>rfl,λ_ xs=>by cases xs<;>rfl⟩
theorem xw{H:Hp}{b n off:Nat}{cs:List AV}(h:H b=some cs)(hn:cs.length=n):rd1 H (.ptr b n off)=cs[off]?:=by
 simp only[rd1,h,hn,if_true]
theorem J2{H:Hp}{b n off k:Nat}{cs:List AV}(h:H b=some cs)(hn:cs.length=n)(hk:off+k<=n):rd H k (.ptr b n off)=some ((cs.drop off).take k):=by
 simp only[rd,h,hn,true_and,hk,if_true]
theorem SV:(∀(T:Tm)(H:Hp)(x:Opd),bW T H (.mov x)=some (ov T x))/\
    (∀(T:Tm)(H:Hp)(c a b:Opd),bW T H (.pick c a b)=match ov T c with|.bool t=>some (if t=true then ov T a else ov T b)|_=>none)/\
    (∀(T:Tm)(H:Hp)(a:Opd),bW T H (.ld1 a)=rd1 H (ov T a))/\(∀(T:Tm)(H:Hp)(k:Nat)(a:Opd),bW T H (.ldn k a)=(rd H k (ov T a)).map .agg)/\
    (∀(T:Tm)(H:Hp)(op:BinOp)(tb tf:Bool)(x y:Opd),bW T H (.bin op tb tf x y)=bm op tb tf (ov T x) (ov T y))/\
    (∀(T:Tm)(H:Hp)(op:UnOp)(x:Opd),bW T H (.un op x)=aun op (ov T x))/\
    (∀(T:Tm)(H:Hp)(f:FuncId)(caps:List Opd),bW T H (.mkfn f caps)=some (.func f (caps.map (ov T))))/\
    (∀(T:Tm)(H:Hp)(k:Nat)(p:Opd),bW T H (.fa k p)=jp k (ov T p))/\
    (∀(T:Tm)(H:Hp)(sz:Nat)(x i:Opd),bW T H (.ixaS sz x i)=cA sz (ov T x) (ov T i))/\
    (∀(T:Tm)(H:Hp)(x:Opd)(i:Nat),bW T H (.ext x i)=jo (ov T x) i)/\
    (∀(T:Tm)(H:Hp)(x:Opd),bW T H (.lenS x)=dl (ov T x))/\
    (∀(T:Tm)(H:Hp)(z:List AV)(parts:List (Nat×Nat×Opd)),bW T H (.bld z parts)=(ff z (parts.map λp=>(p.1,p.2.1,ov T p.2.2))).map .agg)/\
    (∀(T:Tm)(H:Hp)(x:Opd)(l:List Opd),bW T H (.mx x l)=je ma (ov T x) (l.map (ov T)))/\
    (∀(T:Tm)(H:Hp)(x:Opd)(l:List Opd),bW T H (.mn x l)=je oG (ov T x) (l.map (ov T)))/\
    (∀(T:Tm)(H:Hp)(k:IntKind)(x:Opd),bW T H (.conv k x)=mZ (ov T x) λn=>some (.int k (k.wrap n)))/\
    (∀(T:Tm)(H:Hp)(sz:Nat)(x:Opd)(lo hi mx:Option Opd),bW T H (.sls sz x lo hi mx)=kC sz (ov T x) (lo.map (ov T)) (hi.map (ov T)) (mx.map (ov T)))/\
    (∀(T:Tm)(H:Hp)(off:Nat)(x:Opd),bW T H (.part1 off x)=fg (ov T x) λcs=>cs[off]?)/\
    (∀(T:Tm)(H:Hp)(op:BinOp)(ks:List TK)(x y:Opd),bW T H (.binS op ks x y)=fg (ov T x) λxs=>fg (ov T y) λys=>gP op ks xs ys):=
 ⟨fun _ _ _=>rfl,fun _ _ _ _ _=>rfl,fun _ _ _=>rfl,fun _ _ _ _=>rfl,fun _ _ _ _ _ _ _=>rfl,fun _ _ _ _=>rfl,fun _ _ _ _=>rfl,fun _ _ _ _=>rfl,fun _ _ _ _ _=>rfl,fun _ _ _ _=>rfl,fun _ _ _=>rfl,
  λ_ _ _ _=>rfl,λ_ _ _ _=>rfl,λ_ _ _ _=>rfl,λ_ _ _ _=>rfl,λ_ _ _ _ _ _ _=>rfl,λ_ _ _ _=>rfl,λ_ _ _ _ _ _=>rfl⟩
def oT:AV->AV->Option AV
 |.str s,.int _ n=>if 0<=n/\n<s.size then some (.int .u8 (s[n.toNat]?.getD 0).toNat) else none
 |_,_=>none
theorem SV2:(∀(T:Tm)(H:Hp)(x i:Opd),bW T H (.ixStr x i)=oT (ov T x) (ov T i))/\
    (∀(s:ByteArray)(k:IntKind)(n:Int),oT (.str s) (.int k n)=if 0<=n/\n<s.size then some (.int .u8 (s[n.toNat]?.getD 0).toNat) else none):=
 ⟨fun T H x i=>by
  simp only[bW];cases ov T x<;>cases ov T i<;>rfl,λ_ _ _=>rfl⟩
theorem SN:(∀(k:IntKind)(a b:Int)(tb tf:Bool),bm .lss tb tf (.int k a) (.int k b)=some (.bool (decide (a<b))))/\(∀(k:IntKind)(a b:Int)(tb tf:Bool),bm .leq tb tf (.int k a) (.int k b)=some (.bool (decide (a<=b))))/\
    (∀(k:IntKind)(a b:Int)(tb tf:Bool),bm .gtr tb tf (.int k a) (.int k b)=some (.bool (decide (b<a))))/\(∀(k:IntKind)(a b:Int)(tb tf:Bool),bm .geq tb tf (.int k a) (.int k b)=some (.bool (decide (b<=a))))/\
    (∀(k:IntKind)(a b:Int)(tb tf:Bool),bm .eql tb tf (.int k a) (.int k b)=some (.bool (decide (a=b))))/\(∀(k:IntKind)(a b:Int)(tb tf:Bool),bm .neq tb tf (.int k a) (.int k b)=some (.bool (decide (a≠b))))/\
    (∀(k:IntKind)(a b:Int)(tb tf:Bool),bm .add tb tf (.int k a) (.int k b)=some (.int k (k.wrap (a+b))))/\(∀(k:IntKind)(a b:Int)(tb tf:Bool),bm .sub tb tf (.int k a) (.int k b)=some (.int k (k.wrap (a-b))))/\
    (∀(k:IntKind)(a b:Int)(tb tf:Bool),bm .mul tb tf (.int k a) (.int k b)=some (.int k (k.wrap (a*b))))/\
    (∀(a b:Bool)(tf:Bool),bm .eql true tf (.bool a) (.bool b)=some (.bool (a==b)))/\(∀(a b:Bool)(tf:Bool),bm .neq true tf (.bool a) (.bool b)=some (.bool (!(a==b))))/\
    (∀tb:Bool,bm .eql tb true .nilf .nilf=some (.bool true))/\(∀tb:Bool,bm .neq tb true .nilf .nilf=some (.bool false))/\
    (∀(tb:Bool)(f:FuncId)(c:List AV),bm .eql tb true (.func f c) .nilf=some (.bool false))/\(∀(tb:Bool)(f:FuncId)(c:List AV),bm .neq tb true (.func f c) .nilf=some (.bool true))/\
    (∀b:Bool,aun .not (.bool b)=some (.bool (!b)))/\
    (∀(k:IntKind)(a b:Int),ma (.int k a) (.int k b)=some (.int k (max a b)))/\(∀(k:IntKind)(a b:Int),oG (.int k a) (.int k b)=some (.int k (min a b)))/\
    (∀(f:AV->AV->Option AV)(x:AV),je f x []=some x)/\(∀(f:AV->AV->Option AV)(x y:AV)(l:List AV),je f x (y::l)=match f x y with|some z=>je f z l|none=>none)/\
    (∀(k:Nat)(b n off:Nat),jp k (.ptr b n off)=some (.ptr b n (off+k)))/\(∀(k:Nat)(cs:List AV)(off:Nat),jp k (.iptr cs off)=some (.iptr cs (off+k)))/\
    (∀(cs:List AV)(off:Nat),rd1 bM (.iptr cs off)=cs[off]?):=
 ⟨fun _ _ _ _ _=>Ib,fun _ _ _ _ _=>HY,fun _ _ _ _ _=>Hk,fun _ _ _ _ _=>Ih,fun _ _ _ _ _=>HR,fun _ _ _ _ _=>G6,fun _ _ _ _ _=>HP,fun _ _ _ _ _=>HX,fun _ _ _ _ _=>Hr,
  λ_ _ _=>rfl,λ_ _ _=>rfl,λ_=>rfl,λ_=>rfl,λ_ _ _=>rfl,λ_ _ _=>rfl,λ_=>rfl,
  λk a b=>by simp only[ma,Int.max_def];split<;>split<;>simp <;>omega,λk a b=>by simp only[oG,Int.min_def];split<;>split<;>simp <;>omega,λ_ _=>rfl,λ_ _ _ _=>rfl,λ_ _ _ _=>rfl,λ_ _ _=>rfl,λ_ _=>rfl⟩
theorem SL:(∀(a:AV)(l:List AV),(a::l)[0]?=some a)/\(∀(a:AV)(l:List AV)(n:Nat),(a::l)[n+1]?=l[n]?)/\(∀(l:List AV),l.drop 0=l)/\(∀(a:AV)(l:List AV)(n:Nat),(a::l).drop (n+1)=l.drop n)/\(∀n:Nat,([]:List AV).drop n=[])/\
    (∀(l:List AV),l.take 0=[])/\(∀(a:AV)(l:List AV)(n:Nat),(a::l).take (n+1)=a::l.take n)/\(∀n:Nat,([]:List AV).take n=[])/\(∀(l:List AV),[]++l=l)/\(∀(l:List AV),l++[]=l)/\(∀(a:AV)(l m:List AV),(a::l)++m=a::(l++m))/\
    (∀(cs:List AV)(off:Nat)(new:List AV),bE cs off new=cs.take off++new++cs.drop (off+new.length))/\(([]:List AV).length=0)/\(∀(a:AV)(l:List AV),(a::l).length=l.length+1)/\
    (∀(k:IntKind)(n:Int),(AV.int k n).cells=[.int k n])/\(∀b:Bool,(AV.bool b).cells=[.bool b])/\(∀s:ByteArray,(AV.str s).cells=[.str s])/\(∀(k:Nat)(l:List AV),(AV.sl k l).cells=[.sl k l])/\(∀l:List AV,(AV.agg l).cells=l)/\(AV.esl.cells=[.esl])/\(AV.nilf.cells=[.nilf])/\
    (∀(f:FuncId)(c:List AV),(AV.func f c).cells=[.func f c])/\(∀(b n off:Nat),(AV.ptr b n off).cells=[.ptr b n off])/\(∀(c:List AV)(off:Nat),(AV.iptr c off).cells=[.iptr c off])/\(∀(b n sz off len:Nat),(AV.msl b n sz off len).cells=[.msl b n sz off len])/\(∀b:Nat,(AV.yld b).cells=[.yld b])/\(∀b:Nat,(AV.mp b).cells=[.mp b])/\(AV.nilp.cells=[.nilp])/\(∀(f:FuncId)(c:List AV),(AV.bfn f c).cells=[.bfn f c]):=
 ⟨fun _ _=>rfl,fun _ _ _=>rfl,fun _=>rfl,fun _ _ _=>rfl,fun n=>by cases n <;> rfl,fun _=>rfl,fun _ _ _=>rfl,fun n=>by cases n <;> rfl,fun _=>rfl,fun l=>gI l,fun _ _ _=>rfl,fun _ _ _=>rfl,rfl,fun _ _=>rfl,
  λ_ _=>rfl,λ_=>rfl,λ_=>rfl,λ_ _=>rfl,λ_=>rfl,rfl,rfl,λ_ _=>rfl,λ_ _ _=>rfl,λ_ _=>rfl,λ_ _ _ _ _=>rfl,λ_=>rfl,λ_=>rfl,rfl,λ_ _=>rfl⟩
def AV.ones(l:List AV):Bool:=l.all AV.one
theorem SO:(AV.ones []=true)/\(∀(a:AV)(l:List AV),AV.ones (a::l)=(a.one&&AV.ones l))/\(∀(k:IntKind)(n:Int),(AV.int k n).one=true)/\(∀b:Bool,(AV.bool b).one=true)/\(∀s:ByteArray,(AV.str s).one=true)/\(∀(k:Nat)(l:List AV),(AV.sl k l).one=true)/\(AV.esl.one=true)/\(AV.nilf.one=true)/\
    (∀(f:FuncId)(c:List AV),(AV.func f c).one=true)/\(∀(b n off:Nat),(AV.ptr b n off).one=true)/\(∀(c:List AV)(off:Nat),(AV.iptr c off).one=true)/\(∀(b n sz off len:Nat),(AV.msl b n sz off len).one=true)/\(∀b:Nat,(AV.yld b).one=true)/\(∀b:Nat,(AV.mp b).one=true)/\(AV.nilp.one=true)/\(∀l:List AV,l.all AV.one=AV.ones l):=
 ⟨rfl,λ_ _=>by simp[AV.ones],λ_ _=>rfl,λ_=>rfl,λ_=>rfl,λ_ _=>rfl,rfl,rfl,λ_ _=>rfl,λ_ _ _=>rfl,λ_ _=>rfl,λ_ _ _ _ _=>rfl,λ_=>rfl,λ_=>rfl,rfl,λ_=>rfl⟩
variable{P:Program}{T:Tm}{H:Hp}{nx:Nat}
theorem B9{dm:DM}{K:SP}{l:List Op2}{d:Option Nat}{z:AV}{cs:List AV}(hd:dm2 dm T (.alloc z)=true)(hc:z.cells=cs)(ho:AV.ones cs=true)(k:ai P dm l (aN T d (.ptr nx cs.length 0)) (ar H nx cs) (nx+1) K):ai P dm (⟨d,none,.alloc z⟩::l) T H nx K:=by
 subst hc;refine qj rfl hd ?_ k;simp only[kH,vK];rw[if_pos (show z.flat=true from ho)]
theorem IM{dm:DM}{K:SP}{l:List Op2}{d:Option Nat}{x:Opd}{v:AV}{cs:List AV}(hd:dm2 dm T (.box x)=true)(hx:ov T x=v)(hc:v.cells=cs)(ho:AV.ones cs=true)(k:ai P dm l (aN T d (.ptr nx cs.length 0)) (ar H nx cs) (nx+1) K):ai P dm (⟨d,none,.box x⟩::l) T H nx K:=by
 subst hc hx;refine qj rfl hd ?_ k;simp only[kH,vK];rw[if_pos (show(ov T x).flat=true from ho)]
theorem lm{dm:DM}{K:SP}{l:List Op2}{d:Option Nat}{sz:Nat}{p x:Opd}{b n off:Nat}{v:AV}{cs vs:List AV}(hd:dm2 dm T (.st sz p x)=true)(hp:ov T p=.ptr b n off)(hx:ov T x=v)(hb:H b=some cs)(hc:v.cells=vs)(ho:AV.ones vs=true)(hn:cs.length=n)(hl:vs.length=sz)(hf:off+sz<=n)
    (k:ai P dm l (aN T d (.tup [])) (ar H b (bE cs off vs)) nx K):ai P dm (⟨d,none,.st sz p x⟩::l) T H nx K:=by
 subst hc hx;refine qj rfl hd ?_ k;simp only[kH,hp,hb];rw[if_pos ⟨hn,ho,hl,hf⟩]
theorem l8{dm:DM}{K:SP}{l:List Op2}{d:Option Nat}{sz bytes:Nat}{z:List AV}{x y:Opd}{k1 k2:IntKind}{n m:Int}(hd:dm2 dm T (.mks sz bytes z x y)=true)(hx:ov T x=.int k1 n)(hy:ov T y=.int k2 m)(h0:0<=n)(h1:n<=m)(h2:m<=9223372036854775807)(h3:bytes*m<=281474976710656)
    (k:ai P dm l (aN T d (.msl nx (m.toNat*sz) sz 0 n.toNat)) (ar H nx (bt (.agg z) m.toNat)) (nx+1) K):ai P dm (⟨d,none,.mks sz bytes z x y⟩::l) T H nx K:=by
 refine qj rfl hd ?_ k;simp only[kH,hx,hy];rw[if_pos ⟨h0,h1,h2,h3⟩]
theorem IA{dm:DM}{K:SP}{l:List Op2}{d:Option Nat}{sz len:Nat}{z:List AV}{parts:List (Nat×Nat×Opd)}{pv:List (Nat×Nat×AV)}{cs:List AV}(hd:dm2 dm T (.bldS sz len z parts)=true)(hl:len≠0)(hp:parts.map (λp=>(p.1,p.2.1,ov T p.2.2))=pv)(hc:ff (bt (.agg z) len) pv=some cs)
    (k:ai P dm l (aN T d (.msl nx cs.length sz 0 len)) (ar H nx cs) (nx+1) K):ai P dm (⟨d,none,.bldS sz len z parts⟩::l) T H nx K:=by
 refine qj rfl hd ?_ k;simp only[kH,hl,if_false,hp,hc]
theorem E9{dm:DM}{K:SP}{l:List Op2}{d:Option Nat}{sz:Nat}{z:List AV}(hd:dm2 dm T (.bldS sz 0 z [])=true)(k:ai P dm l (aN T d .esl) H nx K):ai P dm (⟨d,none,.bldS sz 0 z []⟩::l) T H nx K:=by
 refine qj rfl hd ?_ k;simp[kH]
theorem iq{dm:DM}{K:SP}{l:List Op2}{d:Option Nat}{sz bytes n:Nat}{s x:Opd}{v:AV}{new:List AV}(hd:dm2 dm T (.app sz bytes s x)=true)(hs:ov T s=.esl)(hx:ov T x=v)(hsrc:eU sz H v=some (n,new))(ho:AV.ones new=true)(h1:n*bytes<=140737488355328)(h2:n<=9223372036854775807)
    (k:ai P dm l (aN T d (.msl nx (n*sz) sz 0 n)) (ar H nx new) (nx+1) K):ai P dm (⟨d,none,.app sz bytes s x⟩::l) T H nx K:=by
 subst hx;refine qj rfl hd ?_ k;simp only[kH,HV,hs,hsrc];rw[if_pos (show new.all AV.one=true from ho),if_pos ⟨h1,h2⟩]
theorem Gp{dm:DM}{K:SP}{l:List Op2}{d:Option Nat}{sz bytes n:Nat}{s x:Opd}{v:AV}{new cs:List AV}{b m len:Nat}(hd:dm2 dm T (.app sz bytes s x)=true)(hs:ov T s=.msl b m sz 0 len)(hb:H b=some cs)(hx:ov T x=v)(hsrc:eU sz H v=some (n,new))(ho:AV.ones new=true)(hm:cs.length=m)(hl:m=len*sz)
    (h1:(len+n)*bytes<=140737488355328) (h2:len+n<=9223372036854775807)
    (k:ai P dm l (aN T d (.msl b ((len+n)*sz) sz 0 (len+n))) (ar H b (cs++new)) nx K):ai P dm (⟨d,none,.app sz bytes s x⟩::l) T H nx K:=by
 subst hx;refine qj rfl hd ?_ k;simp only[kH,HV,hs,hsrc,hb];rw[if_pos (show new.all AV.one=true from ho),if_pos ⟨hm,trivial⟩,if_pos ⟨trivial,hl,h1,h2⟩]
theorem JA{K:SP}{l:List Op2}{d:Option Nat}{sz bytes k:Nat}{s x:Opd}{v:AV}{new cs:List AV}{b m off len:Nat}(hs:ov T s=.msl b m sz off len)(hb:H b=some cs)(hx:ov T x=v)(hsrc:eU sz H v=some (k,new))(ho:AV.ones new=true)(hm:cs.length=m)(h0:0<m)(hf:off+len*sz=m)
    (h1:(len+k)*bytes<=140737488355328) (h2:len+k<=9223372036854775807)
    (k1:ai P .text l (aN T d (.msl b (m+k*sz) sz off (len+k))) (ar H b (cs++new)) nx K)
    (k2:ai P .text l (aN T d (.msl nx ((len+k)*sz) sz 0 (len+k))) (ar H nx (cs.drop off++new)) (nx+1) K):ai P .text (⟨d,none,.app sz bytes s x⟩::l) T H nx K:=by
 subst hx;show be P .text (.app sz bytes s x) T H nx λr H nx=>ai P .text l (aN T d r) H nx K;exact .inr ⟨rfl,b,m,off,len,k,cs,new,hs,hb,hm,h0,hf,hsrc,ho,h1,h2,k1,k2⟩
theorem Bk{dm:DM}{K:SP}{l:List Op2}{d:Option Nat}{sz bytes n:Nat}{s x:Opd}{v:AV}{new cs:List AV}{b m off len:Nat}(hd:dm2 dm T (.app sz bytes s x)=true)(hs:ov T s=.msl b m sz off len)(hb:H b=some cs)(hx:ov T x=v)(hsrc:eU sz H v=some (n,new))(ho:AV.ones new=true)(hm:cs.length=m)(hl:off=0->m≠len*sz)(h0:0<m)(h1:off+(len+n)*sz<=m)
    (k:ai P dm l (aN T d (.msl b m sz off (len+n))) (ar H b (bE cs (off+len*sz) new)) nx K):ai P dm (⟨d,none,.app sz bytes s x⟩::l) T H nx K:=by
 subst hx;refine qj rfl hd ?_ k;simp only[kH,HV,hs,hsrc,hb];rw[if_pos (show new.all AV.one=true from ho),if_pos ⟨hm,trivial⟩,if_neg (λh=>hl h.1 h.2.1),if_pos ⟨h1,h0⟩]
theorem iY{sz:Nat}{l:List AV}:eU sz H (.sl sz l)=some (l.length,l.flatMap AV.cells):=by simp[eU]
theorem pE{sz:Nat}:eU sz H .esl=some (0,[]):=rfl
theorem eY{sz b n off len:Nat}{cs:List AV}(h:H b=some cs)(hn:cs.length=n)(hf:off+len*sz<=n):eU sz H (.msl b n sz off len)=some (len,(cs.drop off).take (len*sz)):=by
 simp only[eU];split
 ·rename_i h0;subst h0;simp
 ·simp only[h,hn,true_and,hf,if_true]
theorem SR:(∀(H:Hp)(b n off:Nat),rd1 H (.ptr b n off)=match H b with|some cs=>if cs.length=n then cs[off]? else none|none=>none)/\
    (∀(H:Hp)(k b n off:Nat),rd H k (.ptr b n off)=match H b with|some cs=>if cs.length=n/\off+k<=n then some ((cs.drop off).take k) else none|none=>none)/\
    (∀(H:Hp)(cs:List AV)(off:Nat),rd1 H (.iptr cs off)=cs[off]?)/\(∀(H:Hp)(cs:List AV)(off k:Nat),rd H k (.iptr cs off)=if off+k<=cs.length then some ((cs.drop off).take k) else none)/\
    (∀(l:List AV)(i:Nat),jo (.tup l) i=l[i]?)/\(∀(l:List AV)(f:List AV->Option AV),fg (.agg l) f=f l)/\(∀(k:IntKind)(n:Int)(f:Int->Option AV),mZ (.int k n) f=f n)/\
    (∀(cs:List AV),ff cs []=some cs)/\
    (∀(cs:List AV)(off sz:Nat)(x:AV)(r:List (Nat×Nat×AV)),ff cs ((off,sz,x)::r)=if AV.ones x.cells=true/\x.cells.length=sz/\off+sz<=cs.length then ff (bE cs off x.cells) r else none)/\
    (∀(b n sz off len:Nat),dl (.msl b n sz off len)=some (.int .i64 len))/\(dl .esl=some (.int .i64 0))/\(∀(sz:Nat)(l:List AV),dl (.sl sz l)=some (.int .i64 l.length))/\
    (∀(z:AV),bt z 0=[])/\(∀(z:AV)(n:Nat),bt z (n+1)=z.cells++bt z n):=
 ⟨λ_ _ _ _=>rfl,λ_ _ _ _ _=>rfl,λ_ _ _=>rfl,λ_ _ _ _=>rfl,λl i=>by cases l<;>rfl,λ_ _=>rfl,λ_ _ _=>rfl,λ_=>rfl,λ_ _ _ _ _=>rfl,λ_ _ _ _ _=>rfl,rfl,λ_ _=>rfl,λ_=>rfl,λz n=>by simp[bt,List.replicate_succ]⟩
end Go.Abs
namespace Go.Abs
theorem cf{H:Hp}{a b:Bool}(h:a=b):Snap H (.bool a) (.bool b):=by subst h;exact .bool _
theorem aA{H:Hp}{k:IntKind}{a b:Int}(h:a=b):Snap H (.int k a) (.int k b):=by subst h;exact .int _ _
theorem cQ{H:Hp}{l m:List AV}(h:aD H l m):Snap H (.tup l) (.tup m):=.tup l m h.1 h.2
theorem fV{H:Hp}{l m:List AV}(h:aD H l m):Snap H (.agg l) (.agg m):=.agg l m h.1 h.2
theorem af{H:Hp}{x y:AV}{xs ys:List AV}(h:Snap H x y)(hs:aD H xs ys):aD H (x::xs) (y::ys):=aD.cons h hs
theorem Dat.snap{H:Hp}{x:AV}(h:Dat x):Snap H x x:=h H
theorem bj{P:Program}{b:C2}{T:Tm}{H:Hp}{nx:Nat}{K:CP}{X:Type}(L:X->List (Nat×AV))(I:X->Hp->Nat->Prop)(μ:X->Nat)(x0:X)(h0:I x0 H nx)(hT:agr T (L x0))
    (step:∀x H nx,I x H nx->aE P b (tl (L x)) H nx λe T H' nx'=>aJ e (∃y,μ y<μ x/\I y H' nx'/\agr T (L y)) (K e T H' nx')):aP (aE P b) T H nx K:=by
 refine E8 (X:=X×Hp×Nat) (λx=>tl (L x.1)) (λx=>x.2.1) (λx=>x.2.2) (λx=>I x.1 x.2.1 x.2.2) (λx=>μ x.1) ⟨(x0,H,nx),h0,_,Gh.weak (uT hT)⟩ (λx hx=>eo b (step x.1 x.2.1 x.2.2 hx) (λe T H' nx' h=>?_));cases e with
 |normal=>
  obtain⟨y,h1,h2,h3⟩:=h;exact⟨(y,H',nx'),h2,h1,_,Gh.weak (uT h3)⟩
 |exit i=>exact h
 |ret=>exact h
def dB(Hf:Hp)(cs cs':List AV):Prop:=cs'.length=cs.length/\∀(i:Nat)(x x':AV),cs[i]?=some x->cs'[i]?=some x'->x'=x\/Snap Hf x x'
theorem dB.refl(Hf:Hp)(cs:List AV):dB Hf cs cs:=⟨rfl,λi x x' h1 h2=>.inl (by rw[h1] at h2;cases h2;rfl)⟩
theorem dB.snoc{Hf:Hp}{cs:List AV}{x x':AV}(h:Snap Hf x x'):dB Hf (cs++[x]) (cs++[x']):=by
 refine⟨by simp,λi y y' h1 h2=>?_⟩;by_cases hi:i<cs.length
 ·rw[gy hi] at h1 h2;rw[h1] at h2;cases h2;exact .inl rfl
 ·rw[ie (by omega)] at h1 h2;cases hj:i-cs.length with
  |zero=>rw[hj] at h1 h2;simp at h1 h2;subst h1 h2;exact .inr h
  |succ j=>rw[hj] at h1;simp at h1
structure Fz(Hf H H':Hp):Prop where
 sub:∀b cs,Hf b=some cs->H b=some cs
 to:∀b cs',H' b=some cs'->∃cs,H b=some cs/\Hf b=none/\dB Hf cs cs'
def AX(Hf:Hp)(T:Tm):List (Nat×AV)->Prop
 |[]=>True
 |(d,v)::l=>(T d=v\/Snap Hf (T d) v)/\AX Hf T l
theorem Ck{Hf:Hp}{T:Tm}:∀{l:List (Nat×AV)},AX Hf T l->∀t,tl l t=.undef\/tl l t=T t\/Snap Hf (T t) (tl l t)
 |[],_,t=>.inl rfl
 |(d,v)::l,h,t=>by
  simp only[tl];split
  ·rename_i e;subst e;rcases h.1 with h1|h1
   ·exact .inr (.inl h1.symm)
   ·exact .inr (.inr h1)
  ·exact Ck h.2 t
theorem Fz.gh{Hf H H':Hp}{T:Tm}{l:List (Nat×AV)}{nx:Nat}(h:Fz Hf H H')(ha:AX Hf T l):Gh T H nx (tl l) H' nx Hf:=
 ⟨h.sub,aZ _,fun b cs' hb=>by
  obtain⟨cs,h1,h2,h3,h4⟩:=h.to b cs' hb;exact .inl ⟨cs,h1,h2,h3,λi x x' hx hx'=>(h4 i x x' hx hx').imp id .inl⟩,λt=>by
  rcases Ck ha t with h1|h1|h1
  ·exact .inl h1
  ·exact .inr (.inl h1)
  ·exact .inr (.inr (.inl h1))⟩
def only(b:Nat)(cs:List AV):Hp:=λx=>if x=b then some cs else none
theorem eO{b:Nat}{cs:List AV}:only b cs b=some cs:=by simp[only]
theorem qu{P:Program}{T:Tm}{H:Hp}{nx:Nat}{K:CP}{l:List Op2}(Hf H':Hp)(L:List (Nat×AV))(hf:Fz Hf H H')(ha:AX Hf T L)(h:ai P .text l (tl L) H' nx λT H nx=>K .normal T H nx):aE P (.ops 0 l) T H nx K:=⟨_,H',nx,Hf,hf.gh ha,h⟩
theorem Fz.one{H:Hp}{b:Nat}{cs:List AV}(hb:H b=some cs):Fz (only b cs) H (cl H b):=
 ⟨fun x c h=>by unfold only at h; split at h <;> cases h; subst_vars; exact hb,fun x c h=>by
  have:=iQ h;exact⟨c,this.2,by simp[only,this.1],dB.refl _ _⟩⟩
theorem Fz.all{H:Hp}:Fz H H bM:=⟨λ_ _ h=>h,λ_ _ h=>(by cases h)⟩
theorem eN{T:Tm}{Hf:Hp}:∀{l:List (Nat×AV)},agr T l->AX Hf T l
 |[],_=>trivial
 |(_,_)::_,h=>⟨.inl h.1,eN h.2⟩
theorem rQ{P:Program}{b:C2}{T:Tm}{H:Hp}{nx:Nat}{K:CP}{X:Type}(L:X->List (Nat×AV))(I:X->Hp->Nat->Prop)(μ:X->Nat)(x0:X)(h0:∃Hf H',Fz Hf H H'/\I x0 H' nx/\AX Hf T (L x0))
    (step:∀x H nx,I x H nx->aE P b (tl (L x)) H nx λe T H' nx'=>aJ e (∃y,μ y<μ x/\∃Hf H'',Fz Hf H' H''/\I y H'' nx'/\AX Hf T (L y)) (K e T H' nx')):aP (aE P b) T H nx K:=by
 obtain⟨Hf,H0,hf,hI,ha⟩:=h0;refine E8 (X:=X×Hp×Nat) (λx=>tl (L x.1)) (λx=>x.2.1) (λx=>x.2.2) (λx=>I x.1 x.2.1 x.2.2) (λx=>μ x.1) ⟨(x0,H0,nx),hI,_,hf.gh ha⟩ (λx hx=>eo b (step x.1 x.2.1 x.2.2 hx) (λe T H' nx' h=>?_));cases e with
 |normal=>
  obtain⟨y,h1,Hf,H'',h2,h3,h4⟩:=h;exact⟨(y,H'',nx'),h3,h1,_,h2.gh h4⟩
 |exit i=>exact h
 |ret=>exact h
theorem Fz.none{H:Hp}:Fz bM H H:=⟨λ_ _ h=>(by cases h),λb cs h=>⟨cs,h,rfl,dB.refl _ _⟩⟩
theorem k9{α:Type}[DecidableEq α](k:MK)(enc:α->AV)(h:∀a b,nf k (enc a) (enc b)=some (decide (a=b)))(v:α):∀ks:List α,eF k (enc v) (ks.map enc)=some (if v∈ks then some (ks.idxOf v) else none)
 |[]=>rfl
 |x::l=>by
  simp only[gu,eF,h];by_cases e:v=x
  ·subst e;simp
  ·have e':x≠v:=λh=>e h.symm;simp only[e,decide_false,k9 k enc h v l,mi,gg,false_or];by_cases hm:v∈l
   ·simp only[hm,if_true,mi];simp[List.idxOf_cons,beq_eq_false_iff_ne.2 e']
   ·simp[hm]
theorem wy{α:Type}{l:List α}{n k:Nat}{d:α}(h:k<n):(l.take n).getD k d=l.getD k d:=by
 simp only[List.getD,jq,if_pos h]
theorem du{α:Type}[Inhabited α]{l:List α}{k:Nat}(h:k<l.length):l.drop k=l.getD k default::l.drop (k+1):=by
 rw[List.drop_eq_getElem_cons h];simp[List.getD,h]
theorem ac{H:Hp}{b:Nat}{cs:List AV}:ar H b cs b=some cs:=if_pos rfl
theorem fY{H:Hp}{f:FuncId}{l m:List AV}(h:aD H l m):Snap H (.func f l) (.func f m):=.func f l m h.1 h.2
theorem dF{H:Hp}{b n off:Nat}{cs cs':List AV}(hb:H b=some cs)(hn:cs.length=n)(h:aD H cs cs'):Snap H (.ptr b n off) (.iptr cs' off):=.ptr b n off cs cs' hb hn (by rw[h.1,hn]) h.2
theorem v6{H:Hp}{cs cs':List AV}{off:Nat}(h:aD H cs cs'):Snap H (.iptr cs off) (.iptr cs' off):=.iptr cs cs' off h.1 h.2
theorem Dat.iptr{cs:List AV}{off:Nat}(h:∀x∈cs,Dat x):Dat (.iptr cs off):=λH=>.iptr cs cs off rfl (λi a c ha hc=>by rw[ha] at hc;cases hc;exact h a (iC ha) H)
theorem DatL.nil:∀x∈([]:List AV),Dat x:=by simp
theorem DatL.cons{x:AV}{l:List AV}(h:Dat x)(hl:∀y∈l,Dat y):∀y∈x::l,Dat y:=λy hy=>(gg.1 hy).elim (λe=>e▸h) (hl y)
theorem mN{H:Hp}{b n off len:Nat}{cs:List AV}{l:List AV}(hb:H b=some cs)(hn:cs.length=n)(hf:off+len<=n)(hl:l.length=len)(hc:∀y∈l,y.cells=[y])(h:∀(i:Nat)(a c:AV),cs[off+i]?=some a->l[i]?=some c->Snap H a c):Snap H (.msl b n 1 off len) (.sl 1 l):=by
 refine .msl b n 1 off len cs l hb hn (by omega) hl (λy hy=>by rw[hc y hy];rfl) (λi j y a c hy hc' ha=>?_);rw[hc y (iC hy)] at hc';cases j with
 |zero=>simp at hc';subst hc';exact h i a y (by simpa using ha) hy
 |succ j=>simp at hc'
theorem GL{H:Hp}{b n len:Nat}{l:List Int}(hb:H b=some (l.map (AV.int .i64)))(hn:n=len)(hl:l.length=len):Snap H (.msl b n 1 0 len) (aH l):=by
 subst hn;refine mN hb (by simp[hl]) (by omega) (by simp[hl]) (λy hy=>by simp at hy;obtain⟨n,_,rfl⟩:=hy;rfl) (λi a c ha hc=>?_);rw[cp] at ha;rw[ha] at hc;cases hc;simp at ha;obtain⟨n,_,rfl⟩:=ha;exact .int _ _
theorem a9{H:Hp}:∀{l:List AV},(∀x∈l,Dat x)->aD H l l
 |[],_=>aD.nil
 |x::l,h=>aD.cons (h x (by simp) H) (a9 (λy hy=>h y (by simp[hy])))
theorem au{α:Type}[Inhabited α]{l:List α}{k:Nat}(h:k<l.length):l.getD k default∈l:=by
 have:l.getD k default=l[k]:=by simp[List.getD,h]
 rw[this];exact mJ h
theorem nT{H:Hp}{l:List Int}:eU 1 H (aH l)=some (l.length,l.map (AV.int .i64)):=by
 unfold aH;rw[iY]
 congr 2
 ·simp
 ·induction l with
  |nil=>rfl
  |cons a l ih=>simp only[gu,lJ,ih];rfl
theorem lj{l:List Int}:AV.ones (l.map (AV.int .i64))=true:=by
 simp[AV.ones,AV.one]
theorem nG{l:List (List Int)}:AV.ones (l.map aH)=true:=by
 simp[AV.ones,aH,AV.one]
theorem lS{H:Hp}{l:List (List Int)}:eU 1 H (bi l)=some (l.length,l.map aH):=by
 unfold bi;rw[iY]
 congr 2
 ·simp
 ·induction l with
  |nil=>rfl
  |cons a l ih=>simp only[gu,lJ,ih];rfl
theorem uE{l:List Int}:fv (aH l)=some l.length:=by simp[fv,aH]
theorem e7{l:List Int}:(aH l).one=true:=rfl
theorem d5{l:List (List Int)}:(bi l).one=true:=rfl
theorem r_0{T:Tm}{H:Hp}{K:AV->Prop}(h:K (.tup [])):bn T H K []:=h
theorem getElem?_map_lt{α:Type}[Inhabited α]{f:α->AV}{l:List α}{k:Nat}(h:k<l.length):(l.map f)[k]?=some (f (l.getD k default)):=by
 simp[List.getD,h]
theorem fT{sz b m off len:Nat}{k:IntKind}{n:Int}:cA sz (.msl b m sz off len) (.int k n)=if 0<=n/\n<len then some (.ptr b m (off+n.toNat*sz)) else none:=by simp[cA]
theorem gV{P:Program}{T:Tm}{H:Hp}{nx:Nat}{K:CP}{g:Opd}{ps:List Nat}{a b:C2}{f:FuncId}{caps:List AV}(y y1:Nat)(hy:nx=y)(hy1:y+1=y1)(hg:ov T g=.func f caps)
    (h:∀ (c0:AV) (cj:AEx→AV),(∀ (args:List AV) (H':Hp) (nx':Nat) (K':AV→Hp→Nat→Prop),H' y=some [c0]→args.length=ps.length →
        aE P a (lI T ps args) H' nx' (λe T2 H2 nx2=>aJ e (H2 y=some [c0]/\aE P b T2 (cl H2 y) nx2 λe T3 H3 nx3=>aJ e (K' (.bool true) (ar H3 y [c0]) nx3) (K' (.bool false) (ar H3 y [cj e]) nx3)) False)->
        Yl P y args H' nx' K')->
     Fn P f (.yld y::caps) (ar H y [c0]) y1 λ_ H' nx'=>(H' y=some [c0]/\K .normal T (cl H' y) nx')\/ ∃e,e≠.normal/\H' y=some [cj e]/\K e T (cl H' y) nx'):aE P (.rangeF g ps a b) T H nx K:=by
 subst hy hy1;exact GH hg h
theorem re{H:Hp}{b n len:Nat}{l:List Int}(hb:H b=some (l.map (AV.int .i64)))(hn:n=len)(hl:l.length=len):SnapF H (.msl b n 1 0 len) (aH l):=by
 subst hn;refine .msl b n 1 0 n _ _ hb (by simp[hl]) (by omega) (by simp[hl]) (λy hy=>by simp at hy;obtain⟨n,_,rfl⟩:=hy;rfl) (λi j y a c hy hc ha=>?_);rw[jQ] at hy;cases hi:l[i]? with
 |none=>rw[hi] at hy;cases hy
 |some q=>
  rw[hi] at hy;cases hy;cases j with
  |zero=>
   simp only[AV.cells,sI,uK] at hc;subst hc;simp[hi] at ha;subst ha;exact .int _ _
  |succ j=>simp[AV.cells] at hc
theorem Dq{H:Hp}{l:List Int}(h:l.length=0):SnapF H .esl (aH l):=by
 have:l=[]:=eI.1 h;subst this;exact .eslsl 1
end Go.Abs
namespace Go.Abs
inductive Row(H:Hp)(sz:Nat):AV->List AV->Prop
 |nil:Row H sz .esl []
 |box (b len:Nat) (cs:List AV) (hb:H b=some cs) (hl:cs.length=len*sz):Row H sz (.msl b (len*sz) sz 0 len) cs
def bd:AV->Option Nat
 |.msl b _ _ _ _=>some b
 |_=>none
theorem Row.len{H:Hp}{sz:Nat}{s:AV}{cs:List AV}(h:Row H sz s cs):∃n:Nat,dl s=some (.int .i64 n)/\cs.length=n*sz:=by
 cases h with
 |nil=>exact⟨0,rfl,by simp⟩
 |box b len cs hb hl=>exact⟨len,rfl,hl⟩
theorem Row.lenS{H:Hp}{sz n:Nat}{s:AV}{cs:List AV}(h:Row H sz s cs)(hl:cs.length=n*sz)(hz:0<sz):dl s=some (.int .i64 n):=by
 obtain⟨m,h1,h2⟩:=h.len;have:m=n:=Nat.eq_of_mul_eq_mul_right hz (by omega);subst this;exact h1
theorem Row.same{H H':Hp}{sz:Nat}{s:AV}{cs:List AV}(h:Row H sz s cs)(hs:∀b,bd s=some b->H' b=H b):Row H' sz s cs:=by
 cases h with
 |nil=>exact .nil
 |box b len cs hb hl=>exact .box b len cs ((hs b rfl).trans hb) hl
theorem Row.one{H:Hp}{sz:Nat}{s:AV}{cs:List AV}(h:Row H sz s cs):s.one=true/\s.cells=[s]:=by
 cases h<;>exact⟨rfl,rfl⟩
theorem ab{H:Hp}{b x:Nat}{cs:List AV}(h:x≠b):ar H b cs x=H x:=if_neg h
theorem ca{H:Hp}{b x:Nat}(h:x≠b):cl H b x=H x:=if_neg h
variable{P:Program}{T:Tm}{H:Hp}{nx:Nat}
theorem d7{dm:DM}{K:SP}{l:List Op2}{d:Option Nat}{sz bytes k:Nat}{s x:Opd}{sv xv:AV}{cs new:List AV}(hd:dm2 dm T (.app sz bytes s x)=true)(hs:ov T s=sv)(hrow:Row H sz sv cs)(hx:ov T x=xv)(hsrc:eU sz H xv=some (k,new))(ho:AV.ones new=true)(hk:new.length=k*sz)
    (hz:0<sz) (h1:(cs.length+k)*bytes<=140737488355328) (h2:cs.length+k<=9223372036854775807)
    (next:∀(sv':AV)(H':Hp)(nx':Nat),Row H' sz sv' (cs++new)->nx<=nx'->nx'<=nx+1->(∀i,i<nx->bd sv≠some i->H' i=H i)->(∀b,bd sv'=some b->bd sv=some b\/b=nx/\nx'=nx+1)->ai P dm l (aN T d sv') H' nx' K):
    ai P dm (⟨d,none,.app sz bytes s x⟩::l) T H nx K:=by
 cases hrow with
 |nil=>
  refine iq hd hs hx hsrc ho (by simpa using h1) (by simpa using h2) ?_;exact next _ _ _ (.box nx k new ac hk) (Nat.le_succ _) (aZ _) (λi hi _=>ab (by omega)) (λb hb=>by cases hb;exact .inr ⟨rfl,rfl⟩)
 |box b len cs hb hl=>
  have hle:len<=cs.length:=by rw[hl];exact Nat.le_mul_of_pos_right _ hz
  have hb1:(len+k)*bytes<=140737488355328:=gf (jJ _ (by omega)) h1;refine Gp hd hs hb hx hsrc ho hl rfl hb1 (by omega) ?_;exact next _ _ _ (.box b (len+k) (cs++new) ac (by rw[cq,hl,hk,ez])) (aZ _) (Nat.le_succ _) (λi hi hne=>ab (λe=>hne (by rw[e];rfl))) (λb' hb'=>by cases hb';exact .inl rfl)
theorem Row.snap{H:Hp}{sz:Nat}{s:AV}{elems:List AV}(h:Row H sz s (elems.flatMap AV.cells))(hc:∀y∈elems,y.cells.length=sz)(hz:0<sz)(hd:∀y∈elems,∀c∈y.cells,Dat c):Snap H s (.sl sz elems):=by
 obtain⟨f1,f2⟩:=fw elems hc;generalize he:elems.flatMap AV.cells=cs at h;cases h with
 |nil=>
  have:elems.length*sz=0:=by rw[<-f1,he];rfl
  have:elems=[]:=eI.1 (by
   rcases Nat.mul_eq_zero.1 this with h|h
   ·exact h
   ·omega)
  subst this;exact .eslsl sz
 |box b len cs hb hl=>
  have hlen:elems.length=len:=Nat.eq_of_mul_eq_mul_right hz (by rw[<-f1,he,hl]);refine .msl b (len*sz) sz 0 len cs elems hb hl (by omega) hlen hc (λi j y a c hy hc' ha=>?_);have hj:j<sz:=by rw[<-hc y (iC hy)];exact(bU.1 hc').1
  have key:∀(l:List AV)(i j:Nat)(y c:AV),(∀z∈l,z.cells.length=sz)->l[i]?=some y->y.cells[j]?=some c->j<sz->(l.flatMap AV.cells)[i*sz+j]?=some c:=by
   intro l
   induction l with
   |nil=>intro i j y c _ h;simp at h
   |cons x l ih=>
    intro i j y c hl hy hc hj;rw[lJ];cases i with
    |zero=>
     simp at hy;subst hy;rw[ou,cp,gy (by rw[hl x (by simp)];exact hj)];exact hc
    |succ i=>
     rw[ie (by rw[hl x (by simp),ez];omega),hl x (by simp)];have:=ih i j y c (λz hz=>hl z (by simp[hz])) (by simpa using hy) hc hj;rw[<-this];congr 1;rw[ez];omega
  have:=key elems i j y c hc hy hc' hj;rw[he,<-cp (i*sz)] at this;rw[this] at ha;cases ha;exact hd y (iC hy) a (iC hc') H
theorem i6{α:Type}{f:α->AV}(h:∀x,(f x).cells=[f x])(l:List α):(l.map f).flatMap AV.cells=l.map f:=by
 induction l with
 |nil=>rfl
 |cons a l ih=>rw[gu,lJ,ih,h];rfl
theorem Row.snapV{H:Hp}{s:AV}{l:List (List Int)}(h:Row H 1 s (l.map aH)):Snap H s (bi l):=by
 refine Row.snap (elems:=l.map aH) (by rw[i6 (λ_=>rfl)];exact h) (λy hy=>?_) g8 (λy hy c hc=>?_)
 ·simp at hy;obtain⟨n,_,rfl⟩:=hy;rfl
 ·simp at hy;obtain⟨n,_,rfl⟩:=hy;simp only[Bt,eM] at hc;subst hc;exact eV n
theorem Row.snapI{H:Hp}{s:AV}{l:List Int}(h:Row H 1 s (l.map (AV.int .i64))):Snap H s (aH l):=by
 refine Row.snap (elems:=l.map (AV.int .i64)) (by rw[i6 (λ_=>rfl)];exact h) (λy hy=>?_) g8 (λy hy c hc=>?_)
 ·simp at hy;obtain⟨n,_,rfl⟩:=hy;rfl
 ·simp at hy;obtain⟨n,_,rfl⟩:=hy;simp only[Eh,eM] at hc;subst hc;exact .int
theorem cS{K:CP}{x y:C2}(M:SP)(h1:aE P x T H nx λe T H nx=>aJ e (M T H nx) (K e T H nx))(h2:∀T H nx,M T H nx->aE P y T H nx K):aE P (.seq x y) T H nx K:=by
 refine jw (eo x h1 (λe T H nx h=>?_));cases e with
 |normal=>exact h2 T H nx h
 |exit i=>exact h
 |ret=>exact h
end Go.Abs
namespace Go.Abs
theorem Od:(∀l:List Int,(aH l).cells=[aH l])/\(∀l:List (List Int),(bi l).cells=[bi l])/\(∀x:Nat,bM x=none)/\
    (∀(α β:Type)(f:α->β)(a:α)(l:List α),(a::l).map f=f a::l.map f)/\(∀(α β:Type)(f:α->β),([]:List α).map f=[])/\(∀(α β:Type)(f:α->β)(a:α),(some a).map f=some (f a))/\(∀(α β:Type)(f:α->β),(none:Option α).map f=none)/\
    (∀n:Nat,0+n=n)/\(∀n:Nat,n+0=n)/\(∀p:Prop,(p/\p)=p)/\(∀p:Prop,(p/\True)=p)/\(∀p:Prop,(True/\p)=p)/\((!true)=false)/\((!false)=true)/\
    (∀(α:Type)(a:α)(l m:List α),(a::l)++m=a::(l++m))/\(∀(α:Type)(l:List α),[]++l=l)/\(∀(α:Type)(l:List α),l++[]=l):=
 ⟨λ_=>rfl,λ_=>rfl,λ_=>rfl,λ_ _ _ _ _=>rfl,λ_ _ _=>rfl,λ_ _ _ _=>rfl,λ_ _ _=>rfl,cp,sj,and_self,and_true,true_and,rfl,rfl,λ_ _ _ _=>rfl,λ_ _=>rfl,λ_ l=>gI l⟩
theorem zz(p:Prop):(p/\p)=p:=and_self p
theorem bN:(∀(H:Hp)(b x:Nat)(cs:List AV),ar H b cs x=if x=b then some cs else H x)/\(∀(H:Hp)(b x:Nat),cl H b x=if x=b then none else H x):=⟨λ_ _ _ _=>rfl,λ_ _ _=>rfl⟩
theorem cK:(∀(H:Hp)(b:Nat)(cs:List AV),ar H b cs b=some cs)/\(∀(H:Hp)(b x:Nat)(cs:List AV),x≠b->ar H b cs x=H x)/\(∀(H:Hp)(b:Nat),cl H b b=none)/\(∀(H:Hp)(b x:Nat),x≠b->cl H b x=H x)/\(∀a b c:Nat,a+b+c=a+(b+c)):=
 ⟨λ_ _ _=>ac,λ_ _ _ _ h=>ab h,λ_ _=>nY,λ_ _ _ h=>ca h,pV⟩
theorem ZA:((∀ l:List Int,(aH l).cells=[aH l])∧(∀ l:List (List Int),(bi l).cells=[bi l])∧(∀ x:Nat,bM x=none) ∧
    (∀(α β:Type)(f:α->β)(a:α)(l:List α),(a::l).map f=f a::l.map f)/\(∀(α β:Type)(f:α->β),([]:List α).map f=[])/\(∀(α β:Type)(f:α->β)(a:α),(some a).map f=some (f a))/\(∀(α β:Type)(f:α->β),(none:Option α).map f=none)/\
    (∀n:Nat,0+n=n)/\(∀n:Nat,n+0=n)/\(∀p:Prop,(p/\p)=p)/\(∀p:Prop,(p/\True)=p)/\(∀p:Prop,(True/\p)=p)/\((!true)=false)/\((!false)=true)/\
    (∀(α:Type)(a:α)(l m:List α),(a::l)++m=a::(l++m))/\(∀(α:Type)(l:List α),[]++l=l)/\(∀(α:Type)(l:List α),l++[]=l))/\
    ((∀ (T:Tm) (n:Nat),ov T (.t n)=T n)∧(∀ (T:Tm) (v:AV),ov T (.c v)=v)∧(∀ (T:Tm) (d t:Nat) (v:AV),upd T d v t=if t=d then v else T t)∧(∀ (T:Tm) (d:Nat) (v:AV),aN T (some d) v=upd T d v) ∧
    (∀(T:Tm)(v:AV),aN T none v=T)/\(∀(x:AV)(l:List AV),T0 (x::l) 0=x)/\(∀(x:AV)(l:List AV)(n:Nat),T0 (x::l) (n+1)=T0 l n)/\(∀n:Nat,T0 [] n=.undef)/\
    (∀(d t:Nat)(v:AV)(l:List (Nat×AV)),tl ((d,v)::l) t=if t=d then v else tl l t)/\(∀t:Nat,tl [] t=.undef)/\
    (∀(T:Tm)(t:Nat)(ts:List Nat)(x:AV)(xs:List AV),lI T (t::ts) (x::xs)=lI (upd T t x) ts xs)/\(∀(T:Tm)(xs:List AV),lI T [] xs=T))/\
    ((∀ (T:Tm) (H:Hp) (x:Opd),bW T H (.mov x)=some (ov T x)) ∧
    (∀(T:Tm)(H:Hp)(c a b:Opd),bW T H (.pick c a b)=match ov T c with|.bool t=>some (if t=true then ov T a else ov T b)|_=>none)/\
    (∀(T:Tm)(H:Hp)(a:Opd),bW T H (.ld1 a)=rd1 H (ov T a))/\(∀(T:Tm)(H:Hp)(k:Nat)(a:Opd),bW T H (.ldn k a)=(rd H k (ov T a)).map .agg)/\
    (∀(T:Tm)(H:Hp)(op:BinOp)(tb tf:Bool)(x y:Opd),bW T H (.bin op tb tf x y)=bm op tb tf (ov T x) (ov T y))/\
    (∀(T:Tm)(H:Hp)(op:UnOp)(x:Opd),bW T H (.un op x)=aun op (ov T x))/\
    (∀(T:Tm)(H:Hp)(f:FuncId)(caps:List Opd),bW T H (.mkfn f caps)=some (.func f (caps.map (ov T))))/\
    (∀(T:Tm)(H:Hp)(k:Nat)(p:Opd),bW T H (.fa k p)=jp k (ov T p))/\
    (∀(T:Tm)(H:Hp)(sz:Nat)(x i:Opd),bW T H (.ixaS sz x i)=cA sz (ov T x) (ov T i))/\
    (∀(T:Tm)(H:Hp)(x:Opd)(i:Nat),bW T H (.ext x i)=jo (ov T x) i)/\
    (∀(T:Tm)(H:Hp)(x:Opd),bW T H (.lenS x)=dl (ov T x))/\
    (∀(T:Tm)(H:Hp)(z:List AV)(parts:List (Nat×Nat×Opd)),bW T H (.bld z parts)=(ff z (parts.map λp=>(p.1,p.2.1,ov T p.2.2))).map .agg)/\
    (∀(T:Tm)(H:Hp)(x:Opd)(l:List Opd),bW T H (.mx x l)=je ma (ov T x) (l.map (ov T)))/\
    (∀(T:Tm)(H:Hp)(x:Opd)(l:List Opd),bW T H (.mn x l)=je oG (ov T x) (l.map (ov T)))/\
    (∀(T:Tm)(H:Hp)(k:IntKind)(x:Opd),bW T H (.conv k x)=mZ (ov T x) λn=>some (.int k (k.wrap n)))/\
    (∀(T:Tm)(H:Hp)(sz:Nat)(x:Opd)(lo hi mx:Option Opd),bW T H (.sls sz x lo hi mx)=kC sz (ov T x) (lo.map (ov T)) (hi.map (ov T)) (mx.map (ov T)))/\
    (∀(T:Tm)(H:Hp)(off:Nat)(x:Opd),bW T H (.part1 off x)=fg (ov T x) λcs=>cs[off]?)/\
    (∀(T:Tm)(H:Hp)(op:BinOp)(ks:List TK)(x y:Opd),bW T H (.binS op ks x y)=fg (ov T x) λxs=>fg (ov T y) λys=>gP op ks xs ys))/\
    ((∀ (T:Tm) (H:Hp) (x i:Opd),bW T H (.ixStr x i)=oT (ov T x) (ov T i)) ∧
    (∀(s:ByteArray)(k:IntKind)(n:Int),oT (.str s) (.int k n)=if 0<=n/\n<s.size then some (.int .u8 (s[n.toNat]?.getD 0).toNat) else none))/\
    ((∀ (k:IntKind) (a b:Int) (tb tf:Bool),bm .lss tb tf (.int k a) (.int k b)=some (.bool (decide (a < b))))∧(∀ (k:IntKind) (a b:Int) (tb tf:Bool),bm .leq tb tf (.int k a) (.int k b)=some (.bool (decide (a ≤ b)))) ∧
    (∀(k:IntKind)(a b:Int)(tb tf:Bool),bm .gtr tb tf (.int k a) (.int k b)=some (.bool (decide (b<a))))/\(∀(k:IntKind)(a b:Int)(tb tf:Bool),bm .geq tb tf (.int k a) (.int k b)=some (.bool (decide (b<=a))))/\
    (∀(k:IntKind)(a b:Int)(tb tf:Bool),bm .eql tb tf (.int k a) (.int k b)=some (.bool (decide (a=b))))/\(∀(k:IntKind)(a b:Int)(tb tf:Bool),bm .neq tb tf (.int k a) (.int k b)=some (.bool (decide (a≠b))))/\
    (∀(k:IntKind)(a b:Int)(tb tf:Bool),bm .add tb tf (.int k a) (.int k b)=some (.int k (k.wrap (a+b))))/\(∀(k:IntKind)(a b:Int)(tb tf:Bool),bm .sub tb tf (.int k a) (.int k b)=some (.int k (k.wrap (a-b))))/\
    (∀(k:IntKind)(a b:Int)(tb tf:Bool),bm .mul tb tf (.int k a) (.int k b)=some (.int k (k.wrap (a*b))))/\
    (∀(a b:Bool)(tf:Bool),bm .eql true tf (.bool a) (.bool b)=some (.bool (a==b)))/\(∀(a b:Bool)(tf:Bool),bm .neq true tf (.bool a) (.bool b)=some (.bool (!(a==b))))/\
    (∀tb:Bool,bm .eql tb true .nilf .nilf=some (.bool true))/\(∀tb:Bool,bm .neq tb true .nilf .nilf=some (.bool false))/\
    (∀(tb:Bool)(f:FuncId)(c:List AV),bm .eql tb true (.func f c) .nilf=some (.bool false))/\(∀(tb:Bool)(f:FuncId)(c:List AV),bm .neq tb true (.func f c) .nilf=some (.bool true))/\
    (∀b:Bool,aun .not (.bool b)=some (.bool (!b)))/\
    (∀(k:IntKind)(a b:Int),ma (.int k a) (.int k b)=some (.int k (max a b)))/\(∀(k:IntKind)(a b:Int),oG (.int k a) (.int k b)=some (.int k (min a b)))/\
    (∀(f:AV->AV->Option AV)(x:AV),je f x []=some x)/\(∀(f:AV->AV->Option AV)(x y:AV)(l:List AV),je f x (y::l)=match f x y with|some z=>je f z l|none=>none)/\
    (∀(k:Nat)(b n off:Nat),jp k (.ptr b n off)=some (.ptr b n (off+k)))/\(∀(k:Nat)(cs:List AV)(off:Nat),jp k (.iptr cs off)=some (.iptr cs (off+k)))/\
    (∀(cs:List AV)(off:Nat),rd1 bM (.iptr cs off)=cs[off]?))/\
    ((∀ (H:Hp) (b n off:Nat),rd1 H (.ptr b n off)=match H b with | some cs=>if cs.length=n then cs[off]? else none | none=>none) ∧
    (∀(H:Hp)(k b n off:Nat),rd H k (.ptr b n off)=match H b with|some cs=>if cs.length=n/\off+k<=n then some ((cs.drop off).take k) else none|none=>none)/\
    (∀(H:Hp)(cs:List AV)(off:Nat),rd1 H (.iptr cs off)=cs[off]?)/\(∀(H:Hp)(cs:List AV)(off k:Nat),rd H k (.iptr cs off)=if off+k<=cs.length then some ((cs.drop off).take k) else none)/\
    (∀(l:List AV)(i:Nat),jo (.tup l) i=l[i]?)/\(∀(l:List AV)(f:List AV->Option AV),fg (.agg l) f=f l)/\(∀(k:IntKind)(n:Int)(f:Int->Option AV),mZ (.int k n) f=f n)/\
    (∀(cs:List AV),ff cs []=some cs)/\
    (∀(cs:List AV)(off sz:Nat)(x:AV)(r:List (Nat×Nat×AV)),ff cs ((off,sz,x)::r)=if AV.ones x.cells=true/\x.cells.length=sz/\off+sz<=cs.length then ff (bE cs off x.cells) r else none)/\
    (∀(b n sz off len:Nat),dl (.msl b n sz off len)=some (.int .i64 len))/\(dl .esl=some (.int .i64 0))/\(∀(sz:Nat)(l:List AV),dl (.sl sz l)=some (.int .i64 l.length))/\
    (∀(z:AV),bt z 0=[])/\(∀(z:AV)(n:Nat),bt z (n+1)=z.cells++bt z n))/\
    ((∀ (a:AV) (l:List AV),(a :: l)[0]?=some a)∧(∀ (a:AV) (l:List AV) (n:Nat),(a :: l)[n + 1]?=l[n]?)∧(∀ (l:List AV),l.drop 0=l)∧(∀ (a:AV) (l:List AV) (n:Nat),(a :: l).drop (n + 1)=l.drop n)∧(∀ n:Nat,([]:List AV).drop n=[]) ∧
    (∀(l:List AV),l.take 0=[])/\(∀(a:AV)(l:List AV)(n:Nat),(a::l).take (n+1)=a::l.take n)/\(∀n:Nat,([]:List AV).take n=[])/\(∀(l:List AV),[]++l=l)/\(∀(l:List AV),l++[]=l)/\(∀(a:AV)(l m:List AV),(a::l)++m=a::(l++m))/\
    (∀(cs:List AV)(off:Nat)(new:List AV),bE cs off new=cs.take off++new++cs.drop (off+new.length))/\(([]:List AV).length=0)/\(∀(a:AV)(l:List AV),(a::l).length=l.length+1)/\
    (∀(k:IntKind)(n:Int),(AV.int k n).cells=[.int k n])/\(∀b:Bool,(AV.bool b).cells=[.bool b])/\(∀s:ByteArray,(AV.str s).cells=[.str s])/\(∀(k:Nat)(l:List AV),(AV.sl k l).cells=[.sl k l])/\(∀l:List AV,(AV.agg l).cells=l)/\(AV.esl.cells=[.esl])/\(AV.nilf.cells=[.nilf])/\
    (∀(f:FuncId)(c:List AV),(AV.func f c).cells=[.func f c])/\(∀(b n off:Nat),(AV.ptr b n off).cells=[.ptr b n off])/\(∀(c:List AV)(off:Nat),(AV.iptr c off).cells=[.iptr c off])/\(∀(b n sz off len:Nat),(AV.msl b n sz off len).cells=[.msl b n sz off len])/\(∀b:Nat,(AV.yld b).cells=[.yld b])/\(∀b:Nat,(AV.mp b).cells=[.mp b])/\(AV.nilp.cells=[.nilp])/\(∀(f:FuncId)(c:List AV),(AV.bfn f c).cells=[.bfn f c]))/\
    ((∀(b:Bool)(x y:AV),(match (AV.bool b:AV) with|.bool t=>some (if t=true then x else y)|_=>none)=some (if b=true then x else y))):=
 ⟨Od,SA,SV,SV2,SN,SR,SL,λ_ _ _=>rfl⟩
theorem ZV:((AV.ones []=true)∧(∀ (a:AV) (l:List AV),AV.ones (a :: l)=(a.one && AV.ones l))∧(∀ (k:IntKind) (n:Int),(AV.int k n).one=true)∧(∀ b:Bool,(AV.bool b).one=true)∧(∀ s:ByteArray,(AV.str s).one=true)∧(∀ (k:Nat) (l:List AV),(AV.sl k l).one=true)∧(AV.esl.one=true)∧(AV.nilf.one=true) ∧
    (∀(f:FuncId)(c:List AV),(AV.func f c).one=true)/\(∀(b n off:Nat),(AV.ptr b n off).one=true)/\(∀(c:List AV)(off:Nat),(AV.iptr c off).one=true)/\(∀(b n sz off len:Nat),(AV.msl b n sz off len).one=true)/\(∀b:Nat,(AV.yld b).one=true)/\(∀b:Nat,(AV.mp b).one=true)/\(AV.nilp.one=true)/\(∀l:List AV,l.all AV.one=AV.ones l))/\(∀l:List Int,(aH l).one=true)/\(∀l:List (List Int),(bi l).one=true)/\(∀b:Bool,(b&&b)=b)/\((false=true)=False)/\(∀a:Int,-9223372036854775808<=a->a<=9223372036854775807->IntKind.wrap .i64 a=a)/\
    (∀(l:List Int)(k:IntKind)(n:Int),cA 1 (aH l) (.int k n)=if 0<=n/\n<l.length then some (.iptr [.int .i64 (l.getD n.toNat default)] 0) else none)/\(∀(l:List (List Int))(k:IntKind)(n:Int),cA 1 (bi l) (.int k n)=if 0<=n/\n<l.length then some (.iptr [aH (l.getD n.toNat default)] 0) else none)/\
    (∀l:List Int,dl (aH l)=some (.int .i64 l.length))/\(∀l:List (List Int),dl (bi l)=some (.int .i64 l.length))/\(∀n:Nat,(n:Int).toNat=n)/\(∀(α β:Type)(f:α->β)(l:List α),(l.map f).length=l.length)/\
    (∀(sz b m off len:Nat)(k:IntKind)(n:Int),cA sz (.msl b m sz off len) (.int k n)=if 0<=n/\n<len then some (.ptr b m (off+n.toNat*sz)) else none)/\(∀(α:Type)(_:Inhabited α)(f:α->AV)(l:List α)(k:Nat),k<l.length->(l.map f)[k]?=some (f (l.getD k default)))/\(∀n:Nat,n*1=n):=
 ⟨SO,λ_=>rfl,λ_=>rfl,Bool.and_self,dX,λ_=>iU,λ_ _ _=>vX,λ_ _ _=>pd,λ_=>BG,λ_=>zj,bQ,λ_ _ _ _=>bD _,λ_ _ _ _ _ _ _=>fT,λ_ _ _ _ _ h=>getElem?_map_lt h,Nat.mul_one⟩
theorem ZG:((∀ (T:Tm) (n:Nat),ov T (.t n)=T n)∧(∀ (T:Tm) (v:AV),ov T (.c v)=v)∧(∀ (T:Tm) (d t:Nat) (v:AV),upd T d v t=if t=d then v else T t)∧(∀ (T:Tm) (d:Nat) (v:AV),aN T (some d) v=upd T d v) ∧
    (∀(T:Tm)(v:AV),aN T none v=T)/\(∀(x:AV)(l:List AV),T0 (x::l) 0=x)/\(∀(x:AV)(l:List AV)(n:Nat),T0 (x::l) (n+1)=T0 l n)/\(∀n:Nat,T0 [] n=.undef)/\
    (∀(d t:Nat)(v:AV)(l:List (Nat×AV)),tl ((d,v)::l) t=if t=d then v else tl l t)/\(∀t:Nat,tl [] t=.undef)/\
    (∀(T:Tm)(t:Nat)(ts:List Nat)(x:AV)(xs:List AV),lI T (t::ts) (x::xs)=lI (upd T t x) ts xs)/\(∀(T:Tm)(xs:List AV),lI T [] xs=T))/\(∀a:Int,-9223372036854775808<=a->a<=9223372036854775807->IntKind.wrap .i64 a=a)/\(∀a b:Nat,((a+b:Nat):Int)=(a:Int)+(b:Int))/\(((1:Nat):Int)=1)/\(((0:Nat):Int)=0)/\(∀p:Prop,(p/\True)=p)/\(∀p:Prop,(p/\p)=p):=
 ⟨SA,λ_=>iU,Int.natCast_add,rfl,rfl,and_true,and_self⟩
theorem qo{P:Program}{b:C2}{T:Tm}{H:Hp}{nx:Nat}{K:CP}(L:Nat->List (Nat×AV))(n:Nat)(p:Nat->Prop)(hT:agr T (L 0))
    (step:∀k,k<=n->(∀i,i<k->p i)->aE P b (tl (L k)) H nx λe T H' nx'=>aJ e (k<n/\p k/\agr T (L (k+1))/\H'=H/\nx'=nx) (K e T H' nx')):aP (aE P b) T H nx K:=by
 refine fS (X:=Nat) L (λk=>k<=n/\∀i,i<k->p i) (λk=>n-k) 0 ⟨bz _,λi h=>(by omega)⟩ hT ?_;rintro k ⟨h1,h2⟩;refine eo b (step k h1 h2) (λe T H' nx' h=>?_);cases e with
 |normal=>
  obtain⟨g1,g2,g3,g4,g5⟩:=h;refine⟨k+1,⟨by omega,λi hi=>?_⟩,by omega,g3,g4,g5⟩;rcases ij.1 hi with h|rfl
  ·exact h2 i h
  ·exact g2
 |exit i=>exact h
 |ret=>exact h
theorem lh{α:Type}[Inhabited α]{l:List α}{p:α->Bool}(h:∀i,i<l.length->p (l.getD i default)=true):l.all p=true:=by
 rw[ee];intro x hx;obtain⟨i,hi,e⟩:=mM hx;have:=h i hi
 rwa [show l.getD i default=x by simp[List.getD,hi,e]] at this
theorem iK{α:Type}[Inhabited α]{l:List α}{p:α->Bool}{k:Nat}(hk:k<l.length)(h:p (l.getD k default)=false):l.all p=false:=by
 rw[Bool.eq_false_iff,ne_eq,ee];intro hh;have:=hh _ (au hk);rw[h] at this;cases this
theorem Fm{α:Type}[Inhabited α]{l:List α}{p:α->Bool}{k:Nat}(hk:k<l.length)(h:p (l.getD k default)=true):l.any p=true:=lu.2 ⟨_,au hk,h⟩
theorem lD{α:Type}[Inhabited α]{l:List α}{p:α->Bool}(h:∀i,i<l.length->p (l.getD i default)=false):l.any p=false:=by
 rw[List.any_eq_false];intro x hx;obtain⟨i,hi,e⟩:=mM hx;have:=h i hi;rw[show l.getD i default=x by simp[List.getD,hi,e]] at this;simp[this]
theorem uX{n:Nat}{p:Nat->Bool}(h:∀i,i<n->p i=true):(List.range n).all p=true:=ee.2 λi hi=>h i (gG.1 hi)
theorem sJ{n k:Nat}{p:Nat->Bool}(hk:k<n)(h:p k=false):(List.range n).all p=false:=by
 rw[Bool.eq_false_iff,ne_eq,ee];intro hh;have:=hh _ (gG.2 hk);rw[h] at this;cases this
def gq{α:Type}(sz:Nat)(f:α->AV)(l:List α):AV:=.sl sz (l.map f)
section
variable{α:Type}{sz:Nat}{f:α->AV}{l:List α}
theorem jP (h:∀ x ∈ l,∀ c ∈ (f x).cells,Dat c):Dat (gq sz f l):=Dat.sl (fun x hx c hc=>by
 obtain⟨y,hy,rfl⟩:=dK.1 hx;exact h y hy c hc)
theorem ri (hc:∀ x,(f x).cells=[f x]) (h:∀ x,Dat (f x)):Dat (gq sz f l):=jP (fun x _ c hx=>by
 rw[hc,eM] at hx;subst hx;exact h x)
theorem fW[Inhabited α]{k:IntKind}{n:Int}:cA sz (gq sz f l) (.int k n)=if 0<=n/\n<l.length then some (.iptr (f (l.getD n.toNat default)).cells 0) else none:=tI
theorem fQ:dl (gq sz f l)=some (.int .i64 l.length):=qR
theorem Bm:fv (gq sz f l)=some l.length:=by simp[fv,gq]
theorem xq{k:Nat}(h:k<=l.length):kC sz (gq sz f l) (some (.int .i64 k)) none none=some (gq sz f (l.drop k)):=by
 simp[kC,bP,gq,h];rw[ji (by simp)]
theorem Gr(h:∀x,(f x).one=true):AV.ones (l.map f)=true:=by
 simp[AV.ones,h]
theorem v7{H:Hp}(hc:∀x,(f x).cells=[f x]):eU 1 H (gq 1 f l)=some (l.length,l.map f):=by
 unfold gq;rw[iY,i6 hc];simp
theorem Row.snapL'{H:Hp}{s:AV}(h:Row H 1 s (l.map f))(hc:∀x,(f x).cells=[f x])(hd:∀x∈l,Dat (f x)):Snap H s (gq 1 f l):=by
 refine Row.snap (elems:=l.map f) (by rw[i6 hc];exact h) (λy hy=>?_) g8 (λy hy c hx=>?_)
 ·obtain⟨n,_,rfl⟩:=dK.1 hy;rw[hc];rfl
 ·obtain⟨n,hn,rfl⟩:=dK.1 hy;rw[hc,eM] at hx;subst hx;exact hd n hn
end
theorem ig{a:Int}(h1:0<=a)(h2:a<18446744073709551616):IntKind.wrap .u64 a=a:=by
 simp only[IntKind.wrap,IntKind.bits,IntKind.signed];simp;omega
theorem uV{a:Int}:IntKind.wrap .u8 a=a%256:=by
 simp only[IntKind.wrap,IntKind.bits,IntKind.signed];simp
theorem pr{k:IntKind}{a:Nat}(h:a<2^k.bits):(BitVec.ofInt k.bits (a:Int)).toNat=a:=by
 rw[BitVec.toNat_ofInt];have:((2^k.bits:Nat):Int)=(2:Int)^k.bits:=by simp
 rw[Int.emod_eq_of_lt (by omega) (by omega)];simp
theorem HU{k:IntKind}{a b:Nat}{tb tf:Bool}(ha:a<2^(k.bits-1))(hb:b<2^(k.bits-1)):bm .and tb tf (.int k a) (.int k b)=some (.int k ((a &&& b:Nat):Int)):=by
 have h1:2^(k.bits-1)<=2^k.bits:=Nat.pow_le_pow_right (by omega) (by omega)
 have h2:(BitVec.ofInt k.bits (a:Int) &&& BitVec.ofInt k.bits (b:Int)).toNat=a &&& b:=by
  rw[BitVec.toNat_and,pr (by omega),pr (by omega)]
 show(if (k=k) then eg .and k a b else none)=_;rw[if_pos rfl];simp only[eg,h2];have h3:a &&& b<2^(k.bits-1):=Nat.lt_of_le_of_lt Nat.and_le_left ha
 congr 2
 generalize a &&& b=c at h3;cases k<;>(simp only[IntKind.bits,IntKind.wrap,IntKind.signed] at h3 |-;simp at h3 |-;omega)
theorem Kl{k:IntKind}{a b:Nat}{tb tf:Bool}(ha:a<2^(k.bits-1))(hb:b<2^(k.bits-1)):bm .or tb tf (.int k a) (.int k b)=some (.int k ((a ||| b:Nat):Int)):=by
 have h1:2^(k.bits-1)<=2^k.bits:=Nat.pow_le_pow_right (by omega) (by omega)
 have h2:(BitVec.ofInt k.bits (a:Int) ||| BitVec.ofInt k.bits (b:Int)).toNat=a ||| b:=by
  rw[BitVec.toNat_or,pr (by omega),pr (by omega)]
 show(if (k=k) then eg .or k a b else none)=_;rw[if_pos rfl];simp only[eg,h2];have h3:a ||| b<2^(k.bits-1):=Nat.or_lt_two_pow ha hb
 congr 2
 generalize a ||| b=c at h3;cases k<;>(simp only[IntKind.bits,IntKind.wrap,IntKind.signed] at h3 |-;simp at h3 |-;omega)
theorem xA{k:IntKind}{a b:Nat}{tb tf:Bool}{k':IntKind}(hb:b<=k.bits):bm .shr tb tf (.int k a) (.int k' b)=some (.int k ((a/2^b:Nat):Int)):=by
 have h:¬((b:Int)<0):=by omega
 simp only[bm,mO,h,if_false,or_true,if_true,bQ,Nat.min_eq_left hb]
 congr 2
 rw[Int.fdiv_eq_ediv_of_nonneg _ (Int.le_of_lt (Int.pow_pos (by omega)))];simp
theorem Hz{k:IntKind}{a b:Nat}{tb tf:Bool}{k':IntKind}(hb:b<=k.bits)(h:a*2^b<2^(k.bits-1)):bm .shl tb tf (.int k a) (.int k' b)=some (.int k ((a*2^b:Nat):Int)):=by
 have h0:¬((b:Int)<0):=by omega
 simp only[bm,mO,h0,if_false,true_or,if_true,bQ,Nat.min_eq_left hb]
 congr 2
 have e:(a:Int)*2^b=((a*2^b:Nat):Int):=by simp
 rw[e];generalize a*2^b=c at h;cases k<;>(simp only[IntKind.bits,IntKind.wrap,IntKind.signed] at h |-;simp at h |-;omega)
theorem FR{n k:Nat}:n &&& (2^k-1)=n%2^k:=Nat.and_two_pow_sub_one_eq_mod n k
theorem xJ{k:IntKind}{a b:Int}{tb tf:Bool}(ha:0<=a)(hb:0<b):bm .rem tb tf (.int k a) (.int k b)=some (.int k (a%b)):=by
 show(if (k=k) then eg .rem k a b else none)=_;rw[if_pos rfl];simp only[eg,if_neg (show ¬b=0 by omega),Int.tmod_eq_emod_of_nonneg ha]
theorem pP{a b:Int}{tb tf:Bool}(ha:0<=a)(h2:a<=9223372036854775807)(hb:0<b):bm .quo tb tf (.int .i64 a) (.int .i64 b)=some (.int .i64 (a/b)):=by
 show(if (IntKind.i64=IntKind.i64) then eg .quo .i64 a b else none)=_;rw[if_pos rfl];have h3:0<=a/b:=Int.ediv_nonneg ha (by omega);have h4:a/b<=a:=Int.ediv_le_self _ ha;simp only[eg,if_neg (show ¬b=0 by omega),Int.tdiv_eq_ediv_of_nonneg ha];rw[iU (by omega) (by omega)]
theorem a7{P:Program}{T:Tm}{H:Hp}{nx:Nat}{K:SP}{l:List Op2}{d:Option Nat}{f:Opd}{args:List Opd}{g:FuncId}{caps xs:List AV}{R:AV->Hp->Nat->Prop}(hf:ov T f=.func g caps)(ha:args.map (ov T)++caps=xs)(hc:Fn P g xs H nx R)
    (k:∀r H' nx',R r H' nx'->ai P .text l (aN T d r) H' nx' K):ai P .text (⟨d,none,.call f args⟩::l) T H nx K:=by
 subst ha;exact Br hf (Fn.mono hc k)
def fq(l:List UInt8):AV:=.str ⟨l.toArray⟩
theorem ea(l:List UInt8):Dat (fq l):=.str
instance datI_encS{l:List UInt8}:DatI (fq l):=⟨ea l⟩
theorem nZ{H:Hp}{b n sz off ld ls m k:Nat}{s:AV}{cs new:List AV}(hd:fv s=some ls)(hm:min ls ld=m)(h0:m≠0)(hb:H b=some cs)(hn:cs.length=n)(hs:eU sz H (zb m s)=some (k,new))(hf:off+m*sz<=n)(ho:AV.ones new=true):
    pF sz (.msl b n sz off ld) s H=some (m,ar H b (bE cs off new)):=by
 simp only[pF,fv] at hd |-;rw[hd];simp only[hm,h0,if_false,hb,hs];rw[if_pos ⟨hn,trivial,hf,ho⟩]
end Go.Abs
namespace Go.Abs
open Go.RowKit
variable{P:Program}{T:Tm}{H:Hp}{nx:Nat}
theorem aI{a b:Prop}(x:a)(y:b):a/\b:=⟨x,y⟩
theorem ev0{α:Type}{a b:α}(h:a=b:=by(try simp only[bN,ZA,Nat.reduceEqDiff,↓reduceIte,Nat.reduceAdd,Nat.reduceLeDiff]);(try with_reducible rfl);first|done|fail):a=b:=h
theorem evZ{α:Type}{a b:α}(h:a=b:=by(try simp only[bN,ZA,Nat.reduceEqDiff,↓reduceIte,Nat.reduceAdd,Nat.reduceLeDiff,zz]);(try with_reducible rfl);first|done|fail):a=b:=h
theorem evY{α:Type}{a b:α}(h:a=b:=by(try simp (disch:=omega) only[cK,ZA,Nat.reduceEqDiff,↓reduceIte,Nat.reduceAdd,Nat.reduceLeDiff,zz]);(try with_reducible rfl);first|done|fail):a=b:=h
theorem ag0{T:Tm}{l:List (Nat×AV)}(h:agr T l:=by simp (disch:=omega) only[agr,ZG,Nat.reduceEqDiff,↓reduceIte];first|done|fail):agr T l:=h
theorem agZ{T:Tm}{l:List (Nat×AV)}(h:agr T l:=by simp (disch:=omega) only[agr,ZG,Nat.reduceEqDiff,↓reduceIte,zz];first|done|fail):agr T l:=h
theorem vZ{dm:DM}{K:SP}{l:List Op2}{d:Option Nat}{i:Ins}{r:AV}(k:ai P dm l (aN T d r) H nx K)(hi:ic i=.val:=by rfl)(hd:dm2 dm T i=true:=by rfl)(h:bW T H i=some r:=by(try simp (disch:=omega) only[bN,ZA,Nat.reduceEqDiff,↓reduceIte,Nat.reduceAdd,Nat.reduceLeDiff,ZV,reduceCtorEq,zz]);first|with_reducible rfl|(apply Ci;(focus omega);with_reducible rfl)):ai P dm (⟨d,none,i⟩::l) T H nx K:=oE hi hd h k
theorem nvZ{S:Hp}{K:SP}{l:List (Op2×Nat)}{d:Option Nat}{i:Ins}{r:AV}(k:bv P S l (aN T d r) H nx K)(h:bW T S i=some r:=by(try simp (disch:=omega) only[bN,ZA,Nat.reduceEqDiff,↓reduceIte,Nat.reduceAdd,Nat.reduceLeDiff,ZV,reduceCtorEq,zz]);first|with_reducible rfl|(apply Ci;(focus omega);with_reducible rfl)):bv P S ((⟨d,none,i⟩,0)::l) T H nx K:=IQ h k
theorem cZ{dm:DM}{K:SP}{l:List Op2}{d:Option Nat}{f:Opd}{args:List Opd}{g:FuncId}{caps xs:List AV}{r:AV}(k:ai P dm l (aN T d r) H nx K)(hf:ov T f=.func g caps:=by(try simp only[bN,ZA,Nat.reduceEqDiff,↓reduceIte,Nat.reduceAdd,Nat.reduceLeDiff,zz]);(try with_reducible rfl);first|done|fail)(ha:args.map (ov T)++caps=xs:=by(try simp only[bN,ZA,Nat.reduceEqDiff,↓reduceIte,Nat.reduceAdd,Nat.reduceLeDiff,zz]);(try with_reducible rfl);first|done|fail)(hp:Pure P g xs r)(hs:ak H xs xs r:=by(first|refine aC ?_ rfl|apply aQ);(repeat' (first|exact aj|apply bB|(apply a8;(focus with_reducible assumption))));first|done|fail):ai P dm (⟨d,none,.call f args⟩::l) T H nx K:=CK hf ha hp hs k
theorem alZ{dm:DM}{K:SP}{l:List Op2}{d:Option Nat}{z:AV}{cs:List AV}(k:ai P dm l (aN T d (.ptr nx cs.length 0)) (ar H nx cs) (nx+1) K)(hd:dm2 dm T (.alloc z)=true:=by rfl)(hc:z.cells=cs:=by(try simp only[bN,ZA,Nat.reduceEqDiff,↓reduceIte,Nat.reduceAdd,Nat.reduceLeDiff,zz]);(try with_reducible rfl);first|done|fail)(ho:AV.ones cs=true:=by simp only[SO,Bool.and_self,e7,d5,zz];first|done|fail):ai P dm (⟨d,none,.alloc z⟩::l) T H nx K:=B9 hd hc ho k
theorem bxZ{dm:DM}{K:SP}{l:List Op2}{d:Option Nat}{x:Opd}{v:AV}{cs:List AV}(k:ai P dm l (aN T d (.ptr nx cs.length 0)) (ar H nx cs) (nx+1) K)(hd:dm2 dm T (.box x)=true:=by rfl)(hx:ov T x=v:=by(try simp only[bN,ZA,Nat.reduceEqDiff,↓reduceIte,Nat.reduceAdd,Nat.reduceLeDiff,zz]);(try with_reducible rfl);first|done|fail)(hc:v.cells=cs:=by(try simp only[bN,ZA,Nat.reduceEqDiff,↓reduceIte,Nat.reduceAdd,Nat.reduceLeDiff,zz]);(try with_reducible rfl);first|done|fail)(ho:AV.ones cs=true:=by simp only[SO,Bool.and_self,e7,d5,zz];first|done|fail):ai P dm (⟨d,none,.box x⟩::l) T H nx K:=IM hd hx hc ho k
theorem stZ{dm:DM}{K:SP}{l:List Op2}{d:Option Nat}{sz:Nat}{p x:Opd}{b n off:Nat}{v:AV}{cs vs:List AV}(k:ai P dm l (aN T d (.tup [])) (ar H b (bE cs off vs)) nx K)(hd:dm2 dm T (.st sz p x)=true:=by rfl)(hp:ov T p=.ptr b n off:=by(try simp only[bN,ZA,Nat.reduceEqDiff,↓reduceIte,Nat.reduceAdd,Nat.reduceLeDiff,zz]);(try with_reducible rfl);first|done|fail)(hx:ov T x=v:=by(try simp only[bN,ZA,Nat.reduceEqDiff,↓reduceIte,Nat.reduceAdd,Nat.reduceLeDiff,zz]);(try with_reducible rfl);first|done|fail)(hb:H b=some cs:=by(try simp only[bN,ZA,Nat.reduceEqDiff,↓reduceIte,Nat.reduceAdd,Nat.reduceLeDiff,zz]);(try with_reducible rfl);first|done|fail)(hc:v.cells=vs:=by(try simp only[bN,ZA,Nat.reduceEqDiff,↓reduceIte,Nat.reduceAdd,Nat.reduceLeDiff,zz]);(try with_reducible rfl);first|done|fail)(ho:AV.ones vs=true:=by simp only[SO,Bool.and_self,e7,d5,zz];first|done|fail)(hn:cs.length=n:=by(try simp only[SL,Nat.reduceAdd,Nat.reduceMul,bD]);first|done|omega)(hl:vs.length=sz:=by(try simp only[SL,Nat.reduceAdd,Nat.reduceMul,bD]);first|done|omega)(hf:off+sz<=n:=by(try simp only[SL,Nat.reduceAdd,Nat.reduceMul,bD]);first|done|omega):ai P dm (⟨d,none,.st sz p x⟩::l) T H nx K:=lm hd hp hx hb hc ho hn hl hf k
theorem blZ{dm:DM}{K:SP}{l:List Op2}{d:Option Nat}{sz len:Nat}{z:List AV}{parts:List (Nat×Nat×Opd)}{pv:List (Nat×Nat×AV)}{cs:List AV}(k:ai P dm l (aN T d (.msl nx cs.length sz 0 len)) (ar H nx cs) (nx+1) K)(hd:dm2 dm T (.bldS sz len z parts)=true:=by rfl)(hl:len≠0:=by exact Nat.succ_ne_zero _)(hp:parts.map (λp=>(p.1,p.2.1,ov T p.2.2))=pv:=by(try simp only[bN,ZA,Nat.reduceEqDiff,↓reduceIte,Nat.reduceAdd,Nat.reduceLeDiff,zz]);(try with_reducible rfl);first|done|fail)(hc:ff (bt (.agg z) len) pv=some cs:=by(try simp only[bN,ZA,Nat.reduceEqDiff,↓reduceIte,Nat.reduceAdd,Nat.reduceLeDiff,SO,Bool.and_self,e7,d5,zz]);(try with_reducible rfl);first|done|fail):ai P dm (⟨d,none,.bldS sz len z parts⟩::l) T H nx K:=IA hd hl hp hc k
theorem b0Z{dm:DM}{K:SP}{l:List Op2}{d:Option Nat}{sz:Nat}{z:List AV}(k:ai P dm l (aN T d .esl) H nx K)(hd:dm2 dm T (.bldS sz 0 z [])=true:=by rfl):ai P dm (⟨d,none,.bldS sz 0 z []⟩::l) T H nx K:=E9 hd k
theorem a0Z{dm:DM}{K:SP}{l:List Op2}{d:Option Nat}{sz bytes n:Nat}{s x:Opd}{v:AV}{new:List AV}(k:ai P dm l (aN T d (.msl nx (n*sz) sz 0 n)) (ar H nx new) (nx+1) K)(hd:dm2 dm T (.app sz bytes s x)=true:=by rfl)(hs:ov T s=.esl:=by(try simp only[bN,ZA,Nat.reduceEqDiff,↓reduceIte,Nat.reduceAdd,Nat.reduceLeDiff,zz]);(try with_reducible rfl);first|done|fail)(hx:ov T x=v:=by(try simp only[bN,ZA,Nat.reduceEqDiff,↓reduceIte,Nat.reduceAdd,Nat.reduceLeDiff,zz]);(try with_reducible rfl);first|done|fail)(hsrc:eU sz H v=some (n,new):=by first|exact nT|exact lS|exact pE|(apply eY;(focus ((try simp only[bN,ZA,Nat.reduceEqDiff,↓reduceIte,Nat.reduceAdd,Nat.reduceLeDiff,zz]);(try with_reducible rfl);first|done|fail));(iterate 2 (focus ((try simp only[SL,Nat.reduceAdd,Nat.reduceMul,bD]);first|done|omega))))|exact iY)(ho:AV.ones new=true:=by first|exact lj|exact nG|(simp only[SO,Bool.and_self,e7,d5,zz];first|done|fail))(h1:n*bytes<=140737488355328:=by(try simp only[SL,Nat.reduceAdd,Nat.reduceMul,bD]);first|done|omega)(h2:n<=9223372036854775807:=by(try simp only[SL,Nat.reduceAdd,Nat.reduceMul,bD]);first|done|omega):ai P dm (⟨d,none,.app sz bytes s x⟩::l) T H nx K:=iq hd hs hx hsrc ho h1 h2 k
theorem apZ{dm:DM}{K:SP}{l:List Op2}{d:Option Nat}{sz bytes n:Nat}{s x:Opd}{v:AV}{new cs:List AV}{b m len:Nat}(k:ai P dm l (aN T d (.msl b ((len+n)*sz) sz 0 (len+n))) (ar H b (cs++new)) nx K)(hd:dm2 dm T (.app sz bytes s x)=true:=by rfl)(hs:ov T s=.msl b m sz 0 len:=by(try simp only[bN,ZA,Nat.reduceEqDiff,↓reduceIte,Nat.reduceAdd,Nat.reduceLeDiff,zz]);(try with_reducible rfl);first|done|fail)(hb:H b=some cs:=by(try simp only[bN,ZA,Nat.reduceEqDiff,↓reduceIte,Nat.reduceAdd,Nat.reduceLeDiff,zz]);(try with_reducible rfl);first|done|fail)(hx:ov T x=v:=by(try simp only[bN,ZA,Nat.reduceEqDiff,↓reduceIte,Nat.reduceAdd,Nat.reduceLeDiff,zz]);(try with_reducible rfl);first|done|fail)(hsrc:eU sz H v=some (n,new):=by first|exact nT|exact lS|exact pE|(apply eY;(focus ((try simp only[bN,ZA,Nat.reduceEqDiff,↓reduceIte,Nat.reduceAdd,Nat.reduceLeDiff,zz]);(try with_reducible rfl);first|done|fail));(iterate 2 (focus ((try simp only[SL,Nat.reduceAdd,Nat.reduceMul,bD]);first|done|omega))))|exact iY)(ho:AV.ones new=true:=by first|exact lj|exact nG|(simp only[SO,Bool.and_self,e7,d5,zz];first|done|fail))(hm:cs.length=m:=by(try simp only[SL,Nat.reduceAdd,Nat.reduceMul,bD]);first|done|omega)(hl:m=len*sz:=by(try simp only[SL,Nat.reduceAdd,Nat.reduceMul,bD]);first|done|omega)(h1:(len+n)*bytes<=140737488355328:=by(try simp only[SL,Nat.reduceAdd,Nat.reduceMul,bD]);first|done|omega)(h2:len+n<=9223372036854775807:=by(try simp only[SL,Nat.reduceAdd,Nat.reduceMul,bD]);first|done|omega):ai P dm (⟨d,none,.app sz bytes s x⟩::l) T H nx K:=Gp hd hs hb hx hsrc ho hm hl h1 h2 k
theorem gTZ{dm:DM}{K:SP}{l:List Op2}{d:Option Nat}{i:Ins}{t:Nat}{w:Bool}(k:ai P dm (⟨d,none,i⟩::l) T H nx K)(h:T t=.bool w:=by simp only[bN,ZA,Nat.reduceEqDiff,↓reduceIte,Nat.reduceAdd,Nat.reduceLeDiff,zz];first|done|fail):ai P dm (⟨d,some (t,w),i⟩::l) T H nx K:=Ka h k
theorem gFZ{dm:DM}{K:SP}{l:List Op2}{d:Option Nat}{i:Ins}{t:Nat}{w:Bool}(k:ai P dm l (aN T d (.tup [])) H nx K)(h:T t=.bool (!w)\/T t=.tup []:=by simp only[bN,ZA,Nat.reduceEqDiff,↓reduceIte,Nat.reduceAdd,Nat.reduceLeDiff,or_true,true_or,zz];first|done|fail):ai P dm (⟨d,some (t,w),i⟩::l) T H nx K:=KQ h k
theorem cTZ{K:CP}{c:Opd}{x y:C2}(h1:aE P x T H nx K)(hc:ov T c=.bool true:=by simp only[bN,ZA,Nat.reduceEqDiff,↓reduceIte,Nat.reduceAdd,Nat.reduceLeDiff,zz];first|done|fail):aE P (.cond c x y) T H nx K:=Cl hc h1
theorem cFZ{K:CP}{c:Opd}{x y:C2}(h2:aE P y T H nx K)(hc:ov T c=.bool false:=by simp only[bN,ZA,Nat.reduceEqDiff,↓reduceIte,Nat.reduceAdd,Nat.reduceLeDiff,zz];first|done|fail):aE P (.cond c x y) T H nx K:=CL hc h2
theorem r1Z{K:AV->Prop}{a:RV}{x:AV}(h:K x)(ha:rv T H a=some x:=by simp only[rv,bN,ZA,Nat.reduceEqDiff,↓reduceIte,Nat.reduceAdd,Nat.reduceLeDiff,zz];with_reducible rfl):bn T H K [a]:=r_1 ha h
theorem r2Z{K:AV->Prop}{a b:RV}{x y:AV}(h:K (.tup [x,y]))(ha:rv T H a=some x:=by simp only[rv,bN,ZA,Nat.reduceEqDiff,↓reduceIte,Nat.reduceAdd,Nat.reduceLeDiff,zz];with_reducible rfl)(hb:rv T H b=some y:=by simp only[rv,bN,ZA,Nat.reduceEqDiff,↓reduceIte,Nat.reduceAdd,Nat.reduceLeDiff,zz];with_reducible rfl):bn T H K [a,b]:=r_2 ha hb h
theorem r3Z{K:AV->Prop}{a b c:RV}{x y z:AV}(h:K (.tup [x,y,z]))(ha:rv T H a=some x:=by simp only[rv,bN,ZA,Nat.reduceEqDiff,↓reduceIte,Nat.reduceAdd,Nat.reduceLeDiff,zz];with_reducible rfl)(hb:rv T H b=some y:=by simp only[rv,bN,ZA,Nat.reduceEqDiff,↓reduceIte,Nat.reduceAdd,Nat.reduceLeDiff,zz];with_reducible rfl)(hc:rv T H c=some z:=by simp only[rv,bN,ZA,Nat.reduceEqDiff,↓reduceIte,Nat.reduceAdd,Nat.reduceLeDiff,zz];with_reducible rfl):bn T H K [a,b,c]:=r_3 ha hb hc h
theorem r5Z{K:AV->Prop}{a b c d e:RV}{x y z u v:AV}(h:K (.tup [x,y,z,u,v]))(ha:rv T H a=some x:=by simp only[rv,bN,ZA,Nat.reduceEqDiff,↓reduceIte,Nat.reduceAdd,Nat.reduceLeDiff,zz];with_reducible rfl)(hb:rv T H b=some y:=by simp only[rv,bN,ZA,Nat.reduceEqDiff,↓reduceIte,Nat.reduceAdd,Nat.reduceLeDiff,zz];with_reducible rfl)(hc:rv T H c=some z:=by simp only[rv,bN,ZA,Nat.reduceEqDiff,↓reduceIte,Nat.reduceAdd,Nat.reduceLeDiff,zz];with_reducible rfl)(hd:rv T H d=some u:=by simp only[rv,bN,ZA,Nat.reduceEqDiff,↓reduceIte,Nat.reduceAdd,Nat.reduceLeDiff,zz];with_reducible rfl)(he:rv T H e=some v:=by simp only[rv,bN,ZA,Nat.reduceEqDiff,↓reduceIte,Nat.reduceAdd,Nat.reduceLeDiff,zz];with_reducible rfl):bn T H K [a,b,c,d,e]:=r_5 ha hb hc hd he h
theorem vY{dm:DM}{K:SP}{l:List Op2}{d:Option Nat}{i:Ins}{r:AV}(k:ai P dm l (aN T d r) H nx K)(hi:ic i=.val:=by rfl)(hd:dm2 dm T i=true:=by first|rfl|(simp (disch:=omega) only[dm2,su,vI,cK,ZA,Nat.reduceEqDiff,↓reduceIte,Nat.reduceAdd,Nat.reduceLeDiff,zz,gr];first|done|omega))(h:bW T H i=some r:=by(try simp (disch:=omega) only[cK,ZA,Nat.reduceEqDiff,↓reduceIte,Nat.reduceAdd,Nat.reduceLeDiff,ZV,reduceCtorEq,zz]);first|with_reducible rfl|(apply Ci;(focus omega);with_reducible rfl)):ai P dm (⟨d,none,i⟩::l) T H nx K:=oE hi hd h k
theorem nvY{S:Hp}{K:SP}{l:List (Op2×Nat)}{d:Option Nat}{i:Ins}{r:AV}(k:bv P S l (aN T d r) H nx K)(h:bW T S i=some r:=by(try simp (disch:=omega) only[cK,ZA,Nat.reduceEqDiff,↓reduceIte,Nat.reduceAdd,Nat.reduceLeDiff,ZV,reduceCtorEq,zz]);first|with_reducible rfl|(apply Ci;(focus omega);with_reducible rfl)):bv P S ((⟨d,none,i⟩,0)::l) T H nx K:=IQ h k
theorem cY{dm:DM}{K:SP}{l:List Op2}{d:Option Nat}{f:Opd}{args:List Opd}{g:FuncId}{caps xs:List AV}{r:AV}(k:ai P dm l (aN T d r) H nx K)(hf:ov T f=.func g caps:=by(try simp (disch:=omega) only[cK,ZA,Nat.reduceEqDiff,↓reduceIte,Nat.reduceAdd,Nat.reduceLeDiff,zz]);(try with_reducible rfl);first|done|fail)(ha:args.map (ov T)++caps=xs:=by(try simp (disch:=omega) only[cK,ZA,Nat.reduceEqDiff,↓reduceIte,Nat.reduceAdd,Nat.reduceLeDiff,zz]);(try with_reducible rfl);first|done|fail)(hp:Pure P g xs r)(hs:ak H xs xs r:=by(first|refine aC ?_ rfl|apply aQ);(repeat' (first|exact aj|apply bB|(apply a8;(focus with_reducible assumption))));first|done|fail):ai P dm (⟨d,none,.call f args⟩::l) T H nx K:=CK hf ha hp hs k
theorem alY{dm:DM}{K:SP}{l:List Op2}{d:Option Nat}{z:AV}{cs:List AV}(k:ai P dm l (aN T d (.ptr nx cs.length 0)) (ar H nx cs) (nx+1) K)(hd:dm2 dm T (.alloc z)=true:=by first|rfl|(simp (disch:=omega) only[dm2,su,vI,cK,ZA,Nat.reduceEqDiff,↓reduceIte,Nat.reduceAdd,Nat.reduceLeDiff,zz,gr];first|done|omega))(hc:z.cells=cs:=by(try simp (disch:=omega) only[cK,ZA,Nat.reduceEqDiff,↓reduceIte,Nat.reduceAdd,Nat.reduceLeDiff,zz]);(try with_reducible rfl);first|done|fail)(ho:AV.ones cs=true:=by simp (disch:=omega) only[SO,Bool.and_self,e7,d5,zz];first|done|fail):ai P dm (⟨d,none,.alloc z⟩::l) T H nx K:=B9 hd hc ho k
theorem bxY{dm:DM}{K:SP}{l:List Op2}{d:Option Nat}{x:Opd}{v:AV}{cs:List AV}(k:ai P dm l (aN T d (.ptr nx cs.length 0)) (ar H nx cs) (nx+1) K)(hd:dm2 dm T (.box x)=true:=by first|rfl|(simp (disch:=omega) only[dm2,su,vI,cK,ZA,Nat.reduceEqDiff,↓reduceIte,Nat.reduceAdd,Nat.reduceLeDiff,zz,gr];first|done|omega))(hx:ov T x=v:=by(try simp (disch:=omega) only[cK,ZA,Nat.reduceEqDiff,↓reduceIte,Nat.reduceAdd,Nat.reduceLeDiff,zz]);(try with_reducible rfl);first|done|fail)(hc:v.cells=cs:=by(try simp (disch:=omega) only[cK,ZA,Nat.reduceEqDiff,↓reduceIte,Nat.reduceAdd,Nat.reduceLeDiff,zz]);(try with_reducible rfl);first|done|fail)(ho:AV.ones cs=true:=by simp (disch:=omega) only[SO,Bool.and_self,e7,d5,zz];first|done|fail):ai P dm (⟨d,none,.box x⟩::l) T H nx K:=IM hd hx hc ho k
theorem stY{dm:DM}{K:SP}{l:List Op2}{d:Option Nat}{sz:Nat}{p x:Opd}{b n off:Nat}{v:AV}{cs vs:List AV}(k:ai P dm l (aN T d (.tup [])) (ar H b (bE cs off vs)) nx K)(hd:dm2 dm T (.st sz p x)=true:=by first|rfl|(simp (disch:=omega) only[dm2,su,vI,cK,ZA,Nat.reduceEqDiff,↓reduceIte,Nat.reduceAdd,Nat.reduceLeDiff,zz,gr];first|done|omega))(hp:ov T p=.ptr b n off:=by(try simp (disch:=omega) only[cK,ZA,Nat.reduceEqDiff,↓reduceIte,Nat.reduceAdd,Nat.reduceLeDiff,zz]);(try with_reducible rfl);first|done|fail)(hx:ov T x=v:=by(try simp (disch:=omega) only[cK,ZA,Nat.reduceEqDiff,↓reduceIte,Nat.reduceAdd,Nat.reduceLeDiff,zz]);(try with_reducible rfl);first|done|fail)(hb:H b=some cs:=by(try simp (disch:=omega) only[cK,ZA,Nat.reduceEqDiff,↓reduceIte,Nat.reduceAdd,Nat.reduceLeDiff,zz]);(try with_reducible rfl);first|done|fail)(hc:v.cells=vs:=by(try simp (disch:=omega) only[cK,ZA,Nat.reduceEqDiff,↓reduceIte,Nat.reduceAdd,Nat.reduceLeDiff,zz]);(try with_reducible rfl);first|done|fail)(ho:AV.ones vs=true:=by simp (disch:=omega) only[SO,Bool.and_self,e7,d5,zz];first|done|fail)(hn:cs.length=n:=by(try simp only[SL,Nat.reduceAdd,Nat.reduceMul,bD]);first|done|omega)(hl:vs.length=sz:=by(try simp only[SL,Nat.reduceAdd,Nat.reduceMul,bD]);first|done|omega)(hf:off+sz<=n:=by(try simp only[SL,Nat.reduceAdd,Nat.reduceMul,bD]);first|done|omega):ai P dm (⟨d,none,.st sz p x⟩::l) T H nx K:=lm hd hp hx hb hc ho hn hl hf k
theorem blY{dm:DM}{K:SP}{l:List Op2}{d:Option Nat}{sz len:Nat}{z:List AV}{parts:List (Nat×Nat×Opd)}{pv:List (Nat×Nat×AV)}{cs:List AV}(k:ai P dm l (aN T d (.msl nx cs.length sz 0 len)) (ar H nx cs) (nx+1) K)(hd:dm2 dm T (.bldS sz len z parts)=true:=by first|rfl|(simp (disch:=omega) only[dm2,su,vI,cK,ZA,Nat.reduceEqDiff,↓reduceIte,Nat.reduceAdd,Nat.reduceLeDiff,zz,gr];first|done|omega))(hl:len≠0:=by exact Nat.succ_ne_zero _)(hp:parts.map (λp=>(p.1,p.2.1,ov T p.2.2))=pv:=by(try simp (disch:=omega) only[cK,ZA,Nat.reduceEqDiff,↓reduceIte,Nat.reduceAdd,Nat.reduceLeDiff,zz]);(try with_reducible rfl);first|done|fail)(hc:ff (bt (.agg z) len) pv=some cs:=by(try simp (disch:=omega) only[cK,ZA,Nat.reduceEqDiff,↓reduceIte,Nat.reduceAdd,Nat.reduceLeDiff,SO,Bool.and_self,e7,d5,zz]);(try with_reducible rfl);first|done|fail):ai P dm (⟨d,none,.bldS sz len z parts⟩::l) T H nx K:=IA hd hl hp hc k
theorem b0Y{dm:DM}{K:SP}{l:List Op2}{d:Option Nat}{sz:Nat}{z:List AV}(k:ai P dm l (aN T d .esl) H nx K)(hd:dm2 dm T (.bldS sz 0 z [])=true:=by first|rfl|(simp (disch:=omega) only[dm2,su,vI,cK,ZA,Nat.reduceEqDiff,↓reduceIte,Nat.reduceAdd,Nat.reduceLeDiff,zz,gr];first|done|omega)):ai P dm (⟨d,none,.bldS sz 0 z []⟩::l) T H nx K:=E9 hd k
theorem a0Y{dm:DM}{K:SP}{l:List Op2}{d:Option Nat}{sz bytes n:Nat}{s x:Opd}{v:AV}{new:List AV}(k:ai P dm l (aN T d (.msl nx (n*sz) sz 0 n)) (ar H nx new) (nx+1) K)(hd:dm2 dm T (.app sz bytes s x)=true:=by first|rfl|(simp (disch:=omega) only[dm2,su,vI,cK,ZA,Nat.reduceEqDiff,↓reduceIte,Nat.reduceAdd,Nat.reduceLeDiff,zz,gr];first|done|omega))(hs:ov T s=.esl:=by(try simp (disch:=omega) only[cK,ZA,Nat.reduceEqDiff,↓reduceIte,Nat.reduceAdd,Nat.reduceLeDiff,zz]);(try with_reducible rfl);first|done|fail)(hx:ov T x=v:=by(try simp (disch:=omega) only[cK,ZA,Nat.reduceEqDiff,↓reduceIte,Nat.reduceAdd,Nat.reduceLeDiff,zz]);(try with_reducible rfl);first|done|fail)(hsrc:eU sz H v=some (n,new):=by first|exact nT|exact lS|exact pE|(apply eY;(focus ((try simp (disch:=omega) only[cK,ZA,Nat.reduceEqDiff,↓reduceIte,Nat.reduceAdd,Nat.reduceLeDiff,zz]);(try with_reducible rfl);first|done|fail));(iterate 2 (focus ((try simp only[SL,Nat.reduceAdd,Nat.reduceMul,bD]);first|done|omega))))|exact iY)(ho:AV.ones new=true:=by first|exact lj|exact nG|(simp only[SO,Bool.and_self,e7,d5,zz];first|done|fail))(h1:n*bytes<=140737488355328:=by(try simp only[SL,Nat.reduceAdd,Nat.reduceMul,bD]);first|done|omega)(h2:n<=9223372036854775807:=by(try simp only[SL,Nat.reduceAdd,Nat.reduceMul,bD]);first|done|omega):ai P dm (⟨d,none,.app sz bytes s x⟩::l) T H nx K:=iq hd hs hx hsrc ho h1 h2 k
theorem apY{dm:DM}{K:SP}{l:List Op2}{d:Option Nat}{sz bytes n:Nat}{s x:Opd}{v:AV}{new cs:List AV}{b m len:Nat}(k:ai P dm l (aN T d (.msl b ((len+n)*sz) sz 0 (len+n))) (ar H b (cs++new)) nx K)(hd:dm2 dm T (.app sz bytes s x)=true:=by first|rfl|(simp (disch:=omega) only[dm2,su,vI,cK,ZA,Nat.reduceEqDiff,↓reduceIte,Nat.reduceAdd,Nat.reduceLeDiff,zz,gr];first|done|omega))(hs:ov T s=.msl b m sz 0 len:=by(try simp (disch:=omega) only[cK,ZA,Nat.reduceEqDiff,↓reduceIte,Nat.reduceAdd,Nat.reduceLeDiff,zz]);(try with_reducible rfl);first|done|fail)(hb:H b=some cs:=by(try simp (disch:=omega) only[cK,ZA,Nat.reduceEqDiff,↓reduceIte,Nat.reduceAdd,Nat.reduceLeDiff,zz]);(try with_reducible rfl);first|done|fail)(hx:ov T x=v:=by(try simp (disch:=omega) only[cK,ZA,Nat.reduceEqDiff,↓reduceIte,Nat.reduceAdd,Nat.reduceLeDiff,zz]);(try with_reducible rfl);first|done|fail)(hsrc:eU sz H v=some (n,new):=by first|exact nT|exact lS|exact pE|(apply eY;(focus ((try simp (disch:=omega) only[cK,ZA,Nat.reduceEqDiff,↓reduceIte,Nat.reduceAdd,Nat.reduceLeDiff,zz]);(try with_reducible rfl);first|done|fail));(iterate 2 (focus ((try simp only[SL,Nat.reduceAdd,Nat.reduceMul,bD]);first|done|omega))))|exact iY)(ho:AV.ones new=true:=by first|exact lj|exact nG|(simp only[SO,Bool.and_self,e7,d5,zz];first|done|fail))(hm:cs.length=m:=by(try simp only[SL,Nat.reduceAdd,Nat.reduceMul,bD]);first|done|omega)(hl:m=len*sz:=by(try simp only[SL,Nat.reduceAdd,Nat.reduceMul,bD]);first|done|omega)(h1:(len+n)*bytes<=140737488355328:=by(try simp only[SL,Nat.reduceAdd,Nat.reduceMul,bD]);first|done|omega)(h2:len+n<=9223372036854775807:=by(try simp only[SL,Nat.reduceAdd,Nat.reduceMul,bD]);first|done|omega):ai P dm (⟨d,none,.app sz bytes s x⟩::l) T H nx K:=Gp hd hs hb hx hsrc ho hm hl h1 h2 k
theorem gTY{dm:DM}{K:SP}{l:List Op2}{d:Option Nat}{i:Ins}{t:Nat}{w:Bool}(k:ai P dm (⟨d,none,i⟩::l) T H nx K)(h:T t=.bool w:=by simp (disch:=omega) only[cK,ZA,Nat.reduceEqDiff,↓reduceIte,Nat.reduceAdd,Nat.reduceLeDiff,zz];first|done|fail):ai P dm (⟨d,some (t,w),i⟩::l) T H nx K:=Ka h k
theorem gFY{dm:DM}{K:SP}{l:List Op2}{d:Option Nat}{i:Ins}{t:Nat}{w:Bool}(k:ai P dm l (aN T d (.tup [])) H nx K)(h:T t=.bool (!w)\/T t=.tup []:=by simp (disch:=omega) only[cK,ZA,Nat.reduceEqDiff,↓reduceIte,Nat.reduceAdd,Nat.reduceLeDiff,or_true,true_or,zz];first|done|fail):ai P dm (⟨d,some (t,w),i⟩::l) T H nx K:=KQ h k
theorem cTY{K:CP}{c:Opd}{x y:C2}(h1:aE P x T H nx K)(hc:ov T c=.bool true:=by simp (disch:=omega) only[cK,ZA,Nat.reduceEqDiff,↓reduceIte,Nat.reduceAdd,Nat.reduceLeDiff,zz];first|done|fail):aE P (.cond c x y) T H nx K:=Cl hc h1
theorem cFY{K:CP}{c:Opd}{x y:C2}(h2:aE P y T H nx K)(hc:ov T c=.bool false:=by simp (disch:=omega) only[cK,ZA,Nat.reduceEqDiff,↓reduceIte,Nat.reduceAdd,Nat.reduceLeDiff,zz];first|done|fail):aE P (.cond c x y) T H nx K:=CL hc h2
theorem r1Y{K:AV->Prop}{a:RV}{x:AV}(h:K x)(ha:rv T H a=some x:=by simp (disch:=omega) only[rv,cK,ZA,Nat.reduceEqDiff,↓reduceIte,Nat.reduceAdd,Nat.reduceLeDiff,zz];with_reducible rfl):bn T H K [a]:=r_1 ha h
theorem r2Y{K:AV->Prop}{a b:RV}{x y:AV}(h:K (.tup [x,y]))(ha:rv T H a=some x:=by simp (disch:=omega) only[rv,cK,ZA,Nat.reduceEqDiff,↓reduceIte,Nat.reduceAdd,Nat.reduceLeDiff,zz];with_reducible rfl)(hb:rv T H b=some y:=by simp (disch:=omega) only[rv,cK,ZA,Nat.reduceEqDiff,↓reduceIte,Nat.reduceAdd,Nat.reduceLeDiff,zz];with_reducible rfl):bn T H K [a,b]:=r_2 ha hb h
theorem r3Y{K:AV->Prop}{a b c:RV}{x y z:AV}(h:K (.tup [x,y,z]))(ha:rv T H a=some x:=by simp (disch:=omega) only[rv,cK,ZA,Nat.reduceEqDiff,↓reduceIte,Nat.reduceAdd,Nat.reduceLeDiff,zz];with_reducible rfl)(hb:rv T H b=some y:=by simp (disch:=omega) only[rv,cK,ZA,Nat.reduceEqDiff,↓reduceIte,Nat.reduceAdd,Nat.reduceLeDiff,zz];with_reducible rfl)(hc:rv T H c=some z:=by simp (disch:=omega) only[rv,cK,ZA,Nat.reduceEqDiff,↓reduceIte,Nat.reduceAdd,Nat.reduceLeDiff,zz];with_reducible rfl):bn T H K [a,b,c]:=r_3 ha hb hc h
theorem r5Y{K:AV->Prop}{a b c d e:RV}{x y z u v:AV}(h:K (.tup [x,y,z,u,v]))(ha:rv T H a=some x:=by simp (disch:=omega) only[rv,cK,ZA,Nat.reduceEqDiff,↓reduceIte,Nat.reduceAdd,Nat.reduceLeDiff,zz];with_reducible rfl)(hb:rv T H b=some y:=by simp (disch:=omega) only[rv,cK,ZA,Nat.reduceEqDiff,↓reduceIte,Nat.reduceAdd,Nat.reduceLeDiff,zz];with_reducible rfl)(hc:rv T H c=some z:=by simp (disch:=omega) only[rv,cK,ZA,Nat.reduceEqDiff,↓reduceIte,Nat.reduceAdd,Nat.reduceLeDiff,zz];with_reducible rfl)(hd:rv T H d=some u:=by simp (disch:=omega) only[rv,cK,ZA,Nat.reduceEqDiff,↓reduceIte,Nat.reduceAdd,Nat.reduceLeDiff,zz];with_reducible rfl)(he:rv T H e=some v:=by simp (disch:=omega) only[rv,cK,ZA,Nat.reduceEqDiff,↓reduceIte,Nat.reduceAdd,Nat.reduceLeDiff,zz];with_reducible rfl):bn T H K [a,b,c,d,e]:=r_5 ha hb hc hd he h
class StW(A:Prop)(B:outParam Prop):Prop where st:B->A
class StO(A:Prop)(B:outParam Prop):Prop where st:B->A
class StM(A:Prop)(B:outParam Prop):Prop where st:B->A
theorem zW{A B:Prop}[i:StW A B](h:B):A:=i.st h
theorem zO{A B:Prop}[i:StO A B](h:B):A:=i.st h
theorem zM{A B:Prop}[i:StM A B](h:B):A:=i.st h
instance{K:CP}{x y:C2}:StW (aE P (.seq x y) T H nx K) (aE P x T H nx λe T H nx=>aJ e (aE P y T H nx K) (K e T H nx)):=⟨jw⟩
instance{K:CP}{i:Nat}{b:C2}:StW (aE P (.block i b) T H nx K) (aE P b T H nx λe T H nx=>K (mX i e) T H nx):=⟨lW⟩
instance{K:CP}{b:C2}:StW (aE P (.loop b) T H nx K) (aP (aE P b) T H nx K):=⟨JK⟩
instance{K:CP}:StO (aE P .skip T H nx K) (K .normal T H nx):=⟨JJ⟩
instance{K:CP}{i:Nat}:StO (aE P (.exit i) T H nx K) (K (.exit i) T H nx):=⟨JW⟩
instance{K:CP}:StO (aE P .ret T H nx K) (K .ret T H nx):=⟨Nf⟩
instance{K:CP}{l:List Op2}:StO (aE P (.ops 0 l) T H nx K) (ai P .text l T H nx λT H nx=>K .normal T H nx):=⟨JC⟩
instance{K:CP}{l:List Op2}:StO (aE P (.ops 1 l) T H nx K) (ai P .draw l T H nx λT H nx=>K .normal T H nx):=⟨Kx⟩
instance{K:CP}{l:List Op2}:StO (aE P (.ops 2 l) T H nx K) (ai P (.fresh nx) l T H nx λT H nx=>K .normal T H nx):=⟨Jr⟩
instance{K:CP}{l:List Op2}{C:List Nat}:StO (aE P (.mix 1 l C) T H nx K) (ai P .draw l T H nx λT H nx=>K .normal T H nx):=⟨uk⟩
instance{K:CP}{l:List Op2}{C:List Nat}:StO (aE P (.mix 2 l C) T H nx K) (ai P (.fresh nx) l T H nx λT H nx=>K .normal T H nx):=⟨xp⟩
instance{dm:DM}{K:SP}:StO (ai P dm [] T H nx K) (K T H nx):=⟨jg⟩
instance{S:Hp}{K:SP}:StO (bv P S [] T H nx K) (K T H nx):=⟨Lb⟩
instance{S:Hp}{K:SP}{l:List (Op2×Nat)}{d:Option Nat}{i:Ins}:StO (bv P S ((⟨d,none,i⟩,2)::l) T H nx K) (ai P .text [⟨d,none,i⟩] T H nx λT H nx=>bv P S l T H nx K):=⟨ga⟩
instance{K:AV->Prop}:StO (bn T H K []) (K (.tup [])):=⟨r_0⟩
instance{K:CP}{l:List Op2}{C:List (Nat×Nat)}:StM (aE P (.mixS 1 l C) T H nx K) (ai P .draw l T H nx λT H nx=>K .normal T H nx):=⟨Hw⟩
instance{K:CP}{l:List Op2}{C:List (Nat×Nat)}:StM (aE P (.mixS 2 l C) T H nx K) (ai P (.fresh nx) l T H nx λT H nx=>K .normal T H nx):=⟨G1⟩
class NZ(b w:Bool)(p q:outParam Prop):Prop where
 t:b=w->p
 f:b=!w->q
instance(priority:=10){b:Bool}:NZ b true (b=true) (b=false):=⟨id,id⟩
instance(priority:=10){b:Bool}:NZ b false (b=false) (b=true):=⟨id,id⟩
instance{p:Prop}{i:Decidable p}:NZ (decide p) true p (¬p):=⟨pG,of_decide_eq_false⟩
instance{p:Prop}{i:Decidable p}:NZ (decide p) false (¬p) p:=⟨of_decide_eq_false,pG⟩
instance(priority:=2000):NZ true true True False:=⟨λ_=>trivial,λh=>by cases h⟩
instance(priority:=2000):NZ true false False True:=⟨λh=>(by cases h),λ_=>trivial⟩
instance(priority:=2000):NZ false true False True:=⟨λh=>(by cases h),λ_=>trivial⟩
instance(priority:=2000):NZ false false True False:=⟨λ_=>trivial,λh=>by cases h⟩
instance(priority:=2000){i:Decidable True}:NZ (decide True) true True False:=⟨λ_=>trivial,λh=>of_decide_eq_false h trivial⟩
instance(priority:=2000){i:Decidable True}:NZ (decide True) false False True:=⟨λh=>of_decide_eq_false h trivial,λ_=>trivial⟩
instance(priority:=2000){i:Decidable False}:NZ (decide False) true False True:=⟨pG,λ_=>trivial⟩
instance(priority:=2000){i:Decidable False}:NZ (decide False) false True False:=⟨λ_=>trivial,pG⟩
instance{b w:Bool}{p q:Prop}[i:NZ b w p q]:NZ (!b) w q p:=⟨λh=>i.f (by cases b<;>cases w<;>simp_all),λh=>i.t (by cases b<;>cases w<;>simp_all)⟩
class StG(A:Prop)(v:outParam AV)(w:outParam Bool)(B C:outParam Prop):Prop where
 st:∀b:Bool,v=.bool b->(b=w->B)->(b=!w->C)->A
instance{K:CP}{c:Opd}{x y:C2}:StG (aE P (.cond c x y) T H nx K) (ov T c) true (aE P x T H nx K) (aE P y T H nx K):=⟨λ_ h k1 k2=>A0 h k1 k2⟩
instance{dm:DM}{K:SP}{l:List Op2}{d:Option Nat}{i:Ins}{t:Nat}:StG (ai P dm (⟨d,some (t,true),i⟩::l) T H nx K) (T t) true (ai P dm (⟨d,none,i⟩::l) (upd T t (.bool true)) H nx K) (ai P dm l (aN (upd T t (.bool false)) d (.tup [])) H nx K):=⟨λ_ h k1 k2=>Nd h k1 k2⟩
instance{dm:DM}{K:SP}{l:List Op2}{d:Option Nat}{i:Ins}{t:Nat}:StG (ai P dm (⟨d,some (t,false),i⟩::l) T H nx K) (T t) false (ai P dm (⟨d,none,i⟩::l) (upd T t (.bool false)) H nx K) (ai P dm l (aN (upd T t (.bool true)) d (.tup [])) H nx K):=⟨λ_ h k1 k2=>Nd h k1 k2⟩
theorem zGZ{A:Prop}{v:AV}{w b:Bool}{B C p q:Prop}[i:StG A v w B C][n:NZ b w p q](k1:p->B)(k2:q->C)(h:v=.bool b:=by(try simp only[bN,ZA,Nat.reduceEqDiff,↓reduceIte,Nat.reduceAdd,Nat.reduceLeDiff,zz]);(try with_reducible rfl);first|done|fail):A:=i.st b h (λh=>k1 (n.t h)) (λh=>k2 (n.f h))
theorem zGY{A:Prop}{v:AV}{w b:Bool}{B C p q:Prop}[i:StG A v w B C][n:NZ b w p q](k1:p->B)(k2:q->C)(h:v=.bool b:=by(try simp (disch:=omega) only[cK,ZA,Nat.reduceEqDiff,↓reduceIte,Nat.reduceAdd,Nat.reduceLeDiff,zz]);(try with_reducible rfl);first|done|fail):A:=i.st b h (λh=>k1 (n.t h)) (λh=>k2 (n.f h))
structure WkQ(B:Prop):Prop where
 q:B
class DatLI(l:List AV):Prop where
 d:∀x∈l,Dat x
instance:DatLI []:=⟨λ_ h=>(by cases h)⟩
instance{x:AV}{l:List AV}[h:DatI x][k:DatLI l]:DatLI (x::l):=⟨DatL.cons h.d k.d⟩
instance{l:List AV}[k:DatLI l]:DatI (.agg l):=⟨Dat.agg k.d⟩
instance{f:FuncId}{l:List AV}[k:DatLI l]:DatI (.func f l):=⟨Dat.func k.d⟩
instance{l:List AV}{n:Nat}[k:DatLI l]:DatI (.iptr l n):=⟨Dat.iptr k.d⟩
theorem wkZ{A B F:Prop}(zz:F)(k:B)(h:F->WkQ B->A:=by intro zz _q;(repeat' (first|refine zW ?_|refine zM ?_|apply a_n|apply a_x|apply a_r|refine zO ?_|refine vZ ?_|refine nvZ ?_|refine cZ ?_ (hp:=by assumption)|refine bxZ ?_|refine alZ ?_|refine blZ ?_|refine b0Z ?_|refine a0Z ?_|refine apZ ?_|refine stZ ?_|refine gTZ ?_|refine gFZ ?_|refine cTZ ?_|refine cFZ ?_|(refine zGZ ?_ ?_<;>(intro _hg;try (exfalso;omega)))|refine bk rfl ?_|refine r1Z ?_|refine r2Z ?_|refine r3Z ?_|refine r5Z ?_|refine xG rfl ?_|fail));first|(exact _q.q;done)|fail):A:=h zz ⟨k⟩
theorem wnZ{A B F:Prop}(zz:F)(k:B)(h:F->WkQ B->A:=by intro zz _q;(repeat' (first|refine zW ?_|apply a_n|apply a_x|apply a_r|refine zO ?_|refine vZ ?_|refine nvZ ?_|refine cZ ?_ (hp:=by assumption)|refine bxZ ?_|refine alZ ?_|refine blZ ?_|refine b0Z ?_|refine a0Z ?_|refine apZ ?_|refine stZ ?_|refine gTZ ?_|refine gFZ ?_|refine cTZ ?_|refine cFZ ?_|(refine zGZ ?_ ?_<;>(intro _hg;try (exfalso;omega)))|refine bk rfl ?_|refine r1Z ?_|refine r2Z ?_|refine r3Z ?_|refine r5Z ?_|refine xG rfl ?_|fail));first|(exact _q.q;done)|fail):A:=h zz ⟨k⟩
theorem wkY{A B F:Prop}(zz:F)(k:B)(h:F->WkQ B->A:=by intro zz _q;(repeat' (first|refine zW ?_|refine zM ?_|apply a_n|apply a_x|apply a_r|refine zO ?_|refine vY ?_|refine nvY ?_|refine cY ?_ (hp:=by assumption)|refine bxY ?_|refine alY ?_|refine blY ?_|refine b0Y ?_|refine a0Y ?_|refine apY ?_|refine stY ?_|refine gTY ?_|refine gFY ?_|refine cTY ?_|refine cFY ?_|(refine zGY ?_ ?_<;>(intro _hg;try (exfalso;omega)))|refine bk rfl ?_|refine r1Y ?_|refine r2Y ?_|refine r3Y ?_|refine r5Y ?_|refine xG rfl ?_|fail));first|(exact _q.q;done)|fail):A:=h zz ⟨k⟩
theorem wnY{A B F:Prop}(zz:F)(k:B)(h:F->WkQ B->A:=by intro zz _q;(repeat' (first|refine zW ?_|apply a_n|apply a_x|apply a_r|refine zO ?_|refine vY ?_|refine nvY ?_|refine cY ?_ (hp:=by assumption)|refine bxY ?_|refine alY ?_|refine blY ?_|refine b0Y ?_|refine a0Y ?_|refine apY ?_|refine stY ?_|refine gTY ?_|refine gFY ?_|refine cTY ?_|refine cFY ?_|(refine zGY ?_ ?_<;>(intro _hg;try (exfalso;omega)))|refine bk rfl ?_|refine r1Y ?_|refine r2Y ?_|refine r3Y ?_|refine r5Y ?_|refine xG rfl ?_|fail));first|(exact _q.q;done)|fail):A:=h zz ⟨k⟩
theorem zI3{a b c:Prop}(xa:a)(xb:b)(xc:c):a/\b/\c:=⟨xa,xb,xc⟩
theorem zI4{a b c d:Prop}(xa:a)(xb:b)(xc:c)(xd:d):a/\b/\c/\d:=⟨xa,xb,xc,xd⟩
theorem zI5{a b c d e:Prop}(xa:a)(xb:b)(xc:c)(xd:d)(xe:e):a/\b/\c/\d/\e:=⟨xa,xb,xc,xd,xe⟩
theorem zI6{a b c d e f:Prop}(xa:a)(xb:b)(xc:c)(xd:d)(xe:e)(xf:f):a/\b/\c/\d/\e/\f:=⟨xa,xb,xc,xd,xe,xf⟩
theorem zI7{a b c d e f g:Prop}(xa:a)(xb:b)(xc:c)(xd:d)(xe:e)(xf:f)(xg:g):a/\b/\c/\d/\e/\f/\g:=⟨xa,xb,xc,xd,xe,xf,xg⟩
theorem zI8{a b c d e f g h:Prop}(xa:a)(xb:b)(xc:c)(xd:d)(xe:e)(xf:f)(xg:g)(xh:h):a/\b/\c/\d/\e/\f/\g/\h:=⟨xa,xb,xc,xd,xe,xf,xg,xh⟩
theorem zI9{a b c d e f g h i:Prop}(xa:a)(xb:b)(xc:c)(xd:d)(xe:e)(xf:f)(xg:g)(xh:h)(xi:i):a/\b/\c/\d/\e/\f/\g/\h/\i:=⟨xa,xb,xc,xd,xe,xf,xg,xh,xi⟩
theorem fk{a b c d e f g h i j:Prop}(xa:a)(xb:b)(xc:c)(xd:d)(xe:e)(xf:f)(xg:g)(xh:h)(xi:i)(xj:j):a/\b/\c/\d/\e/\f/\g/\h/\i/\j:=⟨xa,xb,xc,xd,xe,xf,xg,xh,xi,xj⟩
theorem lpI{b:C2}{K:CP}{X:Type}(L:X->List (Nat×AV))(I:X->Hp->Nat->Prop)(μ:X->Nat)(x0:X)(h0:I x0 H nx)
    (step:∀x H nx,I x H nx->aE P b (tl (L x)) H nx λe T H' nx'=>aJ e (∃y,μ y<μ x/\I y H' nx'/\agr T (L y)) (K e T H' nx')) (hT:agr T (L x0):=by(repeat' (first|exact trivial|refine And.intro rfl ?_));first|done|fail):aP (aE P b) T H nx K:=bj L I μ x0 h0 hT step
theorem eR{dm:DM}{K:SP}{l:List Op2}{d:Option Nat}{sz bytes k:Nat}{s x:Opd}{sv xv:AV}{cs new:List AV}(hrow:Row H sz sv cs)(next:∀(sv':AV)(H':Hp)(nx':Nat),Row H' sz sv' (cs++new)->nx<=nx'->nx'<=nx+1->(∀i,i<nx->bd sv≠some i->H' i=H i)->(∀b,bd sv'=some b->bd sv=some b\/b=nx/\nx'=nx+1)->ai P dm l (aN T d sv') H' nx' K)(hd:dm2 dm T (.app sz bytes s x)=true:=by rfl)(hs:ov T s=sv:=by(try simp only[bN,ZA,Nat.reduceEqDiff,↓reduceIte,Nat.reduceAdd,Nat.reduceLeDiff]);(try with_reducible rfl);first|done|fail)(hx:ov T x=xv:=by(try simp only[bN,ZA,Nat.reduceEqDiff,↓reduceIte,Nat.reduceAdd,Nat.reduceLeDiff]);(try with_reducible rfl);first|done|fail)(hsrc:eU sz H xv=some (k,new):=by first|exact n7|exact wK|fail)(ho:AV.ones new=true:=by rfl)(hk:new.length=k*sz:=by rfl)(hz:0<sz:=by first|exact g8|omega|fail)(h1:(cs.length+k)*bytes<=140737488355328:=by first|(rw[bD];omega)|omega|fail)(h2:cs.length+k<=9223372036854775807:=by first|(rw[bD];omega)|omega|fail):ai P dm (⟨d,none,.app sz bytes s x⟩::l) T H nx K:=d7 hd hs hrow hx hsrc ho hk hz h1 h2 next
end Go.Abs
namespace Go.Abs
open Go Go.RowKit
def sD(W:World):Nat->Prop:=λb=>b<W.heap.size
theorem DR{W:World}{a:Addr}{v:Value}(h:W.cell? a=some v):sD W a.block/\a.spot=none:=by
 unfold World.cell? at h;unfold sD;cases hb:W.heap[a.block]? with
 |none=>simp[hb] at h
 |some o=>
  refine⟨(nk.1 hb).1,?_⟩;cases hs:a.spot with
  |none=>rfl
  |some s=>cases o<;>simp[hb,hs] at h
section
variable{H:Type}{enc:TypeId×Value->H}{P:Program}{W:World}
def dQ(enc:TypeId×Value->H)(P:Program)(W:World)(t:TypeId){α:Type}(f:α->AV)(good:α->Prop):Prop:=
 ∀(n:Nat)(cs:List Value)(x:DataW H×List MemPlace),DataW.trod enc P W 0 (λ_=>true) true n t cs=some x->(∀k∈x.1.weights P t,k<=reachBytes)->∃a:α,good a/\dH (E0 (sD W)) W (f a).cells cs
theorem dQ.mono{t:TypeId}{α:Type}{f:α->AV}{good good':α->Prop}(h:dQ enc P W t f good)(hg:∀a,good a->good' a):dQ enc P W t f good':=
 λn cs x hx hw=>let ⟨a,h1,h2⟩:=h n cs x hx hw;⟨a,hg a h1,h2⟩
theorem tx {E:Env} {w:World} {x:AV} {y:Value} (h:Rel E w x y):dH E w [x] [y]:=⟨rfl,fun i a b ha hb=>by
 cases i with
 |zero=>simp at ha hb;subst ha hb;exact h
 |succ i=>simp at ha⟩
theorem dH.app{E:Env}{w:World}{xs xs':List AV}{ys ys':List Value}(h:dH E w xs ys)(h':dH E w xs' ys'):dH E w (xs++xs') (ys++ys'):=by
 have hl:xs.length=ys.length:=h.1.symm;refine⟨by simp[h.1,h'.1],λi a b ha hb=>?_⟩;by_cases hi:i<xs.length
 ·rw[gy hi] at ha;rw[gy (by omega)] at hb;exact h.2 i a b ha hb
 ·rw[ie (by omega)] at ha;rw[ie (by omega)] at hb;rw[hl] at ha;exact h'.2 _ a b ha hb
theorem wV{t:TypeId}{k:IntKind}(ht:P.underlying t=some (.int k)):dQ enc P W t (AV.int k) (λn=>(Lit.int k n).wf=true):=λn cs x hx _=>by
 obtain⟨a,rfl,rfl,hw⟩:=DataW.trod_int ht hx;exact⟨a,hw,tx (.int _ _)⟩
theorem ni{e:TypeId}{l:List (DataW H)}{d:DataW H}(h:d∈l){k:Nat}(hk:k∈d.weights P e):k∈DataW.weightsAll P e l:=by
 induction l with
 |nil=>cases h
 |cons a l ih=>
  unfold DataW.weightsAll;rcases gg.1 h with rfl|h
  ·exact pS _ hk
  ·exact sd _ (ih h)
theorem rL{α:Type}{len:Nat}{Q:Nat->α->Prop}(h:∀i,i<len->∃a,Q i a):∃l:List α,l.length=len/\∀i a,l[i]?=some a->Q i a:=by
 induction len with
 |zero=>exact⟨[],rfl,λi a h=>by simp at h⟩
 |succ n ih=>
  obtain⟨l,h1,h2⟩:=ih (λi hi=>h i (by omega));obtain⟨a,ha⟩:=h n (by omega);refine⟨l++[a],by simp[h1],λi b hb=>?_⟩;by_cases hi:i<l.length
  ·rw[gy hi] at hb;exact h2 i b hb
  ·rw[ie (by omega)] at hb
   have:i-l.length=0:=by
    by_cases h0:i-l.length=0
    ·exact h0
    ·rw[List.getElem?_eq_none (by simp;omega)] at hb;cases hb
   rw[this] at hb;simp at hb;subst hb;have:i=n:=by omega
   subst this;exact ha
theorem jk{t e:TypeId}{sz by_:Nat}{α:Type}{f:α->AV}{good:α->Prop}(ht:P.underlying t=some (.slice e))(hsz:P.cellsOf e=sz)(hby:P.bytesOf e=by_)(hpos:0<sz)(hc:∀a,(f a).cells.length=sz)
    (he:dQ enc P W e f good):dQ enc P W t (gq sz f) (λl=>(∀a∈l,good a)/\l.length<=9223372036854775807/\l.length*by_<=140737488351232):=λn cs x hx hw=>by
 rcases Go.Deep.open_slice ht hx with⟨rfl,rfl⟩|⟨a,len,cap,m,n',D,Pl,rfl,hb,hlc,hcm,hm,hxe,hel⟩
 ·exact⟨[],⟨λ_ h=>(by cases h),by simp,by simp⟩,tx (.slnil _)⟩
 simp only[if_true] at hm;subst hxe;subst hm;have hw':∀k∈((DataW.slice (H:=H) ((List.range len).map D) ((List.range (m-len)).map λj=>D (len+j))).weights P t),k<=reachBytes:=hw;simp only[DataW.weights,ht] at hw';have hlen:(((List.range len).map D).length+((List.range (m-len)).map λj=>D (len+j)).length)*P.bytesOf e<=reachBytes:=hw' _ (ju ..)
 have hbd:len*by_<=140737488351232:=by
  rw[hby] at hlen;simp only[bD,List.length_range] at hlen;have h1:len*by_<=(len+(m-len))*by_:=jJ _ (by omega);have h2:reachBytes=140737488351232:=rfl;omega
 have hlm:len<=9223372036854775807:=gf hlc hcm
 have key:∀i,i<len->∃a':α,good a'/\∃cs',W.cells? 0 (a.add (i*sz)) sz=some cs'/\dH (E0 (sD W)) W (f a').cells cs':=λi hi=>by
  obtain⟨cs',h1,h2⟩:=hel i (by omega);rw[hsz] at h1;obtain⟨a',g1,g2⟩:=he n' cs' _ h2 (λk hk=>hw' k (qq _ (pS _ (ni (dK.2 ⟨i,gG.2 hi,rfl⟩) hk))));exact⟨a',g1,cs',h1,g2⟩
 obtain⟨l,hl,hq⟩:=rL key;refine⟨l,⟨λx hx=>?_,by omega,by rw[hl];exact hbd⟩,tx ?_⟩
 ·obtain⟨i,hi⟩:=ue hx;exact(hq i x hi).1
 by_cases h0:len=0
 ·subst h0;have:l=[]:=eI.1 hl;subst this;exact .slempty _ _ _
 have hcell:∀i j,i<len->j<sz->∃v,W.cell? ((a.add (i*sz)).add j)=some v:=λi j hi hj=>by
  obtain⟨a',_,cs',h1,h2⟩:=key i hi;unfold World.cells? at h1;rw[if_pos (bz _)] at h1;have h3:=mapM_some_get h1 j j (by simp[hj])
  have h4:j<cs'.length:=by
   have:=mapM_some_length h1;simp at this;omega
  exact⟨cs'[j],by rw[h3];simp[h4]⟩
 obtain⟨v0,hv0⟩:=hcell 0 0 (by omega) hpos;have ho:=DR hv0;simp only[ou,Addr.add,if_true] at ho;obtain⟨blk,off,sp⟩:=a;obtain⟨ho,hsp⟩:=ho;simp only at hsp ho;subst hsp
 have hadd:∀i j,((⟨blk,off,none⟩:Addr).add (i*sz)).add j=⟨blk,off+(i*sz+j),none⟩:=λi j=>by
  rw[cJ,cJ,pV]
 have hcell':∀k,k<len*sz->∃v,W.cell? ⟨blk,off+k,none⟩=some v:=λk hk=>by
  have h1:k/sz<len:=Nat.div_lt_of_lt_mul (by rw[Nat.mul_comm];exact hk);have h2:k%sz<sz:=Nat.mod_lt _ hpos;obtain⟨v,hv⟩:=hcell (k/sz) (k%sz) h1 h2;rw[hadd,Nat.div_add_mod'] at hv;exact⟨v,hv⟩
 have hlen2:(l.map f).length=len:=by simp[hl]
 have:=Rel.sl (E:=E0 (sD W)) (w:=W) sz (l.map f) blk off m (λk=>(W.cell? ⟨blk,off+k,none⟩).getD Go.undef) ho (by rw[hlen2];exact hlc)
  (λx hx=>by obtain⟨b,_,rfl⟩:=dK.1 hx;exact hc b)
  (fun k hk=>by
   rw[hlen2] at hk;obtain⟨v,hv⟩:=hcell' k hk;simp only[hv,vH])
  (fun i j x y hx hy=>by
   rw[jQ,Option.map_eq_some_iff] at hx;obtain⟨a',ha',rfl⟩:=hx;obtain⟨_,cs',h1,h2⟩:=hq i a' ha'
   have hj:j<sz:=by
    have:=(bU.1 hy).1
    rwa [hc] at this
   have hi:i<len:=by
    have:=(bU.1 ha').1;omega
   unfold World.cells? at h1;rw[if_pos (bz _)] at h1;have h3:=mapM_some_get h1 j j (by simp[hj])
   have h4:j<cs'.length:=by
    have:=mapM_some_length h1;simp at this;omega
   rw[hadd] at h3;have h5:cs'[j]?=some cs'[j]:=by simp[h4]
   rw[h5] at h3;simp only[h3,vH];exact h2.2 j y _ hy h5)
 rw[hlen2] at this;exact this
def xM(enc:TypeId×Value->H)(P:Program)(W:World)(fs:List Field)(off:Nat){α:Type}(g:α->List AV)(good:α->Prop):Prop:=
 ∀(n tot:Nat)(cs:List Value)(ys:List (DataW H×List MemPlace)),ys.length=fs.length->(∀(i:Nat)(f:Field),fs[i]?=some f->DataW.trod enc P W 0 (λ_=>true) true n f.type ((cs.drop f.offset).take (P.cellsOf f.type))=ys[i]?)->
  (∀k∈DataW.weightsEach P (fs.map λf:Field=>f.type) (ys.map (·.1)),k<=reachBytes)->cs.length=tot->tot=off+(fs.map λf:Field=>P.cellsOf f.type).sum->∃a:α,good a/\dH (E0 (sD W)) W (g a) (cs.drop off)
theorem gK{off:Nat}:xM enc P W [] off (λ_:Unit=>[]) (λ_=>True):=λn tot cs ys _ _ _ h1 h2=>by
 refine⟨(),trivial,?_⟩;rw[nC (by simp at h2;omega)];exact⟨rfl,λi a b h=>by simp at h⟩
theorem bZ{fd:Field}{fs:List Field}{off off':Nat}{α β:Type}{f:α->AV}{g:β->List AV}{good:α->Prop}{good':β->Prop}(ho:fd.offset=off)(ho':off+P.cellsOf fd.type=off')
    (h:dQ enc P W fd.type f good) (h':xM enc P W fs off' g good'):xM enc P W (fd::fs) off (λa:α×β=>(f a.1).cells++g a.2) (λa=>good a.1/\good' a.2):=λn tot cs ys hl hy hw h1 h2=>by
 obtain⟨y,ys,rfl⟩:∃y ys',ys=y::ys':=by
  cases ys with
  |nil=>simp at hl
  |cons y ys=>exact⟨y,ys,rfl⟩
 have hy0:=hy 0 fd rfl;simp only[sI] at hy0;rw[ho] at hy0;simp only[gu,DataW.weightsEach] at hw;obtain⟨a,g1,g2⟩:=h n _ y hy0 (λk hk=>hw k (pS _ hk));simp only[gu,List.sum_cons] at h2
 obtain ⟨b,g3,g4⟩:=h' n tot cs ys (by simpa using hl) (fun i f hf=>by
  have:=hy (i+1) f (by simpa using hf);simpa using this) (λk hk=>hw k (sd _ hk)) h1 (by omega)
 refine⟨(a,b),⟨g1,g3⟩,?_⟩
 have e:cs.drop off=(cs.drop off).take (P.cellsOf fd.type)++cs.drop off':=by
  rw[<-ho',<-List.drop_drop,xC]
 rw[e];exact dH.app g2 g4
theorem fc{t:TypeId}{fs:Array Field}{α:Type}{g:α->List AV}{good:α->Prop}(ht:P.underlying t=some (.struct fs))(hsum:P.cellsOf t=(fs.toList.map λf:Field=>P.cellsOf f.type).sum)
    (h:xM enc P W fs.toList 0 g good):dQ enc P W t (λa=>.agg (g a)) good:=λn cs x hx hw=>by
 obtain⟨ys,n',rfl,rfl,hl,hs,hy⟩:=DataW.trod_struct ht hx
 obtain ⟨a,g1,g2⟩:=h n' _ cs ys (by rw [hs]; simp) (fun i f hf=>hy i f (by simpa using hf)) (fun k hk=>hw k (by
  simp only[DataW.weights,ht];exact hk)) hl (by rw[cp,hsum])
 exact⟨a,g1,by rw[List.drop_zero] at g2;exact g2⟩
theorem wU{t e:TypeId}{sz m:Nat}{α:Type}{f:α->AV}{good:α->Prop}(ht:P.underlying t=some (.array m e))(hsz:P.cellsOf e=sz)(htot:P.cellsOf t=m*sz)
    (he:dQ enc P W e f good):dQ enc P W t (λl:List α=>.agg (l.flatMap λa=>(f a).cells)) (λl=>l.length=m/\∀a∈l,good a):=λn cs x hx hw=>by
 cases n with
 |zero=>simp[DataW.trod] at hx
 |succ n=>
  unfold DataW.trod at hx;rw[ht] at hx
  have hx:(if cs.length=P.cellsOf t then((List.range m).mapM λi=>DataW.trod enc P W 0 (λ_=>true) true n e ((cs.drop (i*P.cellsOf e)).take (P.cellsOf e))).map λxs=>(DataW.agg (xs.map (·.1)),xs.flatMap (·.2)) else none)=some x:=by
   cases cs<;>exact hx
  split at hx
  case isFalse=>cases hx
  case isTrue hl=>
  rw[Option.map_eq_some_iff] at hx;obtain⟨ys,hy,rfl⟩:=hx;rw[hsz] at hy;have hyl:=mapM_some_length hy;simp at hyl
  have hget:∀i,i<m->∃y,ys[i]?=some y/\DataW.trod enc P W 0 (λ_=>true) true n e ((cs.drop (i*sz)).take sz)=some y:=λi hi=>by
   have h1:i<ys.length:=by omega
   exact⟨ys[i],by simp[h1],by rw[mapM_some_get hy i i (by simp[hi])];simp[h1]⟩
  have key:∀i,i<m->∃a,good a/\dH (E0 (sD W)) W (f a).cells ((cs.drop (i*sz)).take sz):=λi hi=>by
   obtain⟨y,h1,h2⟩:=hget i hi
   exact he n _ y h2 (fun k hk=>hw k (by
    simp only[DataW.weights,ht];exact ni (dK.2 ⟨y,iC h1,rfl⟩) hk))
  obtain⟨l,h1,h2⟩:=rL key;refine⟨l,⟨h1,λa ha=>?_⟩,?_⟩
  ·obtain⟨i,hi⟩:=ue ha;exact(h2 i a hi).1
  rw[htot] at hl
  have gen:∀(l:List α)(k:Nat),k+l.length=m->(∀i a,l[i]?=some a->dH (E0 (sD W)) W (f a).cells ((cs.drop ((k+i)*sz)).take sz))->dH (E0 (sD W)) W (l.flatMap λa=>(f a).cells) (cs.drop (k*sz)):=by
   intro l
   induction l with
   |nil=>
    intro k hk _;rw[nC (by simp at hk;subst hk;omega)];exact⟨rfl,λi a b h=>by simp at h⟩
   |cons a l ih=>
    intro k hk hq
    have e:cs.drop (k*sz)=(cs.drop (k*sz)).take sz++cs.drop ((k+1)*sz):=by
     rw[ez,Nat.one_mul,<-List.drop_drop,xC]
    rw[e,lJ];refine dH.app (hq 0 a rfl) (ih (k+1) (by simp at hk;omega) (λi b hb=>?_));have:=hq (i+1) b (by simpa using hb)
    rwa [show k+(i+1)=k+1+i by omega] at this
  have:=gen l 0 (by omega) (λi a ha=>by rw[cp];exact(h2 i a ha).2)
  rwa [ou,List.drop_zero] at this
theorem dQ.map{t:TypeId}{α β:Type}{f:α->AV}{good:α->Prop}{f':β->AV}{good':β->Prop}(h:dQ enc P W t f good)(φ:α->β)(hg:∀a,good a->good' (φ a))(hf:∀a,good a->(f' (φ a)).cells=(f a).cells):dQ enc P W t f' good':=λn cs x hx hw=>by
 obtain⟨a,h1,h2⟩:=h n cs x hx hw;exact⟨φ a,hg a h1,by rw[hf a h1];exact h2⟩
theorem dQ.at{t u:TypeId}{α:Type}{f:α->AV}{good:α->Prop}(e:t=u)(h:dQ enc P W u f good):dQ enc P W t f good:=e▸h
theorem dQ.argA{t:TypeId}{α:Type}{f:α->AV}{good:α->Prop}(h:dQ enc P W t f good){r:Reach}{base:Nat}{v:Value}{d:DataW H}{ps:List MemPlace}(ht:sG P t=true)(hf:∀a,∃cs,f a=.agg cs)
    (hval:Value.okWide P W r base t v) (hd:DataW.Trod enc P W 0 (λ_=>true) true t v d ps) (hw:∀k∈d.weights P t,k<=reachBytes):∃a,good a/\Rel (E0 (sD W)) W (f a) v:=by
 obtain⟨n,hn⟩:=hd;obtain⟨a,h1,h2⟩:=h n _ _ hn hw;refine⟨a,h1,?_⟩
 obtain⟨cs,hcs,_⟩:∃cs,v=.agg cs/\True:=by
  unfold Value.okWide at hval;unfold sG at ht;split at hval
  ·obtain⟨cs,h,_⟩:=hval;exact⟨cs,h,trivial⟩
  ·obtain⟨cs,h,_⟩:=hval;exact⟨cs,h,trivial⟩
  ·rename_i k1 k2;revert ht;cases hu:P.underlying t with
   |none=>simp
   |some u=>
    cases u with
    |struct fs=>exact absurd hu (k1 fs)
    |array m e=>exact absurd hu (k2 m e)
    |_=>simp
 subst hcs;obtain⟨xs,hx⟩:=hf a;rw[hx] at h2 |-;exact .agg xs cs.toList h2.1 h2.2
theorem oI(hl:laidOutB P=true){W':World}(hb:Below W.heap.size W W'){sp:Nat->Bool}:∀{ts:List TypeId}{vs:List Value}{ds:List (DataW H)}{ps:List MemPlace},(∀t∈ts,P.readableRec t=true/\t<P.types.size)->
    DataW.TrodAll enc P W 0 (λ_=>true) true ts vs ds ps->(∀p∈ps,p.block<W.heap.size)->(∀p∈ps,sp p.block=true)->DataW.TrodAll enc P W' 0 sp true ts vs ds ps
 |[],[],[],ps,_,h,_,_=>h
 |t::ts,v::vs,d::ds,ps,hr,⟨p,q,h1,h2,e⟩,hlt,hsp=>by
  subst e
  exact ⟨p,q,WideElems.Trod_stays hl (hr t (ju ..)).1 (hr t (ju ..)).2 h1 (fun x hx=>hb.same (hlt x (pS _ hx))) (fun x hx=>hsp x (pS _ hx)),
   oI hl hb (λt ht=>hr t (qq _ ht)) h2 (λx hx=>hlt x (sd _ hx)) (λx hx=>hsp x (sd _ hx)),rfl⟩
 |[],_::_,_,_,_,h,_,_=>h.elim
 |[],[],_::_,_,_,h,_,_=>h.elim
 |_::_,[],_,_,_,h,_,_=>h.elim
 |_::_,_::_,[],_,_,h,_,_=>h.elim
theorem nF:∀{ts:List TypeId}{ds:List (DataW H)}{i:Nat}{t:TypeId}{d:DataW H},ts[i]?=some t->ds[i]?=some d->∀k∈d.weights P t,k∈DataW.weightsEach P ts ds
 |t::ts,d::ds,0,_,_,h1,h2,k,hk=>by
  simp at h1 h2;subst h1 h2;unfold DataW.weightsEach;exact pS _ hk
 |t::ts,d::ds,i+1,_,_,h1,h2,k,hk=>by
  unfold DataW.weightsEach;exact sd _ (nF (ts:=ts) (ds:=ds) (by simpa using h1) (by simpa using h2) k hk)
 |[],_,i,_,_,h1,_,_,_=>by simp at h1
 |_::_,[],i,_,_,_,h2,_,_=>by simp at h2
end
end Go.Abs
namespace Go.Abs
open Go.RowKit
end Go.Abs
namespace Go.Proofs.YtmpcledaoigkaaaGreat
open Go Go.Abs Go.Abs.C2 Go.Abs.Ins Go.Abs.Opd Go.Abs.TK Go.Abs.MK
def cO(d:Nat)(i:Ins):Op2:=Op2.mk (some d) none i
def cG(d g:Nat)(b:Bool)(i:Ins):Op2:=Op2.mk (some d) (some (g,b)) i
def cN(k:Int):Opd:=Opd.c (AV.int IntKind.i64 k)
def cM(n:Nat):Ins:=Ins.mov (Opd.t n)
def cD(n:Nat):Ins:=Ins.ld1 (Opd.t n)
def cF(n:Nat):Opd:=Opd.c (AV.func n [])
def cB(o:BinOp)(x y:Opd):Ins:=Ins.bin o false false x y
def HJ:Opd:=Opd.c (AV.bool false)
def Ll:Opd:=Opd.c (AV.bool true)
def aa(d s:Nat):Op2:=Op2.mk (some d) none (Ins.mov (Opd.t s))
def ah(d s:Nat):Op2:=Op2.mk (some d) none (Ins.ld1 (Opd.t s))
def ba(d n s:Nat):Op2:=Op2.mk (some d) none (Ins.ldn n (Opd.t s))
def aV(d s:Nat):Op2:=Op2.mk (some d) none (Ins.lenS (Opd.t s))
def av(d n s:Nat):Op2:=Op2.mk (some d) none (Ins.fa n (Opd.t s))
def ce(d s n:Nat):Op2:=Op2.mk (some d) none (Ins.ext (Opd.t s) n)
def aM(d f:Nat)(l:List Opd):Op2:=Op2.mk (some d) none (Ins.call (Opd.c (AV.func f [])) l)
def aU(d:Nat)(o:BinOp)(x y:Nat):Op2:=Op2.mk (some d) none (Ins.bin o false false (Opd.t x) (Opd.t y))
def aq(d:Nat)(o:BinOp)(x:Nat)(y:Int):Op2:=Op2.mk (some d) none (Ins.bin o false false (Opd.t x) (Opd.c (AV.int IntKind.i64 y)))
def aY(n p v:Nat):Op2:=Op2.mk none none (Ins.st n (Opd.t p) (Opd.t v))
def aF(d g:Nat)(i:Ins):Op2:=Op2.mk (some d) (some (g,false)) i
def ap(d g:Nat)(i:Ins):Op2:=Op2.mk (some d) (some (g,true)) i
def bX(n:Nat)(x y:C2):C2:=C2.cond (Opd.t n) x y
def ae(l:List Op2)(x:C2):C2:=C2.seq (C2.ops 0 l) x
def cU(k b:Nat):C2:=C2.ops 0 [Op2.mk (some k) none (Ins.bin BinOp.add false false (Opd.t b) (Opd.c (AV.int IntKind.i64 1))),Op2.mk (some b) none (Ins.mov (Opd.t k))]
def FB(k n:Nat)(x:C2):C2:=C2.seq (C2.cond (Opd.t k) C2.skip (C2.exit n)) x
def dh(k a b n:Nat)(x:C2):C2:=C2.seq (C2.ops 0 [Op2.mk (some k) none (Ins.bin BinOp.lss false false (Opd.t a) (Opd.t b))]) (C2.seq (C2.cond (Opd.t k) C2.skip (C2.exit n)) x)
def ao(d:Nat)(k:Int):Op2:=Op2.mk (some d) none (Ins.mov (Opd.c (AV.int IntKind.i64 k)))
def dA(d p a:Nat):Op2:=Op2.mk (some d) none (Ins.pick (Opd.t p) (Opd.c (AV.bool true)) (Opd.t a))
def d8(d p a:Nat):Op2:=Op2.mk (some d) none (Ins.pick (Opd.t p) (Opd.t a) (Opd.c (AV.bool false)))
def bR(d s:Nat):Op2:=Op2.mk (some d) none (Ins.box (Opd.t s))
def aB(d n s i:Nat):Op2:=Op2.mk (some d) none (Ins.ixaS n (Opd.t s) (Opd.t i))
def gZ(d s:Nat):Op2:=Op2.mk (some d) none (Ins.un UnOp.not (Opd.t s))
def fE(d n b s x:Nat):Op2:=Op2.mk (some d) none (Ins.app n b (Opd.t s) (Opd.t x))
def dj(d:Nat):Op2:=Op2.mk (some d) none (Ins.mov (Opd.c AV.esl))
def ci(d:Nat):Op2:=Op2.mk (some d) none (Ins.mov (Opd.c (AV.bool false)))
def jI(d:Nat):Op2:=Op2.mk (some d) none (Ins.mov (Opd.c (AV.bool true)))
def am(l:List Op2):C2:=C2.seq (C2.ops 0 l) C2.ret
def az(n:Nat)(x:C2):C2:=C2.cond (Opd.t n) x C2.skip
def ag:AV:=AV.int IntKind.i64 0
theorem aw:(∀(d:Nat)(i:Ins),cO d i=Op2.mk (some d) none i)/\(∀(d g:Nat)(b:Bool)(i:Ins),cG d g b i=Op2.mk (some d) (some (g,b)) i)/\(∀(k:Int),cN k=Opd.c (AV.int IntKind.i64 k))/\(∀(n:Nat),cM n=Ins.mov (Opd.t n))/\(∀(n:Nat),cD n=Ins.ld1 (Opd.t n))/\(∀(n:Nat),cF n=Opd.c (AV.func n []))/\(∀(o:BinOp)(x y:Opd),cB o x y=Ins.bin o false false x y)/\(HJ=Opd.c (AV.bool false))/\(Ll=Opd.c (AV.bool true))/\(∀(d s:Nat),aa d s=Op2.mk (some d) none (Ins.mov (Opd.t s)))/\(∀(d s:Nat),ah d s=Op2.mk (some d) none (Ins.ld1 (Opd.t s)))/\(∀(d n s:Nat),ba d n s=Op2.mk (some d) none (Ins.ldn n (Opd.t s)))/\(∀(d s:Nat),aV d s=Op2.mk (some d) none (Ins.lenS (Opd.t s)))/\(∀(d n s:Nat),av d n s=Op2.mk (some d) none (Ins.fa n (Opd.t s)))/\(∀(d s n:Nat),ce d s n=Op2.mk (some d) none (Ins.ext (Opd.t s) n))/\(∀(d f:Nat)(l:List Opd),aM d f l=Op2.mk (some d) none (Ins.call (Opd.c (AV.func f [])) l))/\(∀(d:Nat)(o:BinOp)(x y:Nat),aU d o x y=Op2.mk (some d) none (Ins.bin o false false (Opd.t x) (Opd.t y)))/\(∀(d:Nat)(o:BinOp)(x:Nat)(y:Int),aq d o x y=Op2.mk (some d) none (Ins.bin o false false (Opd.t x) (Opd.c (AV.int IntKind.i64 y))))/\(∀(n p v:Nat),aY n p v=Op2.mk none none (Ins.st n (Opd.t p) (Opd.t v)))/\(∀(d g:Nat)(i:Ins),aF d g i=Op2.mk (some d) (some (g,false)) i)/\(∀(d g:Nat)(i:Ins),ap d g i=Op2.mk (some d) (some (g,true)) i)/\(∀(n:Nat)(x y:C2),bX n x y=C2.cond (Opd.t n) x y)/\(∀(l:List Op2)(x:C2),ae l x=C2.seq (C2.ops 0 l) x)/\(∀(k b:Nat),cU k b=C2.ops 0 [Op2.mk (some k) none (Ins.bin BinOp.add false false (Opd.t b) (Opd.c (AV.int IntKind.i64 1))),Op2.mk (some b) none (Ins.mov (Opd.t k))])/\(∀(k n:Nat)(x:C2),FB k n x=C2.seq (C2.cond (Opd.t k) C2.skip (C2.exit n)) x)/\(∀(k a b n:Nat)(x:C2),dh k a b n x=C2.seq (C2.ops 0 [Op2.mk (some k) none (Ins.bin BinOp.lss false false (Opd.t a) (Opd.t b))]) (C2.seq (C2.cond (Opd.t k) C2.skip (C2.exit n)) x))/\(∀(d:Nat)(k:Int),ao d k=Op2.mk (some d) none (Ins.mov (Opd.c (AV.int IntKind.i64 k))))/\(∀(d p a:Nat),dA d p a=Op2.mk (some d) none (Ins.pick (Opd.t p) (Opd.c (AV.bool true)) (Opd.t a)))/\(∀(d p a:Nat),d8 d p a=Op2.mk (some d) none (Ins.pick (Opd.t p) (Opd.t a) (Opd.c (AV.bool false))))/\(∀(d s:Nat),bR d s=Op2.mk (some d) none (Ins.box (Opd.t s)))/\(∀(d n s i:Nat),aB d n s i=Op2.mk (some d) none (Ins.ixaS n (Opd.t s) (Opd.t i)))/\(∀(d s:Nat),gZ d s=Op2.mk (some d) none (Ins.un UnOp.not (Opd.t s)))/\(∀(d n b s x:Nat),fE d n b s x=Op2.mk (some d) none (Ins.app n b (Opd.t s) (Opd.t x)))/\(∀(d:Nat),dj d=Op2.mk (some d) none (Ins.mov (Opd.c AV.esl)))/\(∀(d:Nat),ci d=Op2.mk (some d) none (Ins.mov (Opd.c (AV.bool false))))/\(∀(d:Nat),jI d=Op2.mk (some d) none (Ins.mov (Opd.c (AV.bool true))))/\(∀(l:List Op2),am l=C2.seq (C2.ops 0 l) C2.ret)/\(∀(n:Nat)(x:C2),az n x=C2.cond (Opd.t n) x C2.skip)/\(ag=AV.int IntKind.i64 0):=⟨λ_ _=>rfl,λ_ _ _ _=>rfl,λ_=>rfl,λ_=>rfl,λ_=>rfl,λ_=>rfl,λ_ _ _=>rfl,rfl,rfl,λ_ _=>rfl,λ_ _=>rfl,λ_ _ _=>rfl,λ_ _=>rfl,λ_ _ _=>rfl,λ_ _ _=>rfl,λ_ _ _=>rfl,λ_ _ _ _=>rfl,λ_ _ _ _=>rfl,λ_ _ _=>rfl,λ_ _ _=>rfl,λ_ _ _=>rfl,λ_ _ _=>rfl,λ_ _=>rfl,λ_ _=>rfl,λ_ _ _=>rfl,λ_ _ _ _ _=>rfl,λ_ _=>rfl,λ_ _ _=>rfl,λ_ _ _=>rfl,λ_ _=>rfl,λ_ _ _ _=>rfl,λ_ _=>rfl,λ_ _ _ _ _=>rfl,λ_=>rfl,λ_=>rfl,λ_=>rfl,λ_=>rfl,λ_ _=>rfl,rfl⟩
theorem mkI{P:Program}{f:FuncId}{F:F2}{fn:Func}(h1:P.funcs[f]?=some fn)(h2:yI P fn=some F:=by kernel_rfl):Is P f F:=Is.mk' h1 h2
theorem follows:Tryz.prog.follows .mixedOrders=true:=by rfl
abbrev pU:=@Go.Abs.Pure Tryz.prog
theorem pO{f:FuncId}{F:F2}{args:List AV}{r:AV}(hf:Is Tryz.prog f F)(hb:aE Tryz.prog F.body (T0 args) bM 0 λe T H nx=>aK e.ends (bn T H (λx=>Snap H x r) F.res))(hl:args.length<=F.n:=by exact Nat.le_of_ble_eq_true rfl):Go.Abs.Pure Tryz.prog f args r:=Go.Abs.Pure.of_c2 follows hf hl hb
theorem fO{f:FuncId}{F:F2}{args:List AV}{H:Hp}{nx:Nat}{K:AV->Hp->Nat->Prop}(hf:Is Tryz.prog f F)(hb:aE Tryz.prog F.body (T0 args) H nx λe T H nx=>aK e.ends (bn T H (λx=>K x H nx) F.res))(hl:args.length<=F.n:=by exact Nat.le_of_ble_eq_true rfl):Go.Abs.Fn Tryz.prog f args H nx K:=Go.Abs.Fn.of_c2 follows hf hl hb
theorem qO{f:FuncId}{F:F2}{args:List AV}{r:AV}(hf:Is Tryz.prog f F)(hb:aE Tryz.prog F.body (T0 args) bM 0 λe T H nx=>aK e.ends (bn T H (λx=>SnapF H x r) F.res))(hl:args.length<=F.n:=by exact Nat.le_of_ble_eq_true rfl):Go.Abs.PureF Tryz.prog f args r:=Go.Abs.PureF.of_c2 follows hf hl hb
def b3:F2:=(F2.mk 192 [RV.t 4] (ae [bR 2 0,bR 3 1,ci 4] ((ae [aM 22 5 [],gZ 23 22] (az 23 (am [ci 4]))).seq (ae [ba 25 7 2,aM 26 6 [t 25],aa 24 26,ce 27 24 0,ce 28 24 1,ce 29 24 2,ce 30 24 3,cO 5 (alloc (AV.agg [ag,ag,ag,AV.esl,ag,AV.esl,ag,ag,AV.esl,AV.esl])),cO 6 (alloc AV.esl),aY 10 5 27,aY 1 6 28,aa 7 29,aa 8 30] ((ae [aa 31 7,gZ 32 31] (az 32 (am [aa 33 8,aa 4 33]))).seq ((ops 1 [cO 34 (ixaA 2 1 (t 3) (cN 0)),ah 35 34,cO 36 (conv IntKind.i64 (t 35)),ah 37 6,aV 38 37,aU 39 .rem 36 38,cO 40 (ixaA 2 1 (t 3) (cN 1)),ah 41 40,cO 42 (conv IntKind.i64 (t 41)),ah 43 6,aV 44 43,aU 45 .rem 42 44,aa 9 39,aa 10 45]).seq (ae [ba 47 10 5,aa 48 9,aa 49 10,aM 50 7 [t 47,t 48,t 49],aa 46 50,ce 51 46 0,ce 52 46 1,ce 53 46 2,cO 11 (alloc AV.esl),aY 1 11 51,aa 12 52,aa 13 53] ((ae [aa 54 13,aq 55 .neq 54 0] (az 55 (am [ci 4]))).seq (ae [cO 56 (bldS 1 1 [ag] [(0,1,cN ((-1)))]),ah 57 6,aV 58 57,aM 59 8 [t 56,t 58],aa 14 59] (ae [aa 60 14,aa 61 9,aB 62 1 60 61,Op2.mk none none (Ins.st 1 (t 62) (cN 0))] ((ae [aa 63 9,cO 64 (bldS 1 1 [ag] [(0,1,t 63)]),aa 15 64] (block 0 ((ae [aa 65 15,aV 66 65,aq 67 .gtr 66 0] (bX 67 skip (exit 0))).seq ((block 1 (ae [ah 70 6,aV 71 70,ao 72 0] (block 2 ((dh 73 72 71 2 ((block 3 (ae [aa 74 72,aB 75 1 70 72,ah 76 75,cO 17 (alloc AV.esl),aa 16 74,aY 1 17 76] ((mixS 1 [ah 77 6,aa 78 15,cO 79 (ixaS 1 (t 78) (cN 0)),ah 80 79,aB 81 1 77 80,ah 82 81,cO 83 (mkfn 10 [t 17]),aM 84 9 [t 82,t 83],aa 18 84] [(0,0),(1,0),(2,0),(3,0),(4,0),(5,0),(6,0),(7,2),(8,0)]).seq (ae [aa 85 18,aa 86 85,ap 87 86 (cM 14),ap 88 86 (cM 16),ap 89 86 (ixaS 1 (t 87) (t 88)),ap 90 86 (cD 89),ap 91 86 (cB .lss (t 90) (cN 0)),d8 92 86 91] (az 92 (ae [aa 93 14,aa 94 16,aa 95 14,aa 96 15,cO 97 (ixaS 1 (t 96) (cN 0)),ah 98 97,aB 99 1 95 98,ah 100 99,aq 101 .add 100 1,aB 102 1 93 94,aY 1 102 101] (ops 0 [aa 103 15,aa 104 16,cO 105 (bldS 1 1 [ag] [(0,1,t 104)]),fE 106 1 8 103 105,aa 15 106]))))))).seq (cU 107 72)))).loop))).seq (ops 0 [aa 68 15,cO 69 (sls 1 (t 68) (some (cN 1)) none none),aa 15 69]))).loop)).seq ((ae [aa 108 12,gZ 109 108] (az 109 (am [aa 110 14,aa 111 10,aB 112 1 110 111,ah 113 112,aq 114 .lss 113 0,aa 4 114]))).seq (((ops 1 [ah 115 11,aV 116 115,aq 117 .eql 116 0,aa 118 117,aF 119 118 (cM 14),aF 120 118 (cM 10),aF 121 118 (ixaS 1 (t 119) (t 120)),aF 122 118 (cD 121),aF 123 118 (cD 11),aF 124 118 (lenS (t 123)),aF 125 118 (cB .sub (t 124) (cN 1)),aF 126 118 (cB .neq (t 122) (t 125)),dA 127 118 126,aa 128 127,aF 129 128 (cD 11),aF 130 128 (ixaS 2 (t 129) (cN 0)),aF 131 128 (fa 0 (t 130)),aF 132 128 (cD 131),aF 133 128 (cM 9),aF 134 128 (cB .neq (t 132) (t 133)),dA 135 128 134,aa 136 135,aF 137 136 (cD 11),aF 138 136 (cD 11),aF 139 136 (lenS (t 138)),aF 140 136 (cB .sub (t 139) (cN 1)),aF 141 136 (ixaS 2 (t 137) (t 140)),aF 142 136 (fa 0 (t 141)),aF 143 136 (cD 142),aF 144 136 (cM 10),aF 145 136 (cB .neq (t 143) (t 144)),dA 146 136 145]).seq (az 146 (am [ci 4]))).seq ((ae [cO 19 (alloc (ag)),Op2.mk none none (Ins.st 1 (t 19) (cN 1))] (block 4 ((ae [ah 147 19,ah 148 11,aV 149 148,aU 150 .lss 147 149] (bX 150 skip (exit 4))).seq ((block 5 ((ops 1 [ah 153 11,ah 154 19,aq 155 .sub 154 1,aB 156 2 153 155,av 157 0 156,ah 158 157,ah 159 11,ah 160 19,aB 161 2 159 160,av 162 0 161,ah 163 162,cO 21 (alloc (ag)),aa 20 158,aY 1 21 163]).seq (ae [aa 164 20,aq 165 .lss 164 0,aa 166 165,aF 167 166 (cD 21),aF 168 166 (cB .lss (t 167) (cN 0)),dA 169 166 168,aa 170 169,aF 171 170 (cM 20),aF 172 170 (cD 6),aF 173 170 (lenS (t 172)),aF 174 170 (cB .geq (t 171) (t 173)),dA 175 170 174,aa 176 175,aF 177 176 (cD 21),aF 178 176 (cD 6),aF 179 176 (lenS (t 178)),aF 180 176 (cB .geq (t 177) (t 179)),dA 181 176 180,aa 182 181,aF 183 182 (cD 6),aF 184 182 (cM 20),aF 185 182 (ixaS 1 (t 183) (t 184)),aF 186 182 (cD 185),aF 187 182 (mkfn 12 [t 11,t 19,t 6,t 21]),aF 188 182 (call (cF 9) [t 186,t 187]),aF 189 182 (un UnOp.not (t 188)),dA 190 182 189] (az 190 (am [ci 4]))))).seq ((ae [ah 191 19] (ops 0 [cO 19 (alloc (ag)),aY 1 19 191])).seq (ops 0 [ah 151 19,aq 152 .add 151 1,aY 1 19 152])))).loop)).seq (am [jI 4])))))))))))))))
theorem is3:Is Tryz.prog 3 b3:=mkI Tryz.func3
def b5:F2:=(F2.mk 75 [RV.t 0] (ae [ci 0] (ae [aM 13 21 ([cN ((1))]),aM 14 20 [t 13],aa 12 14,ce 15 12 0,ce 16 12 1,cO 1 (alloc (AV.agg [ag,ag,ag,AV.esl,ag,AV.esl,ag,ag,AV.esl,AV.esl])),aY 10 1 15,aa 2 16] (ae [ba 18 10 1,aM 19 13 [t 18],aa 17 19,ce 20 17 0,ce 21 17 1,cO 3 (alloc (AV.agg [AV.esl])),aY 1 3 20,aa 4 21] (ae [ba 23 1 3,aM 24 22 [t 23],aa 22 24,ce 25 22 0,ce 26 22 1,aa 5 25,aa 6 26] (ae [ba 28 10 1,aM 29 15 [t 28],aa 27 29,ce 30 27 0,ce 31 27 1,aa 7 30,aa 8 31] (ae [ba 33 10 1,aM 34 23 ([t 33,cN ((0)),cN ((11))]),aa 32 34,ce 35 32 0,ce 36 32 1,ce 37 32 2,aa 9 35,aa 10 36,aa 11 37] (am [aa 38 2,aa 39 4,aU 40 .add 38 39,aa 41 6,aU 42 .add 40 41,aa 43 8,aU 44 .add 42 43,aa 45 11,aU 46 .add 44 45,aq 47 .eql 46 0,aa 48 47,ap 49 48 (fa 0 (t 3)),ap 50 48 (cD 49),ap 51 48 (lenS (t 50)),ap 52 48 (cB .eql (t 51) (cN 12)),d8 53 48 52,aa 54 53,ap 55 54 (cM 5),ap 56 54 (cB .eql (t 55) (cN 0)),d8 57 54 56,aa 58 57,ap 59 58 (cM 7),ap 60 58 (lenS (t 59)),ap 61 58 (cB .eql (t 60) (cN 12)),d8 62 58 61,aa 63 62,ap 64 63 (cM 7),ap 65 63 (call (cF 24) [t 64]),ap 66 63 (cB .eql (t 65) (cN 0)),d8 67 63 66,aa 68 67,ap 69 68 (cM 10),d8 70 68 69,aa 71 70,ap 72 71 (cM 9),ap 73 71 (cB .gtr (t 72) (cN 0)),d8 74 71 73,aa 0 74]))))))))
theorem is5:Is Tryz.prog 5 b5:=mkI Tryz.func5
def b6:F2:=(F2.mk 56 [RV.cn 2 10,RV.t 3,RV.t 4,RV.t 5] (ae [bR 1 0,cO 2 (alloc (AV.agg [ag,ag,ag,AV.esl,ag,AV.esl,ag,ag,AV.esl,AV.esl])),dj 3,ci 4,ci 5] ((ae [ba 12 7 1,aM 13 25 [t 12],gZ 14 13] (az 14 (am [cO 15 (bld [ag,ag,ag,AV.esl,ag,AV.esl,ag,ag,AV.esl,AV.esl] []),aY 10 2 15,dj 3,ci 4,jI 5]))).seq (ae [ba 17 7 1,aM 18 20 [t 17],aa 16 18,ce 19 16 0,ce 20 16 1,cO 6 (alloc (AV.agg [ag,ag,ag,AV.esl,ag,AV.esl,ag,ag,AV.esl,AV.esl])),aY 10 6 19,aa 7 20] ((ae [aa 21 7,aq 22 .neq 21 0,aa 23 22,aF 24 23 (fa 9 (t 6)),aF 25 23 (cD 24),aF 26 23 (lenS (t 25)),aF 27 23 (cB .eql (t 26) (cN 0)),dA 28 23 27] (az 28 (am [ba 29 10 6,aY 10 2 29,dj 3,ci 4,ci 5]))).seq (ae [dj 8] ((ae [av 30 9 6,ah 31 30,aV 32 31,ao 33 0] (block 0 ((dh 34 33 32 0 ((block 1 (ae [aa 35 33,aa 9 35] (ae [ba 37 10 6,aa 38 9,aM 39 26 [t 37,t 38],aa 36 39,ce 40 36 0,ce 41 36 1,aa 10 40,aa 11 41] ((ae [aa 42 11,aq 43 .neq 42 0,aa 44 43,ap 45 44 (cM 11),ap 46 44 (cB .neq (t 45) (cN 16)),d8 47 44 46] (az 47 (am [ba 48 10 6,aY 10 2 48,dj 3,ci 4,ci 5]))).seq (ops 0 [aa 49 8,aa 50 10,cO 51 (bldS 1 1 [AV.esl] [(0,1,t 50)]),fE 52 1 24 49 51,aa 8 52]))))).seq (cU 53 33)))).loop)).seq (am [ba 54 10 6,aa 55 8,aY 10 2 54,aa 3 55,jI 4,jI 5]))))))))
theorem is6:Is Tryz.prog 6 b6:=mkI Tryz.func6
def b7:F2:=(F2.mk 63 [RV.t 6,RV.t 7,RV.t 8] (ae [bR 3 0,bR 4 1,dj 6,ci 7,ao 8 0] (ae [ba 16 10 3,ah 17 4,aa 18 2,cO 19 (bldS 1 2 [ag] [(0,1,t 17),(1,1,t 18)]),aM 20 27 [t 16,t 19],aa 15 20,ce 21 15 0,ce 22 15 1,aa 9 21,aa 10 22] ((ae [aa 23 10,aq 24 .neq 23 0] (az 24 (am [aa 25 10,dj 6,ci 7,aa 8 25]))).seq (ae [aa 26 9,aa 27 2,aM 28 28 [t 26,t 27],cO 11 (alloc AV.esl),aY 1 11 28] ((ae [ah 29 11,ah 30 4,aB 31 1 29 30,ah 32 31,aq 33 .lss 32 0] (az 33 (am [dj 6,ci 7,ao 8 0]))).seq (ae [ah 34 4,cO 35 (bld [ag,ag] [(0,1,t 34),(1,1,cN ((-1)))]),cO 36 (bldS 2 1 [ag,ag] [(0,2,t 35)]),cO 12 (alloc AV.esl),aY 1 12 36] ((block 0 ((ae [ah 37 4,aa 38 2,aU 39 .neq 37 38] (bX 39 skip (exit 0))).seq (block 1 (ae [aa 40 9,ah 41 4,aM 42 29 [t 40,t 41]] (block 2 (rangeF (t 42) [43,44] (ae [aa 13 43] (ops 0 [aa 14 44])) (block 3 ((ops 1 [ah 45 11,aa 46 13,aB 47 1 45 46,ah 48 47,ah 49 11,ah 50 4,aB 51 1 49 50,ah 52 51,aq 53 .sub 52 1,aU 54 .eql 48 53]).seq (az 54 (ae [ah 55 12,aa 56 13,aa 57 14,cO 58 (bld [ag,ag] [(0,1,t 56),(1,1,t 57)]),cO 59 (bldS 2 1 [ag,ag] [(0,2,t 58)]),fE 60 2 16 55 59,aY 1 12 60] (ae [aa 61 13,aY 1 4 61] (exit 2))))))))))).loop).seq (am [ah 62 12,aa 6 62,jI 7,ao 8 0])))))))))
theorem is7:Is Tryz.prog 7 b7:=mkI Tryz.func7
def b8:F2:=(F2.mk 48 [RV.t 4] (ae [dj 4] ((ae [aa 9 1,aq 10 .lss 9 0] (az 10 (ops 0 [cO 11 dead,Op2.mk none none dead]))).seq (ae [aa 13 0,aV 14 13,cO 15 (conv IntKind.u64 (t 14)),aa 16 1,cO 17 (conv IntKind.u64 (t 16)),aM 18 30 [t 15,t 17],aa 12 18,ce 19 12 0,ce 20 12 1,aa 5 19,aa 6 20] ((ae [aa 21 5,cO 22 (cB .gtr (t 21) (c (AV.int IntKind.u64 (0)))),aa 23 22,aF 24 23 (cM 6),aF 25 23 (cB .gtr (t 24) (c (AV.int IntKind.u64 (9223372036854775807)))),dA 26 23 25] (az 26 (ops 0 [cO 27 dead,Op2.mk none none dead]))).seq (ae [aa 28 6,cO 29 (conv IntKind.i64 (t 28)),cO 30 (mks 1 8 [ag] (t 29) (t 29)),aa 7 30] (ae [aa 31 7,aa 32 0,cO 33 (cpy 1 (t 31) (t 32)),aa 8 33] ((block 0 ((ae [aa 34 8,aa 35 7,aV 36 35,aU 37 .lss 34 36] (bX 37 skip (exit 0))).seq (block 1 (mix 9 [aa 38 8,aa 39 7,aa 40 8,cO 41 (sls 1 (t 39) (some (t 40)) none none),aa 42 7,aa 43 8,cO 44 (sls 1 (t 42) none (some (t 43)) none),cO 45 (cpy 1 (t 41) (t 44)),aU 46 .add 38 45,aa 8 46] [0,1,2,3,4,5,6,7,8,9]))).loop).seq (am [aa 47 7,aa 4 47])))))))))
theorem is8:Is Tryz.prog 8 b8:=mkI Tryz.func8
def b9:F2:=(F2.mk 9 [RV.t 4] (ae [ci 4] (am [aa 5 0,aa 6 1,aM 7 31 [t 5,t 6],aq 8 .geq 7 0,aa 4 8])))
theorem is9:Is Tryz.prog 9 b9:=mkI Tryz.func9
def b10:F2:=(F2.mk 7 [RV.t 3] (ae [bR 2 0,ci 3] (am [ah 4 1,ba 5 2 2,aM 6 11 [t 4,t 5],aa 3 6])))
theorem Pk:Is Tryz.prog 10 b10:=mkI Tryz.func10
def b11:F2:=(F2.mk 9 [RV.t 4] (ae [bR 3 1,ci 4] (am [aa 5 0,ba 6 2 3,aM 7 32 [t 5,t 6],aq 8 .geq 7 0,aa 4 8])))
theorem O4:Is Tryz.prog 11 b11:=mkI Tryz.func11
def b12:F2:=(F2.mk 23 [RV.t 6] (ae [bR 5 0,ci 6] ((mixS 1 [av 7 0 5,ah 8 7,ah 9 1,ah 10 2,aB 11 2 9 10,av 12 1 11,ah 13 12,aU 14 .eql 8 13,aa 15 14,ap 16 15 (cD 3),ap 17 15 (cD 4),ap 18 15 (ixaS 1 (t 16) (t 17)),ap 19 15 (cD 18),ap 20 15 (ldn 2 (t 5)),ap 21 15 (call (cF 11) [t 19,t 20]),d8 22 15 21,aa 6 22] [(0,0),(1,0),(2,0),(3,0),(4,0),(5,0),(6,0),(7,0),(8,0),(9,0),(10,0),(11,0),(12,0),(13,0),(14,2),(15,0),(16,0)]).seq ret)))
theorem Pv:Is Tryz.prog 12 b12:=mkI Tryz.func12
def b13:F2:=(F2.mk 15 [RV.cn 2 1,RV.t 3] (ae [bR 1 0,cO 2 (alloc (AV.agg [AV.esl])),ao 3 0] ((ae [ba 5 10 1,aM 6 33 [t 5],aa 4 6] (ae [aa 7 4,aq 8 .neq 7 0] (az 8 (am [cO 9 (bld [AV.esl] []),aa 10 4,aY 1 2 9,aa 3 10])))).seq (am [ba 11 10 1,aM 12 34 ([t 11,cN ((-1))]),ce 13 12 0,ce 14 12 1,aY 1 2 13,aa 3 14]))))
theorem O2:Is Tryz.prog 13 b13:=mkI Tryz.func13
def b15:F2:=(F2.mk 38 [RV.t 2,RV.t 3] (ae [bR 1 0,dj 2,ao 3 0] (ae [ba 9 10 1,aM 10 37 [t 9],aa 8 10,ce 11 8 0,ce 12 8 1,aa 4 11,aa 5 12] ((ae [aa 13 5,aq 14 .neq 13 0] (az 14 (am [aa 15 5,dj 2,aa 3 15]))).seq (ae [aa 16 4,aM 17 38 ([t 16,cN ((0))]),aa 6 17] ((ae [ao 7 1] (block 0 ((ae [aa 18 7,aa 19 4,cO 20 (nilck (t 19)),av 21 0 20,ah 22 21,aU 23 .lss 18 22] (bX 23 skip (exit 0))).seq ((block 1 (ae [aa 27 6,aa 28 4,aa 29 7,aM 30 38 [t 28,t 29],aM 31 39 [t 27,t 30],aa 26 31,ce 32 26 0,ce 33 26 1,aa 6 32,aa 5 33] (ae [aa 34 5,aq 35 .neq 34 0] (az 35 (am [aa 36 5,dj 2,aa 3 36]))))).seq (ops 0 [aa 24 7,aq 25 .add 24 1,aa 7 25]))).loop)).seq (am [aa 37 6,aa 2 37,ao 3 0])))))))
theorem O1:Is Tryz.prog 15 b15:=mkI Tryz.func15
def b20:F2:=(F2.mk 86 [RV.cn 2 10,RV.c1 3] (ae [bR 1 0,cO 2 (alloc (AV.agg [ag,ag,ag,AV.esl,ag,AV.esl,ag,ag,AV.esl,AV.esl])),cO 3 (alloc (ag))] (ae [ba 12 7 1,aM 13 43 [t 12],aa 11 13,ce 14 11 0,ce 15 11 1,aa 4 14,aa 5 15] ((ae [aa 16 5,aq 17 .neq 16 0] (az 17 (am [cO 18 (bld [ag,ag,ag,AV.esl,ag,AV.esl,ag,ag,AV.esl,AV.esl] []),aa 19 5,aY 10 2 18,aY 1 3 19]))).seq ((ae [aa 20 4,aq 21 .gtr 20 4096] (az 21 (am [cO 22 (bld [ag,ag,ag,AV.esl,ag,AV.esl,ag,ag,AV.esl,AV.esl] []),aY 10 2 22,Op2.mk none none (Ins.st 1 (t 3) (cN 17))]))).seq (ae [av 24 4 1,ba 25 2 24,av 26 6 1,ah 27 26,aM 28 44 [t 25,t 27],aa 23 28,ce 29 23 0,ce 30 23 1,aa 6 29,aa 5 30] ((ae [aa 31 5,aq 32 .neq 31 0] (az 32 (am [cO 33 (bld [ag,ag,ag,AV.esl,ag,AV.esl,ag,ag,AV.esl,AV.esl] []),aa 34 5,aY 10 2 33,aY 1 3 34]))).seq (ae [ba 35 7 1,aM 36 45 [t 35],cO 37 (bld [ag,ag,ag,AV.esl,ag,AV.esl,ag,ag,AV.esl,AV.esl] [(0,7,t 36)]),cO 7 (alloc (AV.agg [ag,ag,ag,AV.esl,ag,AV.esl,ag,ag,AV.esl,AV.esl])),aY 10 7 37] (ae [av 38 0 1,av 39 0 38,ah 40 39,cO 41 (mkm none),cO 42 (bld [ag,AV.esl,AV.nilm] [(0,1,t 40),(2,1,t 41)]),bR 43 42,cO 8 (alloc AV.nilp),aY 1 8 43] ((ae [ba 44 7 1,aa 45 6,aM 46 46 [t 44,t 45]] (block 0 (rangeF (t 46) [47,48] (ae [aa 9 47] (ops 0 [aa 10 48])) (block 1 ((mixS 1 [av 49 9 7,ah 50 49,aa 51 9,aa 52 10,aM 53 47 [t 52],ah 54 8,av 55 0 1,av 56 3 55,ah 57 56,aa 58 9,aB 59 3 57 58,av 60 0 59,ah 61 60,aa 62 10,aM 63 48 [t 54,t 61,t 62],cO 64 (bld [ag,AV.esl,AV.esl] [(0,1,t 51),(1,1,t 53),(2,1,t 63)]),cO 65 (bldS 3 1 [ag,AV.esl,AV.esl] [(0,3,t 64)]),fE 66 3 56 50 65,av 67 9 7,aY 1 67 66] [(0,0),(1,0),(2,0),(3,0),(5,0),(6,0),(7,0),(8,0),(9,0),(10,0),(11,0),(12,0),(13,0),(4,1),(14,1),(15,0),(16,1),(17,2),(18,0),(19,2)]).seq (ae [ah 68 8,cO 69 (nilck (t 68)),av 70 1 69,ah 71 70,aV 72 71,aq 73 .gtr 72 8192] (az 73 (am [cO 74 (bld [ag,ag,ag,AV.esl,ag,AV.esl,ag,ag,AV.esl,AV.esl] []),aY 10 2 74,Op2.mk none none (Ins.st 1 (t 3) (cN 17))])))))))).seq ((ops 1 [ah 75 8,cO 76 (nilck (t 75)),av 77 0 76,ah 78 77,ah 79 8,cO 80 (nilck (t 79)),av 81 1 80,ah 82 81,cO 83 (bld [ag,AV.esl] [(0,1,t 78),(1,1,t 82)]),av 84 7 7,aY 2 84 83]).seq (am [ba 85 10 7,aY 10 2 85,Op2.mk none none (Ins.st 1 (t 3) (cN 0))]))))))))))))
theorem Px:Is Tryz.prog 20 b20:=mkI Tryz.func20
def b21:F2:=(F2.mk 54 [RV.cn 2 7] (ae [cO 2 (alloc (AV.agg [ag,ag,ag,AV.esl,ag,AV.esl,ag]))] (ae [cO 8 (bldS 1 2 [ag] [(0,1,cN ((0))),(1,1,cN ((0)))]),cO 9 (bldS 1 2 [ag] [(0,1,cN ((1))),(1,1,cN ((1)))]),cO 10 (bldS 1 2 [AV.esl] [(0,1,t 8),(1,1,t 9)]),aa 3 10] ((ops 1 [cO 11 (bldS 1 2 [ag] [(0,1,cN ((0))),(1,1,cN ((0)))]),aa 12 3,cO 13 (sls 1 (t 12) none (some (cN 1)) none),cO 14 (bld [AV.esl,AV.esl,AV.esl] [(0,1,t 11),(1,1,t 13)]),cO 15 (bldS 1 2 [ag] [(0,1,cN ((0))),(1,1,cN ((1)))]),aa 16 3,cO 17 (bld [AV.esl,AV.esl,AV.esl] [(0,1,t 15),(1,1,t 16)]),cO 18 (bldS 1 2 [ag] [(0,1,cN ((1))),(1,1,cN ((0)))]),aa 19 3,cO 20 (bld [AV.esl,AV.esl,AV.esl] [(0,1,t 18),(1,1,t 19)]),cO 21 (bldS 1 2 [ag] [(0,1,cN ((1))),(1,1,cN ((1)))]),aa 22 3,cO 23 (sls 1 (t 22) (some (cN 1)) none none),cO 24 (bld [AV.esl,AV.esl,AV.esl] [(0,1,t 21),(1,1,t 23)]),cO 25 (bldS 3 4 [AV.esl,AV.esl,AV.esl] [(0,3,t 14),(3,3,t 17),(6,3,t 20),(9,3,t 24)]),cO 26 (bld [ag,ag,ag,AV.esl] [(0,1,cN ((2))),(1,1,cN ((2))),(2,1,cN ((2))),(3,1,t 25)]),cO 4 (alloc (AV.agg [ag,ag,ag,AV.esl])),aY 4 4 26]).seq (ae [dj 5] ((ae [cO 27 (bld [ag,ag] [(0,1,cN ((1))),(1,1,cN ((3)))]),cO 28 (bld [ag,ag] [(0,1,cN ((3))),(1,1,cN ((2)))]),cO 29 (bld [ag,ag] [(0,1,cN ((3))),(1,1,cN ((3)))]),cO 30 (bldS 2 3 [ag,ag] [(0,2,t 27),(2,2,t 28),(4,2,t 29)]),aV 31 30,ao 32 0] (block 0 ((dh 33 32 31 0 ((block 1 (ae [aB 34 2 30 32,ba 35 2 34,cO 7 (alloc (AV.agg [ag,ag])),aY 2 7 35] (ops 0 [aa 36 5,cO 37 (ixaA 2 1 (t 7) (cN 0)),ah 38 37,cO 39 (ixaA 2 1 (t 7) (cN 1)),ah 40 39,cO 41 (bld [ag,ag,ag,ag,ag] [(0,1,t 38),(1,1,t 40)]),cO 42 (bld [ag,ag,ag,ag,ag,ag] [(0,1,cN ((2))),(1,5,t 41)]),cO 43 (bld [ag,ag,ag,ag,ag,ag,ag] [(0,6,t 42)]),cO 44 (bld [ag,ag,ag,ag,ag,ag,ag,ag] [(0,7,t 43)]),cO 45 (bldS 8 1 [ag,ag,ag,ag,ag,ag,ag,ag] [(0,8,t 44)]),fE 46 8 64 36 45,aa 5 46]))).seq (cU 47 32)))).loop)).seq (am [ba 48 4 4,aa 49 5,cO 50 (bldS 1 1 [AV.esl] [(0,1,t 49)]),cO 51 (bld [ag,AV.esl] [(0,1,cN ((2))),(1,1,t 50)]),aa 52 0,cO 53 (bld [ag,ag,ag,AV.esl,ag,AV.esl,ag] [(0,4,t 48),(4,2,t 51),(6,1,t 52)]),aY 7 2 53])))))))
theorem Oj:Is Tryz.prog 21 b21:=mkI Tryz.func21
def b22:F2:=(F2.mk 40 [RV.t 2,RV.t 3] (ae [bR 1 0,ao 2 0,ao 3 0] ((ae [ba 9 1 1,aM 10 35 [t 9],aa 4 10] (ae [aa 11 4,aq 12 .neq 11 0] (az 12 (am [aa 13 4,ao 2 0,aa 3 13])))).seq (ae [ao 5 0] ((ae [ao 6 1] (block 0 ((ae [aa 14 6,aq 15 .leq 14 8] (bX 15 skip (exit 0))).seq ((block 1 (ae [av 19 0 1,ah 20 19,aa 21 6,aM 22 49 [t 20,t 21],aa 18 22,ce 23 18 0,ce 24 18 1,aa 7 23,aa 8 24] ((ae [aa 25 8,aq 26 .neq 25 0] (az 26 (am [aa 27 8,ao 2 0,aa 3 27]))).seq (ae [aa 28 6,aq 29 .rem 28 2,aq 30 .eql 29 1] (bX 30 (ops 0 [aa 31 5,aa 32 7,aV 33 32,aU 34 .add 31 33,aa 5 34]) (ops 0 [aa 35 5,aa 36 7,aV 37 36,aU 38 .sub 35 37,aa 5 38])))))).seq (ops 0 [aa 16 6,aq 17 .add 16 1,aa 6 17]))).loop)).seq (am [aa 39 5,aa 2 39,ao 3 0]))))))
theorem Pa:Is Tryz.prog 22 b22:=mkI Tryz.func22
def b23:F2:=(F2.mk 33 [RV.t 6,RV.t 7,RV.t 8] (ae [bR 3 0,ao 6 0,ci 7,ao 8 0] (ae [ba 13 10 3,aa 14 1,aa 15 2,cO 16 (bldS 1 2 [ag] [(0,1,t 14),(1,1,t 15)]),aM 17 27 [t 13,t 16],aa 12 17,ce 18 12 0,ce 19 12 1,aa 9 18,aa 10 19] ((ae [aa 20 10,aq 21 .neq 20 0] (az 21 (am [aa 22 10,ao 6 0,ci 7,aa 8 22]))).seq (ae [aa 23 9,aa 24 2,aM 25 28 [t 23,t 24],aa 26 1,aB 27 1 25 26,ah 28 27,aa 11 28] (am [aa 29 11,cO 30 (mx (t 29) [cN ((0))]),aa 31 11,aq 32 .geq 31 0,aa 6 30,aa 7 32,ao 8 0]))))))
theorem Pn:Is Tryz.prog 23 b23:=mkI Tryz.func23
def b24:F2:=(F2.mk 25 [RV.t 2] (ae [ao 2 0] ((ae [aa 5 0,aV 6 5,aq 7 .lss 6 1] (az 7 (ops 0 [cO 8 dead,Op2.mk none none dead]))).seq (ae [aa 9 0,cO 10 (ixaS 1 (t 9) (cN 0)),ah 11 10,aa 3 11] ((ae [ao 4 1] (block 0 ((ae [aa 12 4,aa 13 0,aV 14 13,aU 15 .lss 12 14] (bX 15 skip (exit 0))).seq ((block 1 (ops 0 [aa 18 3,aa 19 0,aa 20 4,aB 21 1 19 20,ah 22 21,cO 23 (mx (t 18) [t 22]),aa 3 23])).seq (ops 0 [aa 16 4,aq 17 .add 16 1,aa 4 17]))).loop)).seq (am [aa 24 3,aa 2 24]))))))
theorem PR:Is Tryz.prog 24 b24:=mkI Tryz.func24
def b25:F2:=(F2.mk 15 [RV.t 2] (ae [bR 1 0,ci 2] ((ae [ba 5 7 1,aM 6 50 [t 5],gZ 7 6] (az 7 (am [ci 2]))).seq (ae [ba 9 7 1,aM 10 51 [t 9],aa 8 10,ce 11 8 0,ce 12 8 1,cO 3 (alloc (AV.agg [ag,ag,ag,AV.esl,ag,AV.esl,ag,ag,AV.esl,AV.esl])),aY 10 3 11,aa 4 12] (am [aa 13 4,aq 14 .eql 13 0,aa 2 14])))))
theorem O8:Is Tryz.prog 25 b25:=mkI Tryz.func25
def b26:F2:=(F2.mk 32 [RV.t 4,RV.t 5] (ae [bR 2 0,dj 4,ao 5 0] ((ae [ba 8 10 2,aM 9 33 [t 8],aa 6 9] (ae [aa 10 6,aq 11 .neq 10 0] (az 11 (am [aa 12 6,dj 4,aa 5 12])))).seq ((ae [aa 13 1,aq 14 .lss 13 0,aa 15 14,aF 16 15 (cM 1),aF 17 15 (fa 9 (t 2)),aF 18 15 (cD 17),aF 19 15 (lenS (t 18)),aF 20 15 (cB .geq (t 16) (t 19)),dA 21 15 20] (az 21 (am [dj 4,ao 5 6]))).seq (ae [av 22 9 2,ah 23 22,aa 24 1,aB 25 3 23 24,ba 26 3 25,aM 27 52 [t 26],aa 7 27] ((ae [aa 28 7,aV 29 28,aq 30 .eql 29 0] (az 30 (am [dj 4,ao 5 16]))).seq (am [aa 31 7,aa 4 31,ao 5 0])))))))
theorem Oo:Is Tryz.prog 26 b26:=mkI Tryz.func26
def b27:F2:=(F2.mk 30 [RV.t 4,RV.t 5] (ae [bR 2 0,cO 4 (mov (c AV.nilp)),ao 5 0] (ae [ba 11 10 2,aM 12 37 [t 11],aa 10 12,ce 13 10 0,ce 14 10 1,aa 6 13,aa 7 14] ((ae [aa 15 7,aq 16 .neq 15 0] (az 16 (am [aa 17 7,cO 4 (mov (c AV.nilp)),aa 5 17]))).seq ((ae [aa 18 1,aV 19 18,ao 20 0] (block 0 ((dh 21 20 19 0 ((block 1 (ae [aB 22 1 18 20,ah 23 22,aa 9 23] (ae [aa 24 6,aa 25 9,aM 26 53 [t 24,t 25],gZ 27 26] (az 27 (am [cO 4 (mov (c AV.nilp)),ao 5 6]))))).seq (cU 28 20)))).loop)).seq (am [aa 29 6,aa 4 29,ao 5 0]))))))
theorem Om:Is Tryz.prog 27 b27:=mkI Tryz.func27
def b28:F2:=(F2.mk 62 [RV.t 4] (ae [dj 4] (ae [aa 9 0,cO 10 (nilck (t 9)),av 11 1 10,ah 12 11,aV 13 12,cO 14 (mks 1 8 [ag] (t 13) (t 13)),cO 5 (alloc AV.esl),aY 1 5 14] ((ae [ah 15 5,aV 16 15,ao 17 0] (block 0 ((dh 18 17 16 0 ((block 1 (ae [aa 19 17,aa 6 19] (ops 0 [ah 20 5,aa 21 6,aB 22 1 20 21,Op2.mk none none (Ins.st 1 (t 22) (cN ((-1))))]))).seq (cU 23 17)))).loop)).seq (ae [ah 24 5,aa 25 1,aB 26 1 24 25,Op2.mk none none (Ins.st 1 (t 26) (cN 0))] ((ae [aa 27 1,cO 28 (bldS 1 1 [ag] [(0,1,t 27)]),cO 7 (alloc AV.esl),aY 1 7 28] (block 2 ((ae [ah 29 7,aV 30 29,aq 31 .gtr 30 0] (bX 31 skip (exit 2))).seq ((block 3 (ae [aa 34 0,ah 35 7,cO 36 (ixaS 1 (t 35) (cN 0)),ah 37 36,aM 38 29 [t 34,t 37]] (block 4 (rangeF (t 38) [39,40] (ops 0 [aa 8 39]) (block 5 (ae [ah 41 5,aa 42 8,aB 43 1 41 42,ah 44 43,aq 45 .lss 44 0] (az 45 ((ops 1 [ah 46 5,aa 47 8,ah 48 5,ah 49 7,cO 50 (ixaS 1 (t 49) (cN 0)),ah 51 50,aB 52 1 48 51,ah 53 52,aq 54 .add 53 1,aB 55 1 46 47,aY 1 55 54]).seq (ops 0 [ah 56 7,aa 57 8,cO 58 (bldS 1 1 [ag] [(0,1,t 57)]),fE 59 1 8 56 58,aY 1 7 59]))))))))).seq ((ae [ah 60 7] (ops 0 [cO 7 (alloc AV.esl),aY 1 7 60])).seq (ops 0 [ah 32 7,cO 33 (sls 1 (t 32) (some (cN 1)) none none),aY 1 7 33])))).loop)).seq (am [ah 61 5,aa 4 61])))))))
theorem Oh:Is Tryz.prog 28 b28:=mkI Tryz.func28
def b29:F2:=(F2.mk 6 [RV.t 4] (ae [bR 2 0,bR 3 1,cO 4 (mov (c AV.nilf))] (am [cO 5 (mkfn 54 [t 2,t 3]),aa 4 5])))
theorem OB:Is Tryz.prog 29 b29:=mkI Tryz.func29
def b30:F2:=(F2.mk 30 [RV.t 4,RV.t 5] (ae [cO 4 (mov (c (AV.int IntKind.u64 (0)))),cO 5 (mov (c (AV.int IntKind.u64 (0))))] ((C2.cond HJ (ae [aa 11 0,cO 12 (conv IntKind.u32 (t 11)),aa 13 1,cO 14 (conv IntKind.u32 (t 13)),aM 15 56 [t 12,t 14],aa 10 15,ce 16 10 0,ce 17 10 1,aa 6 16,aa 7 17] (am [aa 18 6,cO 19 (conv IntKind.u64 (t 18)),aa 20 7,cO 21 (conv IntKind.u64 (t 20)),aa 4 19,aa 5 21])) skip).seq (ae [aa 23 0,aa 24 1,aM 25 57 [t 23,t 24],aa 22 25,ce 26 22 0,ce 27 22 1,aa 8 26,aa 9 27] (am [aa 28 8,aa 29 9,aa 4 28,aa 5 29])))))
theorem Pg:Is Tryz.prog 30 b30:=mkI Tryz.func30
def b31:F2:=(F2.mk 19 [RV.t 4] (ae [ao 4 0] ((ae [aa 6 0,aV 7 6,ao 8 0] (block 0 ((dh 9 8 7 0 ((block 1 (ae [aa 10 8,aa 5 10] (ae [aa 11 1,aa 12 0,aa 13 5,aB 14 2 12 13,ba 15 2 14,cO 16 (call (t 11) [t 15])] (az 16 (am [aa 17 5,aa 4 17]))))).seq (cU 18 8)))).loop)).seq (am [cO 4 (mov (cN ((-1))))]))))
theorem PG:Is Tryz.prog 31 b31:=mkI Tryz.func31
def b32:F2:=(F2.mk 19 [RV.t 4] (ae [bR 3 1,ao 4 0] ((ae [aa 6 0,aV 7 6,ao 8 0] (block 0 ((dh 9 8 7 0 ((block 1 (ae [aa 10 8,aa 5 10] ((ops 1 [ba 11 2 3,aa 12 0,aa 13 5,aB 14 2 12 13,ba 15 2 14,cO 16 (binS BinOp.eql [int,int] (t 11) (t 15))]).seq (az 16 (am [aa 17 5,aa 4 17]))))).seq (cU 18 8)))).loop)).seq (am [cO 4 (mov (cN ((-1))))]))))
theorem Ov:Is Tryz.prog 32 b32:=mkI Tryz.func32
def b33:F2:=(F2.mk 39 [RV.t 2] (ae [bR 1 0,ao 2 0] (ae [av 6 0 1,ba 7 7 6,aM 8 20 [t 7],aa 5 8,ce 9 5 0,ce 10 5 1,cO 3 (alloc (AV.agg [ag,ag,ag,AV.esl,ag,AV.esl,ag,ag,AV.esl,AV.esl])),aY 10 3 9,aa 4 10] ((ae [aa 11 4,aq 12 .neq 11 0] (az 12 (am [aa 13 4,aa 2 13]))).seq ((ae [av 14 7 1,av 15 0 14,ah 16 15,av 17 7 3,av 18 0 17,ah 19 18,aU 20 .neq 16 19,aa 21 20,aF 22 21 (fa 7 (t 1)),aF 23 21 (fa 1 (t 22)),aF 24 21 (cD 23),aF 25 21 (fa 7 (t 3)),aF 26 21 (fa 1 (t 25)),aF 27 21 (cD 26),aF 28 21 (call (cF 58) [t 24,t 27]),aF 29 21 (un UnOp.not (t 28)),dA 30 21 29,aa 31 30,aF 32 31 (fa 9 (t 1)),aF 33 31 (cD 32),aF 34 31 (fa 9 (t 3)),aF 35 31 (cD 34),aF 36 31 (call (cF 59) [t 33,t 35,c (AV.func 60 [])]),aF 37 31 (un UnOp.not (t 36)),dA 38 31 37] (az 38 (am [ao 2 3]))).seq (am [ao 2 0]))))))
theorem PK:Is Tryz.prog 33 b33:=mkI Tryz.func33
def b34:F2:=(F2.mk 13 [RV.cn 4 1,RV.t 5] (ae [bR 2 0,cO 4 (alloc (AV.agg [AV.esl])),ao 5 0] (am [ba 6 10 2,aa 7 1,aM 8 63 [t 6,t 7],aM 9 62 [t 8],aM 10 61 [t 9],ce 11 10 0,ce 12 10 1,aY 1 4 11,aa 5 12])))
theorem Oz:Is Tryz.prog 34 b34:=mkI Tryz.func34
def b35:F2:=(F2.mk 60 [RV.t 2] (ae [bR 1 0,ao 2 0] ((ae [av 9 0 1,ah 10 9,aV 11 10,aq 12 .gtr 11 4096] (az 12 (am [ao 2 5]))).seq ((ae [av 13 0 1,ah 14 13,aV 15 14,ao 16 0] (block 0 ((dh 17 16 15 0 ((block 1 (ae [aa 18 16,aB 19 1 14 16,ah 20 19,aa 3 18,aa 4 20] ((ae [aa 21 4,aM 22 64 [t 21],aa 5 22] (ae [aa 23 5,aq 24 .neq 23 0] (az 24 (am [aa 25 5,aa 2 25])))).seq (ae [aa 26 3,aq 27 .gtr 26 0,aa 28 27,ap 29 28 (fa 0 (t 1)),ap 30 28 (cD 29),ap 31 28 (cM 3),ap 32 28 (cB .sub (t 31) (cN 1)),ap 33 28 (ixaS 1 (t 30) (t 32)),ap 34 28 (cD 33),ap 35 28 (cM 4),ap 36 28 (call (cF 65) [t 34,t 35]),ap 37 28 (cB .geq (t 36) (cN 0)),d8 38 28 37] (az 38 (am [ao 2 14])))))).seq (cU 39 16)))).loop)).seq (ae [av 40 0 1,ah 41 40,aM 42 66 [t 41],aa 6 42] ((ae [av 43 0 1,ah 44 43,aV 45 44,ao 46 0] (block 2 ((dh 47 46 45 2 ((block 3 (ae [aB 48 1 44 46,ah 49 48,aa 8 49] ((mixS 9 [av 50 0 1,ah 51 50,aa 52 6,aa 53 8,cO 54 (ixaS 2 (t 53) (cN 0)),ba 55 2 54,cO 56 (Ins.mget (MK.st [int,int]) AV.esl false (t 52) (t 55)),aa 57 8,aM 58 67 [t 51,t 56,t 57]] [(0,0),(1,0),(2,0),(3,0),(4,0),(5,0),(7,0),(6,1),(8,2)]).seq (az 58 (am [ao 2 7]))))).seq (cU 59 46)))).loop)).seq (am [ao 2 0])))))))
theorem OU:Is Tryz.prog 35 b35:=mkI Tryz.func35
def b37:F2:=(F2.mk 77 [RV.t 2,RV.t 3] (ae [bR 1 0,cO 2 (mov (c AV.nilp)),ao 3 0] ((ae [ba 12 10 1,aM 13 33 [t 12],aa 4 13] (ae [aa 14 4,aq 15 .neq 14 0] (az 15 (am [aa 16 4,cO 2 (mov (c AV.nilp)),aa 3 16])))).seq (ae [av 17 0 1,av 18 0 17,av 19 0 18,ah 20 19,cO 21 (bld [ag,AV.esl] [(0,1,t 20)]),bR 22 21,aa 5 22] ((ae [av 23 9 1,ah 24 23,aV 25 24,ao 26 0] (block 0 ((dh 27 26 25 0 ((block 1 (ae [aB 28 3 24 26,ba 29 3 28,cO 7 (alloc (AV.agg [ag,AV.esl,AV.esl])),aY 3 7 29] (ae [ao 8 0] ((ae [av 30 1 7,ah 31 30,aV 32 31,aa 9 32] (ae [aa 33 9,aq 34 .gtr 33 0] (az 34 (ops 0 [av 35 1 7,ah 36 35,aa 37 9,aq 38 .sub 37 1,aB 39 7 36 38,av 40 6 39,ah 41 40,aa 8 41])))).seq (ae [av 42 2 7,ah 43 42,av 44 2 7,ah 45 44,aV 46 45,aq 47 .sub 46 1,aB 48 1 43 47,ah 49 48,cO 50 (app 1 8 (c AV.esl) (t 49)),aa 10 50] ((ae [aa 51 10,aV 52 51,ao 53 0] (block 2 ((dh 54 53 52 2 ((block 3 (ae [aa 55 53,aa 11 55] (ae [aa 56 8,aa 57 11,aU 58 .shr 56 57,aq 59 .and 58 1,aq 60 .eql 59 1] (az 60 (ops 0 [aa 61 10,aa 62 11,aB 63 1 61 62,Op2.mk none none (Ins.st 1 (t 63) (cN ((-1))))]))))).seq (cU 64 53)))).loop)).seq (ops 0 [aa 65 5,aa 66 5,cO 67 (nilck (t 66)),av 68 1 67,ah 69 68,aa 70 10,cO 71 (bldS 1 1 [AV.esl] [(0,1,t 70)]),fE 72 1 24 69 71,cO 73 (nilck (t 65)),av 74 1 73,aY 1 74 72]))))))).seq (cU 75 26)))).loop)).seq (am [aa 76 5,aa 2 76,ao 3 0]))))))
theorem OX:Is Tryz.prog 37 b37:=mkI Tryz.func37
def b38:F2:=(F2.mk 51 [RV.t 4] (ae [dj 4] (ae [cO 13 (mkm none),aa 5 13] (ae [dj 6] (ae [ao 7 0] ((ae [aa 14 0,cO 15 (nilck (t 14)),av 16 1 15,ah 17 16,aV 18 17,ao 19 0] (block 0 ((dh 20 19 18 0 ((block 1 (ae [aB 21 1 17 19,ah 22 21,aa 9 22] (ae [aa 23 9,aa 24 1,aB 25 1 23 24,ah 26 25,aa 10 26] (ae [aa 28 5,aa 29 10,cO 30 (Ins.mget (one int) (ag) true (t 28) (t 29)),aa 27 30,ce 31 27 0,ce 32 27 1,aa 11 31,aa 12 32] ((ae [aa 33 12,gZ 34 33,aa 35 34,aF 36 35 (cM 10),aF 37 35 (cB .lss (t 36) (cN 0)),dA 38 35 37] (az 38 (ae [aa 39 7,aa 11 39] (ae [aa 40 7,aq 41 .add 40 1,aa 7 41] (ops 0 [aa 42 5,aa 43 10,aa 44 11,Op2.mk none none (mput (one int) (t 42) (t 43) (t 44))]))))).seq (ops 0 [aa 45 6,aa 46 11,cO 47 (bldS 1 1 [ag] [(0,1,t 46)]),fE 48 1 8 45 47,aa 6 48])))))).seq (cU 49 19)))).loop)).seq (am [aa 50 6,aa 4 50])))))))
theorem Ol:Is Tryz.prog 38 b38:=mkI Tryz.func38
def b39:F2:=(F2.mk 100 [RV.t 4,RV.t 5] (ae [dj 4,ao 5 0] ((ae [aa 21 0,aa 22 1,aM 23 68 [t 21,t 22],aa 6 23] (ae [aa 24 6,aq 25 .neq 24 0] (az 25 (am [aa 26 6,dj 4,aa 5 26])))).seq (ae [aa 27 0,aV 28 27,cO 29 (mks 1 8 [ag] (t 28) (t 28)),cO 7 (alloc AV.esl),aY 1 7 29] ((ae [ah 30 7,aV 31 30,ao 32 0] (block 0 ((dh 33 32 31 0 ((block 1 (ae [aa 34 32,aa 8 34] (ops 0 [ah 35 7,aa 36 8,aa 37 8,aB 38 1 35 36,aY 1 38 37]))).seq (cU 39 32)))).loop)).seq (ae [cO 40 (mkfn 69 [t 7]),aa 9 40] ((ae [aa 41 0,aa 42 1,cO 43 (bldS 1 2 [AV.esl] [(0,1,t 41),(1,1,t 42)]),aV 44 43,ao 45 0] (block 2 ((dh 46 45 44 2 ((block 3 (ae [aB 47 1 43 45,ah 48 47,aa 11 48] (ae [cO 49 (mkm none),aa 12 49] (ae [aa 50 11,aV 51 50,ao 52 0] (block 4 ((dh 53 52 51 4 ((block 5 (ae [aa 54 52,aB 55 1 50 52,ah 56 55,aa 13 54,aa 14 56] (ae [aa 58 12,aa 59 14,cO 60 (Ins.mget (one int) (ag) true (t 58) (t 59)),aa 57 60,ce 61 57 0,ce 62 57 1,aa 15 61,aa 16 62] (ae [aa 63 16] (bX 63 (ae [aa 64 9,aa 65 13,cO 66 (call (t 64) [t 65]),aa 67 9,aa 68 15,cO 69 (call (t 67) [t 68]),aa 17 66,aa 18 69] (ops 0 [ah 70 7,aa 71 17,aa 72 18,cO 73 (mx (t 71) [t 72]),aa 74 17,aa 75 18,cO 76 (mn (t 74) [t 75]),aB 77 1 70 73,aY 1 77 76])) (ops 0 [aa 78 12,aa 79 14,aa 80 13,Op2.mk none none (mput (one int) (t 78) (t 79) (t 80))])))))).seq (cU 81 52)))).loop))))).seq (cU 82 45)))).loop)).seq (ae [aa 83 0,aV 84 83,cO 85 (mks 1 8 [ag] (t 84) (t 84)),aa 19 85] ((ae [aa 86 19,aV 87 86,ao 88 0] (block 6 ((dh 89 88 87 6 ((block 7 (ae [aa 90 88,aa 20 90] (ops 0 [aa 91 19,aa 92 20,aa 93 9,aa 94 20,cO 95 (call (t 93) [t 94]),aB 96 1 91 92,aY 1 96 95]))).seq (cU 97 88)))).loop)).seq (am [aa 98 19,aM 99 70 [t 98],aa 4 99,ao 5 0]))))))))))
theorem PV:Is Tryz.prog 39 b39:=mkI Tryz.func39
def b43:F2:=(F2.mk 33 [RV.t 2,RV.t 3] (ae [bR 1 0,ao 2 0,ao 3 0] ((ae [ba 8 7 1,aM 9 73 [t 8],aa 4 9] (ae [aa 10 4,aq 11 .neq 10 0] (az 11 (am [aa 12 4,ao 2 0,aa 3 12])))).seq (ae [av 14 4 1,ba 15 2 14,av 16 6 1,ah 17 16,aM 18 74 [t 15,t 17],aa 13 18,ce 19 13 0,ce 20 13 1,aa 5 19,aa 6 20] ((ae [aa 21 6,aq 22 .neq 21 0] (az 22 (am [aa 23 6,ao 2 0,aa 3 23]))).seq (ae [aa 24 5,av 25 0 1,av 26 3 25,ah 27 26,aV 28 27,aU 29 .mul 24 28,aa 7 29] ((ae [aa 30 7,aq 31 .gtr 30 1048576] (az 31 (am [ao 2 0,ao 3 17]))).seq (am [aa 32 7,aa 2 32,ao 3 0]))))))))
theorem OA:Is Tryz.prog 43 b43:=mkI Tryz.func43
def b44:F2:=(F2.mk 27 [RV.t 4,RV.t 5] (ae [bR 2 0,bR 3 1,dj 4,ao 5 0] (ae [ba 11 2 2,ah 12 3,aM 13 75 ([t 11,t 12,cN ((4096))]),aa 10 13,ce 14 10 0,ce 15 10 1,aa 6 14,aa 7 15] ((ae [aa 16 7,aq 17 .neq 16 0] (az 17 (am [aa 18 7,dj 4,aa 5 18]))).seq (ae [aa 19 6,cO 20 (mks 1 24 [AV.esl] (cN 0) (t 19)),cO 8 (alloc AV.esl),aY 1 8 20] (ae [cO 9 (alloc AV.nilf)] (ae [cO 21 (mkfn 76 [t 3,t 8,t 2,t 9]),aY 1 9 21] ((mixS 1 [ah 22 9,ah 23 3,cO 24 (mks 7 56 [ag,ag,ag,ag,ag,ag,ag] (cN 0) (t 23)),cO 25 (call (t 22) [cN ((0)),t 24])] [(0,0),(1,0),(2,1),(3,2)]).seq (am [ah 26 8,aa 4 26,ao 5 0])))))))))
theorem OG:Is Tryz.prog 44 b44:=mkI Tryz.func44
def b45:F2:=(F2.mk 62 [RV.cn 2 7] (ae [bR 1 0,cO 2 (alloc (AV.agg [ag,ag,ag,AV.esl,ag,AV.esl,ag]))] (ae [av 7 0 1,av 8 3 7,ah 9 8,aM 10 77 [t 9],av 11 0 1,av 12 3 11,aY 1 12 10] ((ae [av 13 0 1,av 14 3 13,ah 15 14,aV 16 15,ao 17 0] (block 0 ((dh 18 17 16 0 ((block 1 (ae [aa 19 17,aB 20 3 15 17,ba 21 3 20,cO 4 (alloc (AV.agg [AV.esl,AV.esl,AV.esl])),aa 3 19,aY 3 4 21] (mixS 1 [av 22 0 1,av 23 3 22,ah 24 23,aa 25 3,av 26 0 4,ah 27 26,aM 28 78 [t 27],av 29 1 4,ah 30 29,aM 31 79 [t 30],av 32 2 4,ah 33 32,aM 34 79 [t 33],cO 35 (bld [AV.esl,AV.esl,AV.esl] [(0,1,t 28),(1,1,t 31),(2,1,t 34)]),aB 36 3 24 25,aY 3 36 35] [(0,0),(1,0),(2,0),(3,0),(4,0),(5,0),(7,0),(8,0),(10,0),(11,0),(6,1),(9,1),(12,1),(13,0),(14,0),(15,2)]))).seq (cU 37 17)))).loop)).seq (ae [av 38 4 1,av 39 1 38,ah 40 39,aM 41 80 [t 40],av 42 4 1,av 43 1 42,aY 1 43 41] ((ae [av 44 4 1,av 45 1 44,ah 46 45,aV 47 46,ao 48 0] (block 2 ((dh 49 48 47 2 ((block 3 (ae [aa 50 48,aB 51 1 46 48,ah 52 51,aa 5 50,aa 6 52] (mixS 1 [av 53 4 1,av 54 1 53,ah 55 54,aa 56 5,aa 57 6,aM 58 81 [t 57],aB 59 1 55 56,aY 1 59 58] [(0,0),(1,0),(2,0),(3,0),(4,0),(5,1),(6,0),(7,2)]))).seq (cU 60 48)))).loop)).seq (am [ba 61 7 1,aY 7 2 61])))))))
theorem Ot:Is Tryz.prog 45 b45:=mkI Tryz.func45
def b46:F2:=(F2.mk 6 [RV.t 4] (ae [bR 2 0,bR 3 1,cO 4 (mov (c AV.nilf))] (am [cO 5 (mkfn 82 [t 2,t 3]),aa 4 5])))
theorem Ou:Is Tryz.prog 46 b46:=mkI Tryz.func46
def b47:F2:=(F2.mk 8 [RV.t 2] (ae [dj 2] ((ae [aa 3 0,cO 4 (snil false (t 3))] (az 4 (am [dj 2]))).seq (am [cO 5 (bldS 7 0 [ag,ag,ag,ag,ag,ag,ag] []),aa 6 0,fE 7 7 56 5 6,aa 2 7]))))
theorem PN:Is Tryz.prog 47 b47:=mkI Tryz.func47
def b48:F2:=(F2.mk 99 [RV.t 6] (ae [dj 6] (ae [aa 17 0,cO 18 (nilck (t 17)),av 19 0 18,ah 20 19,cO 21 (mks 1 8 [ag] (t 20) (t 20)),aa 7 21] ((ae [aa 22 7,aV 23 22,ao 24 0] (block 0 ((dh 25 24 23 0 ((block 1 (ae [aa 26 24,aa 8 26] (mixS 1 [aa 27 7,aa 28 8,aa 29 0,aa 30 8,aa 31 1,aa 32 8,aB 33 1 31 32,ah 34 33,aM 35 84 [],cO 36 (bld [ag,ag,ag,ag,ag,ag,ag,ag] [(0,1,t 30),(2,1,t 34),(3,5,t 35)]),aM 37 83 [t 29,t 36],aB 38 1 27 28,aY 1 38 37] [(0,0),(1,0),(2,0),(3,0),(4,0),(5,0),(6,0),(7,0),(8,1),(9,0),(10,2),(11,0),(12,2)]))).seq (cU 39 24)))).loop)).seq (ae [aa 40 7,cO 41 (bldS 1 1 [AV.esl] [(0,1,t 40)]),aa 9 41] ((ae [aa 42 2,aV 43 42,ao 44 0] (block 2 ((dh 45 44 43 2 ((block 3 (ae [aa 46 44,aB 47 7 42 44,ba 48 7 47,cO 11 (alloc (AV.agg [ag,ag,ag,ag,ag,ag,ag])),aa 10 46,aY 7 11 48] (ae [aa 49 0,cO 50 (nilck (t 49)),av 51 0 50,ah 52 51,cO 53 (mks 1 8 [ag] (t 52) (t 52)),aa 12 53] ((ae [aa 54 12,aV 55 54,ao 56 0] (block 4 ((dh 57 56 55 4 ((block 5 (ae [aa 58 56,aa 13 58] (ae [aa 59 13,aa 60 10,aq 61 .add 60 1,aM 62 84 [],cO 63 (bld [ag,ag,ag,ag,ag,ag,ag,ag] [(0,1,t 59),(1,1,t 61),(3,5,t 62)]),cO 14 (alloc (AV.agg [ag,ag,ag,ag,ag,ag,ag,ag])),aY 8 14 63] ((ae [aa 64 7,aV 65 64,ao 66 0] (block 6 ((dh 67 66 65 6 ((block 7 (ae [aa 68 66,aB 69 1 64 66,ah 70 69,aa 15 68,aa 16 70] (ae [aa 71 13,av 72 0 11,av 73 1 72,cO 74 (ixaA 5 1 (t 73) (t 71)),ah 75 74,aa 76 15,aU 77 .shr 75 76,aq 78 .and 77 1,aq 79 .eql 78 1] (az 79 (ops 0 [aa 80 15,aa 81 16,av 82 3 14,cO 83 (ixaA 5 1 (t 82) (t 80)),aY 1 83 81]))))).seq (cU 84 66)))).loop)).seq (ops 0 [aa 85 12,aa 86 13,aa 87 0,ba 88 8 14,aM 89 83 [t 87,t 88],aB 90 1 85 86,aY 1 90 89]))))).seq (cU 91 56)))).loop)).seq (ops 0 [aa 92 9,aa 93 12,cO 94 (bldS 1 1 [AV.esl] [(0,1,t 93)]),fE 95 1 24 92 94,aa 96 12,aa 9 95,aa 7 96]))))).seq (cU 97 44)))).loop)).seq (am [aa 98 9,aa 6 98])))))))
theorem PW:Is Tryz.prog 48 b48:=mkI Tryz.func48
def b49:F2:=(F2.mk 60 [RV.t 4,RV.t 5] (ae [dj 4,ao 5 0] (ae [cO 14 (mkm none),aa 6 14] (ae [dj 7] ((ae [aa 15 0,aV 16 15,ao 17 0] (block 0 ((dh 18 17 16 0 ((block 1 (ae [aB 19 1 15 17,ah 20 19,aa 9 20] ((ae [aa 21 9,aV 22 21,aa 23 1,aU 24 .lss 22 23] (az 24 (exit 1))).seq (ae [aa 26 9,aa 27 1,aM 28 85 [t 26,t 27],aa 25 28,ce 29 25 0,ce 30 25 1,aa 10 29,aa 11 30] ((ae [aa 31 11,aq 32 .neq 31 0] (az 32 (am [aa 33 11,dj 4,aa 5 33]))).seq ((ae [aa 34 10,aV 35 34,ao 36 0] (block 2 ((dh 37 36 35 2 ((block 3 (ae [aB 38 1 34 36,ah 39 38,aa 13 39] (ae [aa 40 6,aa 41 13,aM 42 86 [t 41],cO 43 (Ins.mget (MK.st [int,int,int,int,int,int,int,int,int,int,int,int,int,int,int,int]) (AV.bool false) false (t 40) (t 42)),gZ 44 43] (az 44 (ae [aa 45 6,aa 46 13,aM 47 86 [t 46],Op2.mk none none (mput (MK.st [int,int,int,int,int,int,int,int,int,int,int,int,int,int,int,int]) (t 45) (t 47) Ll)] (ops 0 [aa 48 7,aa 49 13,cO 50 (bldS 1 1 [AV.esl] [(0,1,t 49)]),fE 51 1 24 48 50,aa 7 51])))))).seq (cU 52 36)))).loop)).seq (ae [aa 53 7,aV 54 53,aq 55 .gtr 54 4096] (az 55 (am [dj 4,ao 5 17]))))))))).seq (cU 56 17)))).loop)).seq (ae [aa 57 7,aM 58 87 ([t 57,c (AV.func 65 [])])] (am [aa 59 7,aa 4 59,ao 5 0])))))))
theorem Pr:Is Tryz.prog 49 b49:=mkI Tryz.func49
def b50:F2:=(F2.mk 37 [RV.t 2] (ae [bR 1 0,ci 2] ((ae [av 4 0 1,ba 5 4 4,aM 6 88 [t 5],gZ 7 6,aa 8 7,aF 9 8 (fa 4 (t 1)),aF 10 8 (ldn 2 (t 9)),aF 11 8 (call (cF 89) [t 10]),aF 12 8 (un UnOp.not (t 11)),dA 13 8 12,aa 14 13,aF 15 14 (fa 0 (t 1)),aF 16 14 (fa 0 (t 15)),aF 17 14 (cD 16),aF 18 14 (cB .gtr (t 17) (cN 3)),aF 19 14 (cM 18),ap 20 19 (fa 0 (t 1)),ap 21 19 (fa 0 (t 20)),ap 22 19 (cD 21),ap 23 19 (cB .leq (t 22) (cN 5)),aF 24 14 (pick (t 19) (t 23) HJ),dA 25 14 24] (az 25 (am [ci 2]))).seq ((ae [ba 26 7 1,aM 27 90 [t 26],aq 28 .neq 27 0] (az 28 (am [jI 2]))).seq (ae [ba 29 7 1,aM 30 91 ([t 29,cN ((4096))]),aa 3 30] (am [aa 31 3,aq 32 .leq 31 60,aa 33 32,aF 34 33 (cM 3),aF 35 33 (cB .gtr (t 34) (cN 4096)),dA 36 33 35,aa 2 36]))))))
theorem O6:Is Tryz.prog 50 b50:=mkI Tryz.func50
def b51:F2:=(F2.mk 25 [RV.cn 2 10,RV.t 3] (ae [bR 1 0,cO 2 (alloc (AV.agg [ag,ag,ag,AV.esl,ag,AV.esl,ag,ag,AV.esl,AV.esl])),ao 3 0] ((ae [ba 6 7 1,aM 7 90 [t 6],aa 4 7] (ae [aa 8 4,aq 9 .neq 8 0] (az 9 (am [cO 10 (bld [ag,ag,ag,AV.esl,ag,AV.esl,ag,ag,AV.esl,AV.esl] []),aa 11 4,aY 10 2 10,aa 3 11])))).seq ((ae [ba 12 7 1,aM 13 91 ([t 12,cN ((4096))]),aq 14 .gtr 13 4096] (az 14 (am [cO 15 (bld [ag,ag,ag,AV.esl,ag,AV.esl,ag,ag,AV.esl,AV.esl] []),aY 10 2 15,ao 3 17]))).seq (ae [ba 16 7 1,aM 17 92 [t 16],cO 5 (alloc (AV.agg [ag,ag,ag,AV.esl,ag,AV.esl,ag,ag,AV.esl,AV.esl])),aY 10 5 17] ((ae [av 18 7 5,av 19 1 18,ah 20 19,aV 21 20,aq 22 .gtr 21 8192] (az 22 (am [cO 23 (bld [ag,ag,ag,AV.esl,ag,AV.esl,ag,ag,AV.esl,AV.esl] []),aY 10 2 23,ao 3 17]))).seq (am [ba 24 10 5,aY 10 2 24,ao 3 0])))))))
theorem Jh:Is Tryz.prog 51 b51:=mkI Tryz.func51
def b52:F2:=(F2.mk 47 [RV.t 2] (ae [bR 1 0,dj 2] (ae [ao 3 0] ((ae [av 8 1 1,ah 9 8,aV 10 9,aa 4 10] (ae [aa 11 4,aq 12 .gtr 11 0] (az 12 (ops 0 [av 13 1 1,ah 14 13,aa 15 4,aq 16 .sub 15 1,aB 17 7 14 16,av 18 6 17,ah 19 18,aa 3 19])))).seq (ae [dj 5] ((ae [av 20 2 1,ah 21 20,av 22 2 1,ah 23 22,aV 24 23,aq 25 .sub 24 1,aB 26 1 21 25,ah 27 26,aV 28 27,ao 29 0] (block 0 ((dh 30 29 28 0 ((block 1 (ae [aa 31 29,aB 32 1 27 29,ah 33 32,aa 6 31,aa 7 33] (ae [aa 34 3,aa 35 6,aU 36 .shr 34 35,aq 37 .and 36 1,aq 38 .eql 37 0] (az 38 (ops 0 [aa 39 5,aa 40 6,aa 41 7,cO 42 (bld [ag,ag] [(0,1,t 40),(1,1,t 41)]),cO 43 (bldS 2 1 [ag,ag] [(0,2,t 42)]),fE 44 2 16 39 43,aa 5 44]))))).seq (cU 45 29)))).loop)).seq (am [aa 46 5,aa 2 46])))))))
theorem PU:Is Tryz.prog 52 b52:=mkI Tryz.func52
def b53:F2:=(F2.mk 16 [RV.t 4] (ae [ci 4] (am [aa 5 1,aq 6 .geq 5 0,aa 7 6,ap 8 7 (cM 1),ap 9 7 (cM 0),ap 10 7 (nilck (t 9)),ap 11 7 (fa 1 (t 10)),ap 12 7 (cD 11),ap 13 7 (lenS (t 12)),ap 14 7 (cB .lss (t 8) (t 13)),d8 15 7 14,aa 4 15])))
theorem Py:Is Tryz.prog 53 b53:=mkI Tryz.func53
def b54:F2:=(F2.mk 39 [] (ae [ah 7 1,cO 8 (nilck (t 7)),av 9 1 8,ah 10 9,aV 11 10,ao 12 0] (block 0 ((dh 13 12 11 0 ((block 1 (ae [aa 14 12,aa 4 14] (ae [ah 15 1,ah 16 2,aa 17 4,aM 18 55 [t 15,t 16,t 17],aa 5 18] ((ae [aa 19 5,aq 20 .eql 19 0,aa 21 20,aF 22 21 (cD 2),aF 23 21 (cM 4),aF 24 21 (cB .eql (t 22) (t 23)),dA 25 21 24] (az 25 (exit 1))).seq (ae [ao 6 0] ((block 2 ((ae [aa 26 5,aa 27 6,aU 28 .shr 26 27,aq 29 .and 28 1,aq 30 .eql 29 0] (bX 30 skip (exit 2))).seq (block 3 (ops 0 [aa 31 6,aq 32 .add 31 1,aa 6 32]))).loop).seq (ae [aa 33 0,aa 34 4,aa 35 6,cO 36 (call (t 33) [t 34,t 35]),gZ 37 36] (bX 37 ret skip)))))))).seq (cU 38 12)))).loop)))
theorem Pf:Is Tryz.prog 54 b54:=mkI Tryz.func54
def b55:F2:=(F2.mk 49 [RV.t 6] (ae [ao 6 0] (ae [ao 7 0] ((ae [aa 10 0,cO 11 (nilck (t 10)),av 12 0 11,ah 13 12,ao 14 0] (block 0 ((dh 15 14 13 0 ((block 1 (ae [aa 16 14,aa 8 16] (ae [aa 17 0,cO 18 (nilck (t 17)),av 19 1 18,ah 20 19,aa 21 1,aB 22 1 20 21,ah 23 22,aa 24 8,aB 25 1 23 24,ah 26 25,aa 9 26] (ae [aa 27 9,aq 28 .geq 27 0,aa 29 28,ap 30 29 (cM 9),ap 31 29 (cM 0),ap 32 29 (nilck (t 31)),ap 33 29 (fa 1 (t 32)),ap 34 29 (cD 33),ap 35 29 (cM 2),ap 36 29 (ixaS 1 (t 34) (t 35)),ap 37 29 (cD 36),ap 38 29 (cM 8),ap 39 29 (ixaS 1 (t 37) (t 38)),ap 40 29 (cD 39),ap 41 29 (cB .eql (t 30) (t 40)),d8 42 29 41] (az 42 (ops 0 [aa 43 7,aa 44 8,cO 45 (cB .shl (cN 1) (t 44)),aU 46 .or 43 45,aa 7 46])))))).seq (cU 47 14)))).loop)).seq (am [aa 48 7,aa 6 48])))))
theorem OM:Is Tryz.prog 55 b55:=mkI Tryz.func55
def b57:F2:=(F2.mk 51 [RV.t 4,RV.t 5] (ae [cO 4 (mov (c (AV.int IntKind.u64 (0)))),cO 5 (mov (c (AV.int IntKind.u64 (0))))] (ae [aa 14 0,cO 15 (cB .and (t 14) (c (AV.int IntKind.u64 (4294967295)))),aa 6 15] (ae [aa 16 0,cO 17 (cB .shr (t 16) (c (AV.int IntKind.u64 (32)))),aa 7 17] (ae [aa 18 1,cO 19 (cB .and (t 18) (c (AV.int IntKind.u64 (4294967295)))),aa 8 19] (ae [aa 20 1,cO 21 (cB .shr (t 20) (c (AV.int IntKind.u64 (32)))),aa 9 21] (ae [aa 22 6,aa 23 8,aU 24 .mul 22 23,aa 10 24] (ae [aa 25 7,aa 26 8,aU 27 .mul 25 26,aa 28 10,cO 29 (cB .shr (t 28) (c (AV.int IntKind.u64 (32)))),aU 30 .add 27 29,aa 11 30] (ae [aa 31 11,cO 32 (cB .and (t 31) (c (AV.int IntKind.u64 (4294967295)))),aa 12 32] (ae [aa 33 11,cO 34 (cB .shr (t 33) (c (AV.int IntKind.u64 (32)))),aa 13 34] (ae [aa 35 12,aa 36 6,aa 37 9,aU 38 .mul 36 37,aU 39 .add 35 38,aa 12 39] (ae [aa 40 7,aa 41 9,aU 42 .mul 40 41,aa 43 13,aU 44 .add 42 43,aa 45 12,cO 46 (cB .shr (t 45) (c (AV.int IntKind.u64 (32)))),aU 47 .add 44 46,aa 4 47] (am [aa 48 0,aa 49 1,aU 50 .mul 48 49,aa 5 50])))))))))))))
theorem Pq:Is Tryz.prog 57 b57:=mkI Tryz.func57
def b58:F2:=(F2.mk 26 [RV.t 4] (ae [ci 4] ((ae [aa 6 0,aV 7 6,aa 8 1,aV 9 8,aU 10 .neq 7 9] (az 10 (am [ci 4]))).seq ((ae [aa 11 0,aV 12 11,ao 13 0] (block 0 ((dh 14 13 12 0 ((block 1 (ae [aa 15 13,aa 5 15] ((ops 1 [aa 16 0,aa 17 5,aB 18 8 16 17,ba 19 8 18,aa 20 1,aa 21 5,aB 22 8 20 21,ba 23 8 22,cO 24 (binS BinOp.neq [int,int,int,int,int,int,int,int] (t 19) (t 23))]).seq (az 24 (am [ci 4]))))).seq (cU 25 13)))).loop)).seq (am [jI 4])))))
theorem OT:Is Tryz.prog 58 b58:=mkI Tryz.func58
def b59:F2:=(F2.mk 32 [RV.t 6] (ae [ci 6] ((ae [aa 10 0,aV 11 10,aa 12 1,aV 13 12,aU 14 .neq 11 13] (az 14 (am [ci 6]))).seq ((ae [aa 15 0,aV 16 15,ao 17 0] (block 0 ((dh 18 17 16 0 ((block 1 (ae [aa 19 17,aB 20 3 15 17,ba 21 3 20,cO 8 (alloc (AV.agg [ag,AV.esl,AV.esl])),aa 7 19,aY 3 8 21] (ae [aa 22 1,aa 23 7,aB 24 3 22 23,ba 25 3 24,cO 9 (alloc (AV.agg [ag,AV.esl,AV.esl])),aY 3 9 25] (ae [aa 26 2,ba 27 3 8,ba 28 3 9,cO 29 (call (t 26) [t 27,t 28]),gZ 30 29] (az 30 (am [ci 6])))))).seq (cU 31 17)))).loop)).seq (am [jI 6])))))
theorem PH:Is Tryz.prog 59 b59:=mkI Tryz.func59
def b60:F2:=(F2.mk 24 [RV.t 4] (ae [bR 2 0,bR 3 1,ci 4] (am [av 5 0 2,ah 6 5,av 7 0 3,ah 8 7,aU 9 .eql 6 8,aa 10 9,ap 11 10 (fa 1 (t 2)),ap 12 10 (cD 11),ap 13 10 (fa 1 (t 3)),ap 14 10 (cD 13),ap 15 10 (call (cF 93) [t 12,t 14]),d8 16 10 15,aa 17 16,ap 18 17 (fa 2 (t 2)),ap 19 17 (cD 18),ap 20 17 (fa 2 (t 3)),ap 21 17 (cD 20),ap 22 17 (call (cF 94) [t 19,t 21,c (AV.func 95 [])]),d8 23 17 22,aa 4 23])))
theorem O5:Is Tryz.prog 60 b60:=mkI Tryz.func60
def b61:F2:=(F2.mk 26 [RV.cn 2 1,RV.t 3] (ae [cO 2 (alloc (AV.agg [AV.esl])),ao 3 0] ((ae [aa 7 0,aV 8 7,aq 9 .gtr 8 4096] (az 9 (am [cO 10 (bld [AV.esl] []),aY 1 2 10,ao 3 5]))).seq ((ae [aa 11 0,aV 12 11,ao 13 0] (block 0 ((dh 14 13 12 0 ((block 1 (ae [aB 15 1 11 13,ah 16 15,aa 5 16] (ae [aa 17 5,aM 18 64 [t 17],aa 6 18] (ae [aa 19 6,aq 20 .neq 19 0] (az 20 (am [cO 21 (bld [AV.esl] []),aa 22 6,aY 1 2 21,aa 3 22])))))).seq (cU 23 13)))).loop)).seq (am [aa 24 0,aM 25 96 [t 24],aY 1 2 25,ao 3 0])))))
theorem OJ:Is Tryz.prog 61 b61:=mkI Tryz.func61
def b62:F2:=(F2.mk 5 [RV.t 2] (ae [dj 2] (am [aa 3 0,aM 4 97 [c AV.esl,t 3],aa 2 4])))
theorem Lo:Is Tryz.prog 62 b62:=mkI Tryz.func62
def b63:F2:=(F2.mk 6 [RV.t 4] (ae [bR 2 0,bR 3 1,cO 4 (mov (c AV.nilf))] (am [cO 5 (mkfn 98 [t 2,t 3]),aa 4 5])))
theorem O0:Is Tryz.prog 63 b63:=mkI Tryz.func63
def b64:F2:=(F2.mk 36 [RV.t 2] (ae [ao 2 0] ((block 0 (ae [aa 6 0,aV 7 6,aq 8 .eql 7 0,aa 5 8] (bX 5 (am [ao 2 16]) (ae [aa 10 0,aV 11 10,aq 12 .gtr 11 8,aa 9 12] (az 9 (am [ao 2 5])))))).seq ((ae [aa 13 0,aV 14 13,ao 15 0] (block 1 ((dh 16 15 14 1 ((block 2 (ae [aa 17 15,aB 18 2 13 15,ba 19 2 18,cO 4 (alloc (AV.agg [ag,ag])),aa 3 17,aY 2 4 19] ((ae [ba 20 2 4,aM 21 99 [t 20],gZ 22 21] (az 22 (am [ao 2 2]))).seq ((mixS 1 [aa 23 3,aq 24 .gtr 23 0,aa 25 24,ap 26 25 (cM 0),ap 27 25 (cM 3),ap 28 25 (cB .sub (t 27) (cN 1)),ap 29 25 (ixaS 2 (t 26) (t 28)),ap 30 25 (ldn 2 (t 29)),ap 31 25 (ldn 2 (t 4)),ap 32 25 (call (cF 100) [t 30,t 31]),ap 33 25 (cB .geq (t 32) (cN 0)),d8 34 25 33] [(0,0),(1,0),(2,0),(3,0),(4,0),(5,0),(6,0),(7,0),(8,0),(9,2),(10,0),(11,0)]).seq (az 34 (am [ao 2 14])))))).seq (cU 35 15)))).loop)).seq (am [ao 2 0])))))
theorem Oq:Is Tryz.prog 64 b64:=mkI Tryz.func64
def b65:F2:=(F2.mk 8 [RV.t 4] (ae [ao 4 0] (am [aa 5 0,aa 6 1,aM 7 101 ([t 5,t 6,c (AV.func 100 [])]),aa 4 7])))
theorem OH:Is Tryz.prog 65 b65:=mkI Tryz.func65
def b66:F2:=(F2.mk 33 [RV.t 2] (ae [cO 2 (mov (c AV.nilm))] (ae [cO 8 (mkm none),aa 3 8] ((ae [aa 9 0,aV 10 9,ao 11 0] (block 0 ((dh 12 11 10 0 ((block 1 (ae [aa 13 11,aB 14 1 9 11,ah 15 14,aa 4 13,aa 5 15] (ae [aa 16 5,aV 17 16,ao 18 0] (block 2 ((dh 19 18 17 2 ((block 3 (ae [aB 20 2 16 18,ba 21 2 20,cO 7 (alloc (AV.agg [ag,ag])),aY 2 7 21] (ops 0 [aa 22 3,ba 23 2 7,aa 25 4,cO 26 (bldS 1 1 [ag] [(0,1,t 25)]),cO 27 (mplc (MK.st [int,int]) AV.esl (t 22) (t 23)),ce 24 27 0,fE 28 1 8 24 26,ce 29 27 1,Op2.mk none none (mpst (t 22) (t 29) (t 28))]))).seq (cU 30 18)))).loop)))).seq (cU 31 11)))).loop)).seq (am [aa 32 3,aa 2 32])))))
theorem PO:Is Tryz.prog 66 b66:=mkI Tryz.func66
def b67:F2:=(F2.mk 10 [RV.t 6] (ae [bR 3 0,bR 5 2,ci 6] (am [aa 7 1,cO 8 (mkfn 103 [t 3,t 5]),aM 9 102 [t 7,t 8],aa 6 9])))
theorem PB:Is Tryz.prog 67 b67:=mkI Tryz.func67
def b68:F2:=(F2.mk 27 [RV.t 4] (ae [ao 4 0] ((ae [aa 8 0,aa 9 1,cO 10 (bldS 1 2 [AV.esl] [(0,1,t 8),(1,1,t 9)]),aV 11 10,ao 12 0] (block 0 ((dh 13 12 11 0 ((block 1 (ae [aB 14 1 10 12,ah 15 14,aa 6 15] (ae [aa 16 6,aM 17 105 [t 16],aa 7 17] (ae [aa 18 7,aq 19 .neq 18 0] (az 19 (am [aa 20 7,aa 4 20])))))).seq (cU 21 12)))).loop)).seq ((ae [aa 22 0,aV 23 22,aa 24 1,aV 25 24,aU 26 .neq 23 25] (az 26 (am [ao 4 15]))).seq (am [ao 4 0])))))
theorem Pj:Is Tryz.prog 68 b68:=mkI Tryz.func68
def b69:F2:=(F2.mk 25 [RV.t 3] (ae [ao 3 0] ((block 0 ((ae [ah 4 1,aa 5 0,aB 6 1 4 5,ah 7 6,aa 8 0,aU 9 .neq 7 8] (bX 9 skip (exit 0))).seq (block 1 ((ops 1 [ah 10 1,aa 11 0,ah 12 1,ah 13 1,aa 14 0,aB 15 1 13 14,ah 16 15,aB 17 1 12 16,ah 18 17,aB 19 1 10 11,aY 1 19 18]).seq (ops 0 [ah 20 1,aa 21 0,aB 22 1 20 21,ah 23 22,aa 0 23])))).loop).seq (am [aa 24 0,aa 3 24]))))
theorem PA:Is Tryz.prog 69 b69:=mkI Tryz.func69
def b70:F2:=(F2.mk 39 [RV.t 2] (ae [dj 2] (ae [cO 9 (mkm none),aa 3 9] (ae [aa 10 0,aV 11 10,cO 12 (mks 1 8 [ag] (t 11) (t 11)),aa 4 12] ((ae [aa 13 0,aV 14 13,ao 15 0] (block 0 ((dh 16 15 14 0 ((block 1 (ae [aa 17 15,aB 18 1 13 15,ah 19 18,aa 5 17,aa 6 19] (ae [aa 21 3,aa 22 6,cO 23 (Ins.mget (one int) (ag) true (t 21) (t 22)),aa 20 23,ce 24 20 0,ce 25 20 1,aa 7 24,aa 8 25] ((ae [aa 26 8,gZ 27 26] (az 27 (ae [aa 28 3,cO 29 (mlen (t 28)),aa 7 29] (ops 0 [aa 30 3,aa 31 6,aa 32 7,Op2.mk none none (mput (one int) (t 30) (t 31) (t 32))])))).seq (ops 0 [aa 33 4,aa 34 5,aa 35 7,aB 36 1 33 34,aY 1 36 35]))))).seq (cU 37 15)))).loop)).seq (am [aa 38 4,aa 2 38]))))))
theorem PQ:Is Tryz.prog 70 b70:=mkI Tryz.func70
def b73:F2:=(F2.mk 34 [RV.t 2] (ae [bR 1 0,ao 2 0] ((ae [av 5 0 1,ba 6 4 5,aM 7 106 [t 6],aa 3 7] (ae [aa 8 3,aq 9 .neq 8 0] (az 9 (am [aa 10 3,aa 2 10])))).seq ((ae [av 11 4 1,ba 12 2 11,aM 13 107 [t 12],aa 4 13] (ae [aa 14 4,aq 15 .neq 14 0] (az 15 (am [aa 16 4,aa 2 16])))).seq ((block 0 (ae [av 18 0 1,av 19 0 18,ah 20 19,av 21 4 1,av 22 0 21,ah 23 22,aU 24 .neq 20 23,aa 17 24] (bX 17 (am [ao 2 22]) (ae [av 26 6 1,ah 27 26,aq 28 .lss 27 0,aa 29 28,aF 30 29 (fa 6 (t 1)),aF 31 29 (cD 30),aF 32 29 (cB .gtr (t 31) (cN 6)),dA 33 29 32,aa 25 33] (az 25 (am [ao 2 2])))))).seq (am [ao 2 0]))))))
theorem O3:Is Tryz.prog 73 b73:=mkI Tryz.func73
def b74:F2:=(F2.mk 11 [RV.t 4,RV.t 5] (ae [bR 2 0,ao 4 0,ao 5 0] (am [ba 6 2 2,aa 7 1,aM 8 75 ([t 6,t 7,cN ((1048576))]),ce 9 8 0,ce 10 8 1,aa 4 9,aa 5 10])))
theorem Ow:Is Tryz.prog 74 b74:=mkI Tryz.func74
def b75:F2:=(F2.mk 29 [RV.t 6,RV.t 7] (ae [bR 3 0,ao 6 0,ao 7 0] ((ae [ba 10 2 3,aM 11 107 [t 10],aa 8 11] (ae [aa 12 8,aq 13 .neq 12 0] (az 13 (am [aa 14 8,ao 6 0,aa 7 14])))).seq ((ae [aa 15 1,aq 16 .lss 15 0,aa 17 16,aF 18 17 (cM 1),aF 19 17 (cB .gtr (t 18) (cN 6)),dA 20 17 19] (az 20 (am [ao 6 0,ao 7 2]))).seq (ae [ba 21 2 3,aa 22 1,aa 23 2,aM 24 108 [t 21,t 22,t 23],aa 9 24] ((ae [aa 25 9,aa 26 2,aU 27 .gtr 25 26] (az 27 (am [ao 6 0,ao 7 17]))).seq (am [aa 28 9,aa 6 28,ao 7 0])))))))
theorem Oy:Is Tryz.prog 75 b75:=mkI Tryz.func75
def b76:F2:=(F2.mk 39 [] ((ae [aa 10 1,aV 11 10,ah 12 2,aU 13 .eql 11 12] (az 13 ((mixS 1 [ah 14 3,aa 15 1,aM 16 47 [t 15],cO 17 (bldS 1 1 [AV.esl] [(0,1,t 16)]),fE 18 1 24 14 17,aY 1 3 18] [(0,0),(1,0),(2,1),(3,1),(4,2),(5,2)]).seq ret))).seq (ae [av 19 1 4,ah 20 19,aa 21 0,aB 22 1 20 21,ah 23 22,aV 24 23,ao 25 0] (block 0 ((dh 26 25 24 0 ((block 1 (ae [aB 27 8 23 25,ba 28 8 27,cO 9 (alloc (AV.agg [ag,ag,ag,ag,ag,ag,ag,ag])),aY 8 9 28] (mixS 2 [ah 29 5,av 30 7 9,ah 31 30,aa 32 1,av 33 0 9,ba 34 7 33,cO 35 (bldS 7 1 [ag,ag,ag,ag,ag,ag,ag] [(0,7,t 34)]),fE 36 7 56 32 35,cO 37 (call (t 29) [t 31,t 36])] [(0,0),(1,0),(2,0),(3,0),(4,0),(5,0),(6,1),(7,1),(8,2)]))).seq (cU 38 25)))).loop))))
theorem MC:Is Tryz.prog 76 b76:=mkI Tryz.func76
def b77:F2:=(F2.mk 8 [RV.t 2] (ae [dj 2] ((ae [aa 3 0,cO 4 (snil false (t 3))] (az 4 (am [dj 2]))).seq (am [cO 5 (bldS 3 0 [AV.esl,AV.esl,AV.esl] []),aa 6 0,fE 7 3 72 5 6,aa 2 7]))))
theorem Pd:Is Tryz.prog 77 b77:=mkI Tryz.func77
def b78:F2:=(F2.mk 8 [RV.t 2] (ae [dj 2] ((ae [aa 3 0,cO 4 (snil false (t 3))] (az 4 (am [dj 2]))).seq (am [cO 5 (bldS 1 0 [ag] []),aa 6 0,fE 7 1 8 5 6,aa 2 7]))))
theorem Pw:Is Tryz.prog 78 b78:=mkI Tryz.func78
def b79:F2:=(F2.mk 19 [RV.t 2] (ae [dj 2] (ae [dj 3] ((ae [aa 6 0,aV 7 6,ao 8 0] (block 0 ((dh 9 8 7 0 ((block 1 (ae [aB 10 1 6 8,ah 11 10,aa 5 11] (ops 0 [aa 12 3,aa 13 5,aM 14 78 [t 13],cO 15 (bldS 1 1 [AV.esl] [(0,1,t 14)]),fE 16 1 24 12 15,aa 3 16]))).seq (cU 17 8)))).loop)).seq (am [aa 18 3,aa 2 18])))))
theorem OE:Is Tryz.prog 79 b79:=mkI Tryz.func79
def b80:F2:=(F2.mk 8 [RV.t 2] (ae [dj 2] ((ae [aa 3 0,cO 4 (snil false (t 3))] (az 4 (am [dj 2]))).seq (am [cO 5 (bldS 1 0 [AV.esl] []),aa 6 0,fE 7 1 24 5 6,aa 2 7]))))
theorem Pb:Is Tryz.prog 80 b80:=mkI Tryz.func80
def b81:F2:=(F2.mk 8 [RV.t 2] (ae [dj 2] ((ae [aa 3 0,cO 4 (snil false (t 3))] (az 4 (am [dj 2]))).seq (am [cO 5 (bldS 8 0 [ag,ag,ag,ag,ag,ag,ag,ag] []),aa 6 0,fE 7 8 64 5 6,aa 2 7]))))
theorem Ox:Is Tryz.prog 81 b81:=mkI Tryz.func81
def b82:F2:=(F2.mk 27 [] (ae [av 7 0 1,av 8 3 7,ah 9 8,aV 10 9,ao 11 0] (block 0 ((dh 12 11 10 0 ((block 1 (ae [aa 13 11,aa 4 13] (ae [ah 14 2,aV 15 14,ao 16 0] (block 2 ((dh 17 16 15 2 ((block 3 (ae [aB 18 1 14 16,ah 19 18,aa 6 19] (ae [aa 20 0,aa 21 4,aa 22 6,cO 23 (call (t 20) [t 21,t 22]),gZ 24 23] (bX 24 ret skip)))).seq (cU 25 16)))).loop)))).seq (cU 26 11)))).loop)))
theorem Pm:Is Tryz.prog 82 b82:=mkI Tryz.func82
def b83:F2:=(F2.mk 40 [RV.t 4] (ae [bR 3 1,ao 4 0] ((mixS 9 [aa 8 0,cO 9 (nilck (t 8)),av 10 2 9,ah 11 10,ba 12 8 3,cO 13 (Ins.mget (MK.st [int,int,int,int,int,int,int,int]) (ag) true (t 11) (t 12)),aa 7 13,ce 14 7 0,ce 15 7 1,aa 5 14,aa 6 15] [(0,0),(1,0),(2,0),(3,0),(4,0),(5,2),(6,0),(7,0),(8,0),(9,0),(10,0)]).seq ((ae [aa 16 6,gZ 17 16] (az 17 (ae [aa 18 0,cO 19 (nilck (t 18)),av 20 1 19,ah 21 20,aV 22 21,aa 5 22] ((mixS 9 [aa 23 0,cO 24 (nilck (t 23)),av 25 2 24,ah 26 25,ba 27 8 3,aa 28 5,Op2.mk none none (mput (MK.st [int,int,int,int,int,int,int,int]) (t 26) (t 27) (t 28))] [(0,0),(1,0),(2,0),(3,0),(4,0),(5,0),(6,2)]).seq (ops 1 [aa 29 0,aa 30 0,cO 31 (nilck (t 30)),av 32 1 31,ah 33 32,ba 34 8 3,cO 35 (bldS 8 1 [ag,ag,ag,ag,ag,ag,ag,ag] [(0,8,t 34)]),fE 36 8 64 33 35,cO 37 (nilck (t 29)),av 38 1 37,aY 1 38 36]))))).seq (am [aa 39 5,aa 4 39])))))
theorem Pi:Is Tryz.prog 83 b83:=mkI Tryz.func83
def b84:F2:=(F2.mk 10 [RV.cn 0 5] (ae [cO 0 (alloc (AV.agg [ag,ag,ag,ag,ag]))] (ae [cO 1 (alloc (AV.agg [ag,ag,ag,ag,ag]))] ((ae [ao 3 0] (block 0 (ae [aq 4 .lss 3 5] (FB 4 0 ((block 1 (ae [aa 5 3,aa 2 5] (ops 0 [aa 6 2,cO 7 (ixaA 5 1 (t 1) (t 6)),Op2.mk none none (Ins.st 1 (t 7) (cN ((-1))))]))).seq (cU 8 3)))).loop)).seq (am [ba 9 5 1,aY 5 0 9])))))
theorem OZ:Is Tryz.prog 84 b84:=mkI Tryz.func84
def b85:F2:=(F2.mk 24 [RV.t 4,RV.t 5] (ae [dj 4,ao 5 0] ((ae [aa 7 0,aM 8 64 [t 7],aa 6 8] (ae [aa 9 6,aq 10 .neq 9 0] (az 10 (am [aa 11 6,dj 4,aa 5 11])))).seq ((ae [aa 12 1,aq 13 .lss 12 1,aa 14 13,aF 15 14 (cM 1),aF 16 14 (cM 0),aF 17 14 (lenS (t 16)),aF 18 14 (cB .gtr (t 15) (t 17)),dA 19 14 18] (az 19 (am [dj 4,ao 5 2]))).seq (am [aa 20 0,aa 21 1,aM 22 109 [t 20,t 21],aM 23 62 [t 22],aa 4 23,ao 5 0])))))
theorem PP:Is Tryz.prog 85 b85:=mkI Tryz.func85
def b86:F2:=(F2.mk 16 [RV.cn 2 16] (ae [cO 2 (alloc (AV.agg [ag,ag,ag,ag,ag,ag,ag,ag,ag,ag,ag,ag,ag,ag,ag,ag]))] (ae [cO 3 (alloc (AV.agg [ag,ag,ag,ag,ag,ag,ag,ag,ag,ag,ag,ag,ag,ag,ag,ag]))] ((ae [ao 5 0] (block 0 (ae [aq 6 .lss 5 8] (FB 6 0 ((block 1 (ae [aa 7 5,aa 4 7] (ops 0 [aa 8 4,cO 9 (ixaA 8 2 (t 3) (t 8)),av 10 0 9,Op2.mk none none (Ins.st 1 (t 10) (cN ((-1))))]))).seq (cU 11 5)))).loop)).seq (ae [cO 12 (slp 8 2 (t 3)),aa 13 0,cO 14 (cpy 2 (t 12) (t 13))] (am [ba 15 16 3,aY 16 2 15]))))))
theorem OV:Is Tryz.prog 86 b86:=mkI Tryz.func86
def b87:F2:=(F2.mk 14 [] (ae [aa 5 0,aV 6 5,aa 4 6] (ops 0 [aa 7 0,aa 8 4,aa 9 4,cO 10 (conv IntKind.u64 (t 9)),aM 11 111 [t 10],aa 12 1,aM 13 110 ([t 7,cN ((0)),t 8,t 11,t 12])])))
theorem ME:Is Tryz.prog 87 b87:=mkI Tryz.func87
def b88:F2:=(F2.mk 37 [RV.t 2] (ae [bR 1 0,ci 2] ((ae [av 5 3 1,ah 6 5,aV 7 6,aq 8 .gtr 7 30] (az 8 (am [ci 2]))).seq ((ae [ao 3 0] (block 0 ((ae [aa 9 3,av 10 3 1,ah 11 10,aV 12 11,aU 13 .lss 9 12] (bX 13 skip (exit 0))).seq ((block 1 (ae [av 16 3 1,ah 17 16,aa 18 3,aB 19 3 17 18,ba 20 3 19,cO 4 (alloc (AV.agg [AV.esl,AV.esl,AV.esl])),aY 3 4 20] (ae [av 21 0 4,ah 22 21,aV 23 22,aq 24 .gtr 23 10,aa 25 24,aF 26 25 (fa 1 (t 4)),aF 27 25 (cD 26),aF 28 25 (call (cF 112) [t 27,cN ((30))]),aF 29 25 (un UnOp.not (t 28)),dA 30 25 29,aa 31 30,aF 32 31 (fa 2 (t 4)),aF 33 31 (cD 32),aF 34 31 (call (cF 112) [t 33,cN ((30))]),aF 35 31 (un UnOp.not (t 34)),dA 36 31 35] (az 36 (am [ci 2]))))).seq (ops 0 [aa 14 3,aq 15 .add 14 1,aa 3 15]))).loop)).seq (am [jI 2])))))
theorem OC:Is Tryz.prog 88 b88:=mkI Tryz.func88
def b89:F2:=(F2.mk 12 [RV.t 2] (ae [bR 1 0,ci 2] (am [av 3 1 1,ah 4 3,aV 5 4,aq 6 .leq 5 8,aa 7 6,ap 8 7 (ldn 2 (t 1)),ap 9 7 (call (cF 113) [t 8]),ap 10 7 (cB .leq (t 9) (cN 40)),d8 11 7 10,aa 2 11])))
theorem O9:Is Tryz.prog 89 b89:=mkI Tryz.func89
def b90:F2:=(F2.mk 32 [RV.t 2] (ae [bR 1 0,ao 2 0] ((ae [av 5 0 1,ba 6 4 5,aM 7 114 [t 6],aa 3 7] (ae [aa 8 3,aq 9 .neq 8 0] (az 9 (am [aa 10 3,aa 2 10])))).seq ((ae [av 11 4 1,ba 12 2 11,aM 13 115 [t 12],aa 4 13] (ae [aa 14 4,aq 15 .neq 14 0] (az 15 (am [aa 16 4,aa 2 16])))).seq ((ae [av 17 0 1,av 18 0 17,ah 19 18,av 20 4 1,av 21 0 20,ah 22 21,aU 23 .neq 19 22] (az 23 (am [ao 2 22]))).seq ((ae [av 24 6 1,ah 25 24,aq 26 .lss 25 0,aa 27 26,aF 28 27 (fa 6 (t 1)),aF 29 27 (cD 28),aF 30 27 (cB .gtr (t 29) (cN 6)),dA 31 27 30] (az 31 (am [ao 2 2]))).seq (am [ao 2 0])))))))
theorem Po:Is Tryz.prog 90 b90:=mkI Tryz.func90
def b91:F2:=(F2.mk 16 [RV.t 4] (ae [bR 2 0,ao 4 0] ((mixS 1 [av 5 0 2,av 6 3 5,ah 7 6,aV 8 7,av 9 4 2,ba 10 2 9,av 11 6 2,ah 12 11,aa 13 1,aM 14 116 [t 10,t 12,t 13],aU 15 .mul 8 14,aa 4 15] [(0,0),(1,0),(2,0),(3,0),(4,0),(5,0),(6,0),(7,0),(8,0),(9,1),(10,0),(11,0)]).seq ret)))
theorem Pp:Is Tryz.prog 91 b91:=mkI Tryz.func91
def b92:F2:=(F2.mk 116 [RV.cn 2 10] (ae [bR 1 0,cO 2 (alloc (AV.agg [ag,ag,ag,AV.esl,ag,AV.esl,ag,ag,AV.esl,AV.esl]))] (ae [ba 14 7 1,av 15 0 1,av 16 0 15,ah 17 16,cO 18 (bld [ag,AV.esl] [(0,1,t 17)]),cO 19 (bld [ag,ag,ag,AV.esl,ag,AV.esl,ag,ag,AV.esl,AV.esl] [(0,7,t 14),(7,2,t 18)]),cO 3 (alloc (AV.agg [ag,ag,ag,AV.esl,ag,AV.esl,ag,ag,AV.esl,AV.esl])),aY 10 3 19] (ae [av 20 4 1,ba 21 2 20,av 22 6 1,ah 23 22,aM 24 117 ([t 21,cN ((0)),t 23]),aa 4 24] ((ae [ao 5 0] (block 0 ((ae [aa 25 5,av 26 0 1,av 27 3 26,ah 28 27,aV 29 28,aU 30 .lss 25 29] (bX 30 skip (exit 0))).seq ((block 1 (ae [ao 6 0] (block 2 ((ae [aa 33 6,aa 34 4,aV 35 34,aU 36 .lss 33 35] (bX 36 skip (exit 2))).seq ((block 3 (ae [aa 39 5,aa 40 4,aa 41 6,aB 42 1 40 41,ah 43 42,cO 44 (bld [ag,AV.esl,AV.esl] [(0,1,t 39),(1,1,t 43)]),cO 7 (alloc (AV.agg [ag,AV.esl,AV.esl])),aY 3 7 44] ((ae [ao 8 0] (block 4 ((ae [aa 45 8,av 46 6 1,ah 47 46,aU 48 .leq 45 47] (bX 48 skip (exit 4))).seq ((block 5 (ae [dj 9] ((ae [ao 10 0] (block 6 ((ae [aa 51 10,av 52 0 1,av 53 0 52,ah 54 53,aU 55 .lss 51 54] (bX 55 skip (exit 6))).seq ((block 7 (ae [aa 58 10,av 59 0 1,av 60 3 59,ah 61 60,aa 62 5,aB 63 3 61 62,av 64 0 63,ah 65 64,aa 66 10,aB 67 1 65 66,ah 68 67,aM 69 118 [t 58,t 68],cO 11 (alloc (AV.agg [ag,ag,ag,ag,ag,ag,ag,ag])),aY 8 11 69] ((ae [aa 70 8,cO 71 (cB .gtr (t 70) (cN ((Int.ofNat 0))))] (az 71 (mixS 1 [aa 72 4,aa 73 6,aB 74 1 72 73,ah 75 74,aa 76 8,cO 77 (cB .sub (t 76) (cN ((Int.ofNat 1)))),aB 78 7 75 77,av 79 0 78,ba 80 6 79,aa 81 8,aa 82 10,av 83 2 7,ah 84 83,aa 85 8,cO 86 (cB .sub (t 85) (cN ((Int.ofNat 1)))),aB 87 1 84 86,ah 88 87,aM 89 119 [t 80,t 81,t 82,t 88],aY 8 11 89] [(0,0),(1,0),(2,0),(3,0),(4,0),(5,0),(6,0),(7,0),(8,0),(9,0),(10,0),(11,0),(12,0),(13,0),(14,0),(15,0),(16,0),(17,2),(18,2)]))).seq (ae [av 91 7 3,ba 92 2 91,ba 93 8 11,aM 94 120 [t 92,t 93],aa 90 94,ce 95 90 0,ce 96 90 1,cO 12 (alloc (AV.agg [ag,AV.esl])),aY 2 12 95,aa 13 96] (ae [ba 97 2 12,av 98 7 3,aY 2 98 97] (ops 0 [aa 99 9,aa 100 13,cO 101 (bldS 1 1 [ag] [(0,1,t 100)]),fE 102 1 8 99 101,aa 9 102])))))).seq (ops 0 [aa 56 10,aq 57 .add 56 1,aa 10 57]))).loop)).seq (ops 0 [av 103 2 7,ah 104 103,aa 105 9,cO 106 (bldS 1 1 [AV.esl] [(0,1,t 105)]),fE 107 1 24 104 106,av 108 2 7,aY 1 108 107])))).seq (ops 0 [aa 49 8,aq 50 .add 49 1,aa 8 50]))).loop)).seq (ops 0 [av 109 9 3,ah 110 109,ba 111 3 7,cO 112 (bldS 3 1 [ag,AV.esl,AV.esl] [(0,3,t 111)]),fE 113 3 56 110 112,av 114 9 3,aY 1 114 113])))).seq (ops 0 [aa 37 6,aq 38 .add 37 1,aa 6 38]))).loop))).seq (ops 0 [aa 31 5,aq 32 .add 31 1,aa 5 32]))).loop)).seq (am [ba 115 10 3,aY 10 2 115]))))))
theorem Ps:Is Tryz.prog 92 b92:=mkI Tryz.func92
def b93:F2:=(F2.mk 26 [RV.t 4] (ae [ci 4] ((ae [aa 6 0,aV 7 6,aa 8 1,aV 9 8,aU 10 .neq 7 9] (az 10 (am [ci 4]))).seq ((ae [aa 11 0,aV 12 11,ao 13 0] (block 0 ((dh 14 13 12 0 ((block 1 (ae [aa 15 13,aa 5 15] ((ops 1 [aa 16 0,aa 17 5,aB 18 7 16 17,ba 19 7 18,aa 20 1,aa 21 5,aB 22 7 20 21,ba 23 7 22,cO 24 (binS BinOp.neq [int,int,int,int,int,int,int] (t 19) (t 23))]).seq (az 24 (am [ci 4]))))).seq (cU 25 13)))).loop)).seq (am [jI 4])))))
theorem Pu:Is Tryz.prog 93 b93:=mkI Tryz.func93
def b94:F2:=(F2.mk 32 [RV.t 6] (ae [ci 6] ((ae [aa 10 0,aV 11 10,aa 12 1,aV 13 12,aU 14 .neq 11 13] (az 14 (am [ci 6]))).seq ((ae [aa 15 0,aV 16 15,ao 17 0] (block 0 ((dh 18 17 16 0 ((block 1 (ae [aa 19 17,aB 20 1 15 17,ah 21 20,aa 7 19,aa 8 21] (ae [aa 22 1,aa 23 7,aB 24 1 22 23,ah 25 24,aa 9 25] (ae [aa 26 2,aa 27 8,aa 28 9,cO 29 (call (t 26) [t 27,t 28]),gZ 30 29] (az 30 (am [ci 6])))))).seq (cU 31 17)))).loop)).seq (am [jI 6])))))
theorem OI:Is Tryz.prog 94 b94:=mkI Tryz.func94
def b95:F2:=(F2.mk 26 [RV.t 4] (ae [ci 4] ((ae [aa 6 0,aV 7 6,aa 8 1,aV 9 8,aU 10 .neq 7 9] (az 10 (am [ci 4]))).seq ((ae [aa 11 0,aV 12 11,ao 13 0] (block 0 ((dh 14 13 12 0 ((block 1 (ae [aa 15 13,aa 5 15] ((ops 1 [aa 16 0,aa 17 5,aB 18 1 16 17,ah 19 18,aa 20 1,aa 21 5,aB 22 1 20 21,ah 23 22,aU 24 .neq 19 23]).seq (az 24 (am [ci 4]))))).seq (cU 25 13)))).loop)).seq (am [jI 4])))))
theorem PF:Is Tryz.prog 95 b95:=mkI Tryz.func95
def b96:F2:=(F2.mk 39 [RV.cn 2 1] (ae [cO 2 (alloc (AV.agg [AV.esl]))] (ae [aa 7 0,aM 8 121 [t 7],aa 0 8] (ae [aa 9 0,aM 10 87 ([t 9,c (AV.func 65 [])])] (ae [aa 11 0,aM 12 122 ([t 11,c (AV.func 123 [])]),aa 0 12] (ae [aa 13 0,aM 14 66 [t 13],aa 3 14] (ae [cO 4 (alloc (AV.agg [AV.esl]))] ((ae [aa 15 0,aV 16 15,ao 17 0] (block 0 ((dh 18 17 16 0 ((block 1 (ae [aB 19 1 15 17,ah 20 19,aa 6 20] (ae [aa 21 0,aa 22 3,aa 23 6,cO 24 (ixaS 2 (t 23) (cN 0)),ba 25 2 24,cO 26 (Ins.mget (MK.st [int,int]) AV.esl false (t 22) (t 25)),aa 27 6,aM 28 67 [t 21,t 26,t 27],gZ 29 28] (az 29 (mixS 1 [av 30 0 4,ah 31 30,aa 32 6,aM 33 124 [t 32],cO 34 (bldS 1 1 [AV.esl] [(0,1,t 33)]),fE 35 1 24 31 34,av 36 0 4,aY 1 36 35] [(0,0),(1,0),(2,0),(3,1),(4,1),(5,2),(6,0),(7,2)]))))).seq (cU 37 17)))).loop)).seq (am [ba 38 1 4,aY 1 2 38])))))))))
theorem Ph:Is Tryz.prog 96 b96:=mkI Tryz.func96
def b97:F2:=(F2.mk 13 [RV.t 4] (ae [bR 2 0,dj 4] ((ae [aa 6 1] (block 0 (rangeF (t 6) [7] (ops 0 [aa 5 7]) (block 1 (ops 0 [ah 8 2,aa 9 5,cO 10 (bldS 1 1 [AV.esl] [(0,1,t 9)]),fE 11 1 24 8 10,aY 1 2 11]))))).seq (am [ah 12 2,aa 4 12]))))
theorem Md:Is Tryz.prog 97 b97:=mkI Tryz.func97
def b98:F2:=(F2.mk 34 [] (ae [av 7 9 1,ah 8 7,aV 9 8,ao 10 0] (block 0 ((dh 11 10 9 0 ((block 1 (ae [aB 12 3 8 10,ba 13 3 12,cO 5 (alloc (AV.agg [ag,AV.esl,AV.esl])),aY 3 5 13] ((ae [ah 14 2,aq 15 .geq 14 0,aa 16 15,ap 17 16 (fa 0 (t 5)),ap 18 16 (cD 17),ap 19 16 (cD 2),ap 20 16 (cB .neq (t 18) (t 19)),d8 21 16 20] (az 21 (exit 1))).seq (ae [ba 22 3 5,aM 23 52 [t 22],aa 6 23] (ae [aa 24 6,aV 25 24,aq 26 .gtr 25 0,aa 27 26,ap 28 27 (cM 0),ap 29 27 (cM 6),ap 30 27 (call (t 28) [t 29]),ap 31 27 (un UnOp.not (t 30)),d8 32 27 31] (bX 32 ret skip)))))).seq (cU 33 10)))).loop)))
theorem PD:Is Tryz.prog 98 b98:=mkI Tryz.func98
def b99:F2:=(F2.mk 21 [RV.t 2] (ae [bR 1 0,ci 2] (am [av 3 0 1,ah 4 3,aq 5 .geq 4 0,aa 6 5,ap 7 6 (fa 0 (t 1)),ap 8 6 (cD 7),ap 9 6 (cB .lss (t 8) (cN 8)),d8 10 6 9,aa 11 10,ap 12 11 (fa 1 (t 1)),ap 13 11 (cD 12),ap 14 11 (cB .geq (t 13) (cN 0)),d8 15 11 14,aa 16 15,ap 17 16 (fa 1 (t 1)),ap 18 16 (cD 17),ap 19 16 (cB .leq (t 18) (cN 1048576)),d8 20 16 19,aa 2 20])))
theorem OL:Is Tryz.prog 99 b99:=mkI Tryz.func99
def Mo:F2:=(F2.mk 17 [RV.t 4] (ae [bR 2 0,bR 3 1,ao 4 0] ((mixS 1 [av 5 0 2,ah 6 5,av 7 0 3,ah 8 7,aM 9 126 [t 6,t 8],av 10 1 2,ah 11 10,av 12 1 3,ah 13 12,aM 14 126 [t 11,t 13],cO 15 (bldS 1 2 [ag] [(0,1,t 9),(1,1,t 14)]),aM 16 125 [t 15],aa 4 16] [(0,0),(1,0),(2,0),(3,0),(5,0),(6,0),(7,0),(8,0),(4,1),(9,2),(10,2),(11,2),(12,0)]).seq ret)))
theorem Ml:Is Tryz.prog 100 Mo:=mkI Tryz.func100
def MN:F2:=(F2.mk 39 [RV.t 6] (ae [ao 6 0] ((ae [aa 11 0,aV 12 11,ao 13 0] (block 0 ((dh 14 13 12 0 ((block 1 (ae [aa 15 13,aB 16 2 11 13,ba 17 2 16,cO 8 (alloc (AV.agg [ag,ag])),aa 7 15,aY 2 8 17] ((ae [aa 18 7,aa 19 1,aV 20 19,aU 21 .geq 18 20] (az 21 (am [ao 6 1]))).seq (ae [aa 22 1,aa 23 7,aB 24 2 22 23,ba 25 2 24,cO 9 (alloc (AV.agg [ag,ag])),aY 2 9 25] (ae [aa 26 2,ba 27 2 8,ba 28 2 9,cO 29 (call (t 26) [t 27,t 28]),aa 10 29] (ae [aa 30 10,aq 31 .neq 30 0] (az 31 (am [aa 32 10,aa 6 32])))))))).seq (cU 33 13)))).loop)).seq ((ae [aa 34 0,aV 35 34,aa 36 1,aV 37 36,aU 38 .lss 35 37] (az 38 (am [cO 6 (mov (cN ((-1))))]))).seq (am [ao 6 0])))))
theorem Mr:Is Tryz.prog 101 MN:=mkI Tryz.func101
def Kf:F2:=(F2.mk 9 [RV.t 4] (ae [ci 4] (am [aa 5 0,aa 6 1,aM 7 127 [t 5,t 6],aq 8 .geq 7 0,aa 4 8])))
theorem IW:Is Tryz.prog 102 Kf:=mkI Tryz.func102
def L5:F2:=(F2.mk 21 [RV.t 4] (ae [ci 4] ((mixS 1 [ah 5 1,aa 6 0,aB 7 1 5 6,ah 8 7,aV 9 8,ah 10 2,aV 11 10,aU 12 .gtr 9 11,aa 13 12,ap 14 13 (cD 2),ap 15 13 (cD 1),ap 16 13 (cM 0),ap 17 13 (ixaS 1 (t 15) (t 16)),ap 18 13 (cD 17),ap 19 13 (call (cF 104) [t 14,t 18]),d8 20 13 19,aa 4 20] [(0,0),(1,0),(2,0),(3,0),(4,0),(5,0),(6,0),(7,0),(8,0),(9,0),(10,0),(11,0),(12,0),(13,0),(14,2),(15,0),(16,0)]).seq ret)))
theorem LA:Is Tryz.prog 103 L5:=mkI Tryz.func103
def N0:F2:=(F2.mk 29 [RV.t 4] (ae [ci 4] ((ae [aa 7 0,aV 8 7,ao 9 0] (block 0 ((dh 10 9 8 0 ((block 1 (ae [aB 11 2 7 9,ba 12 2 11,cO 6 (alloc (AV.agg [ag,ag])),aY 2 6 12] ((block 2 (((ops 1 [aa 13 1,aV 14 13,aq 15 .gtr 14 0,aa 16 15,ap 17 16 (cM 1),ap 18 16 (ixaS 2 (t 17) (cN 0)),ap 19 16 (ldn 2 (t 18)),ap 20 16 (ldn 2 (t 6)),ap 21 16 (binS BinOp.neq [int,int] (t 19) (t 20)),d8 22 16 21]).seq (bX 22 skip (exit 2))).seq (block 3 (ops 0 [aa 23 1,cO 24 (sls 2 (t 23) (some (cN 1)) none none),aa 1 24]))).loop).seq (ae [aa 25 1,aV 26 25,aq 27 .eql 26 0] (az 27 (am [ci 4])))))).seq (cU 28 9)))).loop)).seq (am [jI 4]))))
theorem LQ:Is Tryz.prog 104 N0:=mkI Tryz.func104
def Nm:F2:=(F2.mk 29 [RV.t 2] (ae [ao 2 0] ((ae [aa 6 0,aV 7 6,aq 8 .gtr 7 65536] (az 8 (am [ao 2 5]))).seq (ae [ao 3 0] ((ae [aa 9 0,aV 10 9,ao 11 0] (block 0 ((dh 12 11 10 0 ((block 1 (ae [aB 13 1 9 11,ah 14 13,aa 5 14] (block 2 (ae [aa 16 5,aq 17 .lss 16 0,aa 15 17] (bX 15 (am [ao 2 2]) (ae [aa 19 5,aa 20 3,aU 21 .gtr 19 20,aa 18 21] (bX 18 (am [ao 2 14]) (ae [aa 23 5,aa 24 3,aU 25 .eql 23 24,aa 22 25] (az 22 (ops 0 [aa 26 3,aq 27 .add 26 1,aa 3 27])))))))))).seq (cU 28 11)))).loop)).seq (am [ao 2 0]))))))
theorem NN:Is Tryz.prog 105 Nm:=mkI Tryz.func105
def Nr:F2:=(F2.mk 83 [RV.t 2] (ae [bR 1 0,ao 2 0] ((block 0 ((ae [av 8 0 1,ah 9 8,aq 10 .lss 9 1,aa 11 10,aF 12 11 (fa 0 (t 1)),aF 13 11 (cD 12),aF 14 11 (cB .gtr (t 13) (cN 5)),dA 15 11 14,aa 7 15] (bX 7 skip (ae [av 16 1 1,ah 17 16,aq 18 .lss 17 1,aa 19 18,aF 20 19 (fa 1 (t 1)),aF 21 19 (cD 20),aF 22 19 (cB .gtr (t 21) (cN 8)),dA 23 19 22,aa 7 23] (bX 7 skip (ops 0 [av 24 2 1,ah 25 24,aq 26 .lss 25 1,aa 27 26,aF 28 27 (fa 2 (t 1)),aF 29 27 (cD 28),aF 30 27 (cB .gtr (t 29) (cN 8)),dA 31 27 30,aa 7 31]))))).seq (bX 7 (am [ao 2 2]) (ae [av 33 3 1,ah 34 33,aV 35 34,aq 36 .lss 35 1,aa 37 36,aF 38 37 (fa 3 (t 1)),aF 39 37 (cD 38),aF 40 37 (lenS (t 39)),aF 41 37 (cB .gtr (t 40) (cN 1024)),dA 42 37 41,aa 32 42] (az 32 (am [ao 2 5])))))).seq ((ae [av 43 3 1,ah 44 43,aV 45 44,ao 46 0] (block 1 ((dh 47 46 45 1 ((block 2 (ae [aa 48 46,aB 49 3 44 46,ba 50 3 49,cO 4 (alloc (AV.agg [AV.esl,AV.esl,AV.esl])),aa 3 48,aY 3 4 50] ((ae [av 51 0 4,ah 52 51,av 53 0 1,ah 54 53,av 55 1 1,ah 56 55,aM 57 128 [t 52,t 54,t 56],aa 5 57] (ae [aa 58 5,aq 59 .neq 58 0] (az 59 (am [aa 60 5,aa 2 60])))).seq (((mixS 1 [aa 61 3,aq 62 .gtr 61 0,aa 63 62,ap 64 63 (fa 3 (t 1)),ap 65 63 (cD 64),ap 66 63 (cM 3),ap 67 63 (cB .sub (t 66) (cN 1)),ap 68 63 (ixaS 3 (t 65) (t 67)),ap 69 63 (fa 0 (t 68)),ap 70 63 (cD 69),ap 71 63 (fa 0 (t 4)),ap 72 63 (cD 71),ap 73 63 (call (cF 129) [t 70,t 72]),ap 74 63 (cB .geq (t 73) (cN 0)),d8 75 63 74] [(0,0),(1,0),(2,0),(3,0),(4,0),(5,0),(6,0),(7,0),(8,0),(9,0),(10,0),(11,0),(12,2),(13,0),(14,0)]).seq (az 75 (am [ao 2 14]))).seq (ae [ba 76 4 1,ba 77 3 4,aM 78 130 [t 76,t 77],aa 6 78] (ae [aa 79 6,aq 80 .neq 79 0] (az 80 (am [aa 81 6,aa 2 81])))))))).seq (cU 82 46)))).loop)).seq (am [ao 2 0])))))
theorem Nc:Is Tryz.prog 106 Nr:=mkI Tryz.func106
def MH:F2:=(F2.mk 62 [RV.c1 2] (ae [bR 1 0,cO 2 (alloc (ag))] ((ae [av 11 0 1,ah 12 11,aq 13 .lss 12 1,aa 14 13,aF 15 14 (fa 0 (t 1)),aF 16 14 (cD 15),aF 17 14 (cB .gtr (t 16) (cN 5)),dA 18 14 17] (az 18 (am [Op2.mk none none (Ins.st 1 (t 2) (cN 2))]))).seq ((ae [ba 19 2 1,aM 20 131 [t 19],aa 3 20] (ae [aa 21 3,aq 22 .neq 21 0] (az 22 (am [aa 23 3,aY 1 2 23])))).seq ((ae [av 24 1 1,ah 25 24,aV 26 25,ao 27 0] (block 0 ((dh 28 27 26 0 ((block 1 (ae [aB 29 1 25 27,ah 30 29,aa 5 30] (ae [ba 31 2 1,aa 32 5,aM 33 132 [t 31,t 32],aa 6 33] (ae [aa 34 6,aq 35 .neq 34 0] (az 35 (am [aa 36 6,aY 1 2 36])))))).seq (cU 37 27)))).loop)).seq ((ae [ba 38 2 1,aM 39 133 [t 38]] (block 2 (rangeF (t 39) [40,41] (ops 0 [cO 8 (alloc (AV.agg [ag,ag,ag,ag,ag,ag,ag,ag])),aY 8 8 41]) (block 3 (ae [av 42 1 1,ah 43 42,av 44 7 8,ah 45 44,aB 46 1 43 45,ah 47 46,aV 48 47,ao 49 0] (block 4 ((dh 50 49 48 4 ((block 5 (ae [aB 51 8 47 49,ba 52 8 51,cO 10 (alloc (AV.agg [ag,ag,ag,ag,ag,ag,ag,ag])),aY 8 10 52] (ae [av 53 0 8,av 54 6 53,ah 55 54,av 56 0 10,av 57 6 56,ah 58 57,aU 59 .andNot 55 58,aq 60 .neq 59 0] (az 60 (am [Op2.mk none none (Ins.st 1 (t 2) (cN 21))]))))).seq (cU 61 49)))).loop)))))).seq (am [Op2.mk none none (Ins.st 1 (t 2) (cN 0))])))))))
theorem Mx:Is Tryz.prog 107 MH:=mkI Tryz.func107
def Lp:F2:=(F2.mk 47 [RV.t 6] (ae [bR 3 0,bR 5 2,ao 6 0] (ae [cO 11 (bldS 1 1 [ag] [(0,1,cN ((1)))]),av 12 1 3,ah 13 12,aV 14 13,aM 15 8 [t 11,t 14],cO 7 (alloc AV.esl),aY 1 7 15] ((ae [aa 16 1,ao 17 0] (block 0 ((dh 18 17 16 0 ((block 1 (ae [ah 19 7,aV 20 19,cO 21 (mks 1 8 [ag] (t 20) (t 20)),cO 8 (alloc AV.esl),aY 1 8 21] ((ae [ba 22 2 3,aM 23 133 [t 22]] (block 2 (rangeF (t 23) [24,25] (ae [aa 9 24] (ops 0 [cO 10 (alloc (AV.agg [ag,ag,ag,ag,ag,ag,ag,ag])),aY 8 10 25])) (block 3 (ops 1 [ah 26 8,aa 27 9,ah 28 8,aa 29 9,aB 30 1 28 29,ah 31 30,ah 32 7,av 33 7 10,ah 34 33,aB 35 1 32 34,ah 36 35,aU 37 .add 31 36,ah 38 5,aq 39 .add 38 1,cO 40 (mn (t 37) [t 39]),aB 41 1 26 27,aY 1 41 40]))))).seq (ops 0 [ah 42 8,aY 1 7 42])))).seq (cU 43 17)))).loop)).seq (am [ah 44 7,cO 45 (ixaS 1 (t 44) (cN 0)),ah 46 45,aa 6 46])))))
theorem Og:Is Tryz.prog 108 Lp:=mkI Tryz.func108
def Na:F2:=(F2.mk 6 [RV.t 4] (ae [bR 2 0,bR 3 1,cO 4 (mov (c AV.nilf))] (am [cO 5 (mkfn 134 [t 3,t 2]),aa 4 5])))
theorem LH:Is Tryz.prog 109 Na:=mkI Tryz.func109
def Jn:F2:=(F2.mk 148 [] (ae [jI 10] (ae [jI 11] (block 0 (block 1 (ae [aa 21 2,aa 22 1,aU 23 .sub 21 22,aa 12 23] ((ae [aa 24 12,aq 25 .leq 24 12] (az 25 (am [aa 26 0,aa 27 1,aa 28 2,aa 29 4,aM 30 136 [t 26,t 27,t 28,t 29]]))).seq ((ae [aa 31 3,aq 32 .eql 31 0] (az 32 (am [aa 33 0,aa 34 1,aa 35 2,aa 36 4,aM 37 137 [t 33,t 34,t 35,t 36]]))).seq ((ae [aa 38 10,gZ 39 38] (az 39 (ae [aa 40 0,aa 41 1,aa 42 2,aa 43 4,aM 44 138 [t 40,t 41,t 42,t 43]] (ops 0 [aa 45 3,aq 46 .sub 45 1,aa 3 46])))).seq (ae [aa 48 0,aa 49 1,aa 50 2,aa 51 4,aM 52 139 [t 48,t 49,t 50,t 51],aa 47 52,ce 53 47 0,ce 54 47 1,aa 13 53,aa 14 54] ((ae [aa 55 14,aq 56 .eql 55 2] (az 56 (ae [aa 57 0,aa 58 1,aa 59 2,aa 60 4,aM 61 140 [t 57,t 58,t 59,t 60]] (ae [aa 62 2,aq 63 .sub 62 1,aa 64 13,aa 65 1,aU 66 .sub 64 65,aU 67 .sub 63 66,aa 13 67] (ops 0 [ao 14 1]))))).seq ((ae [aa 68 10,aa 69 68,ap 70 69 (cM 11),d8 71 69 70,aa 72 71,ap 73 72 (cM 14),ap 74 72 (cB .eql (t 73) (cN 1)),d8 75 72 74] (az 75 (ae [aa 76 0,aa 77 1,aa 78 2,aa 79 4,aM 80 141 [t 76,t 77,t 78,t 79]] (bX 80 ret skip)))).seq (((mixS 1 [aa 81 1,aq 82 .gtr 81 0,aa 83 82,ap 84 83 (cM 4),ap 85 83 (cM 0),ap 86 83 (cM 1),ap 87 83 (cB .sub (t 86) (cN 1)),ap 88 83 (ixaS 1 (t 85) (t 87)),ap 89 83 (cD 88),ap 90 83 (cM 0),ap 91 83 (cM 13),ap 92 83 (ixaS 1 (t 90) (t 91)),ap 93 83 (cD 92),ap 94 83 (call (t 84) [t 89,t 93]),ap 95 83 (cB .lss (t 94) (cN 0)),ap 96 83 (un UnOp.not (t 95)),d8 97 83 96] [(0,0),(1,0),(2,0),(3,0),(4,0),(5,0),(6,0),(7,0),(8,0),(9,0),(10,0),(11,0),(12,0),(13,2),(14,0),(15,0),(16,0)]).seq (az 97 (ae [aa 98 0,aa 99 1,aa 100 2,aa 101 13,aa 102 4,aM 103 142 [t 98,t 99,t 100,t 101,t 102],aa 15 103] (ae [aa 104 15,aa 1 104] (exit 1))))).seq (ae [aa 106 0,aa 107 1,aa 108 2,aa 109 13,aa 110 4,aM 111 143 [t 106,t 107,t 108,t 109,t 110],aa 105 111,ce 112 105 0,ce 113 105 1,aa 16 112,aa 17 113] (ae [aa 114 17,aa 11 114] (ae [aa 115 16,aa 116 1,aU 117 .sub 115 116,aa 118 2,aa 119 16,aU 120 .sub 118 119,aa 18 117,aa 19 120] (ae [aa 121 12,aq 122 .quo 121 8,aa 20 122] (ae [aa 123 18,aa 124 19,aU 125 .lss 123 124] (bX 125 (ae [aa 126 18,aa 127 20,aU 128 .geq 126 127,aa 10 128] (ae [aa 129 0,aa 130 1,aa 131 16,aa 132 3,aa 133 4,aM 134 110 [t 129,t 130,t 131,t 132,t 133]] (ops 0 [aa 135 16,aq 136 .add 135 1,aa 1 136]))) (ae [aa 137 19,aa 138 20,aU 139 .geq 137 138,aa 10 139] (ae [aa 140 0,aa 141 16,aq 142 .add 141 1,aa 143 2,aa 144 3,aa 145 4,aM 146 110 [t 140,t 142,t 143,t 144,t 145]] (ops 0 [aa 147 16,aa 2 147])))))))))))))))))).loop))))
theorem IL:Is Tryz.prog 110 Jn:=mkI Tryz.func110
def Ja:F2:=(F2.mk 8 [RV.t 2] (ae [ao 2 0] ((C2.cond HJ (am [aa 3 0,cO 4 (conv IntKind.u32 (t 3)),aM 5 144 [t 4],aa 2 5]) skip).seq (am [aa 6 0,aM 7 145 [t 6],aa 2 7]))))
theorem I9:Is Tryz.prog 111 Ja:=mkI Tryz.func111
def Mb:F2:=(F2.mk 22 [RV.t 4] (ae [ci 4] ((ae [aa 6 0,aV 7 6,aa 8 1,aU 9 .gtr 7 8] (az 9 (am [ci 4]))).seq ((ae [ao 5 0] (block 0 ((ae [aa 10 5,aa 11 0,aV 12 11,aU 13 .lss 10 12] (bX 13 skip (exit 0))).seq ((block 1 (ae [aa 16 0,aa 17 5,aB 18 1 16 17,ah 19 18,aV 20 19,aq 21 .gtr 20 10] (az 21 (am [ci 4])))).seq (ops 0 [aa 14 5,aq 15 .add 14 1,aa 5 15]))).loop)).seq (am [jI 4])))))
theorem Mq:Is Tryz.prog 112 Mb:=mkI Tryz.func112
def LF:F2:=(F2.mk 21 [RV.t 2] (ae [bR 1 0,ao 2 0] (ae [ao 3 0] ((ae [ao 4 0] (block 0 ((ae [aa 5 4,av 6 1 1,ah 7 6,aV 8 7,aU 9 .lss 5 8] (bX 9 skip (exit 0))).seq ((block 1 (ops 0 [aa 12 3,av 13 1 1,ah 14 13,aa 15 4,aB 16 1 14 15,ah 17 16,aV 18 17,aU 19 .add 12 18,aa 3 19])).seq (ops 0 [aa 10 4,aq 11 .add 10 1,aa 4 11]))).loop)).seq (am [aa 20 3,aa 2 20])))))
theorem Oc:Is Tryz.prog 113 LF:=mkI Tryz.func113
def Nb:F2:=(F2.mk 56 [RV.t 2] (ae [bR 1 0,ao 2 0] ((ae [av 5 0 1,ah 6 5,aq 7 .lss 6 1,aa 8 7,aF 9 8 (fa 0 (t 1)),aF 10 8 (cD 9),aF 11 8 (cB .gtr (t 10) (cN 5)),dA 12 8 11,aa 13 12,aF 14 13 (fa 1 (t 1)),aF 15 13 (cD 14),aF 16 13 (cB .lss (t 15) (cN 1)),dA 17 13 16,aa 18 17,aF 19 18 (fa 1 (t 1)),aF 20 18 (cD 19),aF 21 18 (cB .gtr (t 20) (cN 8)),dA 22 18 21,aa 23 22,aF 24 23 (fa 2 (t 1)),aF 25 23 (cD 24),aF 26 23 (cB .lss (t 25) (cN 1)),dA 27 23 26,aa 28 27,aF 29 28 (fa 2 (t 1)),aF 30 28 (cD 29),aF 31 28 (cB .gtr (t 30) (cN 8)),dA 32 28 31] (az 32 (am [ao 2 2]))).seq ((ae [av 33 3 1,ah 34 33,aV 35 34,aq 36 .lss 35 1,aa 37 36,aF 38 37 (fa 3 (t 1)),aF 39 37 (cD 38),aF 40 37 (lenS (t 39)),aF 41 37 (cB .gtr (t 40) (cN 1024)),dA 42 37 41] (az 42 (am [ao 2 5]))).seq ((ae [ao 3 0] (block 0 ((ae [aa 43 3,av 44 3 1,ah 45 44,aV 46 45,aU 47 .lss 43 46] (bX 47 skip (exit 0))).seq ((block 1 (ae [ba 50 4 1,aa 51 3,aM 52 146 [t 50,t 51],aa 4 52] (ae [aa 53 4,aq 54 .neq 53 0] (az 54 (am [aa 55 4,aa 2 55]))))).seq (ops 0 [aa 48 3,aq 49 .add 48 1,aa 3 49]))).loop)).seq (am [ao 2 0]))))))
theorem NI:Is Tryz.prog 114 Nb:=mkI Tryz.func114
def MO:F2:=(F2.mk 67 [RV.t 2] (ae [bR 1 0,ao 2 0] ((ae [av 6 0 1,ah 7 6,aq 8 .lss 7 1,aa 9 8,aF 10 9 (fa 0 (t 1)),aF 11 9 (cD 10),aF 12 9 (cB .gtr (t 11) (cN 5)),dA 13 9 12] (az 13 (am [ao 2 2]))).seq ((ae [av 14 1 1,ah 15 14,aV 16 15,aq 17 .lss 16 1,aa 18 17,aF 19 18 (fa 1 (t 1)),aF 20 18 (cD 19),aF 21 18 (lenS (t 20)),aF 22 18 (cB .gtr (t 21) (cN 256)),dA 23 18 22,aa 24 23,aF 25 24 (ldn 2 (t 1)),aF 26 24 (call (cF 113) [t 25]),aF 27 24 (cB .gtr (t 26) (cN 4096)),dA 28 24 27] (az 28 (am [ao 2 5]))).seq ((ae [ao 3 0] (block 0 ((ae [aa 29 3,av 30 1 1,ah 31 30,aV 32 31,aU 33 .lss 29 32] (bX 33 skip (exit 0))).seq ((block 1 ((ae [av 36 1 1,ah 37 36,aa 38 3,aB 39 1 37 38,ah 40 39,aV 41 40,aq 42 .eql 41 0] (az 42 (am [ao 2 19]))).seq (ae [ao 4 0] (block 2 ((ae [aa 43 4,av 44 1 1,ah 45 44,aa 46 3,aB 47 1 45 46,ah 48 47,aV 49 48,aU 50 .lss 43 49] (bX 50 skip (exit 2))).seq ((block 3 ((mixS 1 [ba 53 2 1,av 54 1 1,ah 55 54,aa 56 3,aB 57 1 55 56,ah 58 57,aa 59 4,aM 60 147 [t 53,t 58,t 59],aa 5 60] [(0,0),(1,0),(2,0),(3,0),(4,0),(5,0),(6,0),(7,2),(8,0)]).seq (ae [aa 61 5,aq 62 .neq 61 0] (az 62 (am [aa 63 5,aa 2 63]))))).seq (ops 0 [aa 51 4,aq 52 .add 51 1,aa 4 52]))).loop)))).seq (ops 0 [aa 34 3,aq 35 .add 34 1,aa 3 35]))).loop)).seq ((ae [ba 64 2 1,aM 65 148 [t 64],gZ 66 65] (az 66 (am [ao 2 21]))).seq (am [ao 2 0])))))))
theorem Mn:Is Tryz.prog 115 MO:=mkI Tryz.func115
def L7:F2:=(F2.mk 71 [RV.t 6] (ae [bR 3 0,ao 6 0] (ae [dj 7] ((ae [ao 8 0] (block 0 ((ae [aa 14 8,av 15 1 3,ah 16 15,aV 17 16,aU 18 .lss 14 17] (bX 18 skip (exit 0))).seq ((block 1 (ops 0 [aa 21 7,cO 22 (bldS 1 1 [ag] [(0,1,cN ((1)))]),fE 23 1 8 21 22,aa 7 23])).seq (ops 0 [aa 19 8,aq 20 .add 19 1,aa 8 20]))).loop)).seq ((ae [ao 9 0] (block 2 ((ae [aa 24 9,aa 25 1,aU 26 .lss 24 25] (bX 26 skip (exit 2))).seq ((block 3 (ae [dj 10] ((ae [ao 11 0] (block 4 ((ae [aa 29 11,av 30 1 3,ah 31 30,aV 32 31,aU 33 .lss 29 32] (bX 33 skip (exit 4))).seq ((block 5 (ae [ao 12 0] ((ae [ao 13 0] (block 6 ((ae [aa 36 13,av 37 1 3,ah 38 37,aa 39 11,aB 40 1 38 39,ah 41 40,aV 42 41,aU 43 .lss 36 42] (bX 43 skip (exit 6))).seq ((block 7 (ops 0 [aa 46 12,aa 47 7,av 48 1 3,ah 49 48,aa 50 11,aB 51 1 49 50,ah 52 51,aa 53 13,aB 54 8 52 53,av 55 7 54,ah 56 55,aB 57 1 47 56,ah 58 57,aU 59 .add 46 58,aa 60 2,aq 61 .add 60 1,cO 62 (mn (t 59) [t 61]),aa 12 62])).seq (ops 0 [aa 44 13,aq 45 .add 44 1,aa 13 45]))).loop)).seq (ops 0 [aa 63 10,aa 64 12,cO 65 (bldS 1 1 [ag] [(0,1,t 64)]),fE 66 1 8 63 65,aa 10 66])))).seq (ops 0 [aa 34 11,aq 35 .add 34 1,aa 11 35]))).loop)).seq (ops 0 [aa 67 10,aa 7 67])))).seq (ops 0 [aa 27 9,aq 28 .add 27 1,aa 9 28]))).loop)).seq (am [aa 68 7,cO 69 (ixaS 1 (t 68) (cN 0)),ah 70 69,aa 6 70]))))))
theorem Ng:Is Tryz.prog 116 L7:=mkI Tryz.func116
def KJ:F2:=(F2.mk 59 [RV.t 6] (ae [bR 3 0,dj 6] ((ae [aa 13 2,aq 14 .eql 13 0] (az 14 (am [cO 15 (bldS 1 1 [AV.esl] [(0,1,c AV.esl)]),aa 6 15]))).seq (ae [dj 7] ((ae [ao 8 0] (block 0 ((ae [aa 16 8,av 17 1 3,ah 18 17,aa 19 1,aB 20 1 18 19,ah 21 20,aV 22 21,aU 23 .lss 16 22] (bX 23 skip (exit 0))).seq ((block 1 (ae [av 26 1 3,ah 27 26,aa 28 1,aB 29 1 27 28,ah 30 29,aa 31 8,aB 32 8 30 31,ba 33 8 32,cO 9 (alloc (AV.agg [ag,ag,ag,ag,ag,ag,ag,ag])),aY 8 9 33] (ae [ba 34 2 3,av 35 7 9,ah 36 35,aa 37 2,aq 38 .sub 37 1,aM 39 117 [t 34,t 36,t 38],aa 10 39] (ae [ao 11 0] (block 2 ((ae [aa 40 11,aa 41 10,aV 42 41,aU 43 .lss 40 42] (bX 43 skip (exit 2))).seq ((block 3 (ae [av 46 0 9,ba 47 7 46,cO 48 (bldS 7 1 [ag,ag,ag,ag,ag,ag,ag] [(0,7,t 47)]),aa 12 48] (ops 0 [aa 49 7,aa 50 12,aa 51 10,aa 52 11,aB 53 1 51 52,ah 54 53,fE 55 7 56 50 54,cO 56 (bldS 1 1 [AV.esl] [(0,1,t 55)]),fE 57 1 24 49 56,aa 7 57]))).seq (ops 0 [aa 44 11,aq 45 .add 44 1,aa 11 45]))).loop))))).seq (ops 0 [aa 24 8,aq 25 .add 24 1,aa 8 25]))).loop)).seq (am [aa 58 7,aa 6 58]))))))
theorem IS:Is Tryz.prog 117 KJ:=mkI Tryz.func117
def K8:F2:=(F2.mk 18 [RV.cn 4 8] (ae [cO 4 (alloc (AV.agg [ag,ag,ag,ag,ag,ag,ag,ag]))] (ae [aa 7 0,aa 8 1,cO 9 (bld [ag,ag,ag,ag,ag,ag,ag,ag] [(0,1,t 7),(2,1,t 8)]),cO 5 (alloc (AV.agg [ag,ag,ag,ag,ag,ag,ag,ag])),aY 8 5 9] ((ae [ao 6 0] (block 0 ((ae [aa 10 6,aq 11 .lss 10 5] (bX 11 skip (exit 0))).seq ((block 1 (ops 0 [aa 14 6,av 15 3 5,cO 16 (ixaA 5 1 (t 15) (t 14)),Op2.mk none none (Ins.st 1 (t 16) (cN ((-1))))])).seq (ops 0 [aa 12 6,aq 13 .add 12 1,aa 6 13]))).loop)).seq (am [ba 17 8 5,aY 8 4 17])))))
theorem NJ:Is Tryz.prog 118 K8:=mkI Tryz.func118
def LO:F2:=(F2.mk 41 [RV.cn 8 8] (ae [bR 4 0,cO 8 (alloc (AV.agg [ag,ag,ag,ag,ag,ag,ag,ag]))] (ae [aa 11 2,aa 12 1,cO 13 (bld [ag,ag,ag,ag,ag,ag,ag,ag] [(0,1,t 11),(1,1,t 12)]),cO 9 (alloc (AV.agg [ag,ag,ag,ag,ag,ag,ag,ag])),aY 8 9 13] ((ae [ao 10 0] (block 0 ((ae [aa 14 10,aq 15 .lss 14 5] (bX 15 skip (exit 0))).seq ((block 1 (ae [aa 18 10,av 19 3 9,cO 20 (ixaA 5 1 (t 19) (t 18)),Op2.mk none none (Ins.st 1 (t 20) (cN ((-1))))] (ae [aa 21 10,av 22 0 4,ah 23 22,aU 24 .lss 21 23,aa 25 24,ap 26 25 (cM 2),ap 27 25 (fa 1 (t 4)),ap 28 25 (ixaA 5 1 (t 27) (t 26)),ap 29 25 (cD 28),ap 30 25 (cM 10),ap 31 25 (call (cF 149) [t 29,t 30]),d8 32 25 31] (az 32 (ops 0 [aa 33 10,aa 34 3,aa 35 10,aB 36 1 34 35,ah 37 36,av 38 3 9,cO 39 (ixaA 5 1 (t 38) (t 33)),aY 1 39 37]))))).seq (ops 0 [aa 16 10,aq 17 .add 16 1,aa 10 17]))).loop)).seq (am [ba 40 8 9,aY 8 8 40])))))
theorem Ny:Is Tryz.prog 119 LO:=mkI Tryz.func119
def NL:F2:=(F2.mk 31 [RV.cn 4 2,RV.t 5] (ae [bR 2 0,bR 3 1,cO 4 (alloc (AV.agg [ag,AV.esl])),ao 5 0] ((ae [ba 8 2 2,ba 9 8 3,aM 10 150 [t 8,t 9],aa 6 10] (ae [aa 11 6,aq 12 .geq 11 0] (az 12 (am [ba 13 2 2,aa 14 6,aY 2 4 13,aa 5 14])))).seq (ae [av 15 0 2,ah 16 15,cO 17 (bld [ag,AV.esl] [(0,1,t 16)]),cO 7 (alloc (AV.agg [ag,AV.esl])),aY 2 7 17] ((mixS 9 [av 18 1 7,ah 19 18,av 20 1 2,ah 21 20,fE 22 8 64 19 21,ba 23 8 3,cO 24 (bldS 8 1 [ag,ag,ag,ag,ag,ag,ag,ag] [(0,8,t 23)]),fE 25 8 64 22 24,av 26 1 7,aY 1 26 25] [(0,0),(1,0),(2,0),(3,0),(5,0),(6,3),(4,1),(7,2),(8,0),(9,2)]).seq ((mixS 2 [ba 27 2 7,av 28 1 2,ah 29 28,aV 30 29,aY 2 4 27,aa 5 30] [(0,0),(1,0),(2,0),(3,0),(4,1),(5,0)]).seq ret))))))
theorem KV:Is Tryz.prog 120 NL:=mkI Tryz.func120
def My:F2:=(F2.mk 8 [RV.t 2] (ae [dj 2] ((ae [aa 3 0,cO 4 (snil false (t 3))] (az 4 (am [dj 2]))).seq (am [cO 5 (bldS 1 0 [AV.esl] []),aa 6 0,fE 7 1 24 5 6,aa 2 7]))))
theorem N3:Is Tryz.prog 121 My:=mkI Tryz.func121
def JB:F2:=(F2.mk 66 [RV.t 4] (ae [dj 4] ((ae [aa 8 0,aV 9 8,aq 10 .lss 9 2] (az 10 (am [aa 11 0,aa 4 11]))).seq ((ae [ao 5 1] (block 0 ((ae [aa 12 5,aa 13 0,aV 14 13,aU 15 .lss 12 14] (bX 15 skip (exit 0))).seq ((block 1 ((mixS 1 [aa 18 1,aa 19 0,aa 20 5,aB 21 1 19 20,ah 22 21,aa 23 0,aa 24 5,aq 25 .sub 24 1,aB 26 1 23 25,ah 27 26,cO 28 (call (t 18) [t 22,t 27])] [(0,0),(1,0),(2,0),(3,0),(4,0),(5,0),(6,0),(7,0),(8,0),(9,0),(10,2)]).seq (az 28 (ae [aa 29 0,aa 30 5,cO 31 (sls 1 (t 29) (some (t 30)) none none),aa 6 31] ((ae [ao 7 1] (block 2 ((ae [aa 32 7,aa 33 6,aV 34 33,aU 35 .lss 32 34] (bX 35 skip (exit 2))).seq ((block 3 ((mixS 1 [aa 38 1,aa 39 6,aa 40 7,aB 41 1 39 40,ah 42 41,aa 43 6,aa 44 7,aq 45 .sub 44 1,aB 46 1 43 45,ah 47 46,cO 48 (call (t 38) [t 42,t 47]),gZ 49 48] [(0,0),(1,0),(2,0),(3,0),(4,0),(5,0),(6,0),(7,0),(8,0),(9,0),(10,2),(11,0)]).seq (az 49 (ae [aa 50 0,aa 51 5,aa 52 6,aa 53 7,aB 54 1 52 53,ah 55 54,aB 56 1 50 51,aY 1 56 55] (ops 0 [aa 57 5,aq 58 .add 57 1,aa 5 58]))))).seq (ops 0 [aa 36 7,aq 37 .add 36 1,aa 7 37]))).loop)).seq (ae [aa 59 0,aa 60 5,cO 61 (sls 1 (t 59) (some (t 60)) none none),Op2.mk none none (clr 1 AV.esl (t 61))] (am [aa 62 0,aa 63 5,cO 64 (sls 1 (t 62) none (some (t 63)) none),aa 4 64]))))))).seq (ops 0 [aa 16 5,aq 17 .add 16 1,aa 5 17]))).loop)).seq (am [aa 65 0,aa 4 65])))))
theorem IT:Is Tryz.prog 122 JB:=mkI Tryz.func122
def Oe:F2:=(F2.mk 26 [RV.t 4] (ae [ci 4] ((ae [aa 6 0,aV 7 6,aa 8 1,aV 9 8,aU 10 .neq 7 9] (az 10 (am [ci 4]))).seq ((ae [aa 11 0,aV 12 11,ao 13 0] (block 0 ((dh 14 13 12 0 ((block 1 (ae [aa 15 13,aa 5 15] ((ops 1 [aa 16 0,aa 17 5,aB 18 2 16 17,ba 19 2 18,aa 20 1,aa 21 5,aB 22 2 20 21,ba 23 2 22,cO 24 (binS BinOp.neq [int,int] (t 19) (t 23))]).seq (az 24 (am [ci 4]))))).seq (cU 25 13)))).loop)).seq (am [jI 4])))))
theorem L8:Is Tryz.prog 123 Oe:=mkI Tryz.func123
def J1:F2:=(F2.mk 8 [RV.t 2] (ae [dj 2] ((ae [aa 3 0,cO 4 (snil false (t 3))] (az 4 (am [dj 2]))).seq (am [cO 5 (bldS 2 0 [ag,ag] []),aa 6 0,fE 7 2 16 5 6,aa 2 7]))))
theorem IE:Is Tryz.prog 124 J1:=mkI Tryz.func124
def Mv:F2:=(F2.mk 18 [RV.t 2] (ae [ao 2 0] (ae [ao 3 0] ((ae [aa 6 0,aV 7 6,ao 8 0] (block 0 ((dh 9 8 7 0 ((block 1 (ae [aB 10 1 6 8,ah 11 10,aa 5 11] (ae [aa 12 5,aa 13 3,aU 14 .neq 12 13] (az 14 (am [aa 15 5,aa 2 15]))))).seq (cU 16 8)))).loop)).seq (am [aa 17 3,aa 2 17])))))
theorem Lw:Is Tryz.prog 125 Mv:=mkI Tryz.func125
def Jw:F2:=(F2.mk 20 [RV.t 4] (ae [ao 4 0] (ae [aa 7 0,aM 8 151 [t 7],aa 5 8] (ae [aa 9 1,aM 10 151 [t 9],aa 6 10] ((ae [aa 11 5] (az 11 ((ae [aa 12 6] (az 12 (am [ao 4 0]))).seq (am [cO 4 (mov (cN ((-1))))])))).seq ((ae [aa 13 6] (az 13 (am [ao 4 1]))).seq ((ae [aa 14 0,aa 15 1,aU 16 .lss 14 15] (az 16 (am [cO 4 (mov (cN ((-1))))]))).seq ((ae [aa 17 0,aa 18 1,aU 19 .gtr 17 18] (az 19 (am [ao 4 1]))).seq (am [ao 4 0])))))))))
theorem Iw:Is Tryz.prog 126 Jw:=mkI Tryz.func126
def Km:F2:=(F2.mk 19 [RV.t 4] (ae [ao 4 0] ((ae [aa 6 0,aV 7 6,ao 8 0] (block 0 ((dh 9 8 7 0 ((block 1 (ae [aa 10 8,aa 5 10] (ae [aa 11 1,aa 12 0,aa 13 5,aB 14 1 12 13,ah 15 14,cO 16 (call (t 11) [t 15])] (az 16 (am [aa 17 5,aa 4 17]))))).seq (cU 18 8)))).loop)).seq (am [cO 4 (mov (cN ((-1))))]))))
theorem Iz:Is Tryz.prog 127 Km:=mkI Tryz.func127
def NW:F2:=(F2.mk 14 [RV.t 6] (ae [bR 5 2,ao 6 0] ((ae [aa 7 0,aV 8 7,aa 9 1,aU 10 .neq 8 9] (az 10 (am [ao 6 15]))).seq ((ae [aa 11 0,cO 12 (mkfn 152 [t 5]),aM 13 102 [t 11,t 12]] (az 13 (am [ao 6 2]))).seq (am [ao 6 0])))))
theorem LX:Is Tryz.prog 128 NW:=mkI Tryz.func128
def MS:F2:=(F2.mk 36 [RV.t 4] (ae [ao 4 0] ((ae [aa 9 0,aV 10 9,ao 11 0] (block 0 ((dh 12 11 10 0 ((block 1 (ae [aa 13 11,aB 14 1 9 11,ah 15 14,aa 5 13,aa 6 15] ((ae [aa 16 5,aa 17 1,aV 18 17,aU 19 .geq 16 18] (az 19 (am [ao 4 1]))).seq (ae [aa 20 1,aa 21 5,aB 22 1 20 21,ah 23 22,aa 7 23] (ae [aa 24 6,aa 25 7,aM 26 126 [t 24,t 25],aa 8 26] (ae [aa 27 8,aq 28 .neq 27 0] (az 28 (am [aa 29 8,aa 4 29])))))))).seq (cU 30 11)))).loop)).seq ((ae [aa 31 0,aV 32 31,aa 33 1,aV 34 33,aU 35 .lss 32 34] (az 35 (am [cO 4 (mov (cN ((-1))))]))).seq (am [ao 4 0])))))
theorem K6:Is Tryz.prog 129 MS:=mkI Tryz.func129
def LV:F2:=(F2.mk 60 [RV.t 4] (ae [bR 2 0,bR 3 1,ao 4 0] ((ae [av 10 1 3,ah 11 10,aV 12 11,aq 13 .lss 12 1,aa 14 13,aF 15 14 (fa 1 (t 3)),aF 16 14 (cD 15),aF 17 14 (lenS (t 16)),aF 18 14 (cB .gtr (t 17) (cN 1024)),dA 19 14 18] (az 19 (am [ao 4 5]))).seq ((ae [av 20 1 3,ah 21 20,aV 22 21,ao 23 0] (block 0 ((dh 24 23 22 0 ((block 1 (ae [aa 25 23,aB 26 1 21 23,ah 27 26,aa 5 25,aa 6 27] ((ae [aa 28 6,av 29 0 2,ah 30 29,av 31 2 2,ah 32 31,aM 33 128 [t 28,t 30,t 32],aa 7 33] (ae [aa 34 7,aq 35 .neq 34 0] (az 35 (am [aa 36 7,aa 4 36])))).seq (ae [av 37 1 3,ah 38 37,aa 39 5,aM 40 153 [t 38,t 39]] (az 40 (am [ao 4 14])))))).seq (cU 41 23)))).loop)).seq ((ae [av 42 2 3,ah 43 42,aV 44 43,ao 45 0] (block 2 ((dh 46 45 44 2 ((block 3 (ae [aa 47 45,aB 48 1 43 45,ah 49 48,aa 8 47,aa 9 49] ((ae [av 50 1 3,ah 51 50,aa 52 9,aM 53 154 [t 51,t 52],gZ 54 53] (az 54 (am [ao 4 6]))).seq (ae [av 55 2 3,ah 56 55,aa 57 8,aM 58 153 [t 56,t 57]] (az 58 (am [ao 4 14])))))).seq (cU 59 45)))).loop)).seq (am [ao 4 0]))))))
theorem Nt:Is Tryz.prog 130 LV:=mkI Tryz.func130
def MP:F2:=(F2.mk 24 [RV.t 2] (ae [bR 1 0,ao 2 0] (ae [cO 3 (alloc (ag)),Op2.mk none none (Ins.st 1 (t 3) (cN 0))] ((ae [ba 4 2 1,aM 5 133 [t 4]] (block 0 (rangeF (t 5) [6,7] skip (block 1 (ops 0 [ah 8 3,aq 9 .add 8 1,aY 1 3 9]))))).seq ((ae [av 10 1 1,ah 11 10,aV 12 11,aq 13 .lss 12 1,aa 14 13,aF 15 14 (fa 1 (t 1)),aF 16 14 (cD 15),aF 17 14 (lenS (t 16)),aF 18 14 (cB .gtr (t 17) (cN 256)),dA 19 14 18,aa 20 19,aF 21 20 (cD 3),aF 22 20 (cB .gtr (t 21) (cN 4096)),dA 23 20 22] (az 23 (am [ao 2 5]))).seq (am [ao 2 0]))))))
theorem NG:Is Tryz.prog 131 MP:=mkI Tryz.func131
def NA:F2:=(F2.mk 60 [RV.t 4] (ae [bR 2 0,ao 4 0] ((ae [aa 8 1,aV 9 8,aq 10 .eql 9 0] (az 10 (am [ao 4 19]))).seq ((ae [aa 11 1,aV 12 11,ao 13 0] (block 0 ((dh 14 13 12 0 ((block 1 (ae [aa 15 13,aB 16 8 11 13,ba 17 8 16,cO 6 (alloc (AV.agg [ag,ag,ag,ag,ag,ag,ag,ag])),aa 5 15,aY 8 6 17] ((ae [av 18 0 6,ba 19 7 18,aM 20 155 [t 19],aa 7 20] (ae [aa 21 7,aq 22 .neq 21 0] (az 22 (am [aa 23 7,aa 4 23])))).seq (block 2 (ae [av 25 0 6,av 26 0 25,av 27 0 26,ah 28 27,av 29 0 2,ah 30 29,aU 31 .neq 28 30,aa 24 31] (bX 24 (am [ao 4 22]) ((mixS 1 [aa 33 5,aq 34 .gtr 33 0,aa 35 34,ap 36 35 (cM 1),ap 37 35 (cM 5),ap 38 35 (cB .sub (t 37) (cN 1)),ap 39 35 (ixaS 8 (t 36) (t 38)),ap 40 35 (fa 0 (t 39)),ap 41 35 (ldn 7 (t 40)),ap 42 35 (fa 0 (t 6)),ap 43 35 (ldn 7 (t 42)),ap 44 35 (call (cF 156) [t 41,t 43]),ap 45 35 (cB .geq (t 44) (cN 0)),d8 46 35 45,aa 32 46] [(0,0),(1,0),(2,0),(3,0),(4,0),(5,0),(6,0),(7,0),(8,0),(9,0),(10,0),(11,2),(12,0),(13,0),(14,0)]).seq (bX 32 (am [ao 4 14]) (ae [av 48 7 6,ah 49 48,aq 50 .lss 49 0,aa 51 50,aF 52 51 (fa 7 (t 6)),aF 53 51 (cD 52),aF 54 51 (fa 1 (t 2)),aF 55 51 (cD 54),aF 56 51 (lenS (t 55)),aF 57 51 (cB .geq (t 53) (t 56)),dA 58 51 57,aa 47 58] (az 47 (am [ao 4 2]))))))))))).seq (cU 59 13)))).loop)).seq (am [ao 4 0])))))
theorem Nk:Is Tryz.prog 132 NA:=mkI Tryz.func132
def Ns:F2:=(F2.mk 4 [RV.t 2] (ae [bR 1 0,cO 2 (mov (c AV.nilf))] (am [cO 3 (mkfn 157 [t 1]),aa 2 3])))
theorem Mz:Is Tryz.prog 133 Ns:=mkI Tryz.func133
def Mg:F2:=(F2.mk 10 [] (ae [bR 3 0] (ae [cO 4 (alloc AV.nilf)] (ae [cO 5 (mkfn 135 [t 1,t 3,t 2,t 4]),aY 1 4 5] (mixS 1 [ah 6 4,ah 7 1,cO 8 (mks 2 16 [ag,ag] (cN 0) (t 7)),cO 9 (call (t 6) [cN ((0)),t 8])] [(0,0),(1,0),(2,1),(3,2)])))))
theorem NM:Is Tryz.prog 134 Mg:=mkI Tryz.func134
def JM:F2:=(F2.mk 37 [RV.t 8] (ae [ci 8] ((ae [aa 10 1,aV 11 10,ah 12 2,aU 13 .eql 11 12] (az 13 ((mixS 1 [ah 14 3,aa 15 1,aM 16 124 [t 15],cO 17 (call (t 14) [t 16]),aa 8 17] [(0,0),(1,0),(2,1),(3,2),(4,0)]).seq ret))).seq ((ae [aa 18 0,aa 9 18] (block 0 ((ae [aa 19 9,ah 20 4,aV 21 20,aU 22 .lss 19 21] (bX 22 skip (exit 0))).seq ((block 1 ((mixS 2 [ah 25 5,aa 26 9,aq 27 .add 26 1,aa 28 1,ah 29 4,aa 30 9,aB 31 2 29 30,ba 32 2 31,cO 33 (bldS 2 1 [ag,ag] [(0,2,t 32)]),fE 34 2 16 28 33,cO 35 (call (t 25) [t 27,t 34]),gZ 36 35] [(0,0),(1,0),(2,0),(3,0),(4,0),(5,0),(6,0),(7,0),(8,1),(9,1),(10,2),(11,0)]).seq (az 36 (am [ci 8])))).seq (ops 0 [aa 23 9,aq 24 .add 23 1,aa 9 24]))).loop)).seq (am [jI 8])))))
theorem I6:Is Tryz.prog 135 JM:=mkI Tryz.func135
def Kj:F2:=(F2.mk 53 [] (ae [aa 10 1,aq 11 .add 10 1,aa 8 11] (block 0 ((ae [aa 12 8,aa 13 2,aU 14 .lss 12 13] (bX 14 skip (exit 0))).seq ((block 1 (ae [aa 17 8,aa 9 17] (block 2 (((mixS 1 [aa 18 9,aa 19 1,aU 20 .gtr 18 19,aa 21 20,ap 22 21 (cM 3),ap 23 21 (cM 0),ap 24 21 (cM 9),ap 25 21 (ixaS 1 (t 23) (t 24)),ap 26 21 (cD 25),ap 27 21 (cM 0),ap 28 21 (cM 9),ap 29 21 (cB .sub (t 28) (cN 1)),ap 30 21 (ixaS 1 (t 27) (t 29)),ap 31 21 (cD 30),ap 32 21 (call (t 22) [t 26,t 31]),ap 33 21 (cB .lss (t 32) (cN 0)),d8 34 21 33] [(0,0),(1,0),(2,0),(3,0),(4,0),(5,0),(6,0),(7,0),(8,0),(9,0),(10,0),(11,0),(12,0),(13,0),(14,2),(15,0),(16,0)]).seq (bX 34 skip (exit 2))).seq ((block 3 (ops 1 [aa 37 0,aa 38 9,aa 39 0,aa 40 9,aq 41 .sub 40 1,aa 42 0,aa 43 9,aq 44 .sub 43 1,aB 45 1 42 44,ah 46 45,aa 47 0,aa 48 9,aB 49 1 47 48,ah 50 49,aB 51 1 37 38,aY 1 51 46,aB 52 1 39 41,aY 1 52 50])).seq (ops 0 [aa 35 9,aq 36 .sub 35 1,aa 9 36]))).loop))).seq (ops 0 [aa 15 8,aq 16 .add 15 1,aa 8 16]))).loop)))
theorem IV:Is Tryz.prog 136 Kj:=mkI Tryz.func136
def Lv:F2:=(F2.mk 60 [] (ae [aa 13 1,aa 8 13] (ae [ao 9 0] (ae [aa 14 2,aa 15 1,aU 16 .sub 14 15,aa 10 16] ((ae [aa 17 10,aq 18 .sub 17 1,aq 19 .quo 18 2,aa 11 19] (block 0 ((ae [aa 20 11,aq 21 .geq 20 0] (bX 21 skip (exit 0))).seq ((block 1 (ops 0 [aa 24 0,aa 25 11,aa 26 10,aa 27 8,aa 28 3,aM 29 158 [t 24,t 25,t 26,t 27,t 28]])).seq (ops 0 [aa 22 11,aq 23 .sub 22 1,aa 11 23]))).loop)).seq (ae [aa 30 10,aq 31 .sub 30 1,aa 12 31] (block 2 ((ae [aa 32 12,aq 33 .geq 32 0] (bX 33 skip (exit 2))).seq ((block 3 ((ops 1 [aa 36 0,aa 37 8,aa 38 0,aa 39 8,aa 40 12,aU 41 .add 39 40,aa 42 0,aa 43 8,aa 44 12,aU 45 .add 43 44,aB 46 1 42 45,ah 47 46,aa 48 0,aa 49 8,aB 50 1 48 49,ah 51 50,aB 52 1 36 37,aY 1 52 47,aB 53 1 38 41,aY 1 53 51]).seq (ops 0 [aa 54 0,aa 55 9,aa 56 12,aa 57 8,aa 58 3,aM 59 158 [t 54,t 55,t 56,t 57,t 58]]))).seq (ops 0 [aa 34 12,aq 35 .sub 34 1,aa 12 35]))).loop)))))))
theorem Mi:Is Tryz.prog 137 Lv:=mkI Tryz.func137
def ML:F2:=(F2.mk 67 [] (ae [aa 13 2,aa 14 1,aU 15 .sub 13 14,aa 8 15] (ae [aa 16 8,aq 17 .geq 16 8] (az 17 (ae [aa 18 8,cO 19 (conv IntKind.u64 (t 18)),cO 9 (alloc (AV.int IntKind.u64 (0))),aY 1 9 19] (ae [aa 20 8,aM 21 159 [t 20],aa 10 21] (ae [aa 22 1,aa 23 8,aq 24 .quo 23 4,aq 25 .mul 24 2,aU 26 .add 22 25,aq 27 .sub 26 1,aa 11 27] (block 0 ((ae [aa 28 11,aa 29 1,aa 30 8,aq 31 .quo 30 4,aq 32 .mul 31 2,aU 33 .add 29 32,aq 34 .add 33 1,aU 35 .leq 28 34] (bX 35 skip (exit 0))).seq ((block 1 (ae [aM 38 160 [t 9],aa 39 10,cO 40 (cB .sub (t 39) (c (AV.int IntKind.u64 (1)))),aU 41 .and 38 40,cO 42 (conv IntKind.i64 (t 41)),aa 12 42] ((ae [aa 43 12,aa 44 8,aU 45 .geq 43 44] (az 45 (ops 0 [aa 46 12,aa 47 8,aU 48 .sub 46 47,aa 12 48]))).seq (ops 1 [aa 49 0,aa 50 11,aa 51 0,aa 52 1,aa 53 12,aU 54 .add 52 53,aa 55 0,aa 56 1,aa 57 12,aU 58 .add 56 57,aB 59 1 55 58,ah 60 59,aa 61 0,aa 62 11,aB 63 1 61 62,ah 64 63,aB 65 1 49 50,aY 1 65 60,aB 66 1 51 54,aY 1 66 64])))).seq (ops 0 [aa 36 11,aq 37 .add 36 1,aa 11 37]))).loop))))))))
theorem L9:Is Tryz.prog 138 ML:=mkI Tryz.func138
def MY:F2:=(F2.mk 63 [RV.t 8,RV.t 9] (ae [ao 8 0,ao 9 0] (ae [aa 15 2,aa 16 1,aU 17 .sub 15 16,aa 10 17] (ae [cO 11 (alloc (ag))] (ae [aa 18 1,aa 19 10,aq 20 .quo 19 4,aq 21 .mul 20 1,aU 22 .add 18 21,aa 12 22] (ae [aa 23 1,aa 24 10,aq 25 .quo 24 4,aq 26 .mul 25 2,aU 27 .add 23 26,aa 13 27] (ae [aa 28 1,aa 29 10,aq 30 .quo 29 4,aq 31 .mul 30 3,aU 32 .add 28 31,aa 14 32] ((ae [aa 33 10,aq 34 .geq 33 8] (az 34 ((ae [aa 35 10,aq 36 .geq 35 50] (az 36 (ae [aa 37 0,aa 38 12,aa 39 3,aM 40 161 [t 37,t 38,t 11,t 39],aa 12 40] (ae [aa 41 0,aa 42 13,aa 43 3,aM 44 161 [t 41,t 42,t 11,t 43],aa 13 44] (ops 0 [aa 45 0,aa 46 14,aa 47 3,aM 48 161 [t 45,t 46,t 11,t 47],aa 14 48]))))).seq (ops 0 [aa 49 0,aa 50 12,aa 51 13,aa 52 14,aa 53 3,aM 54 162 [t 49,t 50,t 51,t 52,t 11,t 53],aa 13 54])))).seq (ae [ah 55 11] (block 0 (ae [aq 58 .eql 55 0,aa 57 58] (bX 57 (am [aa 59 13,aa 8 59,ao 9 1]) (ae [aq 61 .eql 55 12,aa 60 61] (bX 60 (am [aa 62 13,aa 8 62,ao 9 2]) (am [aa 56 13,aa 8 56,ao 9 0])))))))))))))))
theorem Lr:Is Tryz.prog 139 MY:=mkI Tryz.func139
def Mf:F2:=(F2.mk 34 [] (ae [aa 10 1,aa 8 10] (ae [aa 11 2,aq 12 .sub 11 1,aa 9 12] (block 0 ((ae [aa 13 8,aa 14 9,aU 15 .lss 13 14] (bX 15 skip (exit 0))).seq (block 1 ((ops 1 [aa 16 0,aa 17 8,aa 18 0,aa 19 9,aa 20 0,aa 21 9,aB 22 1 20 21,ah 23 22,aa 24 0,aa 25 8,aB 26 1 24 25,ah 27 26,aB 28 1 16 17,aY 1 28 23,aB 29 1 18 19,aY 1 29 27]).seq (ae [aa 30 8,aq 31 .add 30 1,aa 8 31] (ops 0 [aa 32 9,aq 33 .sub 32 1,aa 9 33]))))).loop))))
theorem M5:Is Tryz.prog 140 Mf:=mkI Tryz.func140
def N8:F2:=(F2.mk 141 [RV.t 8] (ae [ci 8] (ae [aa 13 1,aq 14 .add 13 1,aa 9 14] ((ae [ao 10 0] (block 0 ((ae [aa 15 10,aq 16 .lss 15 5] (bX 16 skip (exit 0))).seq ((block 1 ((block 2 (((mixS 1 [aa 19 9,aa 20 2,aU 21 .lss 19 20,aa 22 21,ap 23 22 (cM 3),ap 24 22 (cM 0),ap 25 22 (cM 9),ap 26 22 (ixaS 1 (t 24) (t 25)),ap 27 22 (cD 26),ap 28 22 (cM 0),ap 29 22 (cM 9),ap 30 22 (cB .sub (t 29) (cN 1)),ap 31 22 (ixaS 1 (t 28) (t 30)),ap 32 22 (cD 31),ap 33 22 (call (t 23) [t 27,t 32]),ap 34 22 (cB .lss (t 33) (cN 0)),ap 35 22 (un UnOp.not (t 34)),d8 36 22 35] [(0,0),(1,0),(2,0),(3,0),(4,0),(5,0),(6,0),(7,0),(8,0),(9,0),(10,0),(11,0),(12,0),(13,0),(14,2),(15,0),(16,0),(17,0)]).seq (bX 36 skip (exit 2))).seq (block 3 (ops 0 [aa 37 9,aq 38 .add 37 1,aa 9 38]))).loop).seq ((ae [aa 39 9,aa 40 2,aU 41 .eql 39 40] (az 41 (am [jI 8]))).seq ((ae [aa 42 2,aa 43 1,aU 44 .sub 42 43,aq 45 .lss 44 50] (az 45 (am [ci 8]))).seq ((ops 1 [aa 46 0,aa 47 9,aa 48 0,aa 49 9,aq 50 .sub 49 1,aa 51 0,aa 52 9,aq 53 .sub 52 1,aB 54 1 51 53,ah 55 54,aa 56 0,aa 57 9,aB 58 1 56 57,ah 59 58,aB 60 1 46 47,aY 1 60 55,aB 61 1 48 50,aY 1 61 59]).seq ((ae [aa 62 9,aa 63 1,aU 64 .sub 62 63,aq 65 .geq 64 2] (az 65 (ae [aa 66 9,aq 67 .sub 66 1,aa 11 67] (block 4 ((ae [aa 68 11,aq 69 .geq 68 1] (bX 69 skip (exit 4))).seq ((block 5 (((mixS 1 [aa 72 3,aa 73 0,aa 74 11,aB 75 1 73 74,ah 76 75,aa 77 0,aa 78 11,aq 79 .sub 78 1,aB 80 1 77 79,ah 81 80,cO 82 (call (t 72) [t 76,t 81]),aq 83 .lss 82 0,gZ 84 83] [(0,0),(1,0),(2,0),(3,0),(4,0),(5,0),(6,0),(7,0),(8,0),(9,0),(10,2),(11,0),(12,0)]).seq (az 84 (exit 4))).seq (ops 1 [aa 85 0,aa 86 11,aa 87 0,aa 88 11,aq 89 .sub 88 1,aa 90 0,aa 91 11,aq 92 .sub 91 1,aB 93 1 90 92,ah 94 93,aa 95 0,aa 96 11,aB 97 1 95 96,ah 98 97,aB 99 1 85 86,aY 1 99 94,aB 100 1 87 89,aY 1 100 98]))).seq (ops 0 [aa 70 11,aq 71 .sub 70 1,aa 11 71]))).loop)))).seq (ae [aa 101 2,aa 102 9,aU 103 .sub 101 102,aq 104 .geq 103 2] (az 104 (ae [aa 105 9,aq 106 .add 105 1,aa 12 106] (block 6 ((ae [aa 107 12,aa 108 2,aU 109 .lss 107 108] (bX 109 skip (exit 6))).seq ((block 7 (((mixS 1 [aa 112 3,aa 113 0,aa 114 12,aB 115 1 113 114,ah 116 115,aa 117 0,aa 118 12,aq 119 .sub 118 1,aB 120 1 117 119,ah 121 120,cO 122 (call (t 112) [t 116,t 121]),aq 123 .lss 122 0,gZ 124 123] [(0,0),(1,0),(2,0),(3,0),(4,0),(5,0),(6,0),(7,0),(8,0),(9,0),(10,2),(11,0),(12,0)]).seq (az 124 (exit 6))).seq (ops 1 [aa 125 0,aa 126 12,aa 127 0,aa 128 12,aq 129 .sub 128 1,aa 130 0,aa 131 12,aq 132 .sub 131 1,aB 133 1 130 132,ah 134 133,aa 135 0,aa 136 12,aB 137 1 135 136,ah 138 137,aB 139 1 125 126,aY 1 139 134,aB 140 1 127 129,aY 1 140 138]))).seq (ops 0 [aa 110 12,aq 111 .add 110 1,aa 12 111]))).loop)))))))))).seq (ops 0 [aa 17 10,aq 18 .add 17 1,aa 10 18]))).loop)).seq (am [ci 8])))))
theorem Mu:Is Tryz.prog 141 N8:=mkI Tryz.func141
def LN:F2:=(F2.mk 90 [RV.t 10] (ae [ao 10 0] ((ops 1 [aa 13 0,aa 14 1,aa 15 0,aa 16 3,aa 17 0,aa 18 3,aB 19 1 17 18,ah 20 19,aa 21 0,aa 22 1,aB 23 1 21 22,ah 24 23,aB 25 1 13 14,aY 1 25 20,aB 26 1 15 16,aY 1 26 24]).seq (ae [aa 27 1,aq 28 .add 27 1,aa 29 2,aq 30 .sub 29 1,aa 11 28,aa 12 30] ((block 0 (block 1 ((block 2 (((mixS 1 [aa 31 11,aa 32 12,aU 33 .leq 31 32,aa 34 33,ap 35 34 (cM 4),ap 36 34 (cM 0),ap 37 34 (cM 1),ap 38 34 (ixaS 1 (t 36) (t 37)),ap 39 34 (cD 38),ap 40 34 (cM 0),ap 41 34 (cM 11),ap 42 34 (ixaS 1 (t 40) (t 41)),ap 43 34 (cD 42),ap 44 34 (call (t 35) [t 39,t 43]),ap 45 34 (cB .lss (t 44) (cN 0)),ap 46 34 (un UnOp.not (t 45)),d8 47 34 46] [(0,0),(1,0),(2,0),(3,0),(4,0),(5,0),(6,0),(7,0),(8,0),(9,0),(10,0),(11,0),(12,0),(13,2),(14,0),(15,0),(16,0)]).seq (bX 47 skip (exit 2))).seq (block 3 (ops 0 [aa 48 11,aq 49 .add 48 1,aa 11 49]))).loop).seq ((block 4 (((mixS 1 [aa 50 11,aa 51 12,aU 52 .leq 50 51,aa 53 52,ap 54 53 (cM 4),ap 55 53 (cM 0),ap 56 53 (cM 1),ap 57 53 (ixaS 1 (t 55) (t 56)),ap 58 53 (cD 57),ap 59 53 (cM 0),ap 60 53 (cM 12),ap 61 53 (ixaS 1 (t 59) (t 60)),ap 62 53 (cD 61),ap 63 53 (call (t 54) [t 58,t 62]),ap 64 53 (cB .lss (t 63) (cN 0)),d8 65 53 64] [(0,0),(1,0),(2,0),(3,0),(4,0),(5,0),(6,0),(7,0),(8,0),(9,0),(10,0),(11,0),(12,0),(13,2),(14,0),(15,0)]).seq (bX 65 skip (exit 4))).seq (block 5 (ops 0 [aa 66 12,aq 67 .sub 66 1,aa 12 67]))).loop).seq ((ae [aa 68 11,aa 69 12,aU 70 .gtr 68 69] (az 70 (exit 0))).seq ((ops 1 [aa 71 0,aa 72 11,aa 73 0,aa 74 12,aa 75 0,aa 76 12,aB 77 1 75 76,ah 78 77,aa 79 0,aa 80 11,aB 81 1 79 80,ah 82 81,aB 83 1 71 72,aY 1 83 78,aB 84 1 73 74,aY 1 84 82]).seq (ae [aa 85 11,aq 86 .add 85 1,aa 11 86] (ops 0 [aa 87 12,aq 88 .sub 87 1,aa 12 88]))))))).loop).seq (am [aa 89 11,aa 10 89]))))))
theorem K7:Is Tryz.prog 142 LN:=mkI Tryz.func142
def Lk:F2:=(F2.mk 178 [RV.t 10,RV.t 11] (ae [ao 10 0,ci 11] ((ops 1 [aa 14 0,aa 15 1,aa 16 0,aa 17 3,aa 18 0,aa 19 3,aB 20 1 18 19,ah 21 20,aa 22 0,aa 23 1,aB 24 1 22 23,ah 25 24,aB 26 1 14 15,aY 1 26 21,aB 27 1 16 17,aY 1 27 25]).seq (ae [aa 28 1,aq 29 .add 28 1,aa 30 2,aq 31 .sub 30 1,aa 12 29,aa 13 31] ((block 0 (((mixS 1 [aa 32 12,aa 33 13,aU 34 .leq 32 33,aa 35 34,ap 36 35 (cM 4),ap 37 35 (cM 0),ap 38 35 (cM 12),ap 39 35 (ixaS 1 (t 37) (t 38)),ap 40 35 (cD 39),ap 41 35 (cM 0),ap 42 35 (cM 1),ap 43 35 (ixaS 1 (t 41) (t 42)),ap 44 35 (cD 43),ap 45 35 (call (t 36) [t 40,t 44]),ap 46 35 (cB .lss (t 45) (cN 0)),d8 47 35 46] [(0,0),(1,0),(2,0),(3,0),(4,0),(5,0),(6,0),(7,0),(8,0),(9,0),(10,0),(11,0),(12,0),(13,2),(14,0),(15,0)]).seq (bX 47 skip (exit 0))).seq (block 1 (ops 0 [aa 48 12,aq 49 .add 48 1,aa 12 49]))).loop).seq ((block 2 (((mixS 1 [aa 50 12,aa 51 13,aU 52 .leq 50 51,aa 53 52,ap 54 53 (cM 4),ap 55 53 (cM 0),ap 56 53 (cM 13),ap 57 53 (ixaS 1 (t 55) (t 56)),ap 58 53 (cD 57),ap 59 53 (cM 0),ap 60 53 (cM 1),ap 61 53 (ixaS 1 (t 59) (t 60)),ap 62 53 (cD 61),ap 63 53 (call (t 54) [t 58,t 62]),ap 64 53 (cB .lss (t 63) (cN 0)),ap 65 53 (un UnOp.not (t 64)),d8 66 53 65] [(0,0),(1,0),(2,0),(3,0),(4,0),(5,0),(6,0),(7,0),(8,0),(9,0),(10,0),(11,0),(12,0),(13,2),(14,0),(15,0),(16,0)]).seq (bX 66 skip (exit 2))).seq (block 3 (ops 0 [aa 67 13,aq 68 .sub 67 1,aa 13 68]))).loop).seq ((ae [aa 69 12,aa 70 13,aU 71 .gtr 69 70] (az 71 ((ops 1 [aa 72 0,aa 73 13,aa 74 0,aa 75 1,aa 76 0,aa 77 1,aB 78 1 76 77,ah 79 78,aa 80 0,aa 81 13,aB 82 1 80 81,ah 83 82,aB 84 1 72 73,aY 1 84 79,aB 85 1 74 75,aY 1 85 83]).seq (am [aa 86 13,aa 10 86,jI 11])))).seq ((ops 1 [aa 87 0,aa 88 12,aa 89 0,aa 90 13,aa 91 0,aa 92 13,aB 93 1 91 92,ah 94 93,aa 95 0,aa 96 12,aB 97 1 95 96,ah 98 97,aB 99 1 87 88,aY 1 99 94,aB 100 1 89 90,aY 1 100 98]).seq (ae [aa 101 12,aq 102 .add 101 1,aa 12 102] (ae [aa 103 13,aq 104 .sub 103 1,aa 13 104] ((block 4 (block 5 ((block 6 (((mixS 1 [aa 105 12,aa 106 13,aU 107 .leq 105 106,aa 108 107,ap 109 108 (cM 4),ap 110 108 (cM 0),ap 111 108 (cM 12),ap 112 108 (ixaS 1 (t 110) (t 111)),ap 113 108 (cD 112),ap 114 108 (cM 0),ap 115 108 (cM 1),ap 116 108 (ixaS 1 (t 114) (t 115)),ap 117 108 (cD 116),ap 118 108 (call (t 109) [t 113,t 117]),ap 119 108 (cB .lss (t 118) (cN 0)),d8 120 108 119] [(0,0),(1,0),(2,0),(3,0),(4,0),(5,0),(6,0),(7,0),(8,0),(9,0),(10,0),(11,0),(12,0),(13,2),(14,0),(15,0)]).seq (bX 120 skip (exit 6))).seq (block 7 (ops 0 [aa 121 12,aq 122 .add 121 1,aa 12 122]))).loop).seq ((block 8 (((mixS 1 [aa 123 12,aa 124 13,aU 125 .leq 123 124,aa 126 125,ap 127 126 (cM 4),ap 128 126 (cM 0),ap 129 126 (cM 13),ap 130 126 (ixaS 1 (t 128) (t 129)),ap 131 126 (cD 130),ap 132 126 (cM 0),ap 133 126 (cM 1),ap 134 126 (ixaS 1 (t 132) (t 133)),ap 135 126 (cD 134),ap 136 126 (call (t 127) [t 131,t 135]),ap 137 126 (cB .lss (t 136) (cN 0)),ap 138 126 (un UnOp.not (t 137)),d8 139 126 138] [(0,0),(1,0),(2,0),(3,0),(4,0),(5,0),(6,0),(7,0),(8,0),(9,0),(10,0),(11,0),(12,0),(13,2),(14,0),(15,0),(16,0)]).seq (bX 139 skip (exit 8))).seq (block 9 (ops 0 [aa 140 13,aq 141 .sub 140 1,aa 13 141]))).loop).seq ((ae [aa 142 12,aa 143 13,aU 144 .gtr 142 143] (az 144 (exit 4))).seq ((ops 1 [aa 145 0,aa 146 12,aa 147 0,aa 148 13,aa 149 0,aa 150 13,aB 151 1 149 150,ah 152 151,aa 153 0,aa 154 12,aB 155 1 153 154,ah 156 155,aB 157 1 145 146,aY 1 157 152,aB 158 1 147 148,aY 1 158 156]).seq (ae [aa 159 12,aq 160 .add 159 1,aa 12 160] (ops 0 [aa 161 13,aq 162 .sub 161 1,aa 13 162]))))))).loop).seq ((ops 1 [aa 163 0,aa 164 13,aa 165 0,aa 166 1,aa 167 0,aa 168 1,aB 169 1 167 168,ah 170 169,aa 171 0,aa 172 13,aB 173 1 171 172,ah 174 173,aB 175 1 163 164,aY 1 175 170,aB 176 1 165 166,aY 1 176 174]).seq (am [aa 177 13,aa 10 177,ci 11])))))))))))))
theorem NB:Is Tryz.prog 143 Lk:=mkI Tryz.func143
def KR:F2:=(F2.mk 25 [RV.t 2] (ae [ao 2 0] ((ae [aa 3 0,cO 4 (cB .geq (t 3) (c (AV.int IntKind.u64 (4294967296))))] (az 4 (ae [aa 5 0,cO 6 (cB .shr (t 5) (c (AV.int IntKind.u64 (32)))),aa 0 6] (ops 0 [ao 2 32])))).seq ((ae [aa 7 0,cO 8 (cB .geq (t 7) (c (AV.int IntKind.u64 (65536))))] (az 8 (ae [aa 9 0,cO 10 (cB .shr (t 9) (c (AV.int IntKind.u64 (16)))),aa 0 10] (ops 0 [aa 11 2,aq 12 .add 11 16,aa 2 12])))).seq ((ae [aa 13 0,cO 14 (cB .geq (t 13) (c (AV.int IntKind.u64 (256))))] (az 14 (ae [aa 15 0,cO 16 (cB .shr (t 15) (c (AV.int IntKind.u64 (8)))),aa 0 16] (ops 0 [aa 17 2,aq 18 .add 17 8,aa 2 18])))).seq (am [aa 19 2,aa 20 0,cO 21 (conv IntKind.u8 (t 20)),cO 22 (ixStr (c (AV.str (ByteArray.mk (Array.mk [0,1,2,2,3,3,3,3,4,4,4,4,4,4,4,4,5,5,5,5,5,5,5,5,5,5,5,5,5,5,5,5,6,6,6,6,6,6,6,6,6,6,6,6,6,6,6,6,6,6,6,6,6,6,6,6,6,6,6,6,6,6,6,6,7,7,7,7,7,7,7,7,7,7,7,7,7,7,7,7,7,7,7,7,7,7,7,7,7,7,7,7,7,7,7,7,7,7,7,7,7,7,7,7,7,7,7,7,7,7,7,7,7,7,7,7,7,7,7,7,7,7,7,7,7,7,7,7,8,8,8,8,8,8,8,8,8,8,8,8,8,8,8,8,8,8,8,8,8,8,8,8,8,8,8,8,8,8,8,8,8,8,8,8,8,8,8,8,8,8,8,8,8,8,8,8,8,8,8,8,8,8,8,8,8,8,8,8,8,8,8,8,8,8,8,8,8,8,8,8,8,8,8,8,8,8,8,8,8,8,8,8,8,8,8,8,8,8,8,8,8,8,8,8,8,8,8,8,8,8,8,8,8,8,8,8,8,8,8,8,8,8,8,8,8,8,8,8,8,8,8,8,8,8,8,8])))) (t 21)),cO 23 (conv IntKind.i64 (t 22)),aU 24 .add 19 23,aa 2 24]))))))
theorem II:Is Tryz.prog 145 KR:=mkI Tryz.func145
def Nz:F2:=(F2.mk 120 [RV.t 4] (ae [bR 2 0,ao 4 0] (ae [av 10 3 2,ah 11 10,aa 12 1,aB 13 3 11 12,ba 14 3 13,cO 5 (alloc (AV.agg [AV.esl,AV.esl,AV.esl])),aY 3 5 14] ((ae [av 15 0 5,ah 16 15,av 17 0 2,ah 18 17,av 19 1 2,ah 20 19,aM 21 163 [t 16,t 18,t 20],aa 6 21] (ae [aa 22 6,aq 23 .neq 22 0] (az 23 (am [aa 24 6,aa 4 24])))).seq (((mixS 1 [aa 25 1,aq 26 .gtr 25 0,aa 27 26,ap 28 27 (fa 3 (t 2)),ap 29 27 (cD 28),ap 30 27 (cM 1),ap 31 27 (cB .sub (t 30) (cN 1)),ap 32 27 (ixaS 3 (t 29) (t 31)),ap 33 27 (fa 0 (t 32)),ap 34 27 (cD 33),ap 35 27 (fa 0 (t 5)),ap 36 27 (cD 35),ap 37 27 (call (cF 164) [t 34,t 36]),ap 38 27 (cB .geq (t 37) (cN 0)),d8 39 27 38] [(0,0),(1,0),(2,0),(3,0),(4,0),(5,0),(6,0),(7,0),(8,0),(9,0),(10,0),(11,0),(12,2),(13,0),(14,0)]).seq (az 39 (am [ao 4 14]))).seq ((ae [av 40 1 5,ah 41 40,aV 42 41,aq 43 .lss 42 1,aa 44 43,aF 45 44 (fa 1 (t 5)),aF 46 44 (cD 45),aF 47 44 (lenS (t 46)),aF 48 44 (cB .gtr (t 47) (cN 1024)),dA 49 44 48] (az 49 (am [ao 4 5]))).seq ((ae [ao 7 0] (block 0 ((ae [aa 50 7,av 51 1 5,ah 52 51,aV 53 52,aU 54 .lss 50 53] (bX 54 skip (exit 0))).seq ((block 1 (((mixS 1 [av 57 1 5,ah 58 57,aa 59 7,aB 60 1 58 59,ah 61 60,av 62 0 2,ah 63 62,av 64 2 2,ah 65 64,aM 66 163 [t 61,t 63,t 65],aa 8 66] [(0,0),(1,0),(2,0),(3,0),(4,0),(5,0),(6,0),(7,0),(8,0),(9,2),(10,0)]).seq (ae [aa 67 8,aq 68 .neq 67 0] (az 68 (am [aa 69 8,aa 4 69])))).seq ((mixS 1 [aa 70 7,aq 71 .gtr 70 0,aa 72 71,ap 73 72 (fa 1 (t 5)),ap 74 72 (cD 73),ap 75 72 (cM 7),ap 76 72 (cB .sub (t 75) (cN 1)),ap 77 72 (ixaS 1 (t 74) (t 76)),ap 78 72 (cD 77),ap 79 72 (fa 1 (t 5)),ap 80 72 (cD 79),ap 81 72 (cM 7),ap 82 72 (ixaS 1 (t 80) (t 81)),ap 83 72 (cD 82),ap 84 72 (call (cF 164) [t 78,t 83]),ap 85 72 (cB .geq (t 84) (cN 0)),d8 86 72 85] [(0,0),(1,0),(2,0),(3,0),(4,0),(5,0),(6,0),(7,0),(8,0),(9,0),(10,0),(11,0),(12,0),(13,0),(14,2),(15,0),(16,0)]).seq (az 86 (am [ao 4 14]))))).seq (ops 0 [aa 55 7,aq 56 .add 55 1,aa 7 56]))).loop)).seq ((ae [ao 9 0] (block 2 ((ae [aa 87 9,av 88 2 5,ah 89 88,aV 90 89,aU 91 .lss 87 90] (bX 91 skip (exit 2))).seq ((block 3 (((mixS 1 [av 94 1 5,ah 95 94,av 96 2 5,ah 97 96,aa 98 9,aB 99 1 97 98,ah 100 99,aM 101 165 [t 95,t 100],gZ 102 101] [(0,0),(1,0),(2,0),(3,0),(4,0),(5,0),(6,0),(7,2),(8,0)]).seq (az 102 (am [ao 4 6]))).seq ((mixS 1 [aa 103 9,aq 104 .gtr 103 0,aa 105 104,ap 106 105 (fa 2 (t 5)),ap 107 105 (cD 106),ap 108 105 (cM 9),ap 109 105 (cB .sub (t 108) (cN 1)),ap 110 105 (ixaS 1 (t 107) (t 109)),ap 111 105 (cD 110),ap 112 105 (fa 2 (t 5)),ap 113 105 (cD 112),ap 114 105 (cM 9),ap 115 105 (ixaS 1 (t 113) (t 114)),ap 116 105 (cD 115),ap 117 105 (call (cF 164) [t 111,t 116]),ap 118 105 (cB .geq (t 117) (cN 0)),d8 119 105 118] [(0,0),(1,0),(2,0),(3,0),(4,0),(5,0),(6,0),(7,0),(8,0),(9,0),(10,0),(11,0),(12,0),(13,0),(14,2),(15,0),(16,0)]).seq (az 119 (am [ao 4 14]))))).seq (ops 0 [aa 92 9,aq 93 .add 92 1,aa 9 93]))).loop)).seq (am [ao 4 0])))))))))
theorem NS:Is Tryz.prog 146 Nz:=mkI Tryz.func146
def Ms:F2:=(F2.mk 55 [RV.t 6] (ae [bR 3 0,ao 6 0] (ae [aa 9 1,aa 10 2,aB 11 8 9 10,av 12 0 11,ba 13 7 12,cO 7 (alloc (AV.agg [ag,ag,ag,ag,ag,ag,ag])),aY 7 7 13] ((ae [ba 14 7 7,aM 15 166 [t 14],aa 8 15] (ae [aa 16 8,aq 17 .neq 16 0] (az 17 (am [aa 18 8,aa 6 18])))).seq ((ae [av 19 0 7,av 20 0 19,ah 21 20,av 22 0 3,ah 23 22,aU 24 .neq 21 23] (az 24 (am [ao 6 22]))).seq (((mixS 1 [aa 25 2,aq 26 .gtr 25 0,aa 27 26,ap 28 27 (cM 1),ap 29 27 (cM 2),ap 30 27 (cB .sub (t 29) (cN 1)),ap 31 27 (ixaS 8 (t 28) (t 30)),ap 32 27 (fa 0 (t 31)),ap 33 27 (ldn 7 (t 32)),ap 34 27 (ldn 7 (t 7)),ap 35 27 (call (cF 167) [t 33,t 34]),ap 36 27 (cB .geq (t 35) (cN 0)),d8 37 27 36] [(0,0),(1,0),(2,0),(3,0),(4,0),(5,0),(6,0),(7,0),(8,0),(9,0),(10,2),(11,0),(12,0)]).seq (az 37 (am [ao 6 14]))).seq (((ops 1 [aa 38 1,aa 39 2,aB 40 8 38 39,av 41 7 40,ah 42 41,aq 43 .lss 42 0,aa 44 43,aF 45 44 (cM 1),aF 46 44 (cM 2),aF 47 44 (ixaS 8 (t 45) (t 46)),aF 48 44 (fa 7 (t 47)),aF 49 44 (cD 48),aF 50 44 (fa 1 (t 3)),aF 51 44 (cD 50),aF 52 44 (lenS (t 51)),aF 53 44 (cB .geq (t 49) (t 52)),dA 54 44 53]).seq (az 54 (am [ao 6 2]))).seq (am [ao 6 0]))))))))
theorem Li:Is Tryz.prog 147 Ms:=mkI Tryz.func147
def MM:F2:=(F2.mk 59 [RV.t 2] (ae [bR 1 0,ci 2] ((ae [ao 3 0] (block 0 ((ae [aa 7 3,av 8 1 1,ah 9 8,aV 10 9,aU 11 .lss 7 10] (bX 11 skip (exit 0))).seq ((block 1 (ae [ao 4 0] (block 2 ((ae [aa 14 4,av 15 1 1,ah 16 15,aa 17 3,aB 18 1 16 17,ah 19 18,aV 20 19,aU 21 .lss 14 20] (bX 21 skip (exit 2))).seq ((block 3 (ae [av 24 1 1,ah 25 24,aa 26 3,aB 27 1 25 26,ah 28 27,aa 29 4,aB 30 8 28 29,ba 31 8 30,cO 5 (alloc (AV.agg [ag,ag,ag,ag,ag,ag,ag,ag])),aY 8 5 31] (ae [ao 6 0] (block 4 ((ae [aa 32 6,av 33 1 1,ah 34 33,av 35 7 5,ah 36 35,aB 37 1 34 36,ah 38 37,aV 39 38,aU 40 .lss 32 39] (bX 40 skip (exit 4))).seq ((block 5 ((mixS 1 [av 43 0 5,av 44 6 43,ah 45 44,av 46 1 1,ah 47 46,av 48 7 5,ah 49 48,aB 50 1 47 49,ah 51 50,aa 52 6,aB 53 8 51 52,av 54 0 53,av 55 6 54,ah 56 55,aM 57 168 [t 45,t 56],gZ 58 57] [(0,0),(1,0),(2,0),(3,0),(4,0),(5,0),(6,0),(7,0),(8,0),(9,0),(10,0),(11,0),(12,0),(13,0),(14,2),(15,0)]).seq (az 58 (am [ci 2])))).seq (ops 0 [aa 41 6,aq 42 .add 41 1,aa 6 42]))).loop)))).seq (ops 0 [aa 22 4,aq 23 .add 22 1,aa 4 23]))).loop))).seq (ops 0 [aa 12 3,aq 13 .add 12 1,aa 3 13]))).loop)).seq (am [jI 2]))))
theorem L3:Is Tryz.prog 148 MM:=mkI Tryz.func148
def L4:F2:=(F2.mk 11 [RV.t 4] (ae [ci 4] (am [aa 5 0,aa 6 1,aM 7 169 [t 6],aU 8 .quo 5 7,aq 9 .rem 8 2,aq 10 .eql 9 1,aa 4 10])))
theorem Ld:Is Tryz.prog 149 L4:=mkI Tryz.func149
def Nh:F2:=(F2.mk 21 [RV.t 4] (ae [bR 2 0,bR 3 1,ao 4 0] ((ae [ao 5 0] (block 0 ((ae [aa 6 5,av 7 1 2,ah 8 7,aV 9 8,aU 10 .lss 6 9] (bX 10 skip (exit 0))).seq ((block 1 ((ops 1 [av 13 1 2,ah 14 13,aa 15 5,aB 16 8 14 15,ba 17 8 16,ba 18 8 3,cO 19 (binS BinOp.eql [int,int,int,int,int,int,int,int] (t 17) (t 18))]).seq (az 19 (am [aa 20 5,aa 4 20])))).seq (ops 0 [aa 11 5,aq 12 .add 11 1,aa 5 12]))).loop)).seq (am [cO 4 (mov (cN ((-1))))]))))
theorem MR:Is Tryz.prog 150 Nh:=mkI Tryz.func150
def J8:F2:=(F2.mk 6 [RV.t 2] (ae [ci 2] (am [aa 3 0,aa 4 0,aU 5 .neq 3 4,aa 2 5])))
theorem IB:Is Tryz.prog 151 J8:=mkI Tryz.func151
def Lq:F2:=(F2.mk 11 [RV.t 3] (ae [ci 3] (am [aa 4 0,aq 5 .lss 4 0,aa 6 5,aF 7 6 (cM 0),aF 8 6 (cD 1),aF 9 6 (cB .geq (t 7) (t 8)),dA 10 6 9,aa 3 10])))
theorem LS:Is Tryz.prog 152 Lq:=mkI Tryz.func152
def Nn:F2:=(F2.mk 20 [RV.t 4] (ae [ci 4] ((mixS 1 [aa 5 1,aq 6 .gtr 5 0,aa 7 6,ap 8 7 (cM 0),ap 9 7 (cM 1),ap 10 7 (cB .sub (t 9) (cN 1)),ap 11 7 (ixaS 1 (t 8) (t 10)),ap 12 7 (cD 11),ap 13 7 (cM 0),ap 14 7 (cM 1),ap 15 7 (ixaS 1 (t 13) (t 14)),ap 16 7 (cD 15),ap 17 7 (call (cF 129) [t 12,t 16]),ap 18 7 (cB .geq (t 17) (cN 0)),d8 19 7 18,aa 4 19] [(0,0),(1,0),(2,0),(3,0),(4,0),(5,0),(6,0),(7,0),(8,0),(9,0),(10,0),(11,0),(12,2),(13,0),(14,0),(15,0)]).seq ret)))
theorem NR:Is Tryz.prog 153 Nn:=mkI Tryz.func153
def Lu:F2:=(F2.mk 8 [RV.t 4] (ae [bR 3 1,ci 4] (am [aa 5 0,cO 6 (mkfn 171 [t 3]),aM 7 170 [t 5,t 6],aa 4 7])))
theorem Lg:Is Tryz.prog 154 Lu:=mkI Tryz.func154
def Mj:F2:=(F2.mk 16 [RV.t 2] (ae [bR 1 0,ao 2 0] ((ae [av 4 0 1,ba 5 6 4,aM 6 172 [t 5],aa 3 6] (ae [aa 7 3,aq 8 .neq 7 0] (az 8 (am [aa 9 3,aa 2 9])))).seq (am [av 10 0 1,av 11 0 10,ah 12 11,av 13 6 1,ah 14 13,aM 15 173 [t 12,t 14],aa 2 15]))))
theorem Oa:Is Tryz.prog 155 Mj:=mkI Tryz.func155
def Lh:F2:=(F2.mk 23 [RV.t 4] (ae [bR 2 0,bR 3 1,ao 4 0] ((ae [ba 5 7 2,ba 6 7 3,cO 7 (binS BinOp.eql [int,int,int,int,int,int,int] (t 5) (t 6))] (az 7 (am [ao 4 0]))).seq ((ae [av 8 0 2,ba 9 6 8,av 10 0 3,ba 11 6 10,cO 12 (binS BinOp.neq [int,int,int,int,int,int] (t 9) (t 11))] (az 12 (am [av 13 0 2,ba 14 6 13,av 15 0 3,ba 16 6 15,aM 17 174 [t 14,t 16],aa 4 17]))).seq (am [av 18 6 2,ah 19 18,av 20 6 3,ah 21 20,aM 22 126 [t 19,t 21],aa 4 22])))))
theorem Mw:Is Tryz.prog 156 Lh:=mkI Tryz.func156
def NQ:F2:=(F2.mk 28 [] (ae [av 7 1 1,ah 8 7,aV 9 8,ao 10 0] (block 0 ((dh 11 10 9 0 ((block 1 (ae [aa 12 10,aB 13 1 8 10,ah 14 13,aa 3 12,aa 4 14] (ae [aa 15 4,aV 16 15,ao 17 0] (block 2 ((dh 18 17 16 2 ((block 3 (ae [aB 19 8 15 17,ba 20 8 19,cO 6 (alloc (AV.agg [ag,ag,ag,ag,ag,ag,ag,ag])),aY 8 6 20] (ae [aa 21 0,aa 22 3,ba 23 8 6,cO 24 (call (t 21) [t 22,t 23]),gZ 25 24] (bX 25 ret skip)))).seq (cU 26 17)))).loop)))).seq (cU 27 10)))).loop)))
theorem Nu:Is Tryz.prog 157 NQ:=mkI Tryz.func157
def NP:F2:=(F2.mk 82 [] (ae [aa 12 1,aa 10 12] (block 0 (block 1 (ae [aa 13 10,cO 14 (cB .mul (cN 2) (t 13)),aq 15 .add 14 1,aa 11 15] ((ae [aa 16 11,aa 17 2,aU 18 .geq 16 17] (az 18 (exit 0))).seq (((mixS 1 [aa 19 11,aq 20 .add 19 1,aa 21 2,aU 22 .lss 20 21,aa 23 22,ap 24 23 (cM 4),ap 25 23 (cM 0),ap 26 23 (cM 3),ap 27 23 (cM 11),ap 28 23 (cB .add (t 26) (t 27)),ap 29 23 (ixaS 1 (t 25) (t 28)),ap 30 23 (cD 29),ap 31 23 (cM 0),ap 32 23 (cM 3),ap 33 23 (cM 11),ap 34 23 (cB .add (t 32) (t 33)),ap 35 23 (cB .add (t 34) (cN 1)),ap 36 23 (ixaS 1 (t 31) (t 35)),ap 37 23 (cD 36),ap 38 23 (call (t 24) [t 30,t 37]),ap 39 23 (cB .lss (t 38) (cN 0)),d8 40 23 39] [(0,0),(1,0),(2,0),(3,0),(4,0),(5,0),(6,0),(7,0),(8,0),(9,0),(10,0),(11,0),(12,0),(13,0),(14,0),(15,0),(16,0),(17,0),(18,0),(19,2),(20,0),(21,0)]).seq (az 40 (ops 0 [aa 41 11,aq 42 .add 41 1,aa 11 42]))).seq (((mixS 1 [aa 43 4,aa 44 0,aa 45 3,aa 46 10,aU 47 .add 45 46,aB 48 1 44 47,ah 49 48,aa 50 0,aa 51 3,aa 52 11,aU 53 .add 51 52,aB 54 1 50 53,ah 55 54,cO 56 (call (t 43) [t 49,t 55]),aq 57 .lss 56 0,gZ 58 57] [(0,0),(1,0),(2,0),(3,0),(4,0),(5,0),(6,0),(7,0),(8,0),(9,0),(10,0),(11,0),(12,0),(13,2),(14,0),(15,0)]).seq (bX 58 ret skip)).seq ((ops 1 [aa 59 0,aa 60 3,aa 61 10,aU 62 .add 60 61,aa 63 0,aa 64 3,aa 65 11,aU 66 .add 64 65,aa 67 0,aa 68 3,aa 69 11,aU 70 .add 68 69,aB 71 1 67 70,ah 72 71,aa 73 0,aa 74 3,aa 75 10,aU 76 .add 74 75,aB 77 1 73 76,ah 78 77,aB 79 1 59 62,aY 1 79 72,aB 80 1 63 66,aY 1 80 78]).seq (ops 0 [aa 81 11,aa 10 81]))))))).loop)))
theorem MB:Is Tryz.prog 158 NP:=mkI Tryz.func158
def Me:F2:=(F2.mk 7 [RV.t 2] (ae [cO 2 (mov (c (AV.int IntKind.u64 (0))))] (am [aa 3 0,cO 4 (conv IntKind.u64 (t 3)),aM 5 111 [t 4],cO 6 (cB .shl (c (AV.int IntKind.u64 (1))) (t 5)),aa 2 6])))
theorem ND:Is Tryz.prog 159 Me:=mkI Tryz.func159
def N9:F2:=(F2.mk 33 [RV.t 2] (ae [cO 2 (mov (c (AV.int IntKind.u64 (0))))] ((ops 1 [aa 3 0,cO 4 (nilck (t 3)),ah 5 4,aa 6 0,cO 7 (nilck (t 6)),ah 8 7,cO 9 (cB .shl (t 8) (c (AV.int IntKind.u64 (13)))),aU 10 .xor 5 9,cO 11 (nilck (t 3)),aY 1 11 10]).seq ((ops 1 [aa 12 0,cO 13 (nilck (t 12)),ah 14 13,aa 15 0,cO 16 (nilck (t 15)),ah 17 16,cO 18 (cB .shr (t 17) (c (AV.int IntKind.u64 (7)))),aU 19 .xor 14 18,cO 20 (nilck (t 12)),aY 1 20 19]).seq ((ops 1 [aa 21 0,cO 22 (nilck (t 21)),ah 23 22,aa 24 0,cO 25 (nilck (t 24)),ah 26 25,cO 27 (cB .shl (t 26) (c (AV.int IntKind.u64 (17)))),aU 28 .xor 23 27,cO 29 (nilck (t 21)),aY 1 29 28]).seq (am [aa 30 0,cO 31 (nilck (t 30)),ah 32 31,aa 2 32]))))))
theorem M4:Is Tryz.prog 160 N9:=mkI Tryz.func160
def Nj:F2:=(F2.mk 18 [RV.t 8] (ae [ao 8 0] (am [aa 9 0,aa 10 1,aq 11 .sub 10 1,aa 12 1,aa 13 1,aq 14 .add 13 1,aa 15 2,aa 16 3,aM 17 162 [t 9,t 11,t 12,t 14,t 15,t 16],aa 8 17])))
theorem M3:Is Tryz.prog 161 Nj:=mkI Tryz.func161
def LM:F2:=(F2.mk 41 [RV.t 12] (ae [ao 12 0] (ae [aa 14 0,aa 15 1,aa 16 2,aa 17 4,aa 18 5,aM 19 175 [t 14,t 15,t 16,t 17,t 18],aa 13 19,ce 20 13 0,ce 21 13 1,aa 1 20,aa 2 21] (ae [aa 23 0,aa 24 2,aa 25 3,aa 26 4,aa 27 5,aM 28 175 [t 23,t 24,t 25,t 26,t 27],aa 22 28,ce 29 22 0,ce 30 22 1,aa 2 29,aa 3 30] (ae [aa 32 0,aa 33 1,aa 34 2,aa 35 4,aa 36 5,aM 37 175 [t 32,t 33,t 34,t 35,t 36],aa 31 37,ce 38 31 0,ce 39 31 1,aa 1 38,aa 2 39] (am [aa 40 2,aa 12 40]))))))
theorem Nv:Is Tryz.prog 162 LM:=mkI Tryz.func162
def MD:F2:=(F2.mk 30 [RV.t 6] (ae [ao 6 0] ((ae [aa 8 0,aV 9 8,aa 10 1,aU 11 .neq 9 10] (az 11 (am [ao 6 15]))).seq ((ae [ao 7 0] (block 0 ((ae [aa 12 7,aa 13 1,aU 14 .lss 12 13] (bX 14 skip (exit 0))).seq ((block 1 (ae [aa 17 0,aa 18 7,aB 19 1 17 18,ah 20 19,aq 21 .lss 20 0,aa 22 21,aF 23 22 (cM 0),aF 24 22 (cM 7),aF 25 22 (ixaS 1 (t 23) (t 24)),aF 26 22 (cD 25),aF 27 22 (cM 2),aF 28 22 (cB .geq (t 26) (t 27)),dA 29 22 28] (az 29 (am [ao 6 2])))).seq (ops 0 [aa 15 7,aq 16 .add 15 1,aa 7 16]))).loop)).seq (am [ao 6 0])))))
theorem LU:Is Tryz.prog 163 MD:=mkI Tryz.func163
def Nl:F2:=(F2.mk 46 [RV.t 4] (ae [ao 4 0] ((ae [ao 5 0] (block 0 ((ae [aa 6 5,aa 7 0,aV 8 7,aU 9 .lss 6 8,aa 10 9,ap 11 10 (cM 5),ap 12 10 (cM 1),ap 13 10 (lenS (t 12)),ap 14 10 (cB .lss (t 11) (t 13)),d8 15 10 14] (bX 15 skip (exit 0))).seq ((block 1 (((ops 1 [aa 18 0,aa 19 5,aB 20 1 18 19,ah 21 20,aa 22 1,aa 23 5,aB 24 1 22 23,ah 25 24,aU 26 .lss 21 25]).seq (az 26 (am [cO 4 (mov (cN ((-1))))]))).seq ((ops 1 [aa 27 0,aa 28 5,aB 29 1 27 28,ah 30 29,aa 31 1,aa 32 5,aB 33 1 31 32,ah 34 33,aU 35 .gtr 30 34]).seq (az 35 (am [ao 4 1]))))).seq (ops 0 [aa 16 5,aq 17 .add 16 1,aa 5 17]))).loop)).seq ((ae [aa 36 0,aV 37 36,aa 38 1,aV 39 38,aU 40 .lss 37 39] (az 40 (am [cO 4 (mov (cN ((-1))))]))).seq ((ae [aa 41 0,aV 42 41,aa 43 1,aV 44 43,aU 45 .gtr 42 44] (az 45 (am [ao 4 1]))).seq (am [ao 4 0]))))))
theorem M8:Is Tryz.prog 164 Nl:=mkI Tryz.func164
def N4:F2:=(F2.mk 19 [RV.t 4] (ae [ci 4] ((ae [ao 5 0] (block 0 ((ae [aa 6 5,aa 7 0,aV 8 7,aU 9 .lss 6 8] (bX 9 skip (exit 0))).seq ((block 1 (ae [aa 12 0,aa 13 5,aB 14 1 12 13,ah 15 14,aa 16 1,aM 17 164 [t 15,t 16],aq 18 .eql 17 0] (az 18 (am [jI 4])))).seq (ops 0 [aa 10 5,aq 11 .add 10 1,aa 5 11]))).loop)).seq (am [ci 4]))))
theorem Lz:Is Tryz.prog 165 N4:=mkI Tryz.func165
def K2:F2:=(F2.mk 16 [RV.t 2] (ae [bR 1 0,ao 2 0] ((ae [av 4 0 1,ba 5 6 4,aM 6 176 [t 5],aa 3 6] (ae [aa 7 3,aq 8 .neq 7 0] (az 8 (am [aa 9 3,aa 2 9])))).seq (am [av 10 0 1,av 11 0 10,ah 12 11,av 13 6 1,ah 14 13,aM 15 177 [t 12,t 14],aa 2 15]))))
theorem L1:Is Tryz.prog 166 K2:=mkI Tryz.func166
def K9:F2:=(F2.mk 24 [RV.t 4] (ae [bR 2 0,bR 3 1,ao 4 0] ((ae [av 6 0 2,ba 7 6 6,av 8 0 3,ba 9 6 8,aM 10 178 [t 7,t 9],aa 5 10] (ae [aa 11 5,aq 12 .neq 11 0] (az 12 (am [aa 13 5,aa 4 13])))).seq ((ae [av 14 6 2,ah 15 14,av 16 6 3,ah 17 16,aU 18 .lss 15 17] (az 18 (am [cO 4 (mov (cN ((-1))))]))).seq ((ae [av 19 6 2,ah 20 19,av 21 6 3,ah 22 21,aU 23 .gtr 20 22] (az 23 (am [ao 4 1]))).seq (am [ao 4 0]))))))
theorem Mc:Is Tryz.prog 167 K9:=mkI Tryz.func167
def NY:F2:=(F2.mk 19 [RV.t 4] (ae [ci 4] ((ae [ao 5 0] (block 0 ((ae [aa 6 5,aq 7 .lss 6 5] (bX 7 skip (exit 0))).seq ((block 1 (ae [aa 10 0,aa 11 5,aM 12 149 [t 10,t 11],aa 13 12,ap 14 13 (cM 1),ap 15 13 (cM 5),ap 16 13 (call (cF 149) [t 14,t 15]),ap 17 13 (un UnOp.not (t 16)),d8 18 13 17] (az 18 (am [ci 4])))).seq (ops 0 [aa 8 5,aq 9 .add 8 1,aa 5 9]))).loop)).seq (am [jI 4]))))
theorem Ly:Is Tryz.prog 168 NY:=mkI Tryz.func168
def LK:F2:=(F2.mk 13 [RV.t 2] (ae [ao 2 0] (ae [ao 3 1] ((ae [ao 4 0] (block 0 ((ae [aa 5 4,aa 6 0,aU 7 .lss 5 6] (bX 7 skip (exit 0))).seq ((block 1 (ops 0 [aa 10 3,aq 11 .mul 10 2,aa 3 11])).seq (ops 0 [aa 8 4,aq 9 .add 8 1,aa 4 9]))).loop)).seq (am [aa 12 3,aa 2 12])))))
theorem L6:Is Tryz.prog 169 LK:=mkI Tryz.func169
def MQ:F2:=(F2.mk 9 [RV.t 4] (ae [ci 4] (am [aa 5 0,aa 6 1,aM 7 179 [t 5,t 6],aq 8 .geq 7 0,aa 4 8])))
theorem M6:Is Tryz.prog 170 MQ:=mkI Tryz.func170
def MZ:F2:=(F2.mk 7 [RV.t 3] (ae [ci 3] (am [aa 4 0,ah 5 1,aM 6 95 [t 4,t 5],aa 3 6])))
theorem N7:Is Tryz.prog 171 MZ:=mkI Tryz.func171
def K4:F2:=(F2.mk 50 [RV.t 2] (ae [bR 1 0,ao 2 0] ((ae [av 5 0 1,ah 6 5,aq 7 .lss 6 1,aa 8 7,aF 9 8 (fa 0 (t 1)),aF 10 8 (cD 9),aF 11 8 (cB .gtr (t 10) (cN 5)),dA 12 8 11] (az 12 (am [ao 2 2]))).seq ((ae [av 13 1 1,ba 14 5 13,ao 15 0] (block 0 (ae [aq 16 .lss 15 5] (FB 16 0 ((block 1 (ae [aa 17 15,cO 18 (ixA1 5 1 (t 14) (t 15)),aa 3 17,aa 4 18] (block 2 (ae [aa 20 3,av 21 0 1,ah 22 21,aU 23 .geq 20 22,aa 24 23,ap 25 24 (cM 4),ap 26 24 (cB .neq (t 25) (cN 0)),d8 27 24 26,aa 19 27] (bX 19 (am [ao 2 3]) (ae [aa 29 3,av 30 0 1,ah 31 30,aU 32 .geq 29 31,aa 28 32] (bX 28 skip (ae [aa 34 4,aq 35 .lss 34 0,aa 36 35,aF 37 36 (cM 4),aF 38 36 (fa 0 (t 1)),aF 39 36 (cD 38),aF 40 36 (call (cF 180) [t 39]),aF 41 36 (cB .gtr (t 37) (t 40)),dA 42 36 41,aa 33 42] (bX 33 (am [ao 2 2]) (ae [aa 44 4,aa 45 3,aU 46 .shr 44 45,aq 47 .and 46 1,aq 48 .eql 47 0,aa 43 48] (az 43 (am [ao 2 3])))))))))))).seq (cU 49 15)))).loop)).seq (am [ao 2 0])))))
theorem LB:Is Tryz.prog 172 K4:=mkI Tryz.func172
def KY:F2:=(F2.mk 19 [RV.t 4] (ae [ao 4 0] ((ae [aa 6 0,aM 7 181 [t 6],aa 5 7] (ae [aa 8 5,aq 9 .neq 8 0] (az 9 (am [aa 10 5,aa 4 10])))).seq ((ae [aa 11 1,aq 12 .lss 11 0,aa 13 12,aF 14 13 (cM 1),aF 15 13 (cM 0),aF 16 13 (cB .shr (t 14) (t 15)),aF 17 13 (cB .neq (t 16) (cN 0)),dA 18 13 17] (az 18 (am [ao 4 2]))).seq (am [ao 4 0])))))
theorem N6:Is Tryz.prog 173 KY:=mkI Tryz.func173
def M9:F2:=(F2.mk 36 [RV.t 4] (ae [bR 2 0,bR 3 1,ao 4 0] ((ae [ba 7 6 2,ba 8 6 3,cO 9 (binS BinOp.eql [int,int,int,int,int,int] (t 7) (t 8))] (az 9 (am [ao 4 0]))).seq ((ae [av 10 0 2,ah 11 10,av 12 0 3,ah 13 12,aU 14 .neq 11 13] (az 14 (am [av 15 0 2,ah 16 15,av 17 0 3,ah 18 17,aM 19 126 [t 16,t 18],aa 4 19]))).seq ((ae [ao 20 0] (block 0 (ae [aq 21 .lss 20 5] (FB 21 0 ((block 1 (ae [aa 22 20,aa 5 22] ((mixS 1 [aa 23 5,av 24 1 2,cO 25 (ixaA 5 1 (t 24) (t 23)),ah 26 25,aa 27 5,av 28 1 3,cO 29 (ixaA 5 1 (t 28) (t 27)),ah 30 29,aM 31 126 [t 26,t 30],aa 6 31] [(0,0),(1,0),(2,0),(3,0),(4,0),(5,0),(6,0),(7,0),(8,2),(9,0)]).seq (ae [aa 32 6,aq 33 .neq 32 0] (az 33 (am [aa 34 6,aa 4 34])))))).seq (cU 35 20)))).loop)).seq (am [ao 4 0]))))))
theorem Ni:Is Tryz.prog 174 M9:=mkI Tryz.func174
def KW:F2:=(F2.mk 32 [RV.t 10,RV.t 11] (ae [ao 10 0,ao 11 0] (((mixS 1 [aa 12 4,aa 13 0,aa 14 2,aB 15 1 13 14,ah 16 15,aa 17 0,aa 18 1,aB 19 1 17 18,ah 20 19,cO 21 (call (t 12) [t 16,t 20]),aq 22 .lss 21 0] [(0,0),(1,0),(2,0),(3,0),(4,0),(5,0),(6,0),(7,0),(8,0),(9,2),(10,0)]).seq (az 22 (ae [aa 23 3,cO 24 (nilck (t 23)),ah 25 24,aq 26 .add 25 1,cO 27 (nilck (t 23)),aY 1 27 26] (am [aa 28 2,aa 29 1,aa 10 28,aa 11 29])))).seq (am [aa 30 1,aa 31 2,aa 10 30,aa 11 31]))))
theorem MJ:Is Tryz.prog 175 KW:=mkI Tryz.func175
def Nw:F2:=(F2.mk 40 [RV.t 2] (ae [bR 1 0,ao 2 0] ((ae [av 5 0 1,ah 6 5,aq 7 .lss 6 1,aa 8 7,aF 9 8 (fa 0 (t 1)),aF 10 8 (cD 9),aF 11 8 (cB .gtr (t 10) (cN 5)),dA 12 8 11] (az 12 (am [ao 2 2]))).seq ((ae [ao 3 0] (block 0 ((ae [aa 13 3,aq 14 .lss 13 5] (bX 14 skip (exit 0))).seq ((block 1 (ae [aa 17 3,av 18 1 1,cO 19 (ixaA 5 1 (t 18) (t 17)),ah 20 19,aa 4 20] ((ae [aa 21 3,av 22 0 1,ah 23 22,aU 24 .geq 21 23] (az 24 ((ae [aa 25 4,aq 26 .neq 25 0] (az 26 (am [ao 2 3]))).seq (exit 1)))).seq ((ae [aa 27 4,aq 28 .lss 27 0,aa 29 28,aF 30 29 (cM 4),aF 31 29 (fa 0 (t 1)),aF 32 29 (cD 31),aF 33 29 (call (cF 182) [t 32]),aF 34 29 (cB .gtr (t 30) (t 33)),dA 35 29 34] (az 35 (am [ao 2 2]))).seq (ae [aa 36 4,aa 37 3,aM 38 149 [t 36,t 37],gZ 39 38] (az 39 (am [ao 2 3]))))))).seq (ops 0 [aa 15 3,aq 16 .add 15 1,aa 3 16]))).loop)).seq (am [ao 2 0])))))
theorem NV:Is Tryz.prog 176 Nw:=mkI Tryz.func176
def LZ:F2:=(F2.mk 19 [RV.t 4] (ae [ao 4 0] ((ae [aa 6 0,aM 7 183 [t 6],aa 5 7] (ae [aa 8 5,aq 9 .neq 8 0] (az 9 (am [aa 10 5,aa 4 10])))).seq ((ae [aa 11 1,aq 12 .lss 11 0,aa 13 12,aF 14 13 (cM 1),aF 15 13 (cM 0),aF 16 13 (call (cF 169) [t 15]),aF 17 13 (cB .geq (t 14) (t 16)),dA 18 13 17] (az 18 (am [ao 4 2]))).seq (am [ao 4 0])))))
theorem MX:Is Tryz.prog 177 LZ:=mkI Tryz.func177
def Ob:F2:=(F2.mk 38 [RV.t 4] (ae [bR 2 0,bR 3 1,ao 4 0] ((ae [av 6 0 2,ah 7 6,av 8 0 3,ah 9 8,aU 10 .lss 7 9] (az 10 (am [cO 4 (mov (cN ((-1))))]))).seq ((ae [av 11 0 2,ah 12 11,av 13 0 3,ah 14 13,aU 15 .gtr 12 14] (az 15 (am [ao 4 1]))).seq ((ae [ao 5 0] (block 0 ((ae [aa 16 5,aq 17 .lss 16 5] (bX 17 skip (exit 0))).seq ((block 1 (((ops 1 [aa 20 5,av 21 1 2,cO 22 (ixaA 5 1 (t 21) (t 20)),ah 23 22,aa 24 5,av 25 1 3,cO 26 (ixaA 5 1 (t 25) (t 24)),ah 27 26,aU 28 .lss 23 27]).seq (az 28 (am [cO 4 (mov (cN ((-1))))]))).seq ((ops 1 [aa 29 5,av 30 1 2,cO 31 (ixaA 5 1 (t 30) (t 29)),ah 32 31,aa 33 5,av 34 1 3,cO 35 (ixaA 5 1 (t 34) (t 33)),ah 36 35,aU 37 .gtr 32 36]).seq (az 37 (am [ao 4 1]))))).seq (ops 0 [aa 18 5,aq 19 .add 18 1,aa 5 19]))).loop)).seq (am [ao 4 0]))))))
theorem KZ:Is Tryz.prog 178 Ob:=mkI Tryz.func178
def LG:F2:=(F2.mk 19 [RV.t 4] (ae [ao 4 0] ((ae [aa 6 0,aV 7 6,ao 8 0] (block 0 ((dh 9 8 7 0 ((block 1 (ae [aa 10 8,aa 5 10] (ae [aa 11 1,aa 12 0,aa 13 5,aB 14 1 12 13,ah 15 14,cO 16 (call (t 11) [t 15])] (az 16 (am [aa 17 5,aa 4 17]))))).seq (cU 18 8)))).loop)).seq (am [cO 4 (mov (cN ((-1))))]))))
theorem Ma:Is Tryz.prog 179 LG:=mkI Tryz.func179
def Nq:F2:=(F2.mk 6 [RV.t 2] (ae [ao 2 0] (am [aa 3 0,cO 4 (cB .shl (cN 1) (t 3)),aq 5 .sub 4 1,aa 2 5])))
theorem Lf:Is Tryz.prog 180 Nq:=mkI Tryz.func180
def Lx:F2:=(F2.mk 9 [RV.t 2] (ae [ao 2 0] ((ae [aa 3 0,aq 4 .lss 3 1,aa 5 4,aF 6 5 (cM 0),aF 7 5 (cB .gtr (t 6) (cN 5)),dA 8 5 7] (az 8 (am [ao 2 1]))).seq (am [ao 2 0]))))
theorem Lc:Is Tryz.prog 181 Lx:=mkI Tryz.func181
def Mm:F2:=(F2.mk 6 [RV.t 2] (ae [ao 2 0] (am [aa 3 0,aM 4 169 [t 3],aq 5 .sub 4 1,aa 2 5])))
theorem Mp:Is Tryz.prog 182 Mm:=mkI Tryz.func182
def LI:F2:=(F2.mk 9 [RV.t 2] (ae [ao 2 0] ((ae [aa 3 0,aq 4 .lss 3 1,aa 5 4,aF 6 5 (cM 0),aF 7 5 (cB .gtr (t 6) (cN 5)),dA 8 5 7] (az 8 (am [ao 2 1]))).seq (am [ao 2 0]))))
theorem MF:Is Tryz.prog 183 LI:=mkI Tryz.func183
end Go.Proofs.YtmpcledaoigkaaaGreat
namespace Go.Proofs.YtmpcledaoigkaaaGreat.Tk
open Go Go.Abs
open Nat (reduceEqDiff reduceAdd reduceLeDiff)
abbrev Sh{α:Type}(l:List α):Prop:=l.length<=17592186044416
structure CaseV where
 inp:List Int
 out:List (List Int)
 calm:List (List Int)
 deriving Inhabited,DecidableEq
structure TaskV where
 n:Int
 ins:Int
 outs:Int
 cases:List CaseV
 deriving Inhabited,DecidableEq
def ke(c:CaseV):AV:=.agg [aH c.inp,bi c.out,bi c.calm]
def cC(l:List CaseV):AV:=.sl 3 (l.map ke)
def pJ(t:TaskV):AV:=.agg [.int .i64 t.n,.int .i64 t.ins,.int .i64 t.outs,cC t.cases]
theorem iL (l:List CaseV):Dat (cC l):=Dat.sl (fun x hx c hc=>by
 simp at hx;obtain⟨q,_,rfl⟩:=hx;simp only[ke,AV.cells,gg,List.not_mem_nil,or_false] at hc;rcases hc with rfl|rfl|rfl
 ·exact eV _
 ·exact dZ _
 ·exact dZ _)
theorem mP(t:TaskV):Dat (pJ t):=by
 refine Dat.agg λx hx=>?_;simp only[gg,List.not_mem_nil,or_false] at hx;rcases hx with rfl|rfl|rfl|rfl
 ·exact .int
 ·exact .int
 ·exact .int
 ·exact iL _
theorem bC(l:List CaseV):(cC l).one=true:=rfl
theorem bg(l:List CaseV):(cC l).cells=[cC l]:=rfl
theorem bc(l:List CaseV):dl (cC l)=some (.int .i64 l.length):=by simp[dl,cC]
theorem aixS_encCs{l:List CaseV}{k:Nat}(h:k<l.length):cA 3 (cC l) (.int .i64 k)=some (.iptr [aH (l.getD k default).inp,bi (l.getD k default).out,bi (l.getD k default).calm] 0):=by
 simp[cA,cC,h,List.getD,ke,AV.cells]
def ShC(c:CaseV):Prop:=Sh c.inp/\Sh c.out/\(∀x∈c.out,Sh x)/\Sh c.calm/\∀x∈c.calm,Sh x
def bu:List Int->List Int->Int
 |[],[]=>0
 |[],_::_=>-1
 |_::_,[]=>1
 |a::l,b::m=>if a<b then-1 else if a>b then 1 else bu l m
def cH(f:Nat->Int):Nat->Int
 |0=>0
 |n+1=>if cH f n≠0 then cH f n else f n
theorem dC{f:Nat->Int}:∀{n:Nat},(∀i,i<n->f i=0)->cH f n=0
 |0,_=>rfl
 |n+1,h=>by
  have:=dC (f:=f) (n:=n) (λi hi=>h i (by omega));rw[cH,this,if_neg (by simp)];exact h n (by omega)
theorem dN{f:Nat->Int}:∀{n k:Nat},k<n->(∀i,i<k->f i=0)->f k≠0->cH f n=f k
 |0,k,h,_,_=>absurd h (by omega)
 |n+1,k,h,h0,hk=>by
  rw[cH];by_cases e:k=n
  ·subst e;rw[dC h0,if_neg (by simp)]
  ·rw[dN (n:=n) (by omega) h0 hk,if_pos hk]
theorem iI{f:Nat->Int}:∀{n:Nat},cH f n=0->∀i,i<n->f i=0
 |0,_,i,h=>absurd h (by omega)
 |n+1,h,i,hi=>by
  rw[cH] at h;by_cases e:cH f n=0
  ·rw[e,if_neg (by simp)] at h;by_cases ei:i=n
   ·subst ei;exact h
   ·exact iI e i (by omega)
  ·rw[if_pos e] at h;exact absurd h e
def ct(v:List Int)(n most:Int):Int:=if (v.length:Int)≠n then 15 else if v.any (λx=>decide (x<0\/most<=x)) then 2 else 0
def iv(l:List (List Int))(i:Nat):Bool:=decide (0<i)&&decide (0<=bu (l.getD (i-1) default) (l.getD i default))
def oh(n outs:Int)(l:List (List Int))(k:Nat):Int:=if ct (l.getD k default) n outs≠0 then ct (l.getD k default) n outs else if iv l k then 14 else 0
def oB(out calm:List (List Int))(k:Nat):Int:=if calm.getD k default∈out then(if iv calm k then 14 else 0) else 6
def ew(n outs:Int)(c:CaseV):Int:=if c.out.length<1\/1024<c.out.length then 5 else if cH (oh n outs c.out) c.out.length≠0 then cH (oh n outs c.out) c.out.length else cH (oB c.out c.calm) c.calm.length
def jn(t:TaskV)(k:Nat):Int:=if ct (t.cases.getD k default).inp t.n t.ins≠0 then ct (t.cases.getD k default).inp t.n t.ins else if iv (t.cases.map CaseV.inp) k then 14 else ew t.n t.outs (t.cases.getD k default)
def en(t:TaskV):Int:=if t.n<1\/5<t.n\/t.ins<1\/8<t.ins\/t.outs<1\/8<t.outs then 2 else if t.cases.length<1\/1024<t.cases.length then 5 else cH (jn t) t.cases.length
theorem pi:∀l:List Int,bu l l=0
 |[]=>rfl
 |a::l=>by rw[bu,if_neg (by omega),if_neg (by omega)];exact pi l
theorem tL:∀{l m:List Int},bu l m=0->l=m
 |[],[],_=>rfl
 |[],_::_,h=>by simp[bu] at h
 |_::_,[],h=>by simp[bu] at h
 |a::l,b::m,h=>by
  rw[bu] at h;split at h
  ·omega
  ·split at h
   ·omega
   ·rw[tL h,show a=b by omega]
theorem qY{l m:List Int}:bu l m=0↔l=m:=⟨tL,λh=>h▸pi l⟩
theorem pu{t:TaskV}{k:Nat}(h:k<t.cases.length):(t.cases.map CaseV.inp).getD k default=(t.cases.getD k default).inp:=by simp[List.getD,h]
theorem HC(l:List (List Int))(v:List Int):(l.any λx=>decide (x=v))=decide (v∈l):=by
 by_cases h:v∈l
 ·rw[bG h,lu];exact⟨v,h,by simp⟩
 ·rw[bK h,List.any_eq_false];intro x hx e;rw[Im] at e;subst e;exact h hx
def pk(l:List (List Int)):Bool:=decide (l.length<=30)&&l.all λv=>decide (v.length<=10)
def vG(c:CaseV):Bool:=decide (c.inp.length<=10)&&pk c.out&&pk c.calm
def BJ(t:TaskV):Bool:=decide (t.cases.length<=30)&&t.cases.all vG
theorem zy{l:List (List Int)}{v:List Int}:v∈l↔ ∃i,i<l.length/\l.getD i default=v:=by
 constructor
 ·intro h;obtain⟨i,hi,e⟩:=mM h;exact⟨i,hi,by simp[List.getD,hi,e]⟩
 ·rintro⟨i,hi,rfl⟩;exact au hi
section
attribute [local irreducible] aE ai be aP aJ aK ay aL aR bn Go.Abs.Fn aO Go.Abs.Pure ak aD Yl
def E7(l:List Int)(p:Int->Bool):Int:=if l.any p then(l.findIdx p:Nat) else-1
theorem GR{l:List Int}{p:Int->Bool}{k:Nat}(hk:k<l.length)(h:∀i,i<k->p (l.getD i default)=false)(hv:p (l.getD k default)=true):E7 l p=k:=by
 have e:l.getD k default=l[k]:=by simp[List.getD,hk]
 have hm:l.any p=true:=lu.2 ⟨l[k],mJ hk,by rw[<-e];exact hv⟩;unfold E7;rw[if_pos hm];have:l.findIdx p=k:=(List.findIdx_eq hk).2 ⟨by rw[<-e];exact hv,λj hj=>by have:=h j hj;rwa [show l.getD j default=l[j] by simp[List.getD,show j<l.length by omega]] at this⟩;rw[this]
theorem DV{l:List Int}{p:Int->Bool}(h:∀i,i<l.length->p (l.getD i default)=false):l.any p=false:=by
 rw[List.any_eq_false];intro x hx;obtain⟨i,hi,e⟩:=mM hx;have:=h i hi;rw[show l.getD i default=l[i] by simp[List.getD,hi],e] at this;simp[this]
theorem FY(l:List Int)(p:Int->Bool)(g:Nat)(caps:List AV)(hd:∀x∈caps,Dat x)(hg:∀x∈l,pU g (.int .i64 x::caps) (.bool (p x)))(hl:Sh l):pU 127 [aH l,.func g caps] (.int .i64 (E7 l p)):=by
 refine pO Iz ?_;simp only[Km,aw];refine wnZ and_self ?_;refine fS (X:=Nat) (λk=>[(0,aH l),(1,.func g caps),(6,aH l),(7,.int .i64 l.length),(8,.int .i64 k)]) (λk=>k<=l.length/\∀i,i<k->p (l.getD i default)=false) (λk=>l.length-k) 0 ⟨bz _,by simp⟩ ag0 ?_;rintro k ⟨h1,h2⟩
 repeat' (first|refine zW ?_|apply a_n|apply a_x|apply a_r|refine zO ?_|refine vZ ?_|refine cZ ?_ (hp:=by exact hg _ (au (by omega))) (hs:=by(first|refine aC ?_ rfl|apply aQ);(repeat' (first|exact aj|apply bB|apply a8|exact a9 hd));first|done|fail)|(refine zGZ ?_ ?_<;>(intro _hg;try (exfalso;omega)))|refine bk rfl ?_|refine r1Z ?_|fail)
 ·refine aA ?_;rw[GR (by omega) h2 _hg]
 ·refine⟨k+1,⟨by omega,λi hi=>?_⟩,by omega,ag0,rfl,rfl⟩;rcases ij.1 hi with h|rfl
  ·exact h2 i h
  ·exact _hg
 ·refine aA ?_;unfold E7;rw[DV λi hi=>h2 i (by omega)];rfl
theorem Ag(l:List Int)(p:Int->Bool)(g:Nat)(caps:List AV)(hd:∀x∈caps,Dat x)(hg:∀x∈l,pU g (.int .i64 x::caps) (.bool (p x)))(hl:Sh l):pU 102 [aH l,.func g caps] (.bool (l.any p)):=by
 refine pO IW ?_;simp only[Kf,aw]
 repeat' (first|refine zW ?_|apply a_n|refine zO ?_|refine vZ ?_|refine cZ ?_ (hp:=by exact FY l p g caps hd hg hl) (hs:=by(first|refine aC ?_ rfl|apply aQ);(repeat' (first|exact aj|apply bB|apply a8|exact Dat.func hd));first|done|fail)|refine bk rfl ?_|refine r1Z ?_|fail)
 refine cf ?_;unfold E7;split<;>simp_all
theorem cloneF_c(l:List Int)(hl:Sh l):PureF Tryz.prog 78 [aH l] (aH l):=by
 refine qO Pw ?_;simp only[b78,aw];refine wnZ and_self ?_;refine mC (k:=l.length) (by((try simp only[bN,ZA,reduceEqDiff,↓reduceIte,reduceAdd,reduceLeDiff]);(try with_reducible rfl));exact uE) (λh=>?_) (λh=>?_) (λh=>?_)
 ((all_goals (try have zz:=and_self));(repeat' (first|refine zW ?_|apply a_n|apply a_r|refine zO ?_|refine vZ ?_|refine b0Z ?_|refine a0Z ?_|refine cTZ ?_|refine cFZ ?_|refine bk rfl ?_|refine r1Z ?_|fail));(all_goals (try clear zz)))
 ·exact re ac (by omega) rfl
 ·exact Dq h
 ·exact re ac (by omega) rfl
theorem equalV_c(l m:List Int)(hl:Sh l)(hm:Sh m):pU 95 [aH l,aH m] (.bool (decide (l=m))):=by
 refine pO PF ?_;simp only[b95,aw]
 repeat' (first|refine zW ?_|apply a_n|apply a_r|refine zO ?_|refine vZ ?_|(refine zGZ ?_ ?_<;>(intro _hg;try (exfalso;omega)))|refine bk rfl ?_|refine r1Z ?_|fail)
 ·refine cf ?_
  symm;rw[decide_eq_false_iff_not];rintro rfl;omega
 refine fS (X:=Nat) (λk=>[(0,aH l),(1,aH m),(12,.int .i64 l.length),(13,.int .i64 k)]) (λk=>k<=l.length/\∀i,i<k->l.getD i default=m.getD i default) (λk=>l.length-k) 0 ⟨bz _,by simp⟩ ag0 ?_;rintro k ⟨h1,h2⟩
 repeat' (first|refine zW ?_|apply a_n|apply a_x|apply a_r|refine zO ?_|refine vZ ?_|(refine zGZ ?_ ?_<;>(intro _hg;try (exfalso;omega)))|refine bk rfl ?_|refine r1Z ?_|fail)
 ·refine cf ?_
  symm;rw[decide_eq_false_iff_not];rintro rfl;exact absurd rfl ‹_›
 ·refine⟨k+1,⟨by omega,λi hi=>?_⟩,by omega,ag0,rfl,rfl⟩;rcases ij.1 hi with h|rfl
  ·exact h2 i h
  ·omega
 ·refine cf ?_
  symm;rw[Im]
  refine List.ext_getElem (by omega) (λi h3 h4=>?_);have:=h2 i (by omega);simpa[List.getD,h3,h4] using this
theorem G8(n:Int):pU 151 [.int .i64 n] (.bool false):=by
 refine pO IB ?_;simp only[J8,aw];refine wnZ and_self ?_;exact cf (by simp)
theorem BV(a b:Int):pU 126 [.int .i64 a,.int .i64 b] (.int .i64 (if a<b then-1 else if a>b then 1 else 0)):=by
 refine pO Iw ?_;simp only[Jw,aw];have zz:=@dX;repeat' (first|refine zW ?_|apply a_n|apply a_r|refine zO ?_|refine vZ ?_|refine cZ ?_ (hp:=by exact G8 _)|refine cFZ ?_|(refine zGZ ?_ ?_<;>(intro _hg;try (exfalso;omega)))|refine bk rfl ?_|refine r1Z ?_|fail)
 all_goals (refine aA ?_)
 ·rw[if_pos ‹_›]
 ·rw[if_neg ‹_›,if_pos ‹_›]
 ·rw[if_neg (by omega),if_neg (by omega)]
theorem jM(a b:List Int)(ha:Sh a)(hb:Sh b):pU 129 [aH a,aH b] (.int .i64 (bu a b)):=by
 refine pO K6 ?_;simp only[MS,aw];refine wnZ and_self ?_;refine fS (X:=Nat) (λk=>[(0,aH a),(1,aH b),(9,aH a),(10,.int .i64 a.length),(11,.int .i64 k)]) (λk=>k<=a.length/\k<=b.length/\bu a b=bu (a.drop k) (b.drop k)) (λk=>a.length-k) 0 ⟨bz _,bz _,rfl⟩ ag0 ?_;rintro k ⟨h1,h2,h3⟩
 repeat' (first|refine zW ?_|apply a_n|apply a_x|apply a_r|refine zO ?_|refine vZ ?_|refine cZ ?_ (hp:=by exact BV _ _)|(refine zGZ ?_ ?_<;>(intro _hg;try (exfalso;omega)))|refine bk rfl ?_|refine r1Z ?_|fail)
 ·refine aA ?_;rw[h3,nC (show b.length<=k by omega),du (l:=a) (by omega)];rfl
 ·refine aA ?_;rw[h3,du (l:=a) (by omega),du (l:=b) (by omega),bu];split
  ·rfl
  ·rename_i h;split
   ·rfl
   ·rename_i h';exact absurd (show(if a.getD k default<b.getD k default then(-1:Int) else if a.getD k default>b.getD k default then 1 else 0)=0 by rw[if_neg h,if_neg h']) ‹_›
 ·refine⟨k+1,⟨by omega,by omega,?_⟩,by omega,ag0,rfl,rfl⟩;rw[h3,du (l:=a) (by omega),du (l:=b) (by omega),bu];by_cases h:a.getD k default<b.getD k default
  ·rw[if_pos h] at _hg;exact absurd (by decide) _hg
  ·by_cases h':a.getD k default>b.getD k default
   ·rw[if_neg h,if_pos h'] at _hg;exact absurd (by decide) _hg
   ·rw[if_neg h,if_neg h']
 ·refine aA ?_;rw[h3,nC (show a.length<=k by omega),du (l:=b) (by omega)];rfl
 ·refine aA ?_;rw[h3,nC (show a.length<=k by omega),nC (show b.length<=k by omega)];rfl
theorem Dl(l:List (List Int))(p:List Int->Bool)(g:Nat)(caps:List AV)(hd:∀x∈caps,Dat x)(hg:∀x∈l,pU g (aH x::caps) (.bool (p x)))(hl:Sh l):pU 179 [bi l,.func g caps] (.int .i64 (if l.any p then(l.findIdx p:Nat) else-1)):=by
 refine pO Ma ?_;simp only[LG,aw];refine wnZ and_self ?_;refine fS (X:=Nat) (λk=>[(0,bi l),(1,.func g caps),(7,.int .i64 l.length),(8,.int .i64 k)]) (λk=>k<=l.length/\∀i,i<k->p (l.getD i default)=false) (λk=>l.length-k) 0 ⟨bz _,by simp⟩ ag0 ?_;rintro k ⟨h1,h2⟩
 repeat' (first|refine zW ?_|apply a_n|apply a_x|apply a_r|refine zO ?_|refine vZ ?_|refine cZ ?_ (hp:=by exact hg _ (au (by omega))) (hs:=by(first|refine aC ?_ rfl|apply aQ);(repeat' (first|exact aj|apply bB|apply a8|exact a9 hd));first|done|fail)|(refine zGZ ?_ ?_<;>(intro _hg;try (exfalso;omega)))|refine bk rfl ?_|refine r1Z ?_|fail)
 ·refine aA ?_;have hk:k<l.length:=by omega
  have e:l.getD k default=l[k]:=by simp[List.getD,hk]
  rw[e] at _hg;have hm:l.any p=true:=lu.2 ⟨l[k],mJ hk,_hg⟩;rw[if_pos hm,(List.findIdx_eq hk).2 ⟨_hg,λj hj=>by have:=h2 j hj;rwa [show l.getD j default=l[j] by simp[List.getD,show j<l.length by omega]] at this⟩]
 ·refine⟨k+1,⟨by omega,λi hi=>?_⟩,by omega,ag0,rfl,rfl⟩;rcases ij.1 hi with h|rfl
  ·exact h2 i h
  ·exact _hg
 ·refine aA ?_;rw[if_neg];rw[Bool.not_eq_true,List.any_eq_false];intro x hx;obtain⟨i,hi,e⟩:=mM hx;have:=h2 i (by omega);rw[show l.getD i default=x by simp[List.getD,hi,e]] at this;simp[this]
theorem xt(l:List (List Int))(p:List Int->Bool)(g:Nat)(caps:List AV)(hd:∀x∈caps,Dat x)(hg:∀x∈l,pU g (aH x::caps) (.bool (p x)))(hl:Sh l):pU 170 [bi l,.func g caps] (.bool (l.any p)):=by
 refine pO M6 ?_;simp only[MQ,aw]
 repeat' (first|refine zW ?_|apply a_n|refine zO ?_|refine vZ ?_|refine cZ ?_ (hp:=by exact Dl l p g caps hd hg hl) (hs:=by(first|refine aC ?_ rfl|apply aQ);(repeat' (first|exact aj|apply bB|apply a8|exact Dat.func hd));first|done|fail)|refine bk rfl ?_|refine r1Z ?_|fail)
 refine cf ?_;split<;>simp_all
theorem Jb(v x:List Int)(hv:Sh v)(hx:Sh x):pU 171 [aH x,.iptr [aH v] 0] (.bool (decide (x=v))):=by
 refine pO N7 ?_;simp only[MZ,aw]
 repeat' (first|refine zW ?_|apply a_n|refine zO ?_|refine vZ ?_|refine cZ ?_ (hp:=by exact equalV_c _ _ hx hv)|refine bk rfl ?_|refine r1Z ?_|fail)
 exact .bool _
theorem N2(l:List (List Int))(v:List Int)(hl:Sh l)(hs:∀x∈l,Sh x)(hv:Sh v):pU 154 [bi l,aH v] (.bool (l.any λx=>decide (x=v))):=by
 refine pO Lg ?_;simp only[Lu,aw];refine wnZ and_self ?_;refine ec ev0 ev0 (xt l (λx=>decide (x=v)) 171 [.iptr [aH v] 0] (DatL.cons (Dat.iptr (DatL.cons (eV _) DatL.nil)) DatL.nil) (λx hx=>Jb v x hv (hs x hx)) hl) (aC (by(repeat' (first|exact aj|exact Dat.snap Dat.int|exact Dat.snap Dat.bool|exact Dat.snap Dat.str|exact Dat.snap Dat.esl|exact Dat.snap Dat.nilf|exact Dat.snap (eV _)|exact Dat.snap (dZ _)|apply af|apply fY|apply v6|(apply dF;(focus ((try simp only[bN,ZA,reduceEqDiff,↓reduceIte,reduceAdd,reduceLeDiff]);with_reducible rfl));(focus rfl))))) rfl) ?_;refine wnZ and_self ?_;exact .bool _
theorem Ed(x most:Int):pU 152 [.int .i64 x,.iptr [.int .i64 most] 0] (.bool (decide (x<0\/most<=x))):=by
 refine pO LS ?_;simp only[Lq,aw]
 repeat' (first|refine zW ?_|apply a_n|refine zO ?_|refine vZ ?_|refine gTZ ?_|refine gFZ ?_|(refine zGZ ?_ ?_<;>(intro _hg;try (exfalso;omega)))|refine bk rfl ?_|refine r1Z ?_|fail)
 all_goals (refine cf ?_)
 ·exact decide_eq_decide.2 (by omega)
 ·rw[bG (by omega)]
theorem rM(l:List (List Int))(i:Nat)(hi:i<l.length)(hl:Sh l)(hs:∀x∈l,Sh x):pU 153 [bi l,.int .i64 i] (.bool (decide (0<i)&&decide (0<=bu (l.getD (i-1) default) (l.getD i default)))):=by
 refine pO NR ?_;simp only[Nn,aw];by_cases h0:i=0
 ·subst h0;refine wkZ (show((0:Nat):Int)=0 from rfl) ?_;exact cf (by simp)
 ·have e:((i:Int)-1).toNat=i-1:=by omega
  have hc:=jM (l.getD (i-1) default) (l.getD i default) (hs _ (au (by omega))) (hs _ (au (by omega)));refine wkZ @e ?_;refine cf ?_;rw[bG (show 0<i by omega),Bool.true_and]
theorem EI(tb tf:Bool)(n:Int)(h0:0<=n)(h1:n<=5):bm .shl tb tf (.int .i64 1) (.int .i64 n)=some (.int .i64 (2^n.toNat:Nat)):=by
 have:n=0\/n=1\/n=2\/n=3\/n=4\/n=5:=by omega
 rcases this with rfl|rfl|rfl|rfl|rfl|rfl<;>rfl
def pK(a:Int):Int:=IntKind.wrap .i64 (BitVec.ofInt 64 a &&& BitVec.ofInt 64 1).toNat
def j8(f:Int)(p:Nat):Int:=f.fdiv (2^(min p 64))
theorem qM(tb tf:Bool)(f:Int)(p:Nat):bm .shr tb tf (.int .i64 f) (.int .i64 p)=some (.int .i64 (j8 f p)):=by
 have h:¬((p:Int)<0):=by omega
 simp only[bm,mO,h,if_false,or_true,if_true];rfl
theorem pB(tb tf:Bool)(a:Int):bm .and tb tf (.int .i64 a) (.int .i64 1)=some (.int .i64 (pK a)):=rfl
theorem Ad(v:List Int)(n most:Int)(hv:Sh v):pU 128 [aH v,.int .i64 n,.int .i64 most] (.int .i64 (ct v n most)):=by
 refine pO LX ?_;simp only[NW,aw];have hv':v.length<=17592186044416:=hv;by_cases hn:(v.length:Int)=n
 rotate_left
 ·have e:ct v n most=15:=by unfold ct;rw[if_pos hn]
  rw[e];refine wnZ and_self ?_
  all_goals exact .int _ _
 have e:ct v n most=if v.any (λx=>decide (x<0\/most<=x)) then 2 else 0:=by unfold ct;rw[if_neg (λh=>h hn)]
 rw[e];have hc:=Ag v (λx=>decide (x<0\/most<=x)) 152 [.iptr [.int .i64 most] 0] (DatL.cons (Dat.iptr (DatL.cons .int DatL.nil)) DatL.nil) (λx _=>Ed x most) hv;refine wnZ and_self ?_;refine ec ev0 ev0 hc (aC (by(repeat' (first|exact aj|exact Dat.snap Dat.int|exact Dat.snap Dat.bool|exact Dat.snap Dat.str|exact Dat.snap Dat.esl|exact Dat.snap Dat.nilf|exact Dat.snap (eV _)|exact Dat.snap (dZ _)|apply af|apply fY|apply v6|(apply dF;(focus ((try simp only[bN,ZA,reduceEqDiff,↓reduceIte,reduceAdd,reduceLeDiff]);with_reducible rfl));(focus rfl))))) rfl) ?_;cases hb:v.any (λx=>decide (x<0\/most<=x))
 ·refine wnZ @dX ?_
  all_goals exact .int _ _
 ·refine wnZ @dX ?_
  all_goals exact .int _ _
theorem DW(n ins outs:Int)(cs:AV)(hcs:Dat cs/\cs.cells=[cs]/\cs.one=true)(c:CaseV)(hs:ShC c):pU 130 [.agg [.int .i64 n,.int .i64 ins,.int .i64 outs,cs],.agg [aH c.inp,bi c.out,bi c.calm]] (.int .i64 (ew n outs c)):=by
 refine pO Nt ?_;simp only[LV,aw];obtain⟨hc1,hc2,hc3⟩:=hcs;obtain⟨s1,s2,s3,s4,s5⟩:=hs;have s2':c.out.length<=17592186044416:=s2;have s4':c.calm.length<=17592186044416:=s4;by_cases h0:c.out.length<1\/1024<c.out.length
 ·have e:ew n outs c=5:=by unfold ew;rw[if_pos h0]
  rw[e];have zz:=aI @hc2 @hc3;repeat' (first|refine zW ?_|apply a_n|apply a_r|refine zO ?_|refine vZ ?_|refine bxZ ?_|refine gTZ ?_|refine gFZ ?_|refine cTZ ?_|(refine zGZ ?_ ?_<;>(intro _hg;try (exfalso;omega)))|refine bk rfl ?_|refine r1Z ?_|fail)
  all_goals exact .int _ _
 have e:ew n outs c=if cH (oh n outs c.out) c.out.length≠0 then cH (oh n outs c.out) c.out.length else cH (oB c.out c.calm) c.calm.length:=by unfold ew;rw[if_neg h0]
 rw[e];refine wnZ (aI @hc2 @hc3) ?_;refine fS (X:=Nat) (λk=>[(2,.ptr 0 4 0),(3,.ptr 1 3 0),(21,bi c.out),(22,.int .i64 c.out.length),(23,.int .i64 k)]) (λk=>k<=c.out.length/\∀i,i<k->oh n outs c.out i=0) (λk=>c.out.length-k) 0 ⟨bz _,λi h=>absurd h (by omega)⟩ (by simp (disch:=omega) only[agr,ZG,reduceEqDiff,↓reduceIte,dJ,hZ,reduceAdd,cp]) ?_;rintro k ⟨hk,hz⟩;by_cases hj:k<c.out.length
 ·have hm:=au hj;have hv:=Ad (c.out.getD k default) n outs (s3 _ hm);have hu:=rM c.out k hj s2 s3;have ho:oh n outs c.out k=if ct (c.out.getD k default) n outs≠0 then ct (c.out.getD k default) n outs else if iv c.out k then 14 else 0:=rfl
  change Pure _ _ _ (.bool (iv c.out k)) at hu;generalize ct (c.out.getD k default) n outs=V at *;by_cases hV:V=0
  ·subst hV;cases hub:iv c.out k
   ·rw[hub] at hu ho;refine wnZ (zI3 @hc2 @hc3 @dX) ?_;refine⟨k+1,⟨by omega,λi hi=>?_⟩,by omega,ag0,rfl,rfl⟩;rcases ij.1 hi with h|rfl
    ·exact hz i h
    ·exact ho
   ·rw[hub] at hu ho;refine wnZ (zI3 @hc2 @hc3 @dX) ?_;refine aA ?_;rw[dN hj hz (by rw[ho];decide),if_pos (by rw[ho];decide),ho];rfl
  ·have ho':oh n outs c.out k=V:=by rw[ho,if_pos hV]
   refine wnZ (zI3 @hc2 @hc3 @dX) ?_;refine aA ?_;rw[dN hj hz (by rw[ho'];exact hV),if_pos (by rw[ho'];exact hV),ho']
 ·have hz0:=dC (f:=oh n outs c.out) (n:=c.out.length) (λi hi=>hz i (by omega));rw[hz0,if_neg (λh=>h rfl)];refine wnZ (aI @hc2 @hc3) ?_;refine fS (X:=Nat) (λk=>[(2,.ptr 0 4 0),(3,.ptr 1 3 0),(43,bi c.calm),(44,.int .i64 c.calm.length),(45,.int .i64 k)]) (λk=>k<=c.calm.length/\∀i,i<k->oB c.out c.calm i=0) (λk=>c.calm.length-k) 0 ⟨bz _,λi h=>absurd h (by omega)⟩ ag0 ?_;rintro k ⟨hk,hz⟩;by_cases hj:k<c.calm.length
  ·have hm:=au hj;have hv:=N2 c.out (c.calm.getD k default) s2 s3 (s5 _ hm);rw[HC] at hv;have hu:=rM c.calm k hj s4 s5;have ho:oB c.out c.calm k=if c.calm.getD k default∈c.out then(if iv c.calm k then 14 else 0) else 6:=rfl
   change Pure _ _ _ (.bool (iv c.calm k)) at hu;by_cases hh:c.calm.getD k default∈c.out
   ·rw[bG hh] at hv;rw[if_pos hh] at ho;cases hub:iv c.calm k
    ·rw[hub] at hu ho;refine wnZ (zI3 @hc2 @hc3 @dX) ?_;refine⟨k+1,⟨by omega,λi hi=>?_⟩,by omega,ag0,rfl,rfl⟩;rcases ij.1 hi with h|rfl
     ·exact hz i h
     ·exact ho
    ·rw[hub] at hu ho;refine wnZ (zI3 @hc2 @hc3 @dX) ?_;refine aA ?_;rw[dN hj hz (by rw[ho];decide),ho];rfl
   ·rw[bK hh] at hv;rw[if_neg hh] at ho;refine wnZ (zI3 @hc2 @hc3 @dX) ?_;refine aA ?_;rw[dN hj hz (by rw[ho];decide),ho]
  ·refine wnZ (aI @hc2 @hc3) ?_;refine aA ?_;rw[dC λi hi=>hz i (by omega)]
theorem check_c(t:TaskV)(hs:∀c∈t.cases,ShC c)(hsc:Sh t.cases):pU 106 [pJ t] (.int .i64 (en t)):=by
 refine pO Nc ?_;simp only[Nr,aw];have hsc':t.cases.length<=17592186044416:=hsc;unfold pJ;by_cases h0:t.n<1\/5<t.n\/t.ins<1\/8<t.ins\/t.outs<1\/8<t.outs
 ·have e:en t=2:=by unfold en;rw[if_pos h0]
  rw[e];have zz:=aI @bC (aI @bg @bc);repeat' (first|refine zW ?_|apply a_n|apply a_r|refine zO ?_|refine vZ ?_|refine bxZ ?_|refine gTZ ?_|refine gFZ ?_|refine cTZ ?_|(refine zGZ ?_ ?_<;>(intro _hg;try (exfalso;omega)))|refine bk rfl ?_|refine r1Z ?_|fail)
  all_goals exact .int _ _
 by_cases h1:t.cases.length<1\/1024<t.cases.length
 ·have e:en t=5:=by unfold en;rw[if_neg h0,if_pos h1]
  rw[e];have zz:=aI @bC (aI @bg @bc);repeat' (first|refine zW ?_|apply a_n|apply a_r|refine zO ?_|refine vZ ?_|refine bxZ ?_|refine gTZ ?_|refine gFZ ?_|refine cTZ ?_|(refine zGZ ?_ ?_<;>(intro _hg;try (exfalso;omega)))|refine bk rfl ?_|refine r1Z ?_|fail)
  all_goals exact .int _ _
 have e:en t=cH (jn t) t.cases.length:=by unfold en;rw[if_neg h0,if_neg h1]
 rw[e];refine wnZ (zI3 @bC @bg @bc) ?_;refine bj (X:=Nat) (λk=>[(1,.ptr 0 4 0),(44,cC t.cases),(45,.int .i64 t.cases.length),(46,.int .i64 k)]) (λk H nx=>k<=t.cases.length/\(∀i,i<k->jn t i=0)/\1<=nx/\H 0=some [.int .i64 t.n,.int .i64 t.ins,.int .i64 t.outs,cC t.cases]) (λk=>t.cases.length-k) 0 ⟨bz _,λi h=>absurd h (by omega),aZ _,rfl⟩ (by simp (disch:=omega) only[agr,ZG,reduceEqDiff,↓reduceIte,dJ,hZ,reduceAdd]) ?_;rintro k H nx ⟨hk,hz,hn,g0⟩;by_cases hj:k<t.cases.length
 rotate_left
 ·refine wnY (zI6 @g0 @bC @bg @bc @aixS_encCs @dX) ?_;refine aA ?_;rw[dC λi hi=>hz i (by omega)]
 have hm:=au hj;have hsh:=hs _ hm;have hv:=Ad _ t.n t.ins hsh.1;have hvs:=DW t.n t.ins t.outs (cC t.cases) ⟨iL _,rfl,rfl⟩ _ hsh;have d1:Dat (ke (t.cases.getD k default)):=Dat.agg (DatL.cons (eV _) (DatL.cons (dZ _) (DatL.cons (dZ _) DatL.nil)));have d2:=mP t;unfold ke at d1;unfold pJ at d2;have hce:jn t k=if ct (t.cases.getD k default).inp t.n t.ins≠0 then ct (t.cases.getD k default).inp t.n t.ins else if iv (t.cases.map CaseV.inp) k then 14 else ew t.n t.outs (t.cases.getD k default):=rfl
 have fin:jn t k≠0->cH (jn t) t.cases.length=jn t k:=λh=>dN hj hz h
 have hnext:jn t k=0->∀i,i<k+1->jn t i=0:=λh i hi=>by
  rcases ij.1 hi with h'|rfl
  ·exact hz i h'
  ·exact h
 by_cases hk0:k=0
 ·subst hk0;have hu:iv (t.cases.map CaseV.inp) 0=false:=rfl;rw[hu] at hce;have hi0:cA 3 (cC t.cases) (.int .i64 0)=_:=aixS_encCs (l:=t.cases) (k:=0) hj;generalize ct (t.cases.getD 0 default).inp t.n t.ins=V at *;generalize ew t.n t.outs (t.cases.getD 0 default)=W at *;by_cases hV:V=0
  ·subst hV;rw[if_neg (λh=>h rfl),if_neg (by simp)] at hce;by_cases hW:W=0
   ·subst hW;refine wkY (zI8 @g0 @bC @bg @bc @aixS_encCs @dX (show((0:Nat):Int)=0 from rfl) @hi0) ?_;refine⟨0+1,by omega,⟨by omega,hnext hce,by omega,?_⟩,by simp (disch:=omega) only[agr,ZG,reduceEqDiff,↓reduceIte,Int.zero_add]⟩;rw[ab (by omega),ab (by omega),g0]
   ·refine wkY (zI8 @g0 @bC @bg @bc @aixS_encCs @dX (show((0:Nat):Int)=0 from rfl) @hi0) ?_;refine aA ?_;rw[fin (by rw[hce];exact hW),hce]
  ·rw[if_pos hV] at hce;refine wnY (zI8 @g0 @bC @bg @bc @aixS_encCs @dX (show((0:Nat):Int)=0 from rfl) @hi0) ?_;refine aA ?_;rw[fin (by rw[hce];exact hV),hce]
 ·have e1:(k:Int)-1=((k-1:Nat):Int):=by omega
  have ho:=jM (t.cases.getD (k-1) default).inp (t.cases.getD k default).inp (hs _ (au (by omega))).1 hsh.1;have hi1:=aixS_encCs (l:=t.cases) (k:=k-1) (by omega);rw[<-e1] at hi1
  have hu:iv (t.cases.map CaseV.inp) k=decide (0<=bu (t.cases.getD (k-1) default).inp (t.cases.getD k default).inp):=by
   unfold iv;rw[pu hj,pu (by omega),bG (show 0<k by omega),Bool.true_and]
  rw[hu] at hce;generalize bu (t.cases.getD (k-1) default).inp (t.cases.getD k default).inp=O at *;generalize ct (t.cases.getD k default).inp t.n t.ins=V at *;generalize ew t.n t.outs (t.cases.getD k default)=W at *;by_cases hV:V=0
  ·subst hV;rw[if_neg (λh=>h rfl)] at hce;by_cases hO:0<=O
   ·rw[bG hO,if_pos rfl] at hce;refine wkY (zI7 @g0 @bC @bg @bc @aixS_encCs @dX @hi1) ?_;refine aA ?_;rw[fin (by rw[hce];decide),hce]
   ·rw[bK hO,if_neg (by simp)] at hce;by_cases hW:W=0
    ·subst hW;refine wkY (zI7 @g0 @bC @bg @bc @aixS_encCs @dX @hi1) ?_;refine⟨k+1,by omega,⟨by omega,hnext hce,by omega,?_⟩,ag0⟩;rw[ab (by omega),ab (by omega),g0]
    ·refine wkY (zI7 @g0 @bC @bg @bc @aixS_encCs @dX @hi1) ?_;refine aA ?_;rw[fin (by rw[hce];exact hW),hce]
  ·rw[if_pos hV] at hce;refine wnY (zI7 @g0 @bC @bg @bc @aixS_encCs @dX @hi1) ?_;refine aA ?_;rw[fin (by rw[hce];exact hV),hce]
end
end Go.Proofs.YtmpcledaoigkaaaGreat.Tk
