/- Contracts of functions and plain laws, for all inputs that the theorems name. -/
import Derived.Test.YtekdaafnjdlenaaGreatXG2
import Derived.ChangeArms
import Derived.Carry
import Derived.Deep.Slices
import Derived.Lib.SmallJoins
import Derived.Test.YtekdaafnjdlenaaGreatProg
import Derived.KernelRfl

set_option linter.unusedSimpArgs false
set_option linter.unusedVariables false
set_option maxHeartbeats 4000000
namespace Go.Abs
open Go.RowKit
variable{P:Program}{T:Tm}{H:Hp}{nx:Nat}
theorem Jf{K:CP}(h:K .normal T H nx):aM P .skip T H nx K:=h
theorem Js{K:CP}{i:Nat}(h:K (.exit i) T H nx):aM P (.exit i) T H nx K:=h
theorem My{K:CP}(h:K .ret T H nx):aM P .ret T H nx K:=h
theorem Jc{K:CP}{l:List Op2}(h:ak P .text l T H nx λT H nx=>K .normal T H nx):aM P (.ops 0 l) T H nx K:=⟨T,H,nx,_,Gh.refl _ _ _,h⟩
theorem w_mix1{K:CP}{l:List Op2}{C:List Nat}(h:ak P .draw l T H nx λT H nx=>K .normal T H nx):aM P (.mix 1 l C) T H nx K:=.inl ⟨by decide,T,H,nx,_,Gh.refl _ _ _,h⟩
theorem pK{K:CP}{l:List Op2}{C:List Nat}(h:ak P (.fresh nx) l T H nx λT H nx=>K .normal T H nx):aM P (.mix 2 l C) T H nx K:=.inl ⟨by decide,T,H,nx,_,Gh.refl _ _ _,h⟩
theorem IY{K:CP}{m:Nat}{l alt:List Op2}{C:List Nat}(ha:(C.map λk=>l.getD k ⟨none,none,.dead⟩)=alt)(h:ak P .text alt T H nx λT H nx=>K .normal T H nx):aM P (.mix m l C) T H nx K:=by
 subst ha;exact .inr ⟨T,H,nx,_,Gh.refl _ _ _,h⟩
theorem wI{K:CP}{l alt:List Op2}{C:List Nat}(ha:(C.map λk=>l.getD k ⟨none,none,.dead⟩)=alt)(h:ak P .text alt T H nx λT H nx=>K .normal T H nx):aM P (.mix 9 l C) T H nx K:=IY ha h
theorem G7{K:CP}{l:List Op2}{C:List (Nat×Nat)}(h:ak P .draw l T H nx λT H nx=>K .normal T H nx):aM P (.mixS 1 l C) T H nx K:=.inl ⟨by decide,T,H,nx,_,Gh.refl _ _ _,h⟩
theorem GF{K:CP}{l:List Op2}{C:List (Nat×Nat)}(h:ak P (.fresh nx) l T H nx λT H nx=>K .normal T H nx):aM P (.mixS 2 l C) T H nx K:=.inl ⟨by decide,T,H,nx,_,Gh.refl _ _ _,h⟩
theorem wW(S:Hp){K:CP}{m:Nat}{l:List Op2}{alt:List (Op2×Nat)}{C:List (Nat×Nat)}(ha:(C.map λk=>(l.getD k.1 ⟨none,none,.dead⟩,k.2))=alt)(hs:Sub S H)(h:bf P S alt T H nx λT H nx=>K .normal T H nx):aM P (.mixS m l C) T H nx K:=by
 subst ha;exact .inr ⟨T,H,nx,_,S,Gh.refl _ _ _,hs,h⟩
theorem JK(S:Hp){K:CP}{l:List Op2}{f:Nat×Nat}{C D:List (Nat×Nat)}(hs:Sub S H)(h:gH P S (l.getD f.1 ⟨none,none,.dead⟩,f.2) (D.map λk=>(l.getD k.1 ⟨none,none,.dead⟩,k.2)) (C.map λk=>(l.getD k.1 ⟨none,none,.dead⟩,k.2)) T H nx λT H nx=>K .normal T H nx):aM P (.mixF l f C D) T H nx K:=⟨T,H,nx,_,S,Gh.refl _ _ _,hs,h⟩
theorem Ko{S:Hp}{K:SP}{f:Op2×Nat}{l2:List (Op2×Nat)}(h:bf P S (f::l2) T H nx K):gH P S f l2 [] T H nx K:=h
theorem H8{S:Hp}{K:SP}{f:Op2×Nat}{l l2:List (Op2×Nat)}{o:Op2}{k:Nat}(h:bf P S [(o,k)] T H nx λT H nx=>gH P S f l2 l T H nx K)(hk:¬(k=1\/k=2):=by decide):gH P S f l2 ((o,k)::l) T H nx K:=⟨λq=>absurd q hk,h⟩
theorem Kw{S:Hp}{K:SP}{f x:Op2×Nat}{l l2:List (Op2×Nat)}(h1:bf P S (f::x::(l++l2)) T H nx K)(h2:bf P S [x] T H nx λT H nx=>gH P S f l2 l T H nx K):gH P S f l2 (x::l) T H nx K:=⟨λ_=>h1,h2⟩
theorem uS{S:Hp}{K:SP}(h:K T H nx):bf P S [] T H nx K:=h
theorem Ik{S:Hp}{K:SP}{l:List (Op2×Nat)}{d:Option Nat}{i:Ins}{r:AV}(h:b5 T S i=some r)(k:bf P S l (aU T d r) H nx K):bf P S ((⟨d,none,i⟩,0)::l) T H nx K:=by
 show aF (b5 T S i) λr=>bf P S l (aU T d r) H nx K;rw[h];exact k
theorem Ib{S:Hp}{K:SP}{l:List (Op2×Nat)}{d:Option Nat}{len:Nat}{z cs:List AV}{parts:List (Nat×Nat×Opd)}{pv:List (Nat×Nat×AV)}(hp:parts.map (λp=>(p.1,p.2.1,ov T p.2.2))=pv)(hc:ew (bD (.agg z) len) pv=some cs)(hl:len≠0)(hn:cs.length=len)(ho:cs.all AV.one=true)
    (k:bf P S l (aU T d (.sl 1 cs)) H nx K):bf P S ((⟨d,none,.bldS 1 len z parts⟩,3)::l) T H nx K:=by
 show aF (uE T (.bldS 1 len z parts)) _
 have:uE T (.bldS 1 len z parts)=some (.sl 1 cs):=by
  simp only[uE,jy,hl,if_false,hp,hc,r6,ap,if_true,hn];rw[if_pos ⟨trivial,hl,ho⟩]
 rw[this];exact k
theorem Kb{S:Hp}{K:SP}{l:List (Op2×Nat)}{d:Option Nat}{i:Ins}{r:AV}(h:ilk T S i=some r)(k:bf P S l (aU T d r) H nx K):bf P S ((⟨d,none,i⟩,4)::l) T H nx K:=by
 show aF (ilk T S i) λr=>bf P S l (aU T d r) H nx K;rw[h];exact k
theorem d5{S:Hp}{K:SP}{l:List (Op2×Nat)}{d:Option Nat}{i:Ins}(k:ak P .text [⟨d,none,i⟩] T H nx λT H nx=>Sub S H/\bf P S l T H nx K):bf P S ((⟨d,none,i⟩,1)::l) T H nx K:=by
 have k:bg P .text i T H nx λr H nx=>Sub S H/\bf P S l (aU T d r) H nx K:=k;show bg P .text i T H nx λr H' nx'=>(0=0->Sub S H')/\bf P S l (aU T d r) H' nx' K;exact nf k (λ_ _ _ h=>⟨λ_=>h.1,h.2⟩)
theorem jc{S:Hp}{K:SP}{l:List (Op2×Nat)}{d:Option Nat}{i:Ins}(k:ak P .text [⟨d,none,i⟩] T H nx λT H nx=>bf P S l T H nx K):bf P S ((⟨d,none,i⟩,2)::l) T H nx K:=by
 have k:bg P .text i T H nx λr H nx=>bf P S l (aU T d r) H nx K:=k;show bg P .text i T H nx λr H' nx'=>(1=0->Sub S H')/\bf P S l (aU T d r) H' nx' K;exact nf k (λ_ _ _ h=>⟨λhh=>absurd hh (by decide),h⟩)
theorem JT{K:CP}{l:List Op2}(h:ak P .draw l T H nx λT H nx=>K .normal T H nx):aM P (.ops 1 l) T H nx K:=⟨T,H,nx,_,Gh.refl _ _ _,h⟩
theorem I3{K:CP}{l:List Op2}(h:ak P (.fresh nx) l T H nx λT H nx=>K .normal T H nx):aM P (.ops 2 l) T H nx K:=⟨T,H,nx,_,Gh.refl _ _ _,h⟩
theorem dI{K:CP}{x y:C2}(h:aM P x T H nx λe T H nx=>aR e (aM P y T H nx K) (K e T H nx)):aM P (.seq x y) T H nx K:=h
theorem fQ{K:CP}{i:Nat}{b:C2}(h:aM P b T H nx λe T H nx=>K (qc i e) T H nx):aM P (.block i b) T H nx K:=h
theorem Al{K:CP}{c:Opd}{x y:C2}{b:Bool}(hc:ov T c=.bool b)(h1:b=true->aM P x T H nx K)(h2:b=false->aM P y T H nx K):aM P (.cond c x y) T H nx K:=by
 simp only[aM,hc];exact⟨h1,h2⟩
theorem BI{K:CP}{c:Opd}{x y:C2}(hc:ov T c=.bool true)(h1:aM P x T H nx K):aM P (.cond c x y) T H nx K:=
 Al hc (λ_=>h1) (λh=>by cases h)
theorem B6{K:CP}{c:Opd}{x y:C2}(hc:ov T c=.bool false)(h2:aM P y T H nx K):aM P (.cond c x y) T H nx K:=
 Al hc (λh=>by cases h) (λ_=>h2)
theorem Jg{K:CP}{b:C2}(h:aY (aM P b) T H nx K):aM P (.loop b) T H nx K:=h
theorem a_n{A B:Prop}(h:A):aR .normal A B:=h
theorem a_x{A B:Prop}{i:Nat}(h:B):aR (.exit i) A B:=h
theorem a_r{A B:Prop}(h:B):aR .ret A B:=h
theorem jF{dm:DM}{K:SP}(h:K T H nx):ak P dm [] T H nx K:=h
theorem nG{dm:DM}{K:SP}{l:List Op2}{d:Option Nat}{i:Ins}{r:AV}(hi:ic i=.val)(hd:dm2 dm T i=true)(h:b5 T H i=some r)(k:ak P dm l (aU T d r) H nx K):ak P dm (⟨d,none,i⟩::l) T H nx K:=by
 show bg P dm i T H nx λr H nx=>ak P dm l (aU T d r) H nx K;unfold bg;rw[hi];exact⟨hd,by rw[h];exact k⟩
theorem nN{dm:DM}{K:SP}{l:List Op2}{d:Option Nat}{i:Ins}{r:AV}{H':Hp}{nx':Nat}(hi:ic i=.eff)(hd:dm2 dm T i=true)(h:jy T H nx i=some (r,H',nx'))(k:ak P dm l (aU T d r) H' nx' K):ak P dm (⟨d,none,i⟩::l) T H nx K:=by
 show bg P dm i T H nx λr H nx=>ak P dm l (aU T d r) H nx K;unfold bg;rw[hi];exact⟨hd,by rw[h];exact k⟩
theorem AS{K:SP}{l:List Op2}{d:Option Nat}{f:Opd}{args:List Opd}{g:FuncId}{caps:List AV}(hf:ov T f=.func g caps)(k:Fn P g (args.map (ov T)++caps) H nx λr H nx=>ak P .text l (aU T d r) H nx K):
    ak P .text (⟨d,none,.call f args⟩::l) T H nx K:=by
 left;show aF (pb (ov T f)) _;rw[hf];exact k
theorem B3{dm:DM}(hdm:dm.isText=false){K:SP}{l:List Op2}{d:Option Nat}{f:Opd}{args:List Opd}{g:FuncId}{caps:List AV}(hf:ov T f=.func g caps)(k:aX P g (args.map (ov T)++caps) H λr=>ak P dm l (aU T d r) H nx K):
    ak P dm (⟨d,none,.call f args⟩::l) T H nx K:=by
 left;show aF (pb (ov T f)) _;rw[hf];show(match dm.isText with|false=>_|true=>_);rw[hdm];exact k
theorem xu{K:SP}{l:List Op2}{d:Option Nat}{f:Opd}{args:List Opd}{b:Nat}{xs:List AV}(hf:ov T f=.yld b)(ha:args.map (ov T)=xs)(k:Yl P b xs H nx λr H nx=>ak P .text l (aU T d r) H nx K):
    ak P .text (⟨d,none,.call f args⟩::l) T H nx K:=by
 right;exact⟨rfl,.inl ⟨b,hf,by rw[ha];exact k⟩⟩
theorem lH{K:SP}{l:List Op2}{d:Option Nat}{i:Ins}(hi:ic i=.sp)(k:isp i T H nx λr H nx=>ak P .text l (aU T d r) H nx K):ak P .text (⟨d,none,i⟩::l) T H nx K:=by
 show bg P .text i T H nx λr H nx=>ak P .text l (aU T d r) H nx K;unfold bg;rw[hi];exact⟨rfl,k⟩
theorem uX{K:SP}{l:List Op2}{d:Option Nat}(k:ak P .text l (aU T d (.mp nx)) (ap H nx [.omap [] []]) (nx+1) K):ak P .text (⟨d,none,.mkm none⟩::l) T H nx K:=lH rfl ⟨.inl rfl,.inl k⟩
theorem pG{K:SP}{l:List Op2}{d:Option Nat}{kk:MK}{m key x:Opd}{b:Nat}{ks vs:List AV}{kv xv:AV}{r:Option Nat}(hm:ov T m=.mp b)(hb:H b=some [.omap ks vs])(hk:ov T key=kv)(hx:ov T x=xv)(hfit:jt kk kv=true)(hr:de kk kv ks=some r)
    (k:ak P .text l (aU T d (.tup [])) (ap H b [.omap (cR kv r ks) (gg xv r vs)]) nx K):ak P .text (⟨d,none,.mput kk m key x⟩::l) T H nx K:=by
 subst hk hx;exact lH rfl (.inl ⟨b,ks,vs,r,hm,hb,hfit,hr,k⟩)
theorem jg{K:SP}{l:List Op2}{d:Option Nat}{kk:MK}{z:AV}{ok:Bool}{m key:Opd}{b:Nat}{ks vs:List AV}{kv:AV}{r:Option Nat}(hm:ov T m=.mp b)(hb:H b=some [.omap ks vs])(hk:ov T key=kv)(hfit:jt kk kv=true)(hr:de kk kv ks=some r)
    (k:ak P .text l (aU T d (mget z ok r vs)) H nx K):ak P .text (⟨d,none,.mget kk z ok m key⟩::l) T H nx K:=by
 subst hk;exact lH rfl (.inl ⟨b,ks,vs,r,hm,hb,hfit,hr,k⟩)
theorem FJ{K:SP}{l:List Op2}{d:Option Nat}{kk:MK}{z:AV}{m key:Opd}{b:Nat}{ks vs:List AV}{kv:AV}{r:Option Nat}(hm:ov T m=.mp b)(hb:H b=some [.omap ks vs])(hk:ov T key=kv)(hfit:jt kk kv=true)(hr:de kk kv ks=some r)
    (k:ak P .text l (aU T d (.tup [Cv z r vs,.int .i64 (An r ks)])) (ap H b [.omap (cR kv r ks) (nq z r vs)]) nx K):ak P .text (⟨d,none,.mplc kk z m key⟩::l) T H nx K:=by
 subst hk;exact lH rfl ⟨b,ks,vs,r,hm,hb,hfit,hr,k⟩
theorem Ei{K:SP}{l:List Op2}{d:Option Nat}{m s x:Opd}{b i:Nat}{ks vs:List AV}{xv:AV}(hm:ov T m=.mp b)(hb:H b=some [.omap ks vs])(hi:ov T s=.int .i64 (i:Int))(hlt:i<ks.length)(hx:ov T x=xv)
    (k:ak P .text l (aU T d (.tup [])) (ap H b [.omap ks (vs.set i xv)]) nx K):ak P .text (⟨d,none,.mpst m s x⟩::l) T H nx K:=by
 subst hx;exact lH rfl ⟨b,ks,vs,i,hm,hb,hi,hlt,k⟩
theorem Jj{K:SP}{l:List Op2}{d:Option Nat}{m:Opd}{b:Nat}{ks vs:List AV}(hm:ov T m=.mp b)(hb:H b=some [.omap ks vs])(k:ak P .text l (aU T d (.itr nx)) (ap H nx [.oiter b ks.length []]) (nx+1) K):ak P .text (⟨d,none,.mrng m⟩::l) T H nx K:=lH rfl (.inl ⟨b,ks,vs,hm,hb,k⟩)
theorem JU{K:SP}{l:List Op2}{d:Option Nat}{it:Opd}{b m n0:Nat}{seen:List Nat}{ks vs:List AV}(hi:ov T it=.itr b)(hb:H b=some [.oiter m n0 seen])(hm:H m=some [.omap ks vs])(hkn:ks.length=n0)
    (h1:∀i,i<ks.length->i∉seen->ak P .text l (aU T d (.tup [.bool true,ks.getD i .undef,vs.getD i .undef])) (ap H b [.oiter m n0 (seen++[i])]) nx K)
    (h2:(∀i,i<n0->i<ks.length->i∈seen)->ak P .text l (aU T d (.tup [.bool false])) H nx K):ak P .text (⟨d,none,.mnxt it⟩::l) T H nx K:=lH rfl (.inl ⟨b,m,n0,seen,ks,vs,hi,hb,hm,hkn,h1,h2⟩)
theorem Ji{K:SP}{l:List Op2}{d:Option Nat}{it:Opd}{b m n0 i:Nat}{seen:List Nat}{ks vs:List AV}(hi:ov T it=.itr b)(hb:H b=some [.oiter m n0 seen])(hm:H m=some [.omap ks vs])(hkn:ks.length=n0)(hl:seen.getLast?=some i)(hlt:i<ks.length)
    (k:ak P .text l (aU T d (.tup [ks.getD i .undef,vs.getD i .undef])) H nx K):ak P .text (⟨d,none,.ment it⟩::l) T H nx K:=lH rfl (.inl ⟨b,m,n0,i,seen,ks,vs,hi,hb,hm,hkn,hl,hlt,k⟩)
theorem IW{K:SP}{l:List Op2}{d:Option Nat}(k:ak P .text l (aU T d (.mp nx)) (ap H nx [.bmap [] [] [] 0]) (nx+1) K):ak P .text (⟨d,none,.mkm none⟩::l) T H nx K:=lH rfl ⟨.inl rfl,.inr k⟩
theorem HW{K:SP}{l:List Op2}{d:Option Nat}{kk:MK}{m key x:Opd}{b:Nat}{ks vs:List AV}{bs:List Nat}{ck:Nat}{kv xv:AV}{r:Option Nat}(hm:ov T m=.mp b)(hb:H b=some [.bmap ks vs bs ck])(hk:ov T key=kv)(hx:ov T x=xv)(hfit:jt kk kv=true)(hr:de kk kv ks=some r)
    (k:ak P .text l (aU T d (.tup [])) (ap H b [.bmap (cR kv r ks) (gg xv r vs) (qC ck r bs) (uR ck r)]) nx K):ak P .text (⟨d,none,.mput kk m key x⟩::l) T H nx K:=by
 subst hk hx;exact lH rfl (.inr ⟨b,ks,vs,bs,ck,r,hm,hb,hfit,hr,k⟩)
theorem Jl{K:SP}{l:List Op2}{d:Option Nat}{kk:MK}{m key:Opd}{b:Nat}{ks vs:List AV}{bs:List Nat}{ck:Nat}{kv:AV}{r:Option Nat}(hm:ov T m=.mp b)(hb:H b=some [.bmap ks vs bs ck])(hk:ov T key=kv)(hfit:jt kk kv=true)(hr:de kk kv ks=some r)
    (k:ak P .text l (aU T d (.tup [])) (ap H b [.bmap (lB r ks) (lB r vs) (lB r bs) ck]) nx K):ak P .text (⟨d,none,.mdel kk m key⟩::l) T H nx K:=by
 subst hk;exact lH rfl ⟨b,ks,vs,bs,ck,r,hm,hb,hfit,hr,k⟩
theorem Bz{K:SP}{l:List Op2}{d:Option Nat}{kk:MK}{z:AV}{ok:Bool}{m key:Opd}{b:Nat}{ks vs:List AV}{bs:List Nat}{ck:Nat}{kv:AV}{r:Option Nat}(hm:ov T m=.mp b)(hb:H b=some [.bmap ks vs bs ck])(hk:ov T key=kv)(hfit:jt kk kv=true)(hr:de kk kv ks=some r)
    (k:ak P .text l (aU T d (mget z ok r vs)) H nx K):ak P .text (⟨d,none,.mget kk z ok m key⟩::l) T H nx K:=by
 subst hk;exact lH rfl (.inr ⟨b,ks,vs,bs,ck,r,hm,hb,hfit,hr,k⟩)
theorem Hr{K:SP}{l:List Op2}{d:Option Nat}{m:Opd}{b:Nat}{ks vs:List AV}{bs:List Nat}{ck:Nat}(hm:ov T m=.mp b)(hb:H b=some [.bmap ks vs bs ck])(k:ak P .text l (aU T d (.itr nx)) (ap H nx [.biter b ck []]) (nx+1) K):ak P .text (⟨d,none,.mrng m⟩::l) T H nx K:=lH rfl (.inr ⟨b,ks,vs,bs,ck,hm,hb,k⟩)
theorem Hd{K:SP}{l:List Op2}{d:Option Nat}{it:Opd}{b m ck:Nat}{seen bs:List Nat}{ks vs:List AV}(hi:ov T it=.itr b)(hb:H b=some [.biter m ck seen])(hm:H m=some [.bmap ks vs bs ck])
    (h1:∀(i s:Nat),bs[i]?=some s->s∉seen->ak P .text l (aU T d (.tup [.bool true,ks.getD i .undef,vs.getD i .undef])) (ap H b [.biter m ck (seen++[s])]) nx K)
    (h2:(∀s∈bs,s∈seen)->ak P .text l (aU T d (.tup [.bool false])) H nx K):ak P .text (⟨d,none,.mnxt it⟩::l) T H nx K:=lH rfl (.inr ⟨b,m,ck,seen,ks,vs,bs,hi,hb,hm,h1,h2⟩)
theorem GG{K:SP}{l:List Op2}{d:Option Nat}{it:Opd}{b m ck i s:Nat}{seen bs:List Nat}{ks vs:List AV}(hi:ov T it=.itr b)(hb:H b=some [.biter m ck seen])(hm:H m=some [.bmap ks vs bs ck])(hl:seen.getLast?=some s)(hbi:bs[i]?=some s)
    (k:ak P .text l (aU T d (.tup [ks.getD i .undef,vs.getD i .undef])) H nx K):ak P .text (⟨d,none,.ment it⟩::l) T H nx K:=lH rfl (.inr ⟨b,m,ck,i,s,seen,ks,vs,bs,hi,hb,hm,hl,hbi,k⟩)
theorem Io{K:SP}{l:List Op2}{d:Option Nat}{sz n:Nat}{x y:Opd}{H':Hp}(h:sC sz (ov T x) (ov T y) H=some (n,H'))(k:ak P .text l (aU T d (.int .i64 n)) H' nx K):ak P .text (⟨d,none,.cpy sz x y⟩::l) T H nx K:=lH rfl ⟨n,H',h,k⟩
theorem IB{K:SP}{l:List Op2}{d:Option Nat}{len sz:Nat}{x:Opd}{b n off:Nat}{cs:List AV}(hx:ov T x=.ptr b n off)(hb:H b=some cs)(hn:cs.length=n)(hf:off+len*sz=n)(k:ak P .text l (aU T d (.msl b n sz off len)) H nx K):ak P .text (⟨d,none,.slp len sz x⟩::l) T H nx K:=lH rfl ⟨b,n,off,cs,hx,hb,hn,hf,k⟩
theorem ww{K:SP}{l:List Op2}{d:Option Nat}{neg:Bool}{x:Opd}{k:Nat}(hx:fE (ov T x)=some k)(h1:0<k->ak P .text l (aU T d (.bool neg)) H nx K)(h2:k=0->ak P .text l (aU T d (.bool true)) H nx K)(h3:k=0->ak P .text l (aU T d (.bool false)) H nx K):ak P .text (⟨d,none,.snil neg x⟩::l) T H nx K:=lH rfl ⟨k,hx,h1,λh=>⟨h2 h,h3 h⟩⟩
theorem Gf{K:CP}{g:Opd}{ps:List Nat}{a b:C2}{f:FuncId}{caps:List AV}(hg:ov T g=.func f caps)
    (h:∀ (c0:AV) (cj:AEx→AV),(∀ (args:List AV) (H':Hp) (nx':Nat) (K':AV→Hp→Nat→Prop),H' nx=some [c0]→args.length=ps.length →
        aM P a (kM T ps args) H' nx' (λe T2 H2 nx2=>aR e (H2 nx=some [c0]/\aM P b T2 (cW H2 nx) nx2 λe T3 H3 nx3=>aR e (K' (.bool true) (ap H3 nx [c0]) nx3) (K' (.bool false) (ap H3 nx [cj e]) nx3)) False)->
        Yl P nx args H' nx' K')->
     Fn P f (.yld nx::caps) (ap H nx [c0]) (nx+1) λ_ H' nx'=>(H' nx=some [c0]/\K .normal T (cW H' nx) nx')\/ ∃e,e≠.normal/\H' nx=some [cj e]/\K e T (cW H' nx) nx'):aM P (.rangeF g ps a b) T H nx K:=⟨f,caps,hg,h⟩
theorem Jx{dm:DM}{K:SP}{l:List Op2}{d:Option Nat}{i:Ins}{t:Nat}{w:Bool}(h:T t=.bool w)(k:ak P dm (⟨d,none,i⟩::l) T H nx K):ak P dm (⟨d,some (t,w),i⟩::l) T H nx K:=by
 show aV (g2 T (some (t,w))) _ _;have:g2 T (some (t,w))=some true:=by simp[g2,h]
 rw[this];exact k
theorem J6{dm:DM}{K:SP}{l:List Op2}{d:Option Nat}{i:Ins}{t:Nat}{w:Bool}(h:T t=.bool (!w)\/T t=.tup [])(k:ak P dm l (aU T d (.tup [])) H nx K):ak P dm (⟨d,some (t,w),i⟩::l) T H nx K:=by
 show aV (g2 T (some (t,w))) _ _
 have:g2 T (some (t,w))=some false:=by
  rcases h with h|h
  ·cases w<;>simp[g2,h]
  ·simp[g2,h]
 rw[this];exact k
theorem bR{e:AEx}{A:Prop}(he:e.ends=true)(h:A):aS e.ends A:=⟨he,h⟩
theorem r_1{K:AV->Prop}{a:RV}{x:AV}(ha:rv T H a=some x)(h:K x):bj T H K [a]:=by
 show aF (rv T H a) K;rw[ha];exact h
theorem r_2{K:AV->Prop}{a b:RV}{x y:AV}(ha:rv T H a=some x)(hb:rv T H b=some y)(h:K (.tup [x,y])):bj T H K [a,b]:=by
 show aF (rv T H a) _;rw[ha];show aF (rv T H b) _;rw[hb];exact h
theorem r_5{K:AV->Prop}{a b c d e:RV}{x y z u v:AV}(ha:rv T H a=some x)(hb:rv T H b=some y)(hc:rv T H c=some z)(hd:rv T H d=some u)(he:rv T H e=some v)(h:K (.tup [x,y,z,u,v])):bj T H K [a,b,c,d,e]:=by
 show xA T H [a,b,c,d,e] λxs=>K (.tup xs);simp only[xA,ha,hb,hc,hd,he];exact h
theorem r_3{K:AV->Prop}{a b c:RV}{x y z:AV}(ha:rv T H a=some x)(hb:rv T H b=some y)(hc:rv T H c=some z)(h:K (.tup [x,y,z])):bj T H K [a,b,c]:=by
 show aF (rv T H a) _;rw[ha];show aF (rv T H b) _;rw[hb];show aF (rv T H c) _;rw[hc];exact h
theorem zZ{T:Tm}{t:Nat}{v:AV}(h:T t=v):upd T t v=T:=by
 funext x;simp only[upd];split
 ·rename_i e;rw[e,h]
 ·rfl
theorem Mx{dm:DM}{K:SP}{l:List Op2}{d:Option Nat}{i:Ins}{t:Nat}{w b:Bool}(h:T t=.bool b)(k1:b=w->ak P dm (⟨d,none,i⟩::l) (upd T t (.bool w)) H nx K)
    (k2:b=!w->ak P dm l (aU (upd T t (.bool (!w))) d (.tup [])) H nx K):ak P dm (⟨d,some (t,w),i⟩::l) T H nx K:=by
 by_cases hb:b=w
 ·subst hb;have:=k1 rfl;rw[zZ h] at this;exact Jx h this
 ·have hb':b=!w:=by cases b<;>cases w<;>simp_all
  subst hb';have:=k2 rfl;rw[zZ h] at this;exact J6 (.inl h) this
theorem y8{α:Type}{f:α->AV}{l:List α}{k:Nat}{u:AV}(d:α)(h:k<l.length):(l.map f).getD k u=f (l.getD k d):=by
 simp[List.getD,h]
theorem BF{c:Prop}[Decidable c]{x:Option AV}{r:AV}(hc:c)(h:x=some r):(if c then x else none)=some r:=by rw[if_pos hc];exact h
theorem DK{k:IntKind}{n:Int}:AV.cells (.int k n)=[.int k n]:=rfl
end Go.Abs
namespace Go.Abs
open Go.RowKit
def Dat(x:AV):Prop:=∀H,Snap H x x
theorem Dat.int{k:IntKind}{n:Int}:Dat (.int k n):=λ_=>.int _ _
theorem Dat.bool{b:Bool}:Dat (.bool b):=λ_=>.bool _
theorem Dat.str{s:ByteArray}:Dat (.str s):=λ_=>.str _
theorem Dat.esl:Dat .esl:=λ_=>.esl
theorem Dat.nilp:Dat .nilp:=λ_=>.nilp
theorem Dat.nilf:Dat .nilf:=λ_=>.nilf
theorem Dat.sl{sz:Nat}{l:List AV}(h:∀x∈l,∀c∈x.cells,Dat c):Dat (.sl sz l):=λH=>
 .sl sz l l rfl (fun i x y hx hy=>by rw [hx] at hy; cases hy; rfl) (fun i j x y a b hx hy ha hb=>by
  rw[hx] at hy;cases hy;rw[ha] at hb;cases hb;exact h x (gm hx) a (gm ha) H)
theorem Dat.agg{l:List AV}(h:∀x∈l,Dat x):Dat (.agg l):=λH=>
 .agg l l rfl (λi a c ha hc=>by rw[ha] at hc;cases hc;exact h a (gm ha) H)
theorem Dat.tup{l:List AV}(h:∀x∈l,Dat x):Dat (.tup l):=λH=>
 .tup l l rfl (λi a c ha hc=>by rw[ha] at hc;cases hc;exact h a (gm ha) H)
theorem Dat.func{f:FuncId}{l:List AV}(h:∀x∈l,Dat x):Dat (.func f l):=λH=>
 .func f l l rfl (λi a c ha hc=>by rw[ha] at hc;cases hc;exact h a (gm ha) H)
def aE(l:List Int):AV:=.sl 1 (l.map (AV.int .i64))
def bi(l:List (List Int)):AV:=.sl 1 (l.map aE)
theorem cu (l:List Int):Dat (aE l):=Dat.sl (fun x hx c hc=>by
 obtain⟨n,_,rfl⟩:=bJ.1 hx;simp only[AV.cells,c6] at hc;subst hc;exact .int)
theorem kd (l:List (List Int)):Dat (bi l):=Dat.sl (fun x hx c hc=>by
 obtain⟨n,_,rfl⟩:=bJ.1 hx;simp only[aE,AV.cells,c6] at hc;subst hc;exact cu n)
theorem AU{l:List Int}:(aE l).cells=[aE l]:=rfl
theorem an{H:Hp}:aL H [] []:=aL.nil
theorem a9{H:Hp}{x:AV}{xs ys:List AV}(h:Dat x)(hs:aL H xs ys):aL H (x::xs) (x::ys):=aL.cons (h H) hs
class DatI(x:AV):Prop where
 d:Dat x
instance datI_int{k:IntKind}{n:Int}:DatI (.int k n):=⟨.int⟩
instance datI_bool{b:Bool}:DatI (.bool b):=⟨.bool⟩
instance datI_str{s:ByteArray}:DatI (.str s):=⟨.str⟩
instance datI_esl:DatI .esl:=⟨.esl⟩
instance datI_nilf:DatI .nilf:=⟨.nilf⟩
instance datI_encV{l:List Int}:DatI (aE l):=⟨cu l⟩
instance datI_encVV{l:List (List Int)}:DatI (bi l):=⟨kd l⟩
theorem bw{H:Hp}{x:AV}{xs ys:List AV}[h:DatI x](hs:aL H xs ys):aL H (x::xs) (x::ys):=a9 h.d hs
variable{P:Program}{T:Tm}{H:Hp}{nx:Nat}
theorem eb{dm:DM}{K:SP}{l:List Op2}{d:Option Nat}{f:Opd}{args:List Opd}{g:FuncId}{caps xs ys:List AV}{r:AV}(hf:ov T f=.func g caps)(ha:args.map (ov T)++caps=xs)
    (hp:Pure P g ys r) (hs:ar H xs ys r) (k:ak P dm l (aU T d r) H nx K):ak P dm (⟨d,none,.call f args⟩::l) T H nx K:=by
 subst ha;cases hd:dm.isText with
 |false=>exact B3 hd hf (aX.of_pure hp hs k)
 |true=>
  cases dm with
  |text=>exact AS hf (Fn.of_pure hp hs k)
  |draw=>cases hd
  |fresh m=>cases hd
theorem fT{dm:DM}{K:SP}{l:List Op2}{d:Option Nat}{f:Opd}{args:List Opd}{g:FuncId}{caps xs ys:List AV}{r:AV}(hf:ov T f=.func g caps)(ha:args.map (ov T)++caps=xs)
    (hp:PureF P g ys r) (hs:aL H xs ys) (k:ak P dm l (aU T d r) H nx K):ak P dm (⟨d,none,.call f args⟩::l) T H nx K:=by
 subst ha;have hc:=hp.callOk hs;cases hd:dm.isText with
 |false=>exact B3 hd hf (aX.of_callOk hc k)
 |true=>
  cases dm with
  |text=>exact AS hf (Fn.of_callOk hc k)
  |draw=>cases hd
  |fresh m=>cases hd
theorem B5{dm:DM}{K:SP}{l:List Op2}{d:Option Nat}{f:Opd}{args:List Opd}{g:FuncId}{caps xs:List AV}{r:AV}(hf:ov T f=.func g caps)(ha:args.map (ov T)++caps=xs)
    (hp:Pure P g xs r) (hs:ar H xs xs r) (k:ak P dm l (aU T d r) H nx K):ak P dm (⟨d,none,.call f args⟩::l) T H nx K:=eb hf ha hp hs k
theorem a7{xs ys:List AV}{r:AV}{H:Hp}(h:aL bF xs ys):ar H xs ys r:=.inl h
theorem aJ{xs ys:List AV}{r:AV}{H:Hp}(h:aL H xs ys)(hr:r.sca=true):ar H xs ys r:=.inr ⟨h,hr⟩
theorem sd{α:Type}[Inhabited α]{f:α->AV}{l:List α}{sz:Nat}{k:IntKind}{n:Int}:eG sz (.sl sz (l.map f)) (.int k n)=if 0<=n/\n<l.length then some (.iptr (f (l.getD n.toNat default)).cells 0) else none:=by
 simp only[eG,true_and,bk];split
 ·rename_i h;rw[y8 default (by omega)]
 ·rfl
theorem qh{α:Type}{f:α->AV}{l:List α}{sz:Nat}:dy (.sl sz (l.map f))=some (.int .i64 l.length):=by simp[dy]
theorem mQ{l:List Int}{k:IntKind}{n:Int}:eG 1 (aE l) (.int k n)=if 0<=n/\n<l.length then some (.iptr [.int .i64 (l.getD n.toNat default)] 0) else none:=sd
theorem oa{l:List (List Int)}{k:IntKind}{n:Int}:eG 1 (bi l) (.int k n)=if 0<=n/\n<l.length then some (.iptr [aE (l.getD n.toNat default)] 0) else none:=sd
theorem ua{l:List Int}:dy (aE l)=some (.int .i64 l.length):=qh
theorem qK{l:List (List Int)}:dy (bi l)=some (.int .i64 l.length):=qh
end Go.Abs
namespace Go.Abs
theorem SA:(∀(T:Tm)(n:Nat),ov T (.t n)=T n)/\(∀(T:Tm)(v:AV),ov T (.c v)=v)/\(∀(T:Tm)(d t:Nat)(v:AV),upd T d v t=if t=d then v else T t)/\(∀(T:Tm)(d:Nat)(v:AV),aU T (some d) v=upd T d v)/\
    (∀(T:Tm)(v:AV),aU T none v=T)/\(∀(x:AV)(l:List AV),T0 (x::l) 0=x)/\(∀(x:AV)(l:List AV)(n:Nat),T0 (x::l) (n+1)=T0 l n)/\(∀n:Nat,T0 [] n=.undef)/\
    (∀(d t:Nat)(v:AV)(l:List (Nat×AV)),tl ((d,v)::l) t=if t=d then v else tl l t)/\(∀t:Nat,tl [] t=.undef)/\
    (∀(T:Tm)(t:Nat)(ts:List Nat)(x:AV)(xs:List AV),kM T (t::ts) (x::xs)=kM (upd T t x) ts xs)/\(∀(T:Tm)(xs:List AV),kM T [] xs=T):=
 ⟨λ_ _=>rfl,λ_ _=>rfl,λ_ _ _ _=>rfl,λ_ _ _=>rfl,λ_ _=>rfl,λ_ _=>rfl,λ_ _ _=>rfl,λ_=>rfl,λ_ _ _ _=>rfl,λ_=>rfl,λ_ _ _ _ _=>rfl,λ_ xs=>by cases xs<;>rfl⟩
theorem SV:(∀(T:Tm)(H:Hp)(x:Opd),b5 T H (.mov x)=some (ov T x))/\
    (∀(T:Tm)(H:Hp)(c a b:Opd),b5 T H (.pick c a b)=match ov T c with|.bool t=>some (if t=true then ov T a else ov T b)|_=>none)/\
    (∀(T:Tm)(H:Hp)(a:Opd),b5 T H (.ld1 a)=rd1 H (ov T a))/\(∀(T:Tm)(H:Hp)(k:Nat)(a:Opd),b5 T H (.ldn k a)=(rd H k (ov T a)).map .agg)/\
    (∀(T:Tm)(H:Hp)(op:BinOp)(tb tf:Bool)(x y:Opd),b5 T H (.bin op tb tf x y)=bo op tb tf (ov T x) (ov T y))/\
    (∀(T:Tm)(H:Hp)(op:UnOp)(x:Opd),b5 T H (.un op x)=aun op (ov T x))/\
    (∀(T:Tm)(H:Hp)(f:FuncId)(caps:List Opd),b5 T H (.mkfn f caps)=some (.func f (caps.map (ov T))))/\
    (∀(T:Tm)(H:Hp)(k:Nat)(p:Opd),b5 T H (.fa k p)=lD k (ov T p))/\
    (∀(T:Tm)(H:Hp)(sz:Nat)(x i:Opd),b5 T H (.ixaS sz x i)=eG sz (ov T x) (ov T i))/\
    (∀(T:Tm)(H:Hp)(x:Opd)(i:Nat),b5 T H (.ext x i)=iu (ov T x) i)/\
    (∀(T:Tm)(H:Hp)(x:Opd),b5 T H (.lenS x)=dy (ov T x))/\
    (∀(T:Tm)(H:Hp)(z:List AV)(parts:List (Nat×Nat×Opd)),b5 T H (.bld z parts)=(ew z (parts.map λp=>(p.1,p.2.1,ov T p.2.2))).map .agg)/\
    (∀(T:Tm)(H:Hp)(x:Opd)(l:List Opd),b5 T H (.mx x l)=hU pm (ov T x) (l.map (ov T)))/\
    (∀(T:Tm)(H:Hp)(x:Opd)(l:List Opd),b5 T H (.mn x l)=hU pi (ov T x) (l.map (ov T)))/\
    (∀(T:Tm)(H:Hp)(k:IntKind)(x:Opd),b5 T H (.conv k x)=uz (ov T x) λn=>some (.int k (k.wrap n)))/\
    (∀(T:Tm)(H:Hp)(sz:Nat)(x:Opd)(lo hi mx:Option Opd),b5 T H (.sls sz x lo hi mx)=jO sz (ov T x) (lo.map (ov T)) (hi.map (ov T)) (mx.map (ov T)))/\
    (∀(T:Tm)(H:Hp)(off:Nat)(x:Opd),b5 T H (.part1 off x)=gG (ov T x) λcs=>cs[off]?)/\
    (∀(T:Tm)(H:Hp)(op:BinOp)(ks:List TK)(x y:Opd),b5 T H (.binS op ks x y)=gG (ov T x) λxs=>gG (ov T y) λys=>oA op ks xs ys):=
 ⟨fun _ _ _=>rfl,fun _ _ _ _ _=>rfl,fun _ _ _=>rfl,fun _ _ _ _=>rfl,fun _ _ _ _ _ _ _=>rfl,fun _ _ _ _=>rfl,fun _ _ _ _=>rfl,fun _ _ _ _=>rfl,fun _ _ _ _ _=>rfl,fun _ _ _ _=>rfl,fun _ _ _=>rfl,
  λ_ _ _ _=>rfl,λ_ _ _ _=>rfl,λ_ _ _ _=>rfl,λ_ _ _ _=>rfl,λ_ _ _ _ _ _ _=>rfl,λ_ _ _ _=>rfl,λ_ _ _ _ _ _=>rfl⟩
def nU:AV->AV->Option AV
 |.str s,.int _ n=>if 0<=n/\n<s.size then some (.int .u8 (s[n.toNat]?.getD 0).toNat) else none
 |_,_=>none
theorem SV2:(∀(T:Tm)(H:Hp)(x i:Opd),b5 T H (.ixStr x i)=nU (ov T x) (ov T i))/\
    (∀(s:ByteArray)(k:IntKind)(n:Int),nU (.str s) (.int k n)=if 0<=n/\n<s.size then some (.int .u8 (s[n.toNat]?.getD 0).toNat) else none):=
 ⟨fun T H x i=>by
  simp only[b5];cases ov T x<;>cases ov T i<;>rfl,λ_ _ _=>rfl⟩
theorem SN:(∀(k:IntKind)(a b:Int)(tb tf:Bool),bo .lss tb tf (.int k a) (.int k b)=some (.bool (decide (a<b))))/\(∀(k:IntKind)(a b:Int)(tb tf:Bool),bo .leq tb tf (.int k a) (.int k b)=some (.bool (decide (a<=b))))/\
    (∀(k:IntKind)(a b:Int)(tb tf:Bool),bo .gtr tb tf (.int k a) (.int k b)=some (.bool (decide (b<a))))/\(∀(k:IntKind)(a b:Int)(tb tf:Bool),bo .geq tb tf (.int k a) (.int k b)=some (.bool (decide (b<=a))))/\
    (∀(k:IntKind)(a b:Int)(tb tf:Bool),bo .eql tb tf (.int k a) (.int k b)=some (.bool (decide (a=b))))/\(∀(k:IntKind)(a b:Int)(tb tf:Bool),bo .neq tb tf (.int k a) (.int k b)=some (.bool (decide (a≠b))))/\
    (∀(k:IntKind)(a b:Int)(tb tf:Bool),bo .add tb tf (.int k a) (.int k b)=some (.int k (k.wrap (a+b))))/\(∀(k:IntKind)(a b:Int)(tb tf:Bool),bo .sub tb tf (.int k a) (.int k b)=some (.int k (k.wrap (a-b))))/\
    (∀(k:IntKind)(a b:Int)(tb tf:Bool),bo .mul tb tf (.int k a) (.int k b)=some (.int k (k.wrap (a*b))))/\
    (∀(a b:Bool)(tf:Bool),bo .eql true tf (.bool a) (.bool b)=some (.bool (a==b)))/\(∀(a b:Bool)(tf:Bool),bo .neq true tf (.bool a) (.bool b)=some (.bool (!(a==b))))/\
    (∀tb:Bool,bo .eql tb true .nilf .nilf=some (.bool true))/\(∀tb:Bool,bo .neq tb true .nilf .nilf=some (.bool false))/\
    (∀(tb:Bool)(f:FuncId)(c:List AV),bo .eql tb true (.func f c) .nilf=some (.bool false))/\(∀(tb:Bool)(f:FuncId)(c:List AV),bo .neq tb true (.func f c) .nilf=some (.bool true))/\
    (∀b:Bool,aun .not (.bool b)=some (.bool (!b)))/\
    (∀(k:IntKind)(a b:Int),pm (.int k a) (.int k b)=some (.int k (max a b)))/\(∀(k:IntKind)(a b:Int),pi (.int k a) (.int k b)=some (.int k (min a b)))/\
    (∀(f:AV->AV->Option AV)(x:AV),hU f x []=some x)/\(∀(f:AV->AV->Option AV)(x y:AV)(l:List AV),hU f x (y::l)=match f x y with|some z=>hU f z l|none=>none)/\
    (∀(k:Nat)(b n off:Nat),lD k (.ptr b n off)=some (.ptr b n (off+k)))/\(∀(k:Nat)(cs:List AV)(off:Nat),lD k (.iptr cs off)=some (.iptr cs (off+k)))/\
    (∀(cs:List AV)(off:Nat),rd1 bF (.iptr cs off)=cs[off]?):=
 ⟨fun _ _ _ _ _=>HL,fun _ _ _ _ _=>HI,fun _ _ _ _ _=>GY,fun _ _ _ _ _=>HN,fun _ _ _ _ _=>Hy,fun _ _ _ _ _=>GI,fun _ _ _ _ _=>Hu,fun _ _ _ _ _=>HF,fun _ _ _ _ _=>G5,
  λ_ _ _=>rfl,λ_ _ _=>rfl,λ_=>rfl,λ_=>rfl,λ_ _ _=>rfl,λ_ _ _=>rfl,λ_=>rfl,
  λk a b=>by simp only[pm,Int.max_def];split<;>split<;>simp <;>omega,λk a b=>by simp only[pi,Int.min_def];split<;>split<;>simp <;>omega,λ_ _=>rfl,λ_ _ _ _=>rfl,λ_ _ _ _=>rfl,λ_ _ _=>rfl,λ_ _=>rfl⟩
theorem SL:(∀(a:AV)(l:List AV),(a::l)[0]?=some a)/\(∀(a:AV)(l:List AV)(n:Nat),(a::l)[n+1]?=l[n]?)/\(∀(l:List AV),l.drop 0=l)/\(∀(a:AV)(l:List AV)(n:Nat),(a::l).drop (n+1)=l.drop n)/\(∀n:Nat,([]:List AV).drop n=[])/\
    (∀(l:List AV),l.take 0=[])/\(∀(a:AV)(l:List AV)(n:Nat),(a::l).take (n+1)=a::l.take n)/\(∀n:Nat,([]:List AV).take n=[])/\(∀(l:List AV),[]++l=l)/\(∀(l:List AV),l++[]=l)/\(∀(a:AV)(l m:List AV),(a::l)++m=a::(l++m))/\
    (∀(cs:List AV)(off:Nat)(new:List AV),br cs off new=cs.take off++new++cs.drop (off+new.length))/\(([]:List AV).length=0)/\(∀(a:AV)(l:List AV),(a::l).length=l.length+1)/\
    (∀(k:IntKind)(n:Int),(AV.int k n).cells=[.int k n])/\(∀b:Bool,(AV.bool b).cells=[.bool b])/\(∀s:ByteArray,(AV.str s).cells=[.str s])/\(∀(k:Nat)(l:List AV),(AV.sl k l).cells=[.sl k l])/\(∀l:List AV,(AV.agg l).cells=l)/\(AV.esl.cells=[.esl])/\(AV.nilf.cells=[.nilf])/\
    (∀(f:FuncId)(c:List AV),(AV.func f c).cells=[.func f c])/\(∀(b n off:Nat),(AV.ptr b n off).cells=[.ptr b n off])/\(∀(c:List AV)(off:Nat),(AV.iptr c off).cells=[.iptr c off])/\(∀(b n sz off len:Nat),(AV.msl b n sz off len).cells=[.msl b n sz off len])/\(∀b:Nat,(AV.yld b).cells=[.yld b])/\(∀b:Nat,(AV.mp b).cells=[.mp b])/\(AV.nilp.cells=[.nilp])/\(∀(f:FuncId)(c:List AV),(AV.bfn f c).cells=[.bfn f c]):=
 ⟨fun _ _=>rfl,fun _ _ _=>rfl,fun _=>rfl,fun _ _ _=>rfl,fun n=>by cases n <;> rfl,fun _=>rfl,fun _ _ _=>rfl,fun n=>by cases n <;> rfl,fun _=>rfl,fun l=>fp l,fun _ _ _=>rfl,fun _ _ _=>rfl,rfl,fun _ _=>rfl,
  λ_ _=>rfl,λ_=>rfl,λ_=>rfl,λ_ _=>rfl,λ_=>rfl,rfl,rfl,λ_ _=>rfl,λ_ _ _=>rfl,λ_ _=>rfl,λ_ _ _ _ _=>rfl,λ_=>rfl,λ_=>rfl,rfl,λ_ _=>rfl⟩
def AV.ones(l:List AV):Bool:=l.all AV.one
theorem SO:(AV.ones []=true)/\(∀(a:AV)(l:List AV),AV.ones (a::l)=(a.one&&AV.ones l))/\(∀(k:IntKind)(n:Int),(AV.int k n).one=true)/\(∀b:Bool,(AV.bool b).one=true)/\(∀s:ByteArray,(AV.str s).one=true)/\(∀(k:Nat)(l:List AV),(AV.sl k l).one=true)/\(AV.esl.one=true)/\(AV.nilf.one=true)/\
    (∀(f:FuncId)(c:List AV),(AV.func f c).one=true)/\(∀(b n off:Nat),(AV.ptr b n off).one=true)/\(∀(c:List AV)(off:Nat),(AV.iptr c off).one=true)/\(∀(b n sz off len:Nat),(AV.msl b n sz off len).one=true)/\(∀b:Nat,(AV.yld b).one=true)/\(∀b:Nat,(AV.mp b).one=true)/\(AV.nilp.one=true)/\(∀l:List AV,l.all AV.one=AV.ones l):=
 ⟨rfl,λ_ _=>by simp[AV.ones],λ_ _=>rfl,λ_=>rfl,λ_=>rfl,λ_ _=>rfl,rfl,rfl,λ_ _=>rfl,λ_ _ _=>rfl,λ_ _=>rfl,λ_ _ _ _ _=>rfl,λ_=>rfl,λ_=>rfl,rfl,λ_=>rfl⟩
variable{P:Program}{T:Tm}{H:Hp}{nx:Nat}
theorem rC{dm:DM}{K:SP}{l:List Op2}{d:Option Nat}{z:AV}{cs:List AV}(hd:dm2 dm T (.alloc z)=true)(hc:z.cells=cs)(ho:AV.ones cs=true)(k:ak P dm l (aU T d (.ptr nx cs.length 0)) (ap H nx cs) (nx+1) K):ak P dm (⟨d,none,.alloc z⟩::l) T H nx K:=by
 subst hc;refine nN rfl hd ?_ k;simp only[jy,uw];rw[if_pos (show z.flat=true from ho)]
theorem Ii{dm:DM}{K:SP}{l:List Op2}{d:Option Nat}{x:Opd}{v:AV}{cs:List AV}(hd:dm2 dm T (.box x)=true)(hx:ov T x=v)(hc:v.cells=cs)(ho:AV.ones cs=true)(k:ak P dm l (aU T d (.ptr nx cs.length 0)) (ap H nx cs) (nx+1) K):ak P dm (⟨d,none,.box x⟩::l) T H nx K:=by
 subst hc hx;refine nN rfl hd ?_ k;simp only[jy,uw];rw[if_pos (show(ov T x).flat=true from ho)]
theorem Jy{dm:DM}{K:SP}{l:List Op2}{d:Option Nat}{sz:Nat}{p x:Opd}{b n off:Nat}{v:AV}{cs vs:List AV}(hd:dm2 dm T (.st sz p x)=true)(hp:ov T p=.ptr b n off)(hx:ov T x=v)(hb:H b=some cs)(hc:v.cells=vs)(ho:AV.ones vs=true)(hn:cs.length=n)(hl:vs.length=sz)(hf:off+sz<=n)
    (k:ak P dm l (aU T d (.tup [])) (ap H b (br cs off vs)) nx K):ak P dm (⟨d,none,.st sz p x⟩::l) T H nx K:=by
 subst hc hx;refine nN rfl hd ?_ k;simp only[jy,hp,hb];rw[if_pos ⟨hn,ho,hl,hf⟩]
theorem xT{dm:DM}{K:SP}{l:List Op2}{d:Option Nat}{sz bytes:Nat}{z:List AV}{x y:Opd}{k1 k2:IntKind}{n m:Int}(hd:dm2 dm T (.mks sz bytes z x y)=true)(hx:ov T x=.int k1 n)(hy:ov T y=.int k2 m)(h0:0<=n)(h1:n<=m)(h2:m<=9223372036854775807)(h3:bytes*m<=281474976710656)
    (k:ak P dm l (aU T d (.msl nx (m.toNat*sz) sz 0 n.toNat)) (ap H nx (bD (.agg z) m.toNat)) (nx+1) K):ak P dm (⟨d,none,.mks sz bytes z x y⟩::l) T H nx K:=by
 refine nN rfl hd ?_ k;simp only[jy,hx,hy];rw[if_pos ⟨h0,h1,h2,h3⟩]
theorem H9{dm:DM}{K:SP}{l:List Op2}{d:Option Nat}{sz len:Nat}{z:List AV}{parts:List (Nat×Nat×Opd)}{pv:List (Nat×Nat×AV)}{cs:List AV}(hd:dm2 dm T (.bldS sz len z parts)=true)(hl:len≠0)(hp:parts.map (λp=>(p.1,p.2.1,ov T p.2.2))=pv)(hc:ew (bD (.agg z) len) pv=some cs)
    (k:ak P dm l (aU T d (.msl nx cs.length sz 0 len)) (ap H nx cs) (nx+1) K):ak P dm (⟨d,none,.bldS sz len z parts⟩::l) T H nx K:=by
 refine nN rfl hd ?_ k;simp only[jy,hl,if_false,hp,hc]
theorem ED{dm:DM}{K:SP}{l:List Op2}{d:Option Nat}{sz:Nat}{z:List AV}(hd:dm2 dm T (.bldS sz 0 z [])=true)(k:ak P dm l (aU T d .esl) H nx K):ak P dm (⟨d,none,.bldS sz 0 z []⟩::l) T H nx K:=by
 refine nN rfl hd ?_ k;simp[jy]
theorem gK{dm:DM}{K:SP}{l:List Op2}{d:Option Nat}{sz bytes n:Nat}{s x:Opd}{v:AV}{new:List AV}(hd:dm2 dm T (.app sz bytes s x)=true)(hs:ov T s=.esl)(hx:ov T x=v)(hsrc:fX sz H v=some (n,new))(ho:AV.ones new=true)(h1:n*bytes<=140737488355328)(h2:n<=9223372036854775807)
    (k:ak P dm l (aU T d (.msl nx (n*sz) sz 0 n)) (ap H nx new) (nx+1) K):ak P dm (⟨d,none,.app sz bytes s x⟩::l) T H nx K:=by
 subst hx;refine nN rfl hd ?_ k;simp only[jy,HC,hs,hsrc];rw[if_pos (show new.all AV.one=true from ho),if_pos ⟨h1,h2⟩]
theorem zG{dm:DM}{K:SP}{l:List Op2}{d:Option Nat}{sz bytes n:Nat}{s x:Opd}{v:AV}{new cs:List AV}{b m len:Nat}(hd:dm2 dm T (.app sz bytes s x)=true)(hs:ov T s=.msl b m sz 0 len)(hb:H b=some cs)(hx:ov T x=v)(hsrc:fX sz H v=some (n,new))(ho:AV.ones new=true)(hm:cs.length=m)(hl:m=len*sz)
    (h1:(len+n)*bytes<=140737488355328) (h2:len+n<=9223372036854775807)
    (k:ak P dm l (aU T d (.msl b ((len+n)*sz) sz 0 (len+n))) (ap H b (cs++new)) nx K):ak P dm (⟨d,none,.app sz bytes s x⟩::l) T H nx K:=by
 subst hx;refine nN rfl hd ?_ k;simp only[jy,HC,hs,hsrc,hb];rw[if_pos (show new.all AV.one=true from ho),if_pos ⟨hm,trivial⟩,if_pos ⟨trivial,hl,h1,h2⟩]
theorem AL{dm:DM}{K:SP}{l:List Op2}{d:Option Nat}{sz bytes n:Nat}{s x:Opd}{v:AV}{new cs:List AV}{b m off len:Nat}(hd:dm2 dm T (.app sz bytes s x)=true)(hs:ov T s=.msl b m sz off len)(hb:H b=some cs)(hx:ov T x=v)(hsrc:fX sz H v=some (n,new))(ho:AV.ones new=true)(hm:cs.length=m)(hl:off=0->m≠len*sz)(h0:0<m)(h1:off+(len+n)*sz<=m)
    (k:ak P dm l (aU T d (.msl b m sz off (len+n))) (ap H b (br cs (off+len*sz) new)) nx K):ak P dm (⟨d,none,.app sz bytes s x⟩::l) T H nx K:=by
 subst hx;refine nN rfl hd ?_ k;simp only[jy,HC,hs,hsrc,hb];rw[if_pos (show new.all AV.one=true from ho),if_pos ⟨hm,trivial⟩,if_neg (λh=>hl h.1 h.2.1),if_pos ⟨h1,h0⟩]
theorem jB{sz:Nat}{l:List AV}:fX sz H (.sl sz l)=some (l.length,l.flatMap AV.cells):=by simp[fX]
theorem oO{sz:Nat}:fX sz H .esl=some (0,[]):=rfl
theorem eT{sz b n off len:Nat}{cs:List AV}(h:H b=some cs)(hn:cs.length=n)(hf:off+len*sz<=n):fX sz H (.msl b n sz off len)=some (len,(cs.drop off).take (len*sz)):=by
 simp only[fX];split
 ·rename_i h0;subst h0;simp
 ·simp only[h,hn,true_and,hf,if_true]
theorem SR:(∀(H:Hp)(b n off:Nat),rd1 H (.ptr b n off)=match H b with|some cs=>if cs.length=n then cs[off]? else none|none=>none)/\
    (∀(H:Hp)(k b n off:Nat),rd H k (.ptr b n off)=match H b with|some cs=>if cs.length=n/\off+k<=n then some ((cs.drop off).take k) else none|none=>none)/\
    (∀(H:Hp)(cs:List AV)(off:Nat),rd1 H (.iptr cs off)=cs[off]?)/\(∀(H:Hp)(cs:List AV)(off k:Nat),rd H k (.iptr cs off)=if off+k<=cs.length then some ((cs.drop off).take k) else none)/\
    (∀(l:List AV)(i:Nat),iu (.tup l) i=l[i]?)/\(∀(l:List AV)(f:List AV->Option AV),gG (.agg l) f=f l)/\(∀(k:IntKind)(n:Int)(f:Int->Option AV),uz (.int k n) f=f n)/\
    (∀(cs:List AV),ew cs []=some cs)/\
    (∀(cs:List AV)(off sz:Nat)(x:AV)(r:List (Nat×Nat×AV)),ew cs ((off,sz,x)::r)=if AV.ones x.cells=true/\x.cells.length=sz/\off+sz<=cs.length then ew (br cs off x.cells) r else none)/\
    (∀(b n sz off len:Nat),dy (.msl b n sz off len)=some (.int .i64 len))/\(dy .esl=some (.int .i64 0))/\(∀(sz:Nat)(l:List AV),dy (.sl sz l)=some (.int .i64 l.length))/\
    (∀(z:AV),bD z 0=[])/\(∀(z:AV)(n:Nat),bD z (n+1)=z.cells++bD z n):=
 ⟨λ_ _ _ _=>rfl,λ_ _ _ _ _=>rfl,λ_ _ _=>rfl,λ_ _ _ _=>rfl,λl i=>by cases l<;>rfl,λ_ _=>rfl,λ_ _ _=>rfl,λ_=>rfl,λ_ _ _ _ _=>rfl,λ_ _ _ _ _=>rfl,rfl,λ_ _=>rfl,λ_=>rfl,λz n=>by simp[bD,List.replicate_succ]⟩
end Go.Abs
namespace Go.Abs
theorem ci{H:Hp}{a b:Bool}(h:a=b):Snap H (.bool a) (.bool b):=by subst h;exact .bool _
theorem ey{H:Hp}{k:IntKind}{a b:Int}(h:a=b):Snap H (.int k a) (.int k b):=by subst h;exact .int _ _
theorem bI{H:Hp}{l m:List AV}(h:aL H l m):Snap H (.tup l) (.tup m):=.tup l m h.1 h.2
theorem ju{H:Hp}{l m:List AV}(h:aL H l m):Snap H (.agg l) (.agg m):=.agg l m h.1 h.2
theorem ag{H:Hp}{x y:AV}{xs ys:List AV}(h:Snap H x y)(hs:aL H xs ys):aL H (x::xs) (y::ys):=aL.cons h hs
theorem Dat.snap{H:Hp}{x:AV}(h:Dat x):Snap H x x:=h H
theorem bA{P:Program}{b:C2}{T:Tm}{H:Hp}{nx:Nat}{K:CP}{X:Type}(L:X->List (Nat×AV))(I:X->Hp->Nat->Prop)(μ:X->Nat)(x0:X)(h0:I x0 H nx)(hT:agr T (L x0))
    (step:∀x H nx,I x H nx->aM P b (tl (L x)) H nx λe T H' nx'=>aR e (∃y,μ y<μ x/\I y H' nx'/\agr T (L y)) (K e T H' nx')):aY (aM P b) T H nx K:=by
 refine EC (X:=X×Hp×Nat) (λx=>tl (L x.1)) (λx=>x.2.1) (λx=>x.2.2) (λx=>I x.1 x.2.1 x.2.2) (λx=>μ x.1) ⟨(x0,H,nx),h0,_,Gh.weak (tA hT)⟩ (λx hx=>d7 b (step x.1 x.2.1 x.2.2 hx) (λe T H' nx' h=>?_));cases e with
 |normal=>
  obtain⟨y,h1,h2,h3⟩:=h;exact⟨(y,H',nx'),h2,h1,_,Gh.weak (tA h3)⟩
 |exit i=>exact h
 |ret=>exact h
def gB(Hf:Hp)(cs cs':List AV):Prop:=cs'.length=cs.length/\∀(i:Nat)(x x':AV),cs[i]?=some x->cs'[i]?=some x'->x'=x\/Snap Hf x x'
theorem gB.refl(Hf:Hp)(cs:List AV):gB Hf cs cs:=⟨rfl,λi x x' h1 h2=>.inl (by rw[h1] at h2;cases h2;rfl)⟩
theorem gB.snoc{Hf:Hp}{cs:List AV}{x x':AV}(h:Snap Hf x x'):gB Hf (cs++[x]) (cs++[x']):=by
 refine⟨by simp,λi y y' h1 h2=>?_⟩;by_cases hi:i<cs.length
 ·rw[gC hi] at h1 h2;rw[h1] at h2;cases h2;exact .inl rfl
 ·rw[iB (by omega)] at h1 h2;cases hj:i-cs.length with
  |zero=>rw[hj] at h1 h2;simp at h1 h2;subst h1 h2;exact .inr h
  |succ j=>rw[hj] at h1;simp at h1
structure Fz(Hf H H':Hp):Prop where
 sub:∀b cs,Hf b=some cs->H b=some cs
 to:∀b cs',H' b=some cs'->∃cs,H b=some cs/\Hf b=none/\gB Hf cs cs'
def Aj(Hf:Hp)(T:Tm):List (Nat×AV)->Prop
 |[]=>True
 |(d,v)::l=>(T d=v\/Snap Hf (T d) v)/\Aj Hf T l
theorem BH{Hf:Hp}{T:Tm}:∀{l:List (Nat×AV)},Aj Hf T l->∀t,tl l t=.undef\/tl l t=T t\/Snap Hf (T t) (tl l t)
 |[],_,t=>.inl rfl
 |(d,v)::l,h,t=>by
  simp only[tl];split
  ·rename_i e;subst e;rcases h.1 with h1|h1
   ·exact .inr (.inl h1.symm)
   ·exact .inr (.inr h1)
  ·exact BH h.2 t
theorem Fz.gh{Hf H H':Hp}{T:Tm}{l:List (Nat×AV)}{nx:Nat}(h:Fz Hf H H')(ha:Aj Hf T l):Gh T H nx (tl l) H' nx Hf:=
 ⟨h.sub,aN _,fun b cs' hb=>by
  obtain⟨cs,h1,h2,h3,h4⟩:=h.to b cs' hb;exact .inl ⟨cs,h1,h2,h3,λi x x' hx hx'=>(h4 i x x' hx hx').imp id .inl⟩,λt=>by
  rcases BH ha t with h1|h1|h1
  ·exact .inl h1
  ·exact .inr (.inl h1)
  ·exact .inr (.inr (.inl h1))⟩
def only(b:Nat)(cs:List AV):Hp:=λx=>if x=b then some cs else none
theorem gA{b:Nat}{cs:List AV}:only b cs b=some cs:=by simp[only]
theorem pD{P:Program}{T:Tm}{H:Hp}{nx:Nat}{K:CP}{l:List Op2}(Hf H':Hp)(L:List (Nat×AV))(hf:Fz Hf H H')(ha:Aj Hf T L)(h:ak P .text l (tl L) H' nx λT H nx=>K .normal T H nx):aM P (.ops 0 l) T H nx K:=⟨_,H',nx,Hf,hf.gh ha,h⟩
theorem Fz.one{H:Hp}{b:Nat}{cs:List AV}(hb:H b=some cs):Fz (only b cs) H (cW H b):=
 ⟨fun x c h=>by unfold only at h; split at h <;> cases h; subst_vars; exact hb,fun x c h=>by
  have:=qg h;exact⟨c,this.2,by simp[only,this.1],gB.refl _ _⟩⟩
theorem Fz.all{H:Hp}:Fz H H bF:=⟨λ_ _ h=>h,λ_ _ h=>(by cases h)⟩
theorem ft{T:Tm}{Hf:Hp}:∀{l:List (Nat×AV)},agr T l->Aj Hf T l
 |[],_=>trivial
 |(_,_)::_,h=>⟨.inl h.1,ft h.2⟩
theorem qT{P:Program}{b:C2}{T:Tm}{H:Hp}{nx:Nat}{K:CP}{X:Type}(L:X->List (Nat×AV))(I:X->Hp->Nat->Prop)(μ:X->Nat)(x0:X)(h0:∃Hf H',Fz Hf H H'/\I x0 H' nx/\Aj Hf T (L x0))
    (step:∀x H nx,I x H nx->aM P b (tl (L x)) H nx λe T H' nx'=>aR e (∃y,μ y<μ x/\∃Hf H'',Fz Hf H' H''/\I y H'' nx'/\Aj Hf T (L y)) (K e T H' nx')):aY (aM P b) T H nx K:=by
 obtain⟨Hf,H0,hf,hI,ha⟩:=h0;refine EC (X:=X×Hp×Nat) (λx=>tl (L x.1)) (λx=>x.2.1) (λx=>x.2.2) (λx=>I x.1 x.2.1 x.2.2) (λx=>μ x.1) ⟨(x0,H0,nx),hI,_,hf.gh ha⟩ (λx hx=>d7 b (step x.1 x.2.1 x.2.2 hx) (λe T H' nx' h=>?_));cases e with
 |normal=>
  obtain⟨y,h1,Hf,H'',h2,h3,h4⟩:=h;exact⟨(y,H'',nx'),h3,h1,_,h2.gh h4⟩
 |exit i=>exact h
 |ret=>exact h
theorem Fz.none{H:Hp}:Fz bF H H:=⟨λ_ _ h=>(by cases h),λb cs h=>⟨cs,h,rfl,gB.refl _ _⟩⟩
theorem m8{α:Type}[DecidableEq α](k:MK)(enc:α->AV)(h:∀a b,pk k (enc a) (enc b)=some (decide (a=b)))(v:α):∀ks:List α,de k (enc v) (ks.map enc)=some (if v∈ks then some (ks.idxOf v) else none)
 |[]=>rfl
 |x::l=>by
  simp only[fY,de,h];by_cases e:v=x
  ·subst e;simp
  ·have e':x≠v:=λh=>e h.symm;simp only[e,decide_false,m8 k enc h v l,mf,c9,false_or];by_cases hm:v∈l
   ·simp only[hm,if_true,mf];simp[List.idxOf_cons,beq_eq_false_iff_ne.2 e']
   ·simp[hm]
theorem qe{α:Type}{l:List α}{n k:Nat}{d:α}(h:k<n):(l.take n).getD k d=l.getD k d:=by
 simp only[List.getD,iT,if_pos h]
theorem A7{α:Type}[Inhabited α]{l:List α}{k:Nat}(h:k<l.length):l.take (k+1)=l.take k++[l.getD k default]:=by
 rw[List.take_add_one];simp[List.getD,h]
theorem mZ{α:Type}[Inhabited α]{l:List α}{k:Nat}(h:k<l.length):l.drop k=l.getD k default::l.drop (k+1):=by
 rw[List.drop_eq_getElem_cons h];simp[List.getD,h]
theorem ae{H:Hp}{b:Nat}{cs:List AV}:ap H b cs b=some cs:=if_pos rfl
theorem vE{H:Hp}{f:FuncId}{l m:List AV}(h:aL H l m):Snap H (.func f l) (.func f m):=.func f l m h.1 h.2
theorem yA{H:Hp}{b n off:Nat}{cs cs':List AV}(hb:H b=some cs)(hn:cs.length=n)(h:aL H cs cs'):Snap H (.ptr b n off) (.iptr cs' off):=.ptr b n off cs cs' hb hn (by rw[h.1,hn]) h.2
theorem Dat.iptr{cs:List AV}{off:Nat}(h:∀x∈cs,Dat x):Dat (.iptr cs off):=λH=>.iptr cs cs off rfl (λi a c ha hc=>by rw[ha] at hc;cases hc;exact h a (gm ha) H)
theorem DatL.nil:∀x∈([]:List AV),Dat x:=by simp
theorem DatL.cons{x:AV}{l:List AV}(h:Dat x)(hl:∀y∈l,Dat y):∀y∈x::l,Dat y:=λy hy=>(c9.1 hy).elim (λe=>e▸h) (hl y)
theorem jk{H:Hp}{b n off len:Nat}{cs:List AV}{l:List AV}(hb:H b=some cs)(hn:cs.length=n)(hf:off+len<=n)(hl:l.length=len)(hc:∀y∈l,y.cells=[y])(h:∀(i:Nat)(a c:AV),cs[off+i]?=some a->l[i]?=some c->Snap H a c):Snap H (.msl b n 1 off len) (.sl 1 l):=by
 refine .msl b n 1 off len cs l hb hn (by omega) hl (λy hy=>by rw[hc y hy];rfl) (λi j y a c hy hc' ha=>?_);rw[hc y (gm hy)] at hc';cases j with
 |zero=>simp at hc';subst hc';exact h i a y (by simpa using ha) hy
 |succ j=>simp at hc'
theorem dD{H:Hp}{b n len:Nat}{l:List Int}(hb:H b=some (l.map (AV.int .i64)))(hn:n=len)(hl:l.length=len):Snap H (.msl b n 1 0 len) (aE l):=by
 subst hn;refine jk hb (by simp[hl]) (by omega) (by simp[hl]) (λy hy=>by simp at hy;obtain⟨n,_,rfl⟩:=hy;rfl) (λi a c ha hc=>?_);rw[bS] at ha;rw[ha] at hc;cases hc;simp at ha;obtain⟨n,_,rfl⟩:=ha;exact .int _ _
theorem bm{H:Hp}:∀{l:List AV},(∀x∈l,Dat x)->aL H l l
 |[],_=>aL.nil
 |x::l,h=>aL.cons (h x (by simp) H) (bm (λy hy=>h y (by simp[hy])))
theorem aP{α:Type}[Inhabited α]{l:List α}{k:Nat}(h:k<l.length):l.getD k default∈l:=by
 have:l.getD k default=l[k]:=by simp[List.getD,h]
 rw[this];exact ns h
theorem gd{H:Hp}{l:List Int}:fX 1 H (aE l)=some (l.length,l.map (AV.int .i64)):=by
 unfold aE;rw[jB]
 congr 2
 ·simp
 ·induction l with
  |nil=>rfl
  |cons a l ih=>simp only[fY,uq,ih];rfl
theorem im{l:List Int}:AV.ones (l.map (AV.int .i64))=true:=by
 simp[AV.ones,AV.one]
theorem f8{l:List (List Int)}:AV.ones (l.map aE)=true:=by
 simp[AV.ones,aE,AV.one]
theorem fW{H:Hp}{l:List (List Int)}:fX 1 H (bi l)=some (l.length,l.map aE):=by
 unfold bi;rw[jB]
 congr 2
 ·simp
 ·induction l with
  |nil=>rfl
  |cons a l ih=>simp only[fY,uq,ih];rfl
theorem AE{l:List Int}:fE (aE l)=some l.length:=by simp[fE,aE]
theorem ym{l:List (List Int)}:fE (bi l)=some l.length:=by simp[fE,bi]
theorem eV{l:List Int}:(aE l).one=true:=rfl
theorem d8{l:List (List Int)}:(bi l).one=true:=rfl
theorem uU{H:Hp}{b n len:Nat}{l:List AV}(hb:H b=some l)(hn:n=len)(hl:l.length=len)(hc:∀y∈l,y.cells=[y]/\Dat y):Snap H (.msl b n 1 0 len) (.sl 1 l):=by
 subst hn;refine jk hb hl (by omega) hl (λy hy=>(hc y hy).1) (λi a c ha hc'=>?_);rw[bS] at ha;rw[ha] at hc';cases hc';exact(hc a (gm ha)).2 H
theorem CB{H:Hp}{b n len:Nat}{l:List (List Int)}(hb:H b=some (l.map aE))(hn:n=len)(hl:l.length=len):Snap H (.msl b n 1 0 len) (bi l):=
 uU hb hn (by simp[hl]) (λy hy=>by simp at hy;obtain⟨n,_,rfl⟩:=hy;exact⟨rfl,cu n⟩)
theorem r_0{T:Tm}{H:Hp}{K:AV->Prop}(h:K (.tup [])):bj T H K []:=h
theorem getElem?_map_lt{α:Type}[Inhabited α]{f:α->AV}{l:List α}{k:Nat}(h:k<l.length):(l.map f)[k]?=some (f (l.getD k default)):=by
 simp[List.getD,h]
theorem FU{sz b m off len:Nat}{k:IntKind}{n:Int}:eG sz (.msl b m sz off len) (.int k n)=if 0<=n/\n<len then some (.ptr b m (off+n.toNat*sz)) else none:=by simp[eG]
theorem na{P:Program}{T:Tm}{H:Hp}{nx:Nat}{K:CP}{g:Opd}{ps:List Nat}{a b:C2}{f:FuncId}{caps:List AV}(y y1:Nat)(hy:nx=y)(hy1:y+1=y1)(hg:ov T g=.func f caps)
    (h:∀ (c0:AV) (cj:AEx→AV),(∀ (args:List AV) (H':Hp) (nx':Nat) (K':AV→Hp→Nat→Prop),H' y=some [c0]→args.length=ps.length →
        aM P a (kM T ps args) H' nx' (λe T2 H2 nx2=>aR e (H2 y=some [c0]/\aM P b T2 (cW H2 y) nx2 λe T3 H3 nx3=>aR e (K' (.bool true) (ap H3 y [c0]) nx3) (K' (.bool false) (ap H3 y [cj e]) nx3)) False)->
        Yl P y args H' nx' K')->
     Fn P f (.yld y::caps) (ap H y [c0]) y1 λ_ H' nx'=>(H' y=some [c0]/\K .normal T (cW H' y) nx')\/ ∃e,e≠.normal/\H' y=some [cj e]/\K e T (cW H' y) nx'):aM P (.rangeF g ps a b) T H nx K:=by
 subst hy hy1;exact Gf hg h
theorem vV{H:Hp}{b n len:Nat}{l:List Int}(hb:H b=some (l.map (AV.int .i64)))(hn:n=len)(hl:l.length=len):SnapF H (.msl b n 1 0 len) (aE l):=by
 subst hn;refine .msl b n 1 0 n _ _ hb (by simp[hl]) (by omega) (by simp[hl]) (λy hy=>by simp at hy;obtain⟨n,_,rfl⟩:=hy;rfl) (λi j y a c hy hc ha=>?_);rw[lV] at hy;cases hi:l[i]? with
 |none=>rw[hi] at hy;cases hy
 |some q=>
  rw[hi] at hy;cases hy;cases j with
  |zero=>
   simp only[AV.cells,xE,uF] at hc;subst hc;simp[hi] at ha;subst ha;exact .int _ _
  |succ j=>simp[AV.cells] at hc
theorem CF{H:Hp}{l:List Int}(h:l.length=0):SnapF H .esl (aE l):=by
 have:l=[]:=fA.1 h;subst this;exact .eslsl 1
end Go.Abs
namespace Go.Abs
inductive Row(H:Hp)(sz:Nat):AV->List AV->Prop
 |nil:Row H sz .esl []
 |box (b len:Nat) (cs:List AV) (hb:H b=some cs) (hl:cs.length=len*sz):Row H sz (.msl b (len*sz) sz 0 len) cs
def bv:AV->Option Nat
 |.msl b _ _ _ _=>some b
 |_=>none
theorem Row.len{H:Hp}{sz:Nat}{s:AV}{cs:List AV}(h:Row H sz s cs):∃n:Nat,dy s=some (.int .i64 n)/\cs.length=n*sz:=by
 cases h with
 |nil=>exact⟨0,rfl,by simp⟩
 |box b len cs hb hl=>exact⟨len,rfl,hl⟩
theorem Row.lenS{H:Hp}{sz n:Nat}{s:AV}{cs:List AV}(h:Row H sz s cs)(hl:cs.length=n*sz)(hz:0<sz):dy s=some (.int .i64 n):=by
 obtain⟨m,h1,h2⟩:=h.len;have:m=n:=Nat.eq_of_mul_eq_mul_right hz (by omega);subst this;exact h1
theorem Row.same{H H':Hp}{sz:Nat}{s:AV}{cs:List AV}(h:Row H sz s cs)(hs:∀b,bv s=some b->H' b=H b):Row H' sz s cs:=by
 cases h with
 |nil=>exact .nil
 |box b len cs hb hl=>exact .box b len cs ((hs b rfl).trans hb) hl
theorem Row.one{H:Hp}{sz:Nat}{s:AV}{cs:List AV}(h:Row H sz s cs):s.one=true/\s.cells=[s]:=by
 cases h<;>exact⟨rfl,rfl⟩
theorem ac{H:Hp}{b x:Nat}{cs:List AV}(h:x≠b):ap H b cs x=H x:=if_neg h
theorem b9{H:Hp}{b x:Nat}(h:x≠b):cW H b x=H x:=if_neg h
variable{P:Program}{T:Tm}{H:Hp}{nx:Nat}
theorem f9{dm:DM}{K:SP}{l:List Op2}{d:Option Nat}{sz bytes k:Nat}{s x:Opd}{sv xv:AV}{cs new:List AV}(hd:dm2 dm T (.app sz bytes s x)=true)(hs:ov T s=sv)(hrow:Row H sz sv cs)(hx:ov T x=xv)(hsrc:fX sz H xv=some (k,new))(ho:AV.ones new=true)(hk:new.length=k*sz)
    (hz:0<sz) (h1:(cs.length+k)*bytes<=140737488355328) (h2:cs.length+k<=9223372036854775807)
    (next:∀(sv':AV)(H':Hp)(nx':Nat),Row H' sz sv' (cs++new)->nx<=nx'->nx'<=nx+1->(∀i,i<nx->bv sv≠some i->H' i=H i)->(∀b,bv sv'=some b->bv sv=some b\/b=nx/\nx'=nx+1)->ak P dm l (aU T d sv') H' nx' K):
    ak P dm (⟨d,none,.app sz bytes s x⟩::l) T H nx K:=by
 cases hrow with
 |nil=>
  refine gK hd hs hx hsrc ho (by simpa using h1) (by simpa using h2) ?_;exact next _ _ _ (.box nx k new ae hk) (Nat.le_succ _) (aN _) (λi hi _=>ac (by omega)) (λb hb=>by cases hb;exact .inr ⟨rfl,rfl⟩)
 |box b len cs hb hl=>
  have hle:len<=cs.length:=by rw[hl];exact Nat.le_mul_of_pos_right _ hz
  have hb1:(len+k)*bytes<=140737488355328:=fc (lq _ (by omega)) h1;refine zG hd hs hb hx hsrc ho hl rfl hb1 (by omega) ?_;exact next _ _ _ (.box b (len+k) (cs++new) ae (by rw[cw,hl,hk,fF])) (aN _) (Nat.le_succ _) (λi hi hne=>ac (λe=>hne (by rw[e];rfl))) (λb' hb'=>by cases hb';exact .inl rfl)
theorem Row.snap{H:Hp}{sz:Nat}{s:AV}{elems:List AV}(h:Row H sz s (elems.flatMap AV.cells))(hc:∀y∈elems,y.cells.length=sz)(hz:0<sz)(hd:∀y∈elems,∀c∈y.cells,Dat c):Snap H s (.sl sz elems):=by
 obtain⟨f1,f2⟩:=fg elems hc;generalize he:elems.flatMap AV.cells=cs at h;cases h with
 |nil=>
  have:elems.length*sz=0:=by rw[<-f1,he];rfl
  have:elems=[]:=fA.1 (by
   rcases Nat.mul_eq_zero.1 this with h|h
   ·exact h
   ·omega)
  subst this;exact .eslsl sz
 |box b len cs hb hl=>
  have hlen:elems.length=len:=Nat.eq_of_mul_eq_mul_right hz (by rw[<-f1,he,hl]);refine .msl b (len*sz) sz 0 len cs elems hb hl (by omega) hlen hc (λi j y a c hy hc' ha=>?_);have hj:j<sz:=by rw[<-hc y (gm hy)];exact(bM.1 hc').1
  have key:∀(l:List AV)(i j:Nat)(y c:AV),(∀z∈l,z.cells.length=sz)->l[i]?=some y->y.cells[j]?=some c->j<sz->(l.flatMap AV.cells)[i*sz+j]?=some c:=by
   intro l
   induction l with
   |nil=>intro i j y c _ h;simp at h
   |cons x l ih=>
    intro i j y c hl hy hc hj;rw[uq];cases i with
    |zero=>
     simp at hy;subst hy;rw[xN,bS,gC (by rw[hl x (by simp)];exact hj)];exact hc
    |succ i=>
     rw[iB (by rw[hl x (by simp),fF];omega),hl x (by simp)];have:=ih i j y c (λz hz=>hl z (by simp[hz])) (by simpa using hy) hc hj;rw[<-this];congr 1;rw[fF];omega
  have:=key elems i j y c hc hy hc' hj;rw[he,<-bS (i*sz)] at this;rw[this] at ha;cases ha;exact hd y (gm hy) a (gm hc') H
theorem jR{α:Type}{f:α->AV}(h:∀x,(f x).cells=[f x])(l:List α):(l.map f).flatMap AV.cells=l.map f:=by
 induction l with
 |nil=>rfl
 |cons a l ih=>rw[fY,uq,ih,h];rfl
theorem Row.snapV{H:Hp}{s:AV}{l:List (List Int)}(h:Row H 1 s (l.map aE)):Snap H s (bi l):=by
 refine Row.snap (elems:=l.map aE) (by rw[jR (λ_=>rfl)];exact h) (λy hy=>?_) jb (λy hy c hc=>?_)
 ·simp at hy;obtain⟨n,_,rfl⟩:=hy;rfl
 ·simp at hy;obtain⟨n,_,rfl⟩:=hy;simp only[AU,c6] at hc;subst hc;exact cu n
theorem Row.snapI{H:Hp}{s:AV}{l:List Int}(h:Row H 1 s (l.map (AV.int .i64))):Snap H s (aE l):=by
 refine Row.snap (elems:=l.map (AV.int .i64)) (by rw[jR (λ_=>rfl)];exact h) (λy hy=>?_) jb (λy hy c hc=>?_)
 ·simp at hy;obtain⟨n,_,rfl⟩:=hy;rfl
 ·simp at hy;obtain⟨n,_,rfl⟩:=hy;simp only[DK,c6] at hc;subst hc;exact .int
theorem bn{K:CP}{x y:C2}(M:SP)(h1:aM P x T H nx λe T H nx=>aR e (M T H nx) (K e T H nx))(h2:∀T H nx,M T H nx->aM P y T H nx K):aM P (.seq x y) T H nx K:=by
 refine dI (d7 x h1 (λe T H nx h=>?_));cases e with
 |normal=>exact h2 T H nx h
 |exit i=>exact h
 |ret=>exact h
end Go.Abs
namespace Go.Abs
theorem Nu:(∀l:List Int,(aE l).cells=[aE l])/\(∀l:List (List Int),(bi l).cells=[bi l])/\(∀x:Nat,bF x=none)/\
    (∀(α β:Type)(f:α->β)(a:α)(l:List α),(a::l).map f=f a::l.map f)/\(∀(α β:Type)(f:α->β),([]:List α).map f=[])/\(∀(α β:Type)(f:α->β)(a:α),(some a).map f=some (f a))/\(∀(α β:Type)(f:α->β),(none:Option α).map f=none)/\
    (∀n:Nat,0+n=n)/\(∀n:Nat,n+0=n)/\(∀p:Prop,(p/\p)=p)/\(∀p:Prop,(p/\True)=p)/\(∀p:Prop,(True/\p)=p)/\((!true)=false)/\((!false)=true)/\
    (∀(α:Type)(a:α)(l m:List α),(a::l)++m=a::(l++m))/\(∀(α:Type)(l:List α),[]++l=l)/\(∀(α:Type)(l:List α),l++[]=l):=
 ⟨λ_=>rfl,λ_=>rfl,λ_=>rfl,λ_ _ _ _ _=>rfl,λ_ _ _=>rfl,λ_ _ _ _=>rfl,λ_ _ _=>rfl,bS,oE,and_self,and_true,true_and,rfl,rfl,λ_ _ _ _=>rfl,λ_ _=>rfl,λ_ l=>fp l⟩
theorem zz(p:Prop):(p/\p)=p:=and_self p
theorem b7:(∀(H:Hp)(b x:Nat)(cs:List AV),ap H b cs x=if x=b then some cs else H x)/\(∀(H:Hp)(b x:Nat),cW H b x=if x=b then none else H x):=⟨λ_ _ _ _=>rfl,λ_ _ _=>rfl⟩
theorem cz:(∀(H:Hp)(b:Nat)(cs:List AV),ap H b cs b=some cs)/\(∀(H:Hp)(b x:Nat)(cs:List AV),x≠b->ap H b cs x=H x)/\(∀(H:Hp)(b:Nat),cW H b b=none)/\(∀(H:Hp)(b x:Nat),x≠b->cW H b x=H x)/\(∀a b c:Nat,a+b+c=a+(b+c)):=
 ⟨λ_ _ _=>ae,λ_ _ _ _ h=>ac h,λ_ _=>gX,λ_ _ _ h=>b9 h,pu⟩
theorem ZA:((∀ l:List Int,(aE l).cells=[aE l])∧(∀ l:List (List Int),(bi l).cells=[bi l])∧(∀ x:Nat,bF x=none) ∧
    (∀(α β:Type)(f:α->β)(a:α)(l:List α),(a::l).map f=f a::l.map f)/\(∀(α β:Type)(f:α->β),([]:List α).map f=[])/\(∀(α β:Type)(f:α->β)(a:α),(some a).map f=some (f a))/\(∀(α β:Type)(f:α->β),(none:Option α).map f=none)/\
    (∀n:Nat,0+n=n)/\(∀n:Nat,n+0=n)/\(∀p:Prop,(p/\p)=p)/\(∀p:Prop,(p/\True)=p)/\(∀p:Prop,(True/\p)=p)/\((!true)=false)/\((!false)=true)/\
    (∀(α:Type)(a:α)(l m:List α),(a::l)++m=a::(l++m))/\(∀(α:Type)(l:List α),[]++l=l)/\(∀(α:Type)(l:List α),l++[]=l))/\
    ((∀ (T:Tm) (n:Nat),ov T (.t n)=T n)∧(∀ (T:Tm) (v:AV),ov T (.c v)=v)∧(∀ (T:Tm) (d t:Nat) (v:AV),upd T d v t=if t=d then v else T t)∧(∀ (T:Tm) (d:Nat) (v:AV),aU T (some d) v=upd T d v) ∧
    (∀(T:Tm)(v:AV),aU T none v=T)/\(∀(x:AV)(l:List AV),T0 (x::l) 0=x)/\(∀(x:AV)(l:List AV)(n:Nat),T0 (x::l) (n+1)=T0 l n)/\(∀n:Nat,T0 [] n=.undef)/\
    (∀(d t:Nat)(v:AV)(l:List (Nat×AV)),tl ((d,v)::l) t=if t=d then v else tl l t)/\(∀t:Nat,tl [] t=.undef)/\
    (∀(T:Tm)(t:Nat)(ts:List Nat)(x:AV)(xs:List AV),kM T (t::ts) (x::xs)=kM (upd T t x) ts xs)/\(∀(T:Tm)(xs:List AV),kM T [] xs=T))/\
    ((∀ (T:Tm) (H:Hp) (x:Opd),b5 T H (.mov x)=some (ov T x)) ∧
    (∀(T:Tm)(H:Hp)(c a b:Opd),b5 T H (.pick c a b)=match ov T c with|.bool t=>some (if t=true then ov T a else ov T b)|_=>none)/\
    (∀(T:Tm)(H:Hp)(a:Opd),b5 T H (.ld1 a)=rd1 H (ov T a))/\(∀(T:Tm)(H:Hp)(k:Nat)(a:Opd),b5 T H (.ldn k a)=(rd H k (ov T a)).map .agg)/\
    (∀(T:Tm)(H:Hp)(op:BinOp)(tb tf:Bool)(x y:Opd),b5 T H (.bin op tb tf x y)=bo op tb tf (ov T x) (ov T y))/\
    (∀(T:Tm)(H:Hp)(op:UnOp)(x:Opd),b5 T H (.un op x)=aun op (ov T x))/\
    (∀(T:Tm)(H:Hp)(f:FuncId)(caps:List Opd),b5 T H (.mkfn f caps)=some (.func f (caps.map (ov T))))/\
    (∀(T:Tm)(H:Hp)(k:Nat)(p:Opd),b5 T H (.fa k p)=lD k (ov T p))/\
    (∀(T:Tm)(H:Hp)(sz:Nat)(x i:Opd),b5 T H (.ixaS sz x i)=eG sz (ov T x) (ov T i))/\
    (∀(T:Tm)(H:Hp)(x:Opd)(i:Nat),b5 T H (.ext x i)=iu (ov T x) i)/\
    (∀(T:Tm)(H:Hp)(x:Opd),b5 T H (.lenS x)=dy (ov T x))/\
    (∀(T:Tm)(H:Hp)(z:List AV)(parts:List (Nat×Nat×Opd)),b5 T H (.bld z parts)=(ew z (parts.map λp=>(p.1,p.2.1,ov T p.2.2))).map .agg)/\
    (∀(T:Tm)(H:Hp)(x:Opd)(l:List Opd),b5 T H (.mx x l)=hU pm (ov T x) (l.map (ov T)))/\
    (∀(T:Tm)(H:Hp)(x:Opd)(l:List Opd),b5 T H (.mn x l)=hU pi (ov T x) (l.map (ov T)))/\
    (∀(T:Tm)(H:Hp)(k:IntKind)(x:Opd),b5 T H (.conv k x)=uz (ov T x) λn=>some (.int k (k.wrap n)))/\
    (∀(T:Tm)(H:Hp)(sz:Nat)(x:Opd)(lo hi mx:Option Opd),b5 T H (.sls sz x lo hi mx)=jO sz (ov T x) (lo.map (ov T)) (hi.map (ov T)) (mx.map (ov T)))/\
    (∀(T:Tm)(H:Hp)(off:Nat)(x:Opd),b5 T H (.part1 off x)=gG (ov T x) λcs=>cs[off]?)/\
    (∀(T:Tm)(H:Hp)(op:BinOp)(ks:List TK)(x y:Opd),b5 T H (.binS op ks x y)=gG (ov T x) λxs=>gG (ov T y) λys=>oA op ks xs ys))/\
    ((∀ (T:Tm) (H:Hp) (x i:Opd),b5 T H (.ixStr x i)=nU (ov T x) (ov T i)) ∧
    (∀(s:ByteArray)(k:IntKind)(n:Int),nU (.str s) (.int k n)=if 0<=n/\n<s.size then some (.int .u8 (s[n.toNat]?.getD 0).toNat) else none))/\
    ((∀ (k:IntKind) (a b:Int) (tb tf:Bool),bo .lss tb tf (.int k a) (.int k b)=some (.bool (decide (a < b))))∧(∀ (k:IntKind) (a b:Int) (tb tf:Bool),bo .leq tb tf (.int k a) (.int k b)=some (.bool (decide (a ≤ b)))) ∧
    (∀(k:IntKind)(a b:Int)(tb tf:Bool),bo .gtr tb tf (.int k a) (.int k b)=some (.bool (decide (b<a))))/\(∀(k:IntKind)(a b:Int)(tb tf:Bool),bo .geq tb tf (.int k a) (.int k b)=some (.bool (decide (b<=a))))/\
    (∀(k:IntKind)(a b:Int)(tb tf:Bool),bo .eql tb tf (.int k a) (.int k b)=some (.bool (decide (a=b))))/\(∀(k:IntKind)(a b:Int)(tb tf:Bool),bo .neq tb tf (.int k a) (.int k b)=some (.bool (decide (a≠b))))/\
    (∀(k:IntKind)(a b:Int)(tb tf:Bool),bo .add tb tf (.int k a) (.int k b)=some (.int k (k.wrap (a+b))))/\(∀(k:IntKind)(a b:Int)(tb tf:Bool),bo .sub tb tf (.int k a) (.int k b)=some (.int k (k.wrap (a-b))))/\
    (∀(k:IntKind)(a b:Int)(tb tf:Bool),bo .mul tb tf (.int k a) (.int k b)=some (.int k (k.wrap (a*b))))/\
    (∀(a b:Bool)(tf:Bool),bo .eql true tf (.bool a) (.bool b)=some (.bool (a==b)))/\(∀(a b:Bool)(tf:Bool),bo .neq true tf (.bool a) (.bool b)=some (.bool (!(a==b))))/\
    (∀tb:Bool,bo .eql tb true .nilf .nilf=some (.bool true))/\(∀tb:Bool,bo .neq tb true .nilf .nilf=some (.bool false))/\
    (∀(tb:Bool)(f:FuncId)(c:List AV),bo .eql tb true (.func f c) .nilf=some (.bool false))/\(∀(tb:Bool)(f:FuncId)(c:List AV),bo .neq tb true (.func f c) .nilf=some (.bool true))/\
    (∀b:Bool,aun .not (.bool b)=some (.bool (!b)))/\
    (∀(k:IntKind)(a b:Int),pm (.int k a) (.int k b)=some (.int k (max a b)))/\(∀(k:IntKind)(a b:Int),pi (.int k a) (.int k b)=some (.int k (min a b)))/\
    (∀(f:AV->AV->Option AV)(x:AV),hU f x []=some x)/\(∀(f:AV->AV->Option AV)(x y:AV)(l:List AV),hU f x (y::l)=match f x y with|some z=>hU f z l|none=>none)/\
    (∀(k:Nat)(b n off:Nat),lD k (.ptr b n off)=some (.ptr b n (off+k)))/\(∀(k:Nat)(cs:List AV)(off:Nat),lD k (.iptr cs off)=some (.iptr cs (off+k)))/\
    (∀(cs:List AV)(off:Nat),rd1 bF (.iptr cs off)=cs[off]?))/\
    ((∀ (H:Hp) (b n off:Nat),rd1 H (.ptr b n off)=match H b with | some cs=>if cs.length=n then cs[off]? else none | none=>none) ∧
    (∀(H:Hp)(k b n off:Nat),rd H k (.ptr b n off)=match H b with|some cs=>if cs.length=n/\off+k<=n then some ((cs.drop off).take k) else none|none=>none)/\
    (∀(H:Hp)(cs:List AV)(off:Nat),rd1 H (.iptr cs off)=cs[off]?)/\(∀(H:Hp)(cs:List AV)(off k:Nat),rd H k (.iptr cs off)=if off+k<=cs.length then some ((cs.drop off).take k) else none)/\
    (∀(l:List AV)(i:Nat),iu (.tup l) i=l[i]?)/\(∀(l:List AV)(f:List AV->Option AV),gG (.agg l) f=f l)/\(∀(k:IntKind)(n:Int)(f:Int->Option AV),uz (.int k n) f=f n)/\
    (∀(cs:List AV),ew cs []=some cs)/\
    (∀(cs:List AV)(off sz:Nat)(x:AV)(r:List (Nat×Nat×AV)),ew cs ((off,sz,x)::r)=if AV.ones x.cells=true/\x.cells.length=sz/\off+sz<=cs.length then ew (br cs off x.cells) r else none)/\
    (∀(b n sz off len:Nat),dy (.msl b n sz off len)=some (.int .i64 len))/\(dy .esl=some (.int .i64 0))/\(∀(sz:Nat)(l:List AV),dy (.sl sz l)=some (.int .i64 l.length))/\
    (∀(z:AV),bD z 0=[])/\(∀(z:AV)(n:Nat),bD z (n+1)=z.cells++bD z n))/\
    ((∀ (a:AV) (l:List AV),(a :: l)[0]?=some a)∧(∀ (a:AV) (l:List AV) (n:Nat),(a :: l)[n + 1]?=l[n]?)∧(∀ (l:List AV),l.drop 0=l)∧(∀ (a:AV) (l:List AV) (n:Nat),(a :: l).drop (n + 1)=l.drop n)∧(∀ n:Nat,([]:List AV).drop n=[]) ∧
    (∀(l:List AV),l.take 0=[])/\(∀(a:AV)(l:List AV)(n:Nat),(a::l).take (n+1)=a::l.take n)/\(∀n:Nat,([]:List AV).take n=[])/\(∀(l:List AV),[]++l=l)/\(∀(l:List AV),l++[]=l)/\(∀(a:AV)(l m:List AV),(a::l)++m=a::(l++m))/\
    (∀(cs:List AV)(off:Nat)(new:List AV),br cs off new=cs.take off++new++cs.drop (off+new.length))/\(([]:List AV).length=0)/\(∀(a:AV)(l:List AV),(a::l).length=l.length+1)/\
    (∀(k:IntKind)(n:Int),(AV.int k n).cells=[.int k n])/\(∀b:Bool,(AV.bool b).cells=[.bool b])/\(∀s:ByteArray,(AV.str s).cells=[.str s])/\(∀(k:Nat)(l:List AV),(AV.sl k l).cells=[.sl k l])/\(∀l:List AV,(AV.agg l).cells=l)/\(AV.esl.cells=[.esl])/\(AV.nilf.cells=[.nilf])/\
    (∀(f:FuncId)(c:List AV),(AV.func f c).cells=[.func f c])/\(∀(b n off:Nat),(AV.ptr b n off).cells=[.ptr b n off])/\(∀(c:List AV)(off:Nat),(AV.iptr c off).cells=[.iptr c off])/\(∀(b n sz off len:Nat),(AV.msl b n sz off len).cells=[.msl b n sz off len])/\(∀b:Nat,(AV.yld b).cells=[.yld b])/\(∀b:Nat,(AV.mp b).cells=[.mp b])/\(AV.nilp.cells=[.nilp])/\(∀(f:FuncId)(c:List AV),(AV.bfn f c).cells=[.bfn f c]))/\
    ((∀(b:Bool)(x y:AV),(match (AV.bool b:AV) with|.bool t=>some (if t=true then x else y)|_=>none)=some (if b=true then x else y))):=
 ⟨Nu,SA,SV,SV2,SN,SR,SL,λ_ _ _=>rfl⟩
theorem ZV:((AV.ones []=true)∧(∀ (a:AV) (l:List AV),AV.ones (a :: l)=(a.one && AV.ones l))∧(∀ (k:IntKind) (n:Int),(AV.int k n).one=true)∧(∀ b:Bool,(AV.bool b).one=true)∧(∀ s:ByteArray,(AV.str s).one=true)∧(∀ (k:Nat) (l:List AV),(AV.sl k l).one=true)∧(AV.esl.one=true)∧(AV.nilf.one=true) ∧
    (∀(f:FuncId)(c:List AV),(AV.func f c).one=true)/\(∀(b n off:Nat),(AV.ptr b n off).one=true)/\(∀(c:List AV)(off:Nat),(AV.iptr c off).one=true)/\(∀(b n sz off len:Nat),(AV.msl b n sz off len).one=true)/\(∀b:Nat,(AV.yld b).one=true)/\(∀b:Nat,(AV.mp b).one=true)/\(AV.nilp.one=true)/\(∀l:List AV,l.all AV.one=AV.ones l))/\(∀l:List Int,(aE l).one=true)/\(∀l:List (List Int),(bi l).one=true)/\(∀b:Bool,(b&&b)=b)/\((false=true)=False)/\(∀a:Int,-9223372036854775808<=a->a<=9223372036854775807->IntKind.wrap .i64 a=a)/\
    (∀(l:List Int)(k:IntKind)(n:Int),eG 1 (aE l) (.int k n)=if 0<=n/\n<l.length then some (.iptr [.int .i64 (l.getD n.toNat default)] 0) else none)/\(∀(l:List (List Int))(k:IntKind)(n:Int),eG 1 (bi l) (.int k n)=if 0<=n/\n<l.length then some (.iptr [aE (l.getD n.toNat default)] 0) else none)/\
    (∀l:List Int,dy (aE l)=some (.int .i64 l.length))/\(∀l:List (List Int),dy (bi l)=some (.int .i64 l.length))/\(∀n:Nat,(n:Int).toNat=n)/\(∀(α β:Type)(f:α->β)(l:List α),(l.map f).length=l.length)/\
    (∀(sz b m off len:Nat)(k:IntKind)(n:Int),eG sz (.msl b m sz off len) (.int k n)=if 0<=n/\n<len then some (.ptr b m (off+n.toNat*sz)) else none)/\(∀(α:Type)(_:Inhabited α)(f:α->AV)(l:List α)(k:Nat),k<l.length->(l.map f)[k]?=some (f (l.getD k default)))/\(∀n:Nat,n*1=n):=
 ⟨SO,λ_=>rfl,λ_=>rfl,Bool.and_self,jz,λ_=>tu,λ_ _ _=>mQ,λ_ _ _=>oa,λ_=>ua,λ_=>qK,bN,λ_ _ _ _=>bk _,λ_ _ _ _ _ _ _=>FU,λ_ _ _ _ _ h=>getElem?_map_lt h,Nat.mul_one⟩
theorem ZG:((∀ (T:Tm) (n:Nat),ov T (.t n)=T n)∧(∀ (T:Tm) (v:AV),ov T (.c v)=v)∧(∀ (T:Tm) (d t:Nat) (v:AV),upd T d v t=if t=d then v else T t)∧(∀ (T:Tm) (d:Nat) (v:AV),aU T (some d) v=upd T d v) ∧
    (∀(T:Tm)(v:AV),aU T none v=T)/\(∀(x:AV)(l:List AV),T0 (x::l) 0=x)/\(∀(x:AV)(l:List AV)(n:Nat),T0 (x::l) (n+1)=T0 l n)/\(∀n:Nat,T0 [] n=.undef)/\
    (∀(d t:Nat)(v:AV)(l:List (Nat×AV)),tl ((d,v)::l) t=if t=d then v else tl l t)/\(∀t:Nat,tl [] t=.undef)/\
    (∀(T:Tm)(t:Nat)(ts:List Nat)(x:AV)(xs:List AV),kM T (t::ts) (x::xs)=kM (upd T t x) ts xs)/\(∀(T:Tm)(xs:List AV),kM T [] xs=T))/\(∀a:Int,-9223372036854775808<=a->a<=9223372036854775807->IntKind.wrap .i64 a=a)/\(∀a b:Nat,((a+b:Nat):Int)=(a:Int)+(b:Int))/\(((1:Nat):Int)=1)/\(((0:Nat):Int)=0)/\(∀p:Prop,(p/\True)=p)/\(∀p:Prop,(p/\p)=p):=
 ⟨SA,λ_=>tu,Int.natCast_add,rfl,rfl,and_true,and_self⟩
theorem Ca{P:Program}{b:C2}{T:Tm}{H:Hp}{nx:Nat}{K:CP}(L:Nat->List (Nat×AV))(n:Nat)(p:Nat->Prop)(hT:agr T (L 0))
    (step:∀k,k<=n->(∀i,i<k->p i)->aM P b (tl (L k)) H nx λe T H' nx'=>aR e (k<n/\p k/\agr T (L (k+1))/\H'=H/\nx'=nx) (K e T H' nx')):aY (aM P b) T H nx K:=by
 refine lC (X:=Nat) L (λk=>k<=n/\∀i,i<k->p i) (λk=>n-k) 0 ⟨bz _,λi h=>(by omega)⟩ hT ?_;rintro k ⟨h1,h2⟩;refine d7 b (step k h1 h2) (λe T H' nx' h=>?_);cases e with
 |normal=>
  obtain⟨g1,g2,g3,g4,g5⟩:=h;refine⟨k+1,⟨by omega,λi hi=>?_⟩,by omega,g3,g4,g5⟩;rcases jf.1 hi with h|rfl
  ·exact h2 i h
  ·exact g2
 |exit i=>exact h
 |ret=>exact h
theorem kr{α:Type}[Inhabited α]{l:List α}{p:α->Bool}(h:∀i,i<l.length->p (l.getD i default)=true):l.all p=true:=by
 rw[eF];intro x hx;obtain⟨i,hi,e⟩:=jW hx;have:=h i hi
 rwa [show l.getD i default=x by simp[List.getD,hi,e]] at this
theorem iZ{α:Type}[Inhabited α]{l:List α}{p:α->Bool}{k:Nat}(hk:k<l.length)(h:p (l.getD k default)=false):l.all p=false:=by
 rw[Bool.eq_false_iff,ne_eq,eF];intro hh;have:=hh _ (aP hk);rw[h] at this;cases this
theorem qx{α:Type}[Inhabited α]{l:List α}{p:α->Bool}(h:∀i,i<l.length->p (l.getD i default)=false):l.any p=false:=by
 rw[List.any_eq_false];intro x hx;obtain⟨i,hi,e⟩:=jW hx;have:=h i hi;rw[show l.getD i default=x by simp[List.getD,hi,e]] at this;simp[this]
theorem ET{α:Type}[Inhabited α][DecidableEq α]{l:List α}{v:α}{k:Nat}(hk:k<l.length)(h:l.getD k default=v):decide (v∈l)=true:=by
 rw[xo,<-h];exact aP hk
theorem C9{α:Type}[Inhabited α][DecidableEq α]{l:List α}{v:α}(h:∀i,i<l.length->l.getD i default≠v):decide (v∈l)=false:=by
 rw[decide_eq_false_iff_not];intro hm;obtain⟨i,hi,e⟩:=jW hm;exact h i hi (by simp[List.getD,hi,e])
def iS{α:Type}(sz:Nat)(f:α->AV)(l:List α):AV:=.sl sz (l.map f)
theorem Hk(l:List (List Int)):bi l=iS 1 aE l:=rfl
section
variable{α:Type}{sz:Nat}{f:α->AV}{l:List α}
theorem rW (h:∀ x ∈ l,∀ c ∈ (f x).cells,Dat c):Dat (iS sz f l):=Dat.sl (fun x hx c hc=>by
 obtain⟨y,hy,rfl⟩:=bJ.1 hx;exact h y hy c hc)
theorem DN (hc:∀ x,(f x).cells=[f x]) (h:∀ x,Dat (f x)):Dat (iS sz f l):=rW (fun x _ c hx=>by
 rw[hc,c6] at hx;subst hx;exact h x)
theorem mO[Inhabited α]{k:IntKind}{n:Int}:eG sz (iS sz f l) (.int k n)=if 0<=n/\n<l.length then some (.iptr (f (l.getD n.toNat default)).cells 0) else none:=sd
theorem lg:dy (iS sz f l)=some (.int .i64 l.length):=qh
theorem xm{k:Nat}(h:k<=l.length):jO sz (iS sz f l) none (some (.int .i64 k)) none=some (iS sz f (l.take k)):=by
 simp[jO,bO,iS,h]
theorem kO{k:Nat}(h:k<=l.length):jO sz (iS sz f l) (some (.int .i64 k)) none none=some (iS sz f (l.drop k)):=by
 simp[jO,bO,iS,h];rw[fI (by simp)]
theorem Row.snapL'{H:Hp}{s:AV}(h:Row H 1 s (l.map f))(hc:∀x,(f x).cells=[f x])(hd:∀x∈l,Dat (f x)):Snap H s (iS 1 f l):=by
 refine Row.snap (elems:=l.map f) (by rw[jR hc];exact h) (λy hy=>?_) jb (λy hy c hx=>?_)
 ·obtain⟨n,_,rfl⟩:=bJ.1 hy;rw[hc];rfl
 ·obtain⟨n,hn,rfl⟩:=bJ.1 hy;rw[hc,c6] at hx;subst hx;exact hd n hn
end
theorem ff{a:Int}(h1:0<=a)(h2:a<18446744073709551616):IntKind.wrap .u64 a=a:=by
 simp only[IntKind.wrap,IntKind.bits,IntKind.signed];simp;omega
theorem tG{a:Int}:IntKind.wrap .u8 a=a%256:=by
 simp only[IntKind.wrap,IntKind.bits,IntKind.signed];simp
theorem wA{k:IntKind}{a b:Nat}{tb tf:Bool}{k':IntKind}(hb:b<=k.bits):bo .shr tb tf (.int k a) (.int k' b)=some (.int k ((a/2^b:Nat):Int)):=by
 have h:¬((b:Int)<0):=by omega
 simp only[bo,qa,h,if_false,or_true,if_true,bN,Nat.min_eq_left hb]
 congr 2
 rw[Int.fdiv_eq_ediv_of_nonneg _ (Int.le_of_lt (Int.pow_pos (by omega)))];simp
theorem BG{k:IntKind}{a b:Nat}{tb tf:Bool}{k':IntKind}(hb:b<=k.bits)(h:a*2^b<2^(k.bits-1)):bo .shl tb tf (.int k a) (.int k' b)=some (.int k ((a*2^b:Nat):Int)):=by
 have h0:¬((b:Int)<0):=by omega
 simp only[bo,qa,h0,if_false,true_or,if_true,bN,Nat.min_eq_left hb]
 congr 2
 have e:(a:Int)*2^b=((a*2^b:Nat):Int):=by simp
 rw[e];generalize a*2^b=c at h;cases k<;>(simp only[IntKind.bits,IntKind.wrap,IntKind.signed] at h |-;simp at h |-;omega)
theorem Bp{k:IntKind}{a b:Int}{tb tf:Bool}(ha:0<=a)(hb:0<b):bo .rem tb tf (.int k a) (.int k b)=some (.int k (a%b)):=by
 show(if (k=k) then fe .rem k a b else none)=_;rw[if_pos rfl];simp only[fe,if_neg (show ¬b=0 by omega),Int.tmod_eq_emod_of_nonneg ha]
theorem iQ{a b:Int}{tb tf:Bool}(ha:0<=a)(h2:a<=9223372036854775807)(hb:0<b):bo .quo tb tf (.int .i64 a) (.int .i64 b)=some (.int .i64 (a/b)):=by
 show(if (IntKind.i64=IntKind.i64) then fe .quo .i64 a b else none)=_;rw[if_pos rfl];have h3:0<=a/b:=Int.ediv_nonneg ha (by omega);have h4:a/b<=a:=Int.ediv_le_self _ ha;simp only[fe,if_neg (show ¬b=0 by omega),Int.tdiv_eq_ediv_of_nonneg ha];rw[tu (by omega) (by omega)]
theorem aO{P:Program}{T:Tm}{H:Hp}{nx:Nat}{K:SP}{l:List Op2}{d:Option Nat}{f:Opd}{args:List Opd}{g:FuncId}{caps xs:List AV}{R:AV->Hp->Nat->Prop}(hf:ov T f=.func g caps)(ha:args.map (ov T)++caps=xs)(hc:Fn P g xs H nx R)
    (k:∀r H' nx',R r H' nx'->ak P .text l (aU T d r) H' nx' K):ak P .text (⟨d,none,.call f args⟩::l) T H nx K:=by
 subst ha;exact AS hf (Fn.mono hc k)
def KY(l:List UInt8):AV:=.str ⟨l.toArray⟩
theorem FB(l:List UInt8):Dat (KY l):=.str
instance datI_encS{l:List UInt8}:DatI (KY l):=⟨FB l⟩
end Go.Abs
namespace Go.Abs
open Go.RowKit
variable{P:Program}{T:Tm}{H:Hp}{nx:Nat}
theorem aI{a b:Prop}(x:a)(y:b):a/\b:=⟨x,y⟩
theorem ev0{α:Type}{a b:α}(h:a=b:=by(try simp only[b7,ZA,Nat.reduceEqDiff,↓reduceIte,Nat.reduceAdd,Nat.reduceLeDiff]);(try with_reducible rfl);first|done|fail):a=b:=h
theorem evZ{α:Type}{a b:α}(h:a=b:=by(try simp only[b7,ZA,Nat.reduceEqDiff,↓reduceIte,Nat.reduceAdd,Nat.reduceLeDiff,zz]);(try with_reducible rfl);first|done|fail):a=b:=h
theorem evY{α:Type}{a b:α}(h:a=b:=by(try simp (disch:=omega) only[cz,ZA,Nat.reduceEqDiff,↓reduceIte,Nat.reduceAdd,Nat.reduceLeDiff,zz]);(try with_reducible rfl);first|done|fail):a=b:=h
theorem ag0{T:Tm}{l:List (Nat×AV)}(h:agr T l:=by simp (disch:=omega) only[agr,ZG,Nat.reduceEqDiff,↓reduceIte];first|done|fail):agr T l:=h
theorem agZ{T:Tm}{l:List (Nat×AV)}(h:agr T l:=by simp (disch:=omega) only[agr,ZG,Nat.reduceEqDiff,↓reduceIte,zz];first|done|fail):agr T l:=h
theorem vZ{dm:DM}{K:SP}{l:List Op2}{d:Option Nat}{i:Ins}{r:AV}(k:ak P dm l (aU T d r) H nx K)(hi:ic i=.val:=by rfl)(hd:dm2 dm T i=true:=by rfl)(h:b5 T H i=some r:=by(try simp (disch:=omega) only[b7,ZA,Nat.reduceEqDiff,↓reduceIte,Nat.reduceAdd,Nat.reduceLeDiff,ZV,reduceCtorEq,zz]);first|with_reducible rfl|(apply BF;(focus omega);with_reducible rfl)):ak P dm (⟨d,none,i⟩::l) T H nx K:=nG hi hd h k
theorem nvZ{S:Hp}{K:SP}{l:List (Op2×Nat)}{d:Option Nat}{i:Ins}{r:AV}(k:bf P S l (aU T d r) H nx K)(h:b5 T S i=some r:=by(try simp (disch:=omega) only[b7,ZA,Nat.reduceEqDiff,↓reduceIte,Nat.reduceAdd,Nat.reduceLeDiff,ZV,reduceCtorEq,zz]);first|with_reducible rfl|(apply BF;(focus omega);with_reducible rfl)):bf P S ((⟨d,none,i⟩,0)::l) T H nx K:=Ik h k
theorem cZ{dm:DM}{K:SP}{l:List Op2}{d:Option Nat}{f:Opd}{args:List Opd}{g:FuncId}{caps xs:List AV}{r:AV}(k:ak P dm l (aU T d r) H nx K)(hf:ov T f=.func g caps:=by(try simp only[b7,ZA,Nat.reduceEqDiff,↓reduceIte,Nat.reduceAdd,Nat.reduceLeDiff,zz]);(try with_reducible rfl);first|done|fail)(ha:args.map (ov T)++caps=xs:=by(try simp only[b7,ZA,Nat.reduceEqDiff,↓reduceIte,Nat.reduceAdd,Nat.reduceLeDiff,zz]);(try with_reducible rfl);first|done|fail)(hp:Pure P g xs r)(hs:ar H xs xs r:=by(first|refine aJ ?_ rfl|apply a7);(repeat' (first|exact an|apply bw|(apply a9;(focus with_reducible assumption))));first|done|fail):ak P dm (⟨d,none,.call f args⟩::l) T H nx K:=B5 hf ha hp hs k
theorem alZ{dm:DM}{K:SP}{l:List Op2}{d:Option Nat}{z:AV}{cs:List AV}(k:ak P dm l (aU T d (.ptr nx cs.length 0)) (ap H nx cs) (nx+1) K)(hd:dm2 dm T (.alloc z)=true:=by rfl)(hc:z.cells=cs:=by(try simp only[b7,ZA,Nat.reduceEqDiff,↓reduceIte,Nat.reduceAdd,Nat.reduceLeDiff,zz]);(try with_reducible rfl);first|done|fail)(ho:AV.ones cs=true:=by simp only[SO,Bool.and_self,eV,d8,zz];first|done|fail):ak P dm (⟨d,none,.alloc z⟩::l) T H nx K:=rC hd hc ho k
theorem bxZ{dm:DM}{K:SP}{l:List Op2}{d:Option Nat}{x:Opd}{v:AV}{cs:List AV}(k:ak P dm l (aU T d (.ptr nx cs.length 0)) (ap H nx cs) (nx+1) K)(hd:dm2 dm T (.box x)=true:=by rfl)(hx:ov T x=v:=by(try simp only[b7,ZA,Nat.reduceEqDiff,↓reduceIte,Nat.reduceAdd,Nat.reduceLeDiff,zz]);(try with_reducible rfl);first|done|fail)(hc:v.cells=cs:=by(try simp only[b7,ZA,Nat.reduceEqDiff,↓reduceIte,Nat.reduceAdd,Nat.reduceLeDiff,zz]);(try with_reducible rfl);first|done|fail)(ho:AV.ones cs=true:=by simp only[SO,Bool.and_self,eV,d8,zz];first|done|fail):ak P dm (⟨d,none,.box x⟩::l) T H nx K:=Ii hd hx hc ho k
theorem stZ{dm:DM}{K:SP}{l:List Op2}{d:Option Nat}{sz:Nat}{p x:Opd}{b n off:Nat}{v:AV}{cs vs:List AV}(k:ak P dm l (aU T d (.tup [])) (ap H b (br cs off vs)) nx K)(hd:dm2 dm T (.st sz p x)=true:=by rfl)(hp:ov T p=.ptr b n off:=by(try simp only[b7,ZA,Nat.reduceEqDiff,↓reduceIte,Nat.reduceAdd,Nat.reduceLeDiff,zz]);(try with_reducible rfl);first|done|fail)(hx:ov T x=v:=by(try simp only[b7,ZA,Nat.reduceEqDiff,↓reduceIte,Nat.reduceAdd,Nat.reduceLeDiff,zz]);(try with_reducible rfl);first|done|fail)(hb:H b=some cs:=by(try simp only[b7,ZA,Nat.reduceEqDiff,↓reduceIte,Nat.reduceAdd,Nat.reduceLeDiff,zz]);(try with_reducible rfl);first|done|fail)(hc:v.cells=vs:=by(try simp only[b7,ZA,Nat.reduceEqDiff,↓reduceIte,Nat.reduceAdd,Nat.reduceLeDiff,zz]);(try with_reducible rfl);first|done|fail)(ho:AV.ones vs=true:=by simp only[SO,Bool.and_self,eV,d8,zz];first|done|fail)(hn:cs.length=n:=by(try simp only[SL,Nat.reduceAdd,Nat.reduceMul,bk]);first|done|omega)(hl:vs.length=sz:=by(try simp only[SL,Nat.reduceAdd,Nat.reduceMul,bk]);first|done|omega)(hf:off+sz<=n:=by(try simp only[SL,Nat.reduceAdd,Nat.reduceMul,bk]);first|done|omega):ak P dm (⟨d,none,.st sz p x⟩::l) T H nx K:=Jy hd hp hx hb hc ho hn hl hf k
theorem blZ{dm:DM}{K:SP}{l:List Op2}{d:Option Nat}{sz len:Nat}{z:List AV}{parts:List (Nat×Nat×Opd)}{pv:List (Nat×Nat×AV)}{cs:List AV}(k:ak P dm l (aU T d (.msl nx cs.length sz 0 len)) (ap H nx cs) (nx+1) K)(hd:dm2 dm T (.bldS sz len z parts)=true:=by rfl)(hl:len≠0:=by exact Nat.succ_ne_zero _)(hp:parts.map (λp=>(p.1,p.2.1,ov T p.2.2))=pv:=by(try simp only[b7,ZA,Nat.reduceEqDiff,↓reduceIte,Nat.reduceAdd,Nat.reduceLeDiff,zz]);(try with_reducible rfl);first|done|fail)(hc:ew (bD (.agg z) len) pv=some cs:=by(try simp only[b7,ZA,Nat.reduceEqDiff,↓reduceIte,Nat.reduceAdd,Nat.reduceLeDiff,SO,Bool.and_self,eV,d8,zz]);(try with_reducible rfl);first|done|fail):ak P dm (⟨d,none,.bldS sz len z parts⟩::l) T H nx K:=H9 hd hl hp hc k
theorem b0Z{dm:DM}{K:SP}{l:List Op2}{d:Option Nat}{sz:Nat}{z:List AV}(k:ak P dm l (aU T d .esl) H nx K)(hd:dm2 dm T (.bldS sz 0 z [])=true:=by rfl):ak P dm (⟨d,none,.bldS sz 0 z []⟩::l) T H nx K:=ED hd k
theorem a0Z{dm:DM}{K:SP}{l:List Op2}{d:Option Nat}{sz bytes n:Nat}{s x:Opd}{v:AV}{new:List AV}(k:ak P dm l (aU T d (.msl nx (n*sz) sz 0 n)) (ap H nx new) (nx+1) K)(hd:dm2 dm T (.app sz bytes s x)=true:=by rfl)(hs:ov T s=.esl:=by(try simp only[b7,ZA,Nat.reduceEqDiff,↓reduceIte,Nat.reduceAdd,Nat.reduceLeDiff,zz]);(try with_reducible rfl);first|done|fail)(hx:ov T x=v:=by(try simp only[b7,ZA,Nat.reduceEqDiff,↓reduceIte,Nat.reduceAdd,Nat.reduceLeDiff,zz]);(try with_reducible rfl);first|done|fail)(hsrc:fX sz H v=some (n,new):=by first|exact gd|exact fW|exact oO|(apply eT;(focus ((try simp only[b7,ZA,Nat.reduceEqDiff,↓reduceIte,Nat.reduceAdd,Nat.reduceLeDiff,zz]);(try with_reducible rfl);first|done|fail));(iterate 2 (focus ((try simp only[SL,Nat.reduceAdd,Nat.reduceMul,bk]);first|done|omega))))|exact jB)(ho:AV.ones new=true:=by first|exact im|exact f8|(simp only[SO,Bool.and_self,eV,d8,zz];first|done|fail))(h1:n*bytes<=140737488355328:=by(try simp only[SL,Nat.reduceAdd,Nat.reduceMul,bk]);first|done|omega)(h2:n<=9223372036854775807:=by(try simp only[SL,Nat.reduceAdd,Nat.reduceMul,bk]);first|done|omega):ak P dm (⟨d,none,.app sz bytes s x⟩::l) T H nx K:=gK hd hs hx hsrc ho h1 h2 k
theorem apZ{dm:DM}{K:SP}{l:List Op2}{d:Option Nat}{sz bytes n:Nat}{s x:Opd}{v:AV}{new cs:List AV}{b m len:Nat}(k:ak P dm l (aU T d (.msl b ((len+n)*sz) sz 0 (len+n))) (ap H b (cs++new)) nx K)(hd:dm2 dm T (.app sz bytes s x)=true:=by rfl)(hs:ov T s=.msl b m sz 0 len:=by(try simp only[b7,ZA,Nat.reduceEqDiff,↓reduceIte,Nat.reduceAdd,Nat.reduceLeDiff,zz]);(try with_reducible rfl);first|done|fail)(hb:H b=some cs:=by(try simp only[b7,ZA,Nat.reduceEqDiff,↓reduceIte,Nat.reduceAdd,Nat.reduceLeDiff,zz]);(try with_reducible rfl);first|done|fail)(hx:ov T x=v:=by(try simp only[b7,ZA,Nat.reduceEqDiff,↓reduceIte,Nat.reduceAdd,Nat.reduceLeDiff,zz]);(try with_reducible rfl);first|done|fail)(hsrc:fX sz H v=some (n,new):=by first|exact gd|exact fW|exact oO|(apply eT;(focus ((try simp only[b7,ZA,Nat.reduceEqDiff,↓reduceIte,Nat.reduceAdd,Nat.reduceLeDiff,zz]);(try with_reducible rfl);first|done|fail));(iterate 2 (focus ((try simp only[SL,Nat.reduceAdd,Nat.reduceMul,bk]);first|done|omega))))|exact jB)(ho:AV.ones new=true:=by first|exact im|exact f8|(simp only[SO,Bool.and_self,eV,d8,zz];first|done|fail))(hm:cs.length=m:=by(try simp only[SL,Nat.reduceAdd,Nat.reduceMul,bk]);first|done|omega)(hl:m=len*sz:=by(try simp only[SL,Nat.reduceAdd,Nat.reduceMul,bk]);first|done|omega)(h1:(len+n)*bytes<=140737488355328:=by(try simp only[SL,Nat.reduceAdd,Nat.reduceMul,bk]);first|done|omega)(h2:len+n<=9223372036854775807:=by(try simp only[SL,Nat.reduceAdd,Nat.reduceMul,bk]);first|done|omega):ak P dm (⟨d,none,.app sz bytes s x⟩::l) T H nx K:=zG hd hs hb hx hsrc ho hm hl h1 h2 k
theorem gTZ{dm:DM}{K:SP}{l:List Op2}{d:Option Nat}{i:Ins}{t:Nat}{w:Bool}(k:ak P dm (⟨d,none,i⟩::l) T H nx K)(h:T t=.bool w:=by simp only[b7,ZA,Nat.reduceEqDiff,↓reduceIte,Nat.reduceAdd,Nat.reduceLeDiff,zz];first|done|fail):ak P dm (⟨d,some (t,w),i⟩::l) T H nx K:=Jx h k
theorem gFZ{dm:DM}{K:SP}{l:List Op2}{d:Option Nat}{i:Ins}{t:Nat}{w:Bool}(k:ak P dm l (aU T d (.tup [])) H nx K)(h:T t=.bool (!w)\/T t=.tup []:=by simp only[b7,ZA,Nat.reduceEqDiff,↓reduceIte,Nat.reduceAdd,Nat.reduceLeDiff,or_true,true_or,zz];first|done|fail):ak P dm (⟨d,some (t,w),i⟩::l) T H nx K:=J6 h k
theorem cTZ{K:CP}{c:Opd}{x y:C2}(h1:aM P x T H nx K)(hc:ov T c=.bool true:=by simp only[b7,ZA,Nat.reduceEqDiff,↓reduceIte,Nat.reduceAdd,Nat.reduceLeDiff,zz];first|done|fail):aM P (.cond c x y) T H nx K:=BI hc h1
theorem cFZ{K:CP}{c:Opd}{x y:C2}(h2:aM P y T H nx K)(hc:ov T c=.bool false:=by simp only[b7,ZA,Nat.reduceEqDiff,↓reduceIte,Nat.reduceAdd,Nat.reduceLeDiff,zz];first|done|fail):aM P (.cond c x y) T H nx K:=B6 hc h2
theorem r1Z{K:AV->Prop}{a:RV}{x:AV}(h:K x)(ha:rv T H a=some x:=by simp only[rv,b7,ZA,Nat.reduceEqDiff,↓reduceIte,Nat.reduceAdd,Nat.reduceLeDiff,zz];with_reducible rfl):bj T H K [a]:=r_1 ha h
theorem r2Z{K:AV->Prop}{a b:RV}{x y:AV}(h:K (.tup [x,y]))(ha:rv T H a=some x:=by simp only[rv,b7,ZA,Nat.reduceEqDiff,↓reduceIte,Nat.reduceAdd,Nat.reduceLeDiff,zz];with_reducible rfl)(hb:rv T H b=some y:=by simp only[rv,b7,ZA,Nat.reduceEqDiff,↓reduceIte,Nat.reduceAdd,Nat.reduceLeDiff,zz];with_reducible rfl):bj T H K [a,b]:=r_2 ha hb h
theorem r3Z{K:AV->Prop}{a b c:RV}{x y z:AV}(h:K (.tup [x,y,z]))(ha:rv T H a=some x:=by simp only[rv,b7,ZA,Nat.reduceEqDiff,↓reduceIte,Nat.reduceAdd,Nat.reduceLeDiff,zz];with_reducible rfl)(hb:rv T H b=some y:=by simp only[rv,b7,ZA,Nat.reduceEqDiff,↓reduceIte,Nat.reduceAdd,Nat.reduceLeDiff,zz];with_reducible rfl)(hc:rv T H c=some z:=by simp only[rv,b7,ZA,Nat.reduceEqDiff,↓reduceIte,Nat.reduceAdd,Nat.reduceLeDiff,zz];with_reducible rfl):bj T H K [a,b,c]:=r_3 ha hb hc h
theorem r5Z{K:AV->Prop}{a b c d e:RV}{x y z u v:AV}(h:K (.tup [x,y,z,u,v]))(ha:rv T H a=some x:=by simp only[rv,b7,ZA,Nat.reduceEqDiff,↓reduceIte,Nat.reduceAdd,Nat.reduceLeDiff,zz];with_reducible rfl)(hb:rv T H b=some y:=by simp only[rv,b7,ZA,Nat.reduceEqDiff,↓reduceIte,Nat.reduceAdd,Nat.reduceLeDiff,zz];with_reducible rfl)(hc:rv T H c=some z:=by simp only[rv,b7,ZA,Nat.reduceEqDiff,↓reduceIte,Nat.reduceAdd,Nat.reduceLeDiff,zz];with_reducible rfl)(hd:rv T H d=some u:=by simp only[rv,b7,ZA,Nat.reduceEqDiff,↓reduceIte,Nat.reduceAdd,Nat.reduceLeDiff,zz];with_reducible rfl)(he:rv T H e=some v:=by simp only[rv,b7,ZA,Nat.reduceEqDiff,↓reduceIte,Nat.reduceAdd,Nat.reduceLeDiff,zz];with_reducible rfl):bj T H K [a,b,c,d,e]:=r_5 ha hb hc hd he h
theorem vY{dm:DM}{K:SP}{l:List Op2}{d:Option Nat}{i:Ins}{r:AV}(k:ak P dm l (aU T d r) H nx K)(hi:ic i=.val:=by rfl)(hd:dm2 dm T i=true:=by first|rfl|(simp (disch:=omega) only[dm2,rm,uv,cz,ZA,Nat.reduceEqDiff,↓reduceIte,Nat.reduceAdd,Nat.reduceLeDiff,zz,gj];first|done|omega))(h:b5 T H i=some r:=by(try simp (disch:=omega) only[cz,ZA,Nat.reduceEqDiff,↓reduceIte,Nat.reduceAdd,Nat.reduceLeDiff,ZV,reduceCtorEq,zz]);first|with_reducible rfl|(apply BF;(focus omega);with_reducible rfl)):ak P dm (⟨d,none,i⟩::l) T H nx K:=nG hi hd h k
theorem nvY{S:Hp}{K:SP}{l:List (Op2×Nat)}{d:Option Nat}{i:Ins}{r:AV}(k:bf P S l (aU T d r) H nx K)(h:b5 T S i=some r:=by(try simp (disch:=omega) only[cz,ZA,Nat.reduceEqDiff,↓reduceIte,Nat.reduceAdd,Nat.reduceLeDiff,ZV,reduceCtorEq,zz]);first|with_reducible rfl|(apply BF;(focus omega);with_reducible rfl)):bf P S ((⟨d,none,i⟩,0)::l) T H nx K:=Ik h k
theorem cY{dm:DM}{K:SP}{l:List Op2}{d:Option Nat}{f:Opd}{args:List Opd}{g:FuncId}{caps xs:List AV}{r:AV}(k:ak P dm l (aU T d r) H nx K)(hf:ov T f=.func g caps:=by(try simp (disch:=omega) only[cz,ZA,Nat.reduceEqDiff,↓reduceIte,Nat.reduceAdd,Nat.reduceLeDiff,zz]);(try with_reducible rfl);first|done|fail)(ha:args.map (ov T)++caps=xs:=by(try simp (disch:=omega) only[cz,ZA,Nat.reduceEqDiff,↓reduceIte,Nat.reduceAdd,Nat.reduceLeDiff,zz]);(try with_reducible rfl);first|done|fail)(hp:Pure P g xs r)(hs:ar H xs xs r:=by(first|refine aJ ?_ rfl|apply a7);(repeat' (first|exact an|apply bw|(apply a9;(focus with_reducible assumption))));first|done|fail):ak P dm (⟨d,none,.call f args⟩::l) T H nx K:=B5 hf ha hp hs k
theorem alY{dm:DM}{K:SP}{l:List Op2}{d:Option Nat}{z:AV}{cs:List AV}(k:ak P dm l (aU T d (.ptr nx cs.length 0)) (ap H nx cs) (nx+1) K)(hd:dm2 dm T (.alloc z)=true:=by first|rfl|(simp (disch:=omega) only[dm2,rm,uv,cz,ZA,Nat.reduceEqDiff,↓reduceIte,Nat.reduceAdd,Nat.reduceLeDiff,zz,gj];first|done|omega))(hc:z.cells=cs:=by(try simp (disch:=omega) only[cz,ZA,Nat.reduceEqDiff,↓reduceIte,Nat.reduceAdd,Nat.reduceLeDiff,zz]);(try with_reducible rfl);first|done|fail)(ho:AV.ones cs=true:=by simp (disch:=omega) only[SO,Bool.and_self,eV,d8,zz];first|done|fail):ak P dm (⟨d,none,.alloc z⟩::l) T H nx K:=rC hd hc ho k
theorem bxY{dm:DM}{K:SP}{l:List Op2}{d:Option Nat}{x:Opd}{v:AV}{cs:List AV}(k:ak P dm l (aU T d (.ptr nx cs.length 0)) (ap H nx cs) (nx+1) K)(hd:dm2 dm T (.box x)=true:=by first|rfl|(simp (disch:=omega) only[dm2,rm,uv,cz,ZA,Nat.reduceEqDiff,↓reduceIte,Nat.reduceAdd,Nat.reduceLeDiff,zz,gj];first|done|omega))(hx:ov T x=v:=by(try simp (disch:=omega) only[cz,ZA,Nat.reduceEqDiff,↓reduceIte,Nat.reduceAdd,Nat.reduceLeDiff,zz]);(try with_reducible rfl);first|done|fail)(hc:v.cells=cs:=by(try simp (disch:=omega) only[cz,ZA,Nat.reduceEqDiff,↓reduceIte,Nat.reduceAdd,Nat.reduceLeDiff,zz]);(try with_reducible rfl);first|done|fail)(ho:AV.ones cs=true:=by simp (disch:=omega) only[SO,Bool.and_self,eV,d8,zz];first|done|fail):ak P dm (⟨d,none,.box x⟩::l) T H nx K:=Ii hd hx hc ho k
theorem stY{dm:DM}{K:SP}{l:List Op2}{d:Option Nat}{sz:Nat}{p x:Opd}{b n off:Nat}{v:AV}{cs vs:List AV}(k:ak P dm l (aU T d (.tup [])) (ap H b (br cs off vs)) nx K)(hd:dm2 dm T (.st sz p x)=true:=by first|rfl|(simp (disch:=omega) only[dm2,rm,uv,cz,ZA,Nat.reduceEqDiff,↓reduceIte,Nat.reduceAdd,Nat.reduceLeDiff,zz,gj];first|done|omega))(hp:ov T p=.ptr b n off:=by(try simp (disch:=omega) only[cz,ZA,Nat.reduceEqDiff,↓reduceIte,Nat.reduceAdd,Nat.reduceLeDiff,zz]);(try with_reducible rfl);first|done|fail)(hx:ov T x=v:=by(try simp (disch:=omega) only[cz,ZA,Nat.reduceEqDiff,↓reduceIte,Nat.reduceAdd,Nat.reduceLeDiff,zz]);(try with_reducible rfl);first|done|fail)(hb:H b=some cs:=by(try simp (disch:=omega) only[cz,ZA,Nat.reduceEqDiff,↓reduceIte,Nat.reduceAdd,Nat.reduceLeDiff,zz]);(try with_reducible rfl);first|done|fail)(hc:v.cells=vs:=by(try simp (disch:=omega) only[cz,ZA,Nat.reduceEqDiff,↓reduceIte,Nat.reduceAdd,Nat.reduceLeDiff,zz]);(try with_reducible rfl);first|done|fail)(ho:AV.ones vs=true:=by simp (disch:=omega) only[SO,Bool.and_self,eV,d8,zz];first|done|fail)(hn:cs.length=n:=by(try simp only[SL,Nat.reduceAdd,Nat.reduceMul,bk]);first|done|omega)(hl:vs.length=sz:=by(try simp only[SL,Nat.reduceAdd,Nat.reduceMul,bk]);first|done|omega)(hf:off+sz<=n:=by(try simp only[SL,Nat.reduceAdd,Nat.reduceMul,bk]);first|done|omega):ak P dm (⟨d,none,.st sz p x⟩::l) T H nx K:=Jy hd hp hx hb hc ho hn hl hf k
theorem blY{dm:DM}{K:SP}{l:List Op2}{d:Option Nat}{sz len:Nat}{z:List AV}{parts:List (Nat×Nat×Opd)}{pv:List (Nat×Nat×AV)}{cs:List AV}(k:ak P dm l (aU T d (.msl nx cs.length sz 0 len)) (ap H nx cs) (nx+1) K)(hd:dm2 dm T (.bldS sz len z parts)=true:=by first|rfl|(simp (disch:=omega) only[dm2,rm,uv,cz,ZA,Nat.reduceEqDiff,↓reduceIte,Nat.reduceAdd,Nat.reduceLeDiff,zz,gj];first|done|omega))(hl:len≠0:=by exact Nat.succ_ne_zero _)(hp:parts.map (λp=>(p.1,p.2.1,ov T p.2.2))=pv:=by(try simp (disch:=omega) only[cz,ZA,Nat.reduceEqDiff,↓reduceIte,Nat.reduceAdd,Nat.reduceLeDiff,zz]);(try with_reducible rfl);first|done|fail)(hc:ew (bD (.agg z) len) pv=some cs:=by(try simp (disch:=omega) only[cz,ZA,Nat.reduceEqDiff,↓reduceIte,Nat.reduceAdd,Nat.reduceLeDiff,SO,Bool.and_self,eV,d8,zz]);(try with_reducible rfl);first|done|fail):ak P dm (⟨d,none,.bldS sz len z parts⟩::l) T H nx K:=H9 hd hl hp hc k
theorem b0Y{dm:DM}{K:SP}{l:List Op2}{d:Option Nat}{sz:Nat}{z:List AV}(k:ak P dm l (aU T d .esl) H nx K)(hd:dm2 dm T (.bldS sz 0 z [])=true:=by first|rfl|(simp (disch:=omega) only[dm2,rm,uv,cz,ZA,Nat.reduceEqDiff,↓reduceIte,Nat.reduceAdd,Nat.reduceLeDiff,zz,gj];first|done|omega)):ak P dm (⟨d,none,.bldS sz 0 z []⟩::l) T H nx K:=ED hd k
theorem a0Y{dm:DM}{K:SP}{l:List Op2}{d:Option Nat}{sz bytes n:Nat}{s x:Opd}{v:AV}{new:List AV}(k:ak P dm l (aU T d (.msl nx (n*sz) sz 0 n)) (ap H nx new) (nx+1) K)(hd:dm2 dm T (.app sz bytes s x)=true:=by first|rfl|(simp (disch:=omega) only[dm2,rm,uv,cz,ZA,Nat.reduceEqDiff,↓reduceIte,Nat.reduceAdd,Nat.reduceLeDiff,zz,gj];first|done|omega))(hs:ov T s=.esl:=by(try simp (disch:=omega) only[cz,ZA,Nat.reduceEqDiff,↓reduceIte,Nat.reduceAdd,Nat.reduceLeDiff,zz]);(try with_reducible rfl);first|done|fail)(hx:ov T x=v:=by(try simp (disch:=omega) only[cz,ZA,Nat.reduceEqDiff,↓reduceIte,Nat.reduceAdd,Nat.reduceLeDiff,zz]);(try with_reducible rfl);first|done|fail)(hsrc:fX sz H v=some (n,new):=by first|exact gd|exact fW|exact oO|(apply eT;(focus ((try simp (disch:=omega) only[cz,ZA,Nat.reduceEqDiff,↓reduceIte,Nat.reduceAdd,Nat.reduceLeDiff,zz]);(try with_reducible rfl);first|done|fail));(iterate 2 (focus ((try simp only[SL,Nat.reduceAdd,Nat.reduceMul,bk]);first|done|omega))))|exact jB)(ho:AV.ones new=true:=by first|exact im|exact f8|(simp only[SO,Bool.and_self,eV,d8,zz];first|done|fail))(h1:n*bytes<=140737488355328:=by(try simp only[SL,Nat.reduceAdd,Nat.reduceMul,bk]);first|done|omega)(h2:n<=9223372036854775807:=by(try simp only[SL,Nat.reduceAdd,Nat.reduceMul,bk]);first|done|omega):ak P dm (⟨d,none,.app sz bytes s x⟩::l) T H nx K:=gK hd hs hx hsrc ho h1 h2 k
theorem apY{dm:DM}{K:SP}{l:List Op2}{d:Option Nat}{sz bytes n:Nat}{s x:Opd}{v:AV}{new cs:List AV}{b m len:Nat}(k:ak P dm l (aU T d (.msl b ((len+n)*sz) sz 0 (len+n))) (ap H b (cs++new)) nx K)(hd:dm2 dm T (.app sz bytes s x)=true:=by first|rfl|(simp (disch:=omega) only[dm2,rm,uv,cz,ZA,Nat.reduceEqDiff,↓reduceIte,Nat.reduceAdd,Nat.reduceLeDiff,zz,gj];first|done|omega))(hs:ov T s=.msl b m sz 0 len:=by(try simp (disch:=omega) only[cz,ZA,Nat.reduceEqDiff,↓reduceIte,Nat.reduceAdd,Nat.reduceLeDiff,zz]);(try with_reducible rfl);first|done|fail)(hb:H b=some cs:=by(try simp (disch:=omega) only[cz,ZA,Nat.reduceEqDiff,↓reduceIte,Nat.reduceAdd,Nat.reduceLeDiff,zz]);(try with_reducible rfl);first|done|fail)(hx:ov T x=v:=by(try simp (disch:=omega) only[cz,ZA,Nat.reduceEqDiff,↓reduceIte,Nat.reduceAdd,Nat.reduceLeDiff,zz]);(try with_reducible rfl);first|done|fail)(hsrc:fX sz H v=some (n,new):=by first|exact gd|exact fW|exact oO|(apply eT;(focus ((try simp (disch:=omega) only[cz,ZA,Nat.reduceEqDiff,↓reduceIte,Nat.reduceAdd,Nat.reduceLeDiff,zz]);(try with_reducible rfl);first|done|fail));(iterate 2 (focus ((try simp only[SL,Nat.reduceAdd,Nat.reduceMul,bk]);first|done|omega))))|exact jB)(ho:AV.ones new=true:=by first|exact im|exact f8|(simp only[SO,Bool.and_self,eV,d8,zz];first|done|fail))(hm:cs.length=m:=by(try simp only[SL,Nat.reduceAdd,Nat.reduceMul,bk]);first|done|omega)(hl:m=len*sz:=by(try simp only[SL,Nat.reduceAdd,Nat.reduceMul,bk]);first|done|omega)(h1:(len+n)*bytes<=140737488355328:=by(try simp only[SL,Nat.reduceAdd,Nat.reduceMul,bk]);first|done|omega)(h2:len+n<=9223372036854775807:=by(try simp only[SL,Nat.reduceAdd,Nat.reduceMul,bk]);first|done|omega):ak P dm (⟨d,none,.app sz bytes s x⟩::l) T H nx K:=zG hd hs hb hx hsrc ho hm hl h1 h2 k
theorem gTY{dm:DM}{K:SP}{l:List Op2}{d:Option Nat}{i:Ins}{t:Nat}{w:Bool}(k:ak P dm (⟨d,none,i⟩::l) T H nx K)(h:T t=.bool w:=by simp (disch:=omega) only[cz,ZA,Nat.reduceEqDiff,↓reduceIte,Nat.reduceAdd,Nat.reduceLeDiff,zz];first|done|fail):ak P dm (⟨d,some (t,w),i⟩::l) T H nx K:=Jx h k
theorem gFY{dm:DM}{K:SP}{l:List Op2}{d:Option Nat}{i:Ins}{t:Nat}{w:Bool}(k:ak P dm l (aU T d (.tup [])) H nx K)(h:T t=.bool (!w)\/T t=.tup []:=by simp (disch:=omega) only[cz,ZA,Nat.reduceEqDiff,↓reduceIte,Nat.reduceAdd,Nat.reduceLeDiff,or_true,true_or,zz];first|done|fail):ak P dm (⟨d,some (t,w),i⟩::l) T H nx K:=J6 h k
theorem cTY{K:CP}{c:Opd}{x y:C2}(h1:aM P x T H nx K)(hc:ov T c=.bool true:=by simp (disch:=omega) only[cz,ZA,Nat.reduceEqDiff,↓reduceIte,Nat.reduceAdd,Nat.reduceLeDiff,zz];first|done|fail):aM P (.cond c x y) T H nx K:=BI hc h1
theorem cFY{K:CP}{c:Opd}{x y:C2}(h2:aM P y T H nx K)(hc:ov T c=.bool false:=by simp (disch:=omega) only[cz,ZA,Nat.reduceEqDiff,↓reduceIte,Nat.reduceAdd,Nat.reduceLeDiff,zz];first|done|fail):aM P (.cond c x y) T H nx K:=B6 hc h2
theorem r1Y{K:AV->Prop}{a:RV}{x:AV}(h:K x)(ha:rv T H a=some x:=by simp (disch:=omega) only[rv,cz,ZA,Nat.reduceEqDiff,↓reduceIte,Nat.reduceAdd,Nat.reduceLeDiff,zz];with_reducible rfl):bj T H K [a]:=r_1 ha h
theorem r2Y{K:AV->Prop}{a b:RV}{x y:AV}(h:K (.tup [x,y]))(ha:rv T H a=some x:=by simp (disch:=omega) only[rv,cz,ZA,Nat.reduceEqDiff,↓reduceIte,Nat.reduceAdd,Nat.reduceLeDiff,zz];with_reducible rfl)(hb:rv T H b=some y:=by simp (disch:=omega) only[rv,cz,ZA,Nat.reduceEqDiff,↓reduceIte,Nat.reduceAdd,Nat.reduceLeDiff,zz];with_reducible rfl):bj T H K [a,b]:=r_2 ha hb h
theorem r3Y{K:AV->Prop}{a b c:RV}{x y z:AV}(h:K (.tup [x,y,z]))(ha:rv T H a=some x:=by simp (disch:=omega) only[rv,cz,ZA,Nat.reduceEqDiff,↓reduceIte,Nat.reduceAdd,Nat.reduceLeDiff,zz];with_reducible rfl)(hb:rv T H b=some y:=by simp (disch:=omega) only[rv,cz,ZA,Nat.reduceEqDiff,↓reduceIte,Nat.reduceAdd,Nat.reduceLeDiff,zz];with_reducible rfl)(hc:rv T H c=some z:=by simp (disch:=omega) only[rv,cz,ZA,Nat.reduceEqDiff,↓reduceIte,Nat.reduceAdd,Nat.reduceLeDiff,zz];with_reducible rfl):bj T H K [a,b,c]:=r_3 ha hb hc h
theorem r5Y{K:AV->Prop}{a b c d e:RV}{x y z u v:AV}(h:K (.tup [x,y,z,u,v]))(ha:rv T H a=some x:=by simp (disch:=omega) only[rv,cz,ZA,Nat.reduceEqDiff,↓reduceIte,Nat.reduceAdd,Nat.reduceLeDiff,zz];with_reducible rfl)(hb:rv T H b=some y:=by simp (disch:=omega) only[rv,cz,ZA,Nat.reduceEqDiff,↓reduceIte,Nat.reduceAdd,Nat.reduceLeDiff,zz];with_reducible rfl)(hc:rv T H c=some z:=by simp (disch:=omega) only[rv,cz,ZA,Nat.reduceEqDiff,↓reduceIte,Nat.reduceAdd,Nat.reduceLeDiff,zz];with_reducible rfl)(hd:rv T H d=some u:=by simp (disch:=omega) only[rv,cz,ZA,Nat.reduceEqDiff,↓reduceIte,Nat.reduceAdd,Nat.reduceLeDiff,zz];with_reducible rfl)(he:rv T H e=some v:=by simp (disch:=omega) only[rv,cz,ZA,Nat.reduceEqDiff,↓reduceIte,Nat.reduceAdd,Nat.reduceLeDiff,zz];with_reducible rfl):bj T H K [a,b,c,d,e]:=r_5 ha hb hc hd he h
class StW(A:Prop)(B:outParam Prop):Prop where st:B->A
class StO(A:Prop)(B:outParam Prop):Prop where st:B->A
class StM(A:Prop)(B:outParam Prop):Prop where st:B->A
theorem zW{A B:Prop}[i:StW A B](h:B):A:=i.st h
theorem zO{A B:Prop}[i:StO A B](h:B):A:=i.st h
theorem zM{A B:Prop}[i:StM A B](h:B):A:=i.st h
instance{K:CP}{x y:C2}:StW (aM P (.seq x y) T H nx K) (aM P x T H nx λe T H nx=>aR e (aM P y T H nx K) (K e T H nx)):=⟨dI⟩
instance{K:CP}{i:Nat}{b:C2}:StW (aM P (.block i b) T H nx K) (aM P b T H nx λe T H nx=>K (qc i e) T H nx):=⟨fQ⟩
instance{K:CP}{b:C2}:StW (aM P (.loop b) T H nx K) (aY (aM P b) T H nx K):=⟨Jg⟩
instance{K:CP}:StO (aM P .skip T H nx K) (K .normal T H nx):=⟨Jf⟩
instance{K:CP}{i:Nat}:StO (aM P (.exit i) T H nx K) (K (.exit i) T H nx):=⟨Js⟩
instance{K:CP}:StO (aM P .ret T H nx K) (K .ret T H nx):=⟨My⟩
instance{K:CP}{l:List Op2}:StO (aM P (.ops 0 l) T H nx K) (ak P .text l T H nx λT H nx=>K .normal T H nx):=⟨Jc⟩
instance{K:CP}{l:List Op2}:StO (aM P (.ops 1 l) T H nx K) (ak P .draw l T H nx λT H nx=>K .normal T H nx):=⟨JT⟩
instance{K:CP}{l:List Op2}:StO (aM P (.ops 2 l) T H nx K) (ak P (.fresh nx) l T H nx λT H nx=>K .normal T H nx):=⟨I3⟩
instance{K:CP}{l:List Op2}{C:List Nat}:StO (aM P (.mix 1 l C) T H nx K) (ak P .draw l T H nx λT H nx=>K .normal T H nx):=⟨w_mix1⟩
instance{K:CP}{l:List Op2}{C:List Nat}:StO (aM P (.mix 2 l C) T H nx K) (ak P (.fresh nx) l T H nx λT H nx=>K .normal T H nx):=⟨pK⟩
instance{dm:DM}{K:SP}:StO (ak P dm [] T H nx K) (K T H nx):=⟨jF⟩
instance{S:Hp}{K:SP}:StO (bf P S [] T H nx K) (K T H nx):=⟨uS⟩
instance{S:Hp}{K:SP}{l:List (Op2×Nat)}{d:Option Nat}{i:Ins}:StO (bf P S ((⟨d,none,i⟩,2)::l) T H nx K) (ak P .text [⟨d,none,i⟩] T H nx λT H nx=>bf P S l T H nx K):=⟨jc⟩
instance{K:AV->Prop}:StO (bj T H K []) (K (.tup [])):=⟨r_0⟩
instance{K:CP}{l:List Op2}{C:List (Nat×Nat)}:StM (aM P (.mixS 1 l C) T H nx K) (ak P .draw l T H nx λT H nx=>K .normal T H nx):=⟨G7⟩
instance{K:CP}{l:List Op2}{C:List (Nat×Nat)}:StM (aM P (.mixS 2 l C) T H nx K) (ak P (.fresh nx) l T H nx λT H nx=>K .normal T H nx):=⟨GF⟩
class NZ(b w:Bool)(p q:outParam Prop):Prop where
 t:b=w->p
 f:b=!w->q
instance(priority:=10){b:Bool}:NZ b true (b=true) (b=false):=⟨id,id⟩
instance(priority:=10){b:Bool}:NZ b false (b=false) (b=true):=⟨id,id⟩
instance{p:Prop}{i:Decidable p}:NZ (decide p) true p (¬p):=⟨p6,of_decide_eq_false⟩
instance{p:Prop}{i:Decidable p}:NZ (decide p) false (¬p) p:=⟨of_decide_eq_false,p6⟩
instance(priority:=2000):NZ true true True False:=⟨λ_=>trivial,λh=>by cases h⟩
instance(priority:=2000):NZ true false False True:=⟨λh=>(by cases h),λ_=>trivial⟩
instance(priority:=2000):NZ false true False True:=⟨λh=>(by cases h),λ_=>trivial⟩
instance(priority:=2000):NZ false false True False:=⟨λ_=>trivial,λh=>by cases h⟩
instance(priority:=2000){i:Decidable True}:NZ (decide True) true True False:=⟨λ_=>trivial,λh=>of_decide_eq_false h trivial⟩
instance(priority:=2000){i:Decidable True}:NZ (decide True) false False True:=⟨λh=>of_decide_eq_false h trivial,λ_=>trivial⟩
instance(priority:=2000){i:Decidable False}:NZ (decide False) true False True:=⟨p6,λ_=>trivial⟩
instance(priority:=2000){i:Decidable False}:NZ (decide False) false True False:=⟨λ_=>trivial,p6⟩
instance{b w:Bool}{p q:Prop}[i:NZ b w p q]:NZ (!b) w q p:=⟨λh=>i.f (by cases b<;>cases w<;>simp_all),λh=>i.t (by cases b<;>cases w<;>simp_all)⟩
class StG(A:Prop)(v:outParam AV)(w:outParam Bool)(B C:outParam Prop):Prop where
 st:∀b:Bool,v=.bool b->(b=w->B)->(b=!w->C)->A
instance{K:CP}{c:Opd}{x y:C2}:StG (aM P (.cond c x y) T H nx K) (ov T c) true (aM P x T H nx K) (aM P y T H nx K):=⟨λ_ h k1 k2=>Al h k1 k2⟩
instance{dm:DM}{K:SP}{l:List Op2}{d:Option Nat}{i:Ins}{t:Nat}:StG (ak P dm (⟨d,some (t,true),i⟩::l) T H nx K) (T t) true (ak P dm (⟨d,none,i⟩::l) (upd T t (.bool true)) H nx K) (ak P dm l (aU (upd T t (.bool false)) d (.tup [])) H nx K):=⟨λ_ h k1 k2=>Mx h k1 k2⟩
instance{dm:DM}{K:SP}{l:List Op2}{d:Option Nat}{i:Ins}{t:Nat}:StG (ak P dm (⟨d,some (t,false),i⟩::l) T H nx K) (T t) false (ak P dm (⟨d,none,i⟩::l) (upd T t (.bool false)) H nx K) (ak P dm l (aU (upd T t (.bool true)) d (.tup [])) H nx K):=⟨λ_ h k1 k2=>Mx h k1 k2⟩
theorem zGZ{A:Prop}{v:AV}{w b:Bool}{B C p q:Prop}[i:StG A v w B C][n:NZ b w p q](k1:p->B)(k2:q->C)(h:v=.bool b:=by(try simp only[b7,ZA,Nat.reduceEqDiff,↓reduceIte,Nat.reduceAdd,Nat.reduceLeDiff,zz]);(try with_reducible rfl);first|done|fail):A:=i.st b h (λh=>k1 (n.t h)) (λh=>k2 (n.f h))
theorem zGY{A:Prop}{v:AV}{w b:Bool}{B C p q:Prop}[i:StG A v w B C][n:NZ b w p q](k1:p->B)(k2:q->C)(h:v=.bool b:=by(try simp (disch:=omega) only[cz,ZA,Nat.reduceEqDiff,↓reduceIte,Nat.reduceAdd,Nat.reduceLeDiff,zz]);(try with_reducible rfl);first|done|fail):A:=i.st b h (λh=>k1 (n.t h)) (λh=>k2 (n.f h))
structure WkQ(B:Prop):Prop where
 q:B
class DatLI(l:List AV):Prop where
 d:∀x∈l,Dat x
instance:DatLI []:=⟨λ_ h=>(by cases h)⟩
instance{x:AV}{l:List AV}[h:DatI x][k:DatLI l]:DatLI (x::l):=⟨DatL.cons h.d k.d⟩
instance{l:List AV}[k:DatLI l]:DatI (.agg l):=⟨Dat.agg k.d⟩
instance{f:FuncId}{l:List AV}[k:DatLI l]:DatI (.func f l):=⟨Dat.func k.d⟩
instance{l:List AV}{n:Nat}[k:DatLI l]:DatI (.iptr l n):=⟨Dat.iptr k.d⟩
theorem wkZ{A B F:Prop}(zz:F)(k:B)(h:F->WkQ B->A:=by intro zz _q;(repeat' (first|refine zW ?_|refine zM ?_|apply a_n|apply a_x|apply a_r|refine zO ?_|refine vZ ?_|refine nvZ ?_|refine cZ ?_ (hp:=by assumption)|refine bxZ ?_|refine alZ ?_|refine blZ ?_|refine b0Z ?_|refine a0Z ?_|refine apZ ?_|refine stZ ?_|refine gTZ ?_|refine gFZ ?_|refine cTZ ?_|refine cFZ ?_|(refine zGZ ?_ ?_<;>(intro _hg;try (exfalso;omega)))|refine bR rfl ?_|refine r1Z ?_|refine r2Z ?_|refine r3Z ?_|refine r5Z ?_|refine wI rfl ?_|fail));first|(exact _q.q;done)|fail):A:=h zz ⟨k⟩
theorem wnZ{A B F:Prop}(zz:F)(k:B)(h:F->WkQ B->A:=by intro zz _q;(repeat' (first|refine zW ?_|apply a_n|apply a_x|apply a_r|refine zO ?_|refine vZ ?_|refine nvZ ?_|refine cZ ?_ (hp:=by assumption)|refine bxZ ?_|refine alZ ?_|refine blZ ?_|refine b0Z ?_|refine a0Z ?_|refine apZ ?_|refine stZ ?_|refine gTZ ?_|refine gFZ ?_|refine cTZ ?_|refine cFZ ?_|(refine zGZ ?_ ?_<;>(intro _hg;try (exfalso;omega)))|refine bR rfl ?_|refine r1Z ?_|refine r2Z ?_|refine r3Z ?_|refine r5Z ?_|refine wI rfl ?_|fail));first|(exact _q.q;done)|fail):A:=h zz ⟨k⟩
theorem wkY{A B F:Prop}(zz:F)(k:B)(h:F->WkQ B->A:=by intro zz _q;(repeat' (first|refine zW ?_|refine zM ?_|apply a_n|apply a_x|apply a_r|refine zO ?_|refine vY ?_|refine nvY ?_|refine cY ?_ (hp:=by assumption)|refine bxY ?_|refine alY ?_|refine blY ?_|refine b0Y ?_|refine a0Y ?_|refine apY ?_|refine stY ?_|refine gTY ?_|refine gFY ?_|refine cTY ?_|refine cFY ?_|(refine zGY ?_ ?_<;>(intro _hg;try (exfalso;omega)))|refine bR rfl ?_|refine r1Y ?_|refine r2Y ?_|refine r3Y ?_|refine r5Y ?_|refine wI rfl ?_|fail));first|(exact _q.q;done)|fail):A:=h zz ⟨k⟩
theorem wnY{A B F:Prop}(zz:F)(k:B)(h:F->WkQ B->A:=by intro zz _q;(repeat' (first|refine zW ?_|apply a_n|apply a_x|apply a_r|refine zO ?_|refine vY ?_|refine nvY ?_|refine cY ?_ (hp:=by assumption)|refine bxY ?_|refine alY ?_|refine blY ?_|refine b0Y ?_|refine a0Y ?_|refine apY ?_|refine stY ?_|refine gTY ?_|refine gFY ?_|refine cTY ?_|refine cFY ?_|(refine zGY ?_ ?_<;>(intro _hg;try (exfalso;omega)))|refine bR rfl ?_|refine r1Y ?_|refine r2Y ?_|refine r3Y ?_|refine r5Y ?_|refine wI rfl ?_|fail));first|(exact _q.q;done)|fail):A:=h zz ⟨k⟩
theorem zI3{a b c:Prop}(xa:a)(xb:b)(xc:c):a/\b/\c:=⟨xa,xb,xc⟩
theorem zI4{a b c d:Prop}(xa:a)(xb:b)(xc:c)(xd:d):a/\b/\c/\d:=⟨xa,xb,xc,xd⟩
theorem zI5{a b c d e:Prop}(xa:a)(xb:b)(xc:c)(xd:d)(xe:e):a/\b/\c/\d/\e:=⟨xa,xb,xc,xd,xe⟩
theorem zI6{a b c d e f:Prop}(xa:a)(xb:b)(xc:c)(xd:d)(xe:e)(xf:f):a/\b/\c/\d/\e/\f:=⟨xa,xb,xc,xd,xe,xf⟩
theorem zI7{a b c d e f g:Prop}(xa:a)(xb:b)(xc:c)(xd:d)(xe:e)(xf:f)(xg:g):a/\b/\c/\d/\e/\f/\g:=⟨xa,xb,xc,xd,xe,xf,xg⟩
theorem zI8{a b c d e f g h:Prop}(xa:a)(xb:b)(xc:c)(xd:d)(xe:e)(xf:f)(xg:g)(xh:h):a/\b/\c/\d/\e/\f/\g/\h:=⟨xa,xb,xc,xd,xe,xf,xg,xh⟩
theorem zI9{a b c d e f g h i:Prop}(xa:a)(xb:b)(xc:c)(xd:d)(xe:e)(xf:f)(xg:g)(xh:h)(xi:i):a/\b/\c/\d/\e/\f/\g/\h/\i:=⟨xa,xb,xc,xd,xe,xf,xg,xh,xi⟩
theorem dV{a b c d e f g h i j:Prop}(xa:a)(xb:b)(xc:c)(xd:d)(xe:e)(xf:f)(xg:g)(xh:h)(xi:i)(xj:j):a/\b/\c/\d/\e/\f/\g/\h/\i/\j:=⟨xa,xb,xc,xd,xe,xf,xg,xh,xi,xj⟩
theorem lpI{b:C2}{K:CP}{X:Type}(L:X->List (Nat×AV))(I:X->Hp->Nat->Prop)(μ:X->Nat)(x0:X)(h0:I x0 H nx)
    (step:∀x H nx,I x H nx->aM P b (tl (L x)) H nx λe T H' nx'=>aR e (∃y,μ y<μ x/\I y H' nx'/\agr T (L y)) (K e T H' nx')) (hT:agr T (L x0):=by(repeat' (first|exact trivial|refine And.intro rfl ?_));first|done|fail):aY (aM P b) T H nx K:=bA L I μ x0 h0 hT step
theorem eR{dm:DM}{K:SP}{l:List Op2}{d:Option Nat}{sz bytes k:Nat}{s x:Opd}{sv xv:AV}{cs new:List AV}(hrow:Row H sz sv cs)(next:∀(sv':AV)(H':Hp)(nx':Nat),Row H' sz sv' (cs++new)->nx<=nx'->nx'<=nx+1->(∀i,i<nx->bv sv≠some i->H' i=H i)->(∀b,bv sv'=some b->bv sv=some b\/b=nx/\nx'=nx+1)->ak P dm l (aU T d sv') H' nx' K)(hd:dm2 dm T (.app sz bytes s x)=true:=by rfl)(hs:ov T s=sv:=by(try simp only[b7,ZA,Nat.reduceEqDiff,↓reduceIte,Nat.reduceAdd,Nat.reduceLeDiff]);(try with_reducible rfl);first|done|fail)(hx:ov T x=xv:=by(try simp only[b7,ZA,Nat.reduceEqDiff,↓reduceIte,Nat.reduceAdd,Nat.reduceLeDiff]);(try with_reducible rfl);first|done|fail)(hsrc:fX sz H xv=some (k,new):=by first|exact dQ|exact qn|fail)(ho:AV.ones new=true:=by rfl)(hk:new.length=k*sz:=by rfl)(hz:0<sz:=by first|exact jb|omega|fail)(h1:(cs.length+k)*bytes<=140737488355328:=by first|(rw[bk];omega)|omega|fail)(h2:cs.length+k<=9223372036854775807:=by first|(rw[bk];omega)|omega|fail):ak P dm (⟨d,none,.app sz bytes s x⟩::l) T H nx K:=f9 hd hs hrow hx hsrc ho hk hz h1 h2 next
end Go.Abs
namespace Go.Abs
open Go.RowKit
theorem Snap.self{H H':Hp}{x y:AV}(h:Snap H x y):Snap H' y y:=by
 induction h with
 |bool b=>exact .bool _
 |int k n=>exact .int _ _
 |str s=>exact .str _
 |nilp=>exact .nilp
 |nilf=>exact .nilf
 |nilm=>exact .nilm
 |esl=>exact .esl
 |eslsl sz=>exact .slnil _ _
 |sl sz l l' hl hc h ih=>
  refine .sl sz l' l' rfl (λi x y hx hy=>by rw[hx] at hy;cases hy;rfl) (λi j x y a b hx hy ha hb=>?_);rw[hx] at hy;cases hy;rw[ha] at hb;cases hb;have hlt:i<l.length:=by rw[hl];exact(bM.1 hx).1
  have hz:l[i]?=some l[i]:=by simp[hlt]
  have hcl:=hc i _ _ hz hx;have hj:j<l[i].cells.length:=by rw[<-hcl];exact(bM.1 ha).1
  exact ih i j l[i] x l[i].cells[j] a hz hx (by simp[hj]) ha
 |slnil sz sz'=>exact .slnil _ _
 |msl b n sz off len cs l' hb hn hfit hl hc h ih=>
  refine .sl sz l' l' rfl (λi x y hx hy=>by rw[hx] at hy;cases hy;rfl) (λi j x y a c hx hy ha hc'=>?_);rw[hx] at hy;cases hy;rw[ha] at hc';cases hc';have hi:i<len:=by rw[<-hl];exact(bM.1 hx).1
  have hj:j<sz:=by rw[<-hc x (gm hx)];exact(bM.1 ha).1
  have hlt:off+i*sz+j<cs.length:=by
   have:(i+1)*sz<=len*sz:=lq _ hi;rw[fF] at this;omega
  exact ih i j x cs[off+i*sz+j] a hx ha (by simp[hlt])
 |mslnil b n sz off sz'=>exact .slnil _ _
 |ptr b n off cs cs' hb hn hl h ih=>
  refine .iptr cs' cs' off rfl (λi a c ha hc=>?_);rw[ha] at hc;cases hc;have hlt:i<cs.length:=by rw[hn,<-hl];exact(bM.1 ha).1
  exact ih i cs[i] a (by simp[hlt]) ha
 |iptr cs cs' off hl h ih=>
  refine .iptr cs' cs' off rfl (λi a c ha hc=>?_);rw[ha] at hc;cases hc;have hlt:i<cs.length:=by rw[<-hl];exact(bM.1 ha).1
  exact ih i cs[i] a (by simp[hlt]) ha
 |func f cs cs' hl h ih=>
  refine .func f cs' cs' rfl (λi a c ha hc=>?_);rw[ha] at hc;cases hc;have hlt:i<cs.length:=by rw[<-hl];exact(bM.1 ha).1
  exact ih i cs[i] a (by simp[hlt]) ha
 |agg cs cs' hl h ih=>
  refine .agg cs' cs' rfl (λi a c ha hc=>?_);rw[ha] at hc;cases hc;have hlt:i<cs.length:=by rw[<-hl];exact(bM.1 ha).1
  exact ih i cs[i] a (by simp[hlt]) ha
 |tup cs cs' hl h ih=>
  refine .tup cs' cs' rfl (λi a c ha hc=>?_);rw[ha] at hc;cases hc;have hlt:i<cs.length:=by rw[<-hl];exact(bM.1 ha).1
  exact ih i cs[i] a (by simp[hlt]) ha
theorem Fn.of_pureZ{P:Program}{f:FuncId}{args args':List AV}{r:AV}(hp:Pure P f args' r){H Hf H':Hp}{nx:Nat}(hsub:∀b cs,Hf b=some cs->H b=some cs)(hH:∀b cs,H' b=some cs->H b=some cs/\Hf b=none)(hs:aL Hf args args')
    {R:AV->Hp->Nat->Prop} (hR:R r H' nx):Fn P f args H nx R:=by
 refine⟨hp.1,λE w vs hE hh hfr hv=>?_⟩
 have hsim:Sim E {n:=vs.length} ⟨T0 args,H,nx⟩ {tmps:=vs.toArray,defers:=[]} w:=by
  refine⟨hE,hh,hfr,λl hl=>(by cases hl),bz _,by simp,λt=>?_,⟨pp,λd hd=>(by cases hd)⟩⟩;show Rel E w (T0 args t) (vs.toArray.getD t Go.undef);by_cases ht:t<args.length
  ·have h1:args[t]?=some args[t]:=by simp[ht]
   have h2:vs[t]?=some (vs[t]'(by rw[hv.1];exact ht)):=by simp[hv.1,ht]
   have:=hv.2 t _ _ h1 h2;have e1:T0 args t=args[t]:=by simp[T0,List.getD,ht]
   have e2:vs.toArray.getD t Go.undef=vs[t]'(by rw[hv.1];exact ht):=by simp[Array.getD,hv.1,ht]
   rw[e1,e2];exact this
  ·have e1:T0 args t=.undef:=by simp[T0,List.getD,ht]
   rw[e1];exact .undef _
 have hg:Gh (T0 args) H nx (T0 args') H' nx Hf:=by
  refine⟨hsub,aN _,λb cs' hb=>?_,λt=>?_⟩
  ·obtain⟨h1,h2⟩:=hH b cs' hb;exact .inl ⟨cs',h1,h2,rfl,λi x x' hx hx'=>.inl (by rw[hx] at hx';cases hx';rfl)⟩
  ·by_cases ht:t<args.length
   ·have h1:args[t]?=some args[t]:=by simp[ht]
    have h2:args'[t]?=some (args'[t]'(by rw[hs.1];exact ht)):=by simp[hs.1,ht]
    have:=hs.2 t _ _ h1 h2;have e1:T0 args t=args[t]:=by simp[T0,List.getD,ht]
    have e2:T0 args' t=args'[t]'(by rw[hs.1];exact ht):=by simp[T0,List.getD,hs.1,ht]
    right;right;left;rw[e1,e2];exact this
   ·left;simp[T0,List.getD,hs.1,ht]
 obtain⟨E',he,hsim'⟩:=hsim.ghost hg
 have hself:aL bF args' args':=⟨rfl,fun i x y hx hy=>by
  rw[hx] at hy;cases hy;have hlt:i<args.length:=by rw[<-hs.1];exact(bM.1 hx).1
  exact(hs.2 i args[i] x (by simp[hlt]) hx).self⟩
 have hv':dB E' w args' vs:=by
  refine⟨by rw[hv.1,hs.1],λi x v hx hvi=>?_⟩;have hlt:i<vs.length:=(bM.1 hvi).1;have hla:i<args'.length:=(bM.1 hx).1;have:=hsim'.tmps i
  have e1:T0 args' i=x:=by
   have:=(bM.1 hx).2;simp[T0,List.getD,hx]
  have e2:vs.toArray.getD i Go.undef=v:=by
   have:=(bM.1 hvi).2;simp[Array.getD,hlt,this]
  simp only at this;rw[e1,e2] at this;exact this
 refine((Fn.of_pure hp (.inl hself) (H:=H') (nx:=nx) (R:=R) hR).2 E' w vs hsim'.env hsim'.heap hsim'.fresh hv').mono ?_;rintro e w' ⟨v,E2,r2,H2,nx2,k1,k2,k3,k4,k5,k6,k7⟩;exact⟨v,E2,r2,H2,nx2,k1,he.trans k2,k3,k4,k5,k6,k7⟩
end Go.Abs
namespace Go.Abs
open Go Go.RowKit
def uy(W:World):Nat->Prop:=λb=>b<W.heap.size
theorem Dc{W:World}{a:Addr}{v:Value}(h:W.cell? a=some v):uy W a.block/\a.spot=none:=by
 unfold World.cell? at h;unfold uy;cases hb:W.heap[a.block]? with
 |none=>simp[hb] at h
 |some o=>
  refine⟨(iU.1 hb).1,?_⟩;cases hs:a.spot with
  |none=>rfl
  |some s=>cases o<;>simp[hb,hs] at h
section
variable{H:Type}{enc:TypeId×Value->H}{P:Program}{W:World}
def fk(enc:TypeId×Value->H)(P:Program)(W:World)(t:TypeId){α:Type}(f:α->AV)(good:α->Prop):Prop:=
 ∀(n:Nat)(cs:List Value)(x:DataW H×List MemPlace),DataW.trod enc P W 0 (λ_=>true) true n t cs=some x->(∀k∈x.1.weights P t,k<=reachBytes)->∃a:α,good a/\dB (E0 (uy W)) W (f a).cells cs
theorem fk.mono{t:TypeId}{α:Type}{f:α->AV}{good good':α->Prop}(h:fk enc P W t f good)(hg:∀a,good a->good' a):fk enc P W t f good':=
 λn cs x hx hw=>let ⟨a,h1,h2⟩:=h n cs x hx hw;⟨a,hg a h1,h2⟩
theorem rU {E:Env} {w:World} {x:AV} {y:Value} (h:Rel E w x y):dB E w [x] [y]:=⟨rfl,fun i a b ha hb=>by
 cases i with
 |zero=>simp at ha hb;subst ha hb;exact h
 |succ i=>simp at ha⟩
theorem dB.app{E:Env}{w:World}{xs xs':List AV}{ys ys':List Value}(h:dB E w xs ys)(h':dB E w xs' ys'):dB E w (xs++xs') (ys++ys'):=by
 have hl:xs.length=ys.length:=h.1.symm;refine⟨by simp[h.1,h'.1],λi a b ha hb=>?_⟩;by_cases hi:i<xs.length
 ·rw[gC hi] at ha;rw[gC (by omega)] at hb;exact h.2 i a b ha hb
 ·rw[iB (by omega)] at ha;rw[iB (by omega)] at hb;rw[hl] at ha;exact h'.2 _ a b ha hb
theorem DJ{t:TypeId}{k:IntKind}(ht:P.underlying t=some (.int k)):fk enc P W t (AV.int k) (λn=>(Lit.int k n).wf=true):=λn cs x hx _=>by
 obtain⟨a,rfl,rfl,hw⟩:=DataW.trod_int ht hx;exact⟨a,hw,rU (.int _ _)⟩
theorem tI{e:TypeId}{l:List (DataW H)}{d:DataW H}(h:d∈l){k:Nat}(hk:k∈d.weights P e):k∈DataW.weightsAll P e l:=by
 induction l with
 |nil=>cases h
 |cons a l ih=>
  unfold DataW.weightsAll;rcases c9.1 h with rfl|h
  ·exact mA _ hk
  ·exact lQ _ (ih h)
theorem yN{α:Type}{len:Nat}{Q:Nat->α->Prop}(h:∀i,i<len->∃a,Q i a):∃l:List α,l.length=len/\∀i a,l[i]?=some a->Q i a:=by
 induction len with
 |zero=>exact⟨[],rfl,λi a h=>by simp at h⟩
 |succ n ih=>
  obtain⟨l,h1,h2⟩:=ih (λi hi=>h i (by omega));obtain⟨a,ha⟩:=h n (by omega);refine⟨l++[a],by simp[h1],λi b hb=>?_⟩;by_cases hi:i<l.length
  ·rw[gC hi] at hb;exact h2 i b hb
  ·rw[iB (by omega)] at hb
   have:i-l.length=0:=by
    by_cases h0:i-l.length=0
    ·exact h0
    ·rw[List.getElem?_eq_none (by simp;omega)] at hb;cases hb
   rw[this] at hb;simp at hb;subst hb;have:i=n:=by omega
   subst this;exact ha
theorem qU{t e:TypeId}{sz by_:Nat}{α:Type}{f:α->AV}{good:α->Prop}(ht:P.underlying t=some (.slice e))(hsz:P.cellsOf e=sz)(hby:P.bytesOf e=by_)(hpos:0<sz)(hc:∀a,(f a).cells.length=sz)
    (he:fk enc P W e f good):fk enc P W t (iS sz f) (λl=>(∀a∈l,good a)/\l.length<=9223372036854775807/\l.length*by_<=140737488351232):=λn cs x hx hw=>by
 rcases Go.Deep.open_slice ht hx with⟨rfl,rfl⟩|⟨a,len,cap,m,n',D,Pl,rfl,hb,hlc,hcm,hm,hxe,hel⟩
 ·exact⟨[],⟨λ_ h=>(by cases h),by simp,by simp⟩,rU (.slnil _)⟩
 simp only[if_true] at hm;subst hxe;subst hm;have hw':∀k∈((DataW.slice (H:=H) ((List.range len).map D) ((List.range (m-len)).map λj=>D (len+j))).weights P t),k<=reachBytes:=hw;simp only[DataW.weights,ht] at hw';have hlen:(((List.range len).map D).length+((List.range (m-len)).map λj=>D (len+j)).length)*P.bytesOf e<=reachBytes:=hw' _ (dq ..)
 have hbd:len*by_<=140737488351232:=by
  rw[hby] at hlen;simp only[bk,List.length_range] at hlen;have h1:len*by_<=(len+(m-len))*by_:=lq _ (by omega);have h2:reachBytes=140737488351232:=rfl;omega
 have hlm:len<=9223372036854775807:=fc hlc hcm
 have key:∀i,i<len->∃a':α,good a'/\∃cs',W.cells? 0 (a.add (i*sz)) sz=some cs'/\dB (E0 (uy W)) W (f a').cells cs':=λi hi=>by
  obtain⟨cs',h1,h2⟩:=hel i (by omega);rw[hsz] at h1;obtain⟨a',g1,g2⟩:=he n' cs' _ h2 (λk hk=>hw' k (eD _ (mA _ (tI (bJ.2 ⟨i,ef.2 hi,rfl⟩) hk))));exact⟨a',g1,cs',h1,g2⟩
 obtain⟨l,hl,hq⟩:=yN key;refine⟨l,⟨λx hx=>?_,by omega,by rw[hl];exact hbd⟩,rU ?_⟩
 ·obtain⟨i,hi⟩:=Ab hx;exact(hq i x hi).1
 by_cases h0:len=0
 ·subst h0;have:l=[]:=fA.1 hl;subst this;exact .slempty _ _ _
 have hcell:∀i j,i<len->j<sz->∃v,W.cell? ((a.add (i*sz)).add j)=some v:=λi j hi hj=>by
  obtain⟨a',_,cs',h1,h2⟩:=key i hi;unfold World.cells? at h1;rw[if_pos (bz _)] at h1;have h3:=mapM_some_get h1 j j (by simp[hj])
  have h4:j<cs'.length:=by
   have:=mapM_some_length h1;simp at this;omega
  exact⟨cs'[j],by rw[h3];simp[h4]⟩
 obtain⟨v0,hv0⟩:=hcell 0 0 (by omega) hpos;have ho:=Dc hv0;simp only[xN,Addr.add,if_true] at ho;obtain⟨blk,off,sp⟩:=a;obtain⟨ho,hsp⟩:=ho;simp only at hsp ho;subst hsp
 have hadd:∀i j,((⟨blk,off,none⟩:Addr).add (i*sz)).add j=⟨blk,off+(i*sz+j),none⟩:=λi j=>by
  rw[cC,cC,pu]
 have hcell':∀k,k<len*sz->∃v,W.cell? ⟨blk,off+k,none⟩=some v:=λk hk=>by
  have h1:k/sz<len:=Nat.div_lt_of_lt_mul (by rw[Nat.mul_comm];exact hk);have h2:k%sz<sz:=Nat.mod_lt _ hpos;obtain⟨v,hv⟩:=hcell (k/sz) (k%sz) h1 h2;rw[hadd,Nat.div_add_mod'] at hv;exact⟨v,hv⟩
 have hlen2:(l.map f).length=len:=by simp[hl]
 have:=Rel.sl (E:=E0 (uy W)) (w:=W) sz (l.map f) blk off m (λk=>(W.cell? ⟨blk,off+k,none⟩).getD Go.undef) ho (by rw[hlen2];exact hlc)
  (λx hx=>by obtain⟨b,_,rfl⟩:=bJ.1 hx;exact hc b)
  (fun k hk=>by
   rw[hlen2] at hk;obtain⟨v,hv⟩:=hcell' k hk;simp only[hv,sX])
  (fun i j x y hx hy=>by
   rw[lV,Option.map_eq_some_iff] at hx;obtain⟨a',ha',rfl⟩:=hx;obtain⟨_,cs',h1,h2⟩:=hq i a' ha'
   have hj:j<sz:=by
    have:=(bM.1 hy).1
    rwa [hc] at this
   have hi:i<len:=by
    have:=(bM.1 ha').1;omega
   unfold World.cells? at h1;rw[if_pos (bz _)] at h1;have h3:=mapM_some_get h1 j j (by simp[hj])
   have h4:j<cs'.length:=by
    have:=mapM_some_length h1;simp at this;omega
   rw[hadd] at h3;have h5:cs'[j]?=some cs'[j]:=by simp[h4]
   rw[h5] at h3;simp only[h3,sX];exact h2.2 j y _ hy h5)
 rw[hlen2] at this;exact this
def wR(enc:TypeId×Value->H)(P:Program)(W:World)(fs:List Field)(off:Nat){α:Type}(g:α->List AV)(good:α->Prop):Prop:=
 ∀(n tot:Nat)(cs:List Value)(ys:List (DataW H×List MemPlace)),ys.length=fs.length->(∀(i:Nat)(f:Field),fs[i]?=some f->DataW.trod enc P W 0 (λ_=>true) true n f.type ((cs.drop f.offset).take (P.cellsOf f.type))=ys[i]?)->
  (∀k∈DataW.weightsEach P (fs.map λf:Field=>f.type) (ys.map (·.1)),k<=reachBytes)->cs.length=tot->tot=off+(fs.map λf:Field=>P.cellsOf f.type).sum->∃a:α,good a/\dB (E0 (uy W)) W (g a) (cs.drop off)
theorem ug{off:Nat}:wR enc P W [] off (λ_:Unit=>[]) (λ_=>True):=λn tot cs ys _ _ _ h1 h2=>by
 refine⟨(),trivial,?_⟩;rw[E5 (by simp at h2;omega)];exact⟨rfl,λi a b h=>by simp at h⟩
theorem mJ{fd:Field}{fs:List Field}{off off':Nat}{α β:Type}{f:α->AV}{g:β->List AV}{good:α->Prop}{good':β->Prop}(ho:fd.offset=off)(ho':off+P.cellsOf fd.type=off')
    (h:fk enc P W fd.type f good) (h':wR enc P W fs off' g good'):wR enc P W (fd::fs) off (λa:α×β=>(f a.1).cells++g a.2) (λa=>good a.1/\good' a.2):=λn tot cs ys hl hy hw h1 h2=>by
 obtain⟨y,ys,rfl⟩:∃y ys',ys=y::ys':=by
  cases ys with
  |nil=>simp at hl
  |cons y ys=>exact⟨y,ys,rfl⟩
 have hy0:=hy 0 fd rfl;simp only[xE] at hy0;rw[ho] at hy0;simp only[fY,DataW.weightsEach] at hw;obtain⟨a,g1,g2⟩:=h n _ y hy0 (λk hk=>hw k (mA _ hk));simp only[fY,List.sum_cons] at h2
 obtain ⟨b,g3,g4⟩:=h' n tot cs ys (by simpa using hl) (fun i f hf=>by
  have:=hy (i+1) f (by simpa using hf);simpa using this) (λk hk=>hw k (lQ _ hk)) h1 (by omega)
 refine⟨(a,b),⟨g1,g3⟩,?_⟩
 have e:cs.drop off=(cs.drop off).take (P.cellsOf fd.type)++cs.drop off':=by
  rw[<-ho',<-List.drop_drop,Ep]
 rw[e];exact dB.app g2 g4
theorem oz{t:TypeId}{fs:Array Field}{α:Type}{g:α->List AV}{good:α->Prop}(ht:P.underlying t=some (.struct fs))(hsum:P.cellsOf t=(fs.toList.map λf:Field=>P.cellsOf f.type).sum)
    (h:wR enc P W fs.toList 0 g good):fk enc P W t (λa=>.agg (g a)) good:=λn cs x hx hw=>by
 obtain⟨ys,n',rfl,rfl,hl,hs,hy⟩:=DataW.trod_struct ht hx
 obtain ⟨a,g1,g2⟩:=h n' _ cs ys (by rw [hs]; simp) (fun i f hf=>hy i f (by simpa using hf)) (fun k hk=>hw k (by
  simp only[DataW.weights,ht];exact hk)) hl (by rw[bS,hsum])
 exact⟨a,g1,by rw[List.drop_zero] at g2;exact g2⟩
theorem fk.map{t:TypeId}{α β:Type}{f:α->AV}{good:α->Prop}{f':β->AV}{good':β->Prop}(h:fk enc P W t f good)(φ:α->β)(hg:∀a,good a->good' (φ a))(hf:∀a,good a->(f' (φ a)).cells=(f a).cells):fk enc P W t f' good':=λn cs x hx hw=>by
 obtain⟨a,h1,h2⟩:=h n cs x hx hw;exact⟨φ a,hg a h1,by rw[hf a h1];exact h2⟩
theorem fk.at{t u:TypeId}{α:Type}{f:α->AV}{good:α->Prop}(e:t=u)(h:fk enc P W u f good):fk enc P W t f good:=e▸h
theorem fk.argA{t:TypeId}{α:Type}{f:α->AV}{good:α->Prop}(h:fk enc P W t f good){r:Reach}{base:Nat}{v:Value}{d:DataW H}{ps:List MemPlace}(ht:qo P t=true)(hf:∀a,∃cs,f a=.agg cs)
    (hval:Value.okWide P W r base t v) (hd:DataW.Trod enc P W 0 (λ_=>true) true t v d ps) (hw:∀k∈d.weights P t,k<=reachBytes):∃a,good a/\Rel (E0 (uy W)) W (f a) v:=by
 obtain⟨n,hn⟩:=hd;obtain⟨a,h1,h2⟩:=h n _ _ hn hw;refine⟨a,h1,?_⟩
 obtain⟨cs,hcs,_⟩:∃cs,v=.agg cs/\True:=by
  unfold Value.okWide at hval;unfold qo at ht;split at hval
  ·obtain⟨cs,h,_⟩:=hval;exact⟨cs,h,trivial⟩
  ·obtain⟨cs,h,_⟩:=hval;exact⟨cs,h,trivial⟩
  ·rename_i k1 k2;revert ht;cases hu:P.underlying t with
   |none=>simp
   |some u=>
    cases u with
    |struct fs=>exact absurd hu (k1 fs)
    |array m e=>exact absurd hu (k2 m e)
    |_=>simp
 subst hcs;obtain⟨xs,hx⟩:=hf a;rw[hx] at h2 |-;exact .agg xs cs.toList h2.1 h2.2
theorem fk.arg1{t:TypeId}{α:Type}{f:α->AV}{good:α->Prop}(h:fk enc P W t f good){v:Value}{d:DataW H}{ps:List MemPlace}(hf:∀a,(f a).cells=[f a])(hv:v.cells=#[v])
    (hd:DataW.Trod enc P W 0 (λ_=>true) true t v d ps) (hw:∀k∈d.weights P t,k<=reachBytes):∃a,good a/\Rel (E0 (uy W)) W (f a) v:=by
 obtain⟨n,hn⟩:=hd;obtain⟨a,h1,h2⟩:=h n _ _ hn hw;rw[hf,hv] at h2;exact⟨a,h1,h2.2 0 _ _ rfl rfl⟩
theorem Df{t:TypeId}{r:Reach}{base:Nat}{v:Value}(ht:qo P t=false)(hval:Value.okWide P W r base t v):v.cells=#[v]:=by
 cases v<;>try rfl
 rename_i cs;exfalso;unfold Value.okWide at hval;unfold qo at ht;cases hu:P.underlying t with
 |none=>simp only[hu,Cell.okWide,Cell.ok] at hval
 |some u=>
  rw[hu] at ht;cases u<;>simp only[hu,Cell.okWide,Cell.ok] at hval<;>simp at ht
theorem nJ(hl:laidOutB P=true){W':World}(hb:Below W.heap.size W W'){sp:Nat->Bool}:∀{ts:List TypeId}{vs:List Value}{ds:List (DataW H)}{ps:List MemPlace},(∀t∈ts,P.readableRec t=true/\t<P.types.size)->
    DataW.TrodAll enc P W 0 (λ_=>true) true ts vs ds ps->(∀p∈ps,p.block<W.heap.size)->(∀p∈ps,sp p.block=true)->DataW.TrodAll enc P W' 0 sp true ts vs ds ps
 |[],[],[],ps,_,h,_,_=>h
 |t::ts,v::vs,d::ds,ps,hr,⟨p,q,h1,h2,e⟩,hlt,hsp=>by
  subst e
  exact ⟨p,q,WideElems.Trod_stays hl (hr t (dq ..)).1 (hr t (dq ..)).2 h1 (fun x hx=>hb.same (hlt x (mA _ hx))) (fun x hx=>hsp x (mA _ hx)),
   nJ hl hb (λt ht=>hr t (eD _ ht)) h2 (λx hx=>hlt x (lQ _ hx)) (λx hx=>hsp x (lQ _ hx)),rfl⟩
 |[],_::_,_,_,_,h,_,_=>h.elim
 |[],[],_::_,_,_,h,_,_=>h.elim
 |_::_,[],_,_,_,h,_,_=>h.elim
 |_::_,_::_,[],_,_,h,_,_=>h.elim
theorem mN:∀{ts:List TypeId}{ds:List (DataW H)}{i:Nat}{t:TypeId}{d:DataW H},ts[i]?=some t->ds[i]?=some d->∀k∈d.weights P t,k∈DataW.weightsEach P ts ds
 |t::ts,d::ds,0,_,_,h1,h2,k,hk=>by
  simp at h1 h2;subst h1 h2;unfold DataW.weightsEach;exact mA _ hk
 |t::ts,d::ds,i+1,_,_,h1,h2,k,hk=>by
  unfold DataW.weightsEach;exact lQ _ (mN (ts:=ts) (ds:=ds) (by simpa using h1) (by simpa using h2) k hk)
 |[],_,i,_,_,h1,_,_,_=>by simp at h1
 |_::_,[],i,_,_,_,h2,_,_=>by simp at h2
end
end Go.Abs
namespace Go.Proofs.YtekdaafnjdlenaaGreat
open Go Go.Abs Go.Abs.C2 Go.Abs.Ins Go.Abs.Opd Go.Abs.TK Go.Abs.MK
def cO(d:Nat)(i:Ins):Op2:=Op2.mk (some d) none i
def cG(d g:Nat)(b:Bool)(i:Ins):Op2:=Op2.mk (some d) (some (g,b)) i
def cN(k:Int):Opd:=Opd.c (AV.int IntKind.i64 k)
def cM(n:Nat):Ins:=Ins.mov (Opd.t n)
def cD(n:Nat):Ins:=Ins.ld1 (Opd.t n)
def cF(n:Nat):Opd:=Opd.c (AV.func n [])
def cB(o:BinOp)(x y:Opd):Ins:=Ins.bin o false false x y
def bc:Opd:=Opd.c (AV.bool false)
def cS:Opd:=Opd.c (AV.bool true)
def aa(d s:Nat):Op2:=Op2.mk (some d) none (Ins.mov (Opd.t s))
def az(d s:Nat):Op2:=Op2.mk (some d) none (Ins.ld1 (Opd.t s))
def bl(d n s:Nat):Op2:=Op2.mk (some d) none (Ins.ldn n (Opd.t s))
def bd(d s:Nat):Op2:=Op2.mk (some d) none (Ins.lenS (Opd.t s))
def bB(d n s:Nat):Op2:=Op2.mk (some d) none (Ins.fa n (Opd.t s))
def a5(d s n:Nat):Op2:=Op2.mk (some d) none (Ins.ext (Opd.t s) n)
def aH(d f:Nat)(l:List Opd):Op2:=Op2.mk (some d) none (Ins.call (Opd.c (AV.func f [])) l)
def aK(d:Nat)(o:BinOp)(x y:Nat):Op2:=Op2.mk (some d) none (Ins.bin o false false (Opd.t x) (Opd.t y))
def am(d:Nat)(o:BinOp)(x:Nat)(y:Int):Op2:=Op2.mk (some d) none (Ins.bin o false false (Opd.t x) (Opd.c (AV.int IntKind.i64 y)))
def be(n p v:Nat):Op2:=Op2.mk none none (Ins.st n (Opd.t p) (Opd.t v))
def bu(d g:Nat)(i:Ins):Op2:=Op2.mk (some d) (some (g,false)) i
def aj(d g:Nat)(i:Ins):Op2:=Op2.mk (some d) (some (g,true)) i
def aq(n:Nat)(x y:C2):C2:=C2.cond (Opd.t n) x y
def ab(l:List Op2)(x:C2):C2:=C2.seq (C2.ops 0 l) x
def ba:AV:=AV.int IntKind.i64 0
theorem aG:(∀(d:Nat)(i:Ins),cO d i=Op2.mk (some d) none i)/\(∀(d g:Nat)(b:Bool)(i:Ins),cG d g b i=Op2.mk (some d) (some (g,b)) i)/\(∀(k:Int),cN k=Opd.c (AV.int IntKind.i64 k))/\(∀(n:Nat),cM n=Ins.mov (Opd.t n))/\(∀(n:Nat),cD n=Ins.ld1 (Opd.t n))/\(∀(n:Nat),cF n=Opd.c (AV.func n []))/\(∀(o:BinOp)(x y:Opd),cB o x y=Ins.bin o false false x y)/\(bc=Opd.c (AV.bool false))/\(cS=Opd.c (AV.bool true))/\(∀(d s:Nat),aa d s=Op2.mk (some d) none (Ins.mov (Opd.t s)))/\(∀(d s:Nat),az d s=Op2.mk (some d) none (Ins.ld1 (Opd.t s)))/\(∀(d n s:Nat),bl d n s=Op2.mk (some d) none (Ins.ldn n (Opd.t s)))/\(∀(d s:Nat),bd d s=Op2.mk (some d) none (Ins.lenS (Opd.t s)))/\(∀(d n s:Nat),bB d n s=Op2.mk (some d) none (Ins.fa n (Opd.t s)))/\(∀(d s n:Nat),a5 d s n=Op2.mk (some d) none (Ins.ext (Opd.t s) n))/\(∀(d f:Nat)(l:List Opd),aH d f l=Op2.mk (some d) none (Ins.call (Opd.c (AV.func f [])) l))/\(∀(d:Nat)(o:BinOp)(x y:Nat),aK d o x y=Op2.mk (some d) none (Ins.bin o false false (Opd.t x) (Opd.t y)))/\(∀(d:Nat)(o:BinOp)(x:Nat)(y:Int),am d o x y=Op2.mk (some d) none (Ins.bin o false false (Opd.t x) (Opd.c (AV.int IntKind.i64 y))))/\(∀(n p v:Nat),be n p v=Op2.mk none none (Ins.st n (Opd.t p) (Opd.t v)))/\(∀(d g:Nat)(i:Ins),bu d g i=Op2.mk (some d) (some (g,false)) i)/\(∀(d g:Nat)(i:Ins),aj d g i=Op2.mk (some d) (some (g,true)) i)/\(∀(n:Nat)(x y:C2),aq n x y=C2.cond (Opd.t n) x y)/\(∀(l:List Op2)(x:C2),ab l x=C2.seq (C2.ops 0 l) x)/\(ba=AV.int IntKind.i64 0):=⟨λ_ _=>rfl,λ_ _ _ _=>rfl,λ_=>rfl,λ_=>rfl,λ_=>rfl,λ_=>rfl,λ_ _ _=>rfl,rfl,rfl,λ_ _=>rfl,λ_ _=>rfl,λ_ _ _=>rfl,λ_ _=>rfl,λ_ _ _=>rfl,λ_ _ _=>rfl,λ_ _ _=>rfl,λ_ _ _ _=>rfl,λ_ _ _ _=>rfl,λ_ _ _=>rfl,λ_ _ _=>rfl,λ_ _ _=>rfl,λ_ _ _=>rfl,λ_ _=>rfl,rfl⟩
theorem mkI{P:Program}{f:FuncId}{F:F2}{fn:Func}(h1:P.funcs[f]?=some fn)(h2:xW P fn=some F:=by kernel_rfl):Is P f F:=Is.mk' h1 h2
theorem follows:Tryz.prog.follows .mixedOrders=true:=by rfl
abbrev pU:=@Go.Abs.Pure Tryz.prog
theorem pO{f:FuncId}{F:F2}{args:List AV}{r:AV}(hf:Is Tryz.prog f F)(hb:aM Tryz.prog F.body (T0 args) bF 0 λe T H nx=>aS e.ends (bj T H (λx=>Snap H x r) F.res))(hl:args.length<=F.n:=by exact Nat.le_of_ble_eq_true rfl):Go.Abs.Pure Tryz.prog f args r:=Go.Abs.Pure.of_c2 follows hf hl hb
theorem fO{f:FuncId}{F:F2}{args:List AV}{H:Hp}{nx:Nat}{K:AV->Hp->Nat->Prop}(hf:Is Tryz.prog f F)(hb:aM Tryz.prog F.body (T0 args) H nx λe T H nx=>aS e.ends (bj T H (λx=>K x H nx) F.res))(hl:args.length<=F.n:=by exact Nat.le_of_ble_eq_true rfl):Go.Abs.Fn Tryz.prog f args H nx K:=Go.Abs.Fn.of_c2 follows hf hl hb
theorem qO{f:FuncId}{F:F2}{args:List AV}{r:AV}(hf:Is Tryz.prog f F)(hb:aM Tryz.prog F.body (T0 args) bF 0 λe T H nx=>aS e.ends (bj T H (λx=>SnapF H x r) F.res))(hl:args.length<=F.n:=by exact Nat.le_of_ble_eq_true rfl):Go.Abs.PureF Tryz.prog f args r:=Go.Abs.PureF.of_c2 follows hf hl hb
def b3:F2:=(F2.mk 60 [RV.t 4] (ab [cO 2 (box (t 0)),cO 4 (mov bc)] ((ab [bl 13 1 2,aH 14 11 [t 13,c AV.esl],cO 15 (un UnOp.not (t 14))] (aq 15 (ab [aH 16 12 [],aa 4 16] ret) skip)).seq (ab [bl 18 1 2,aH 19 13 [t 18],aa 17 19,a5 20 17 0,a5 21 17 1,aa 5 20,aa 6 21] (ab [bl 23 1 2,aH 24 14 [t 23],aa 22 24,a5 25 22 0,a5 26 22 1,aa 7 25,aa 8 26] (ab [bl 28 1 2,aa 29 1,aH 30 15 [t 28,t 29],aa 27 30,a5 31 27 0,a5 32 27 1,aa 9 31,aa 10 32] (ab [bl 34 1 2,aa 35 1,aH 36 16 [t 34,t 35],aa 33 36,a5 37 33 0,a5 38 33 1,aa 11 37,aa 12 38] (ab [aH 39 12 [],aa 40 39,aj 41 40 (cM 5),aj 42 40 (cM 7),aj 43 40 (call (cF 17) [t 41,t 42]),cO 44 (pick (t 40) (t 43) bc),aa 45 44,aj 46 45 (cM 6),aj 47 45 (cM 8),aj 48 45 (cB .eql (t 46) (t 47)),cO 49 (pick (t 45) (t 48) bc),aa 50 49,aj 51 50 (cM 9),aj 52 50 (cM 11),aj 53 50 (bin BinOp.eql true false (t 51) (t 52)),cO 54 (pick (t 50) (t 53) bc),aa 55 54,aj 56 55 (cM 10),aj 57 55 (cM 12),aj 58 55 (cB .eql (t 56) (t 57)),cO 59 (pick (t 55) (t 58) bc),aa 4 59] ret))))))))
def b4:F2:=(F2.mk 36 [RV.t 4] (ab [cO 2 (box (t 0)),cO 4 (mov bc)] ((ab [bl 9 1 2,aH 10 11 [t 9,c AV.esl],cO 11 (un UnOp.not (t 10))] (aq 11 (ab [aH 12 12 [],aa 4 12] ret) skip)).seq (ab [bl 14 1 2,aa 15 1,aH 16 18 [t 14,t 15],aa 13 16,a5 17 13 0,a5 18 13 1,aa 5 17,aa 6 18] (ab [bl 20 1 2,aa 21 1,aH 22 19 [t 20,t 21],aa 19 22,a5 23 19 0,a5 24 19 1,aa 7 23,aa 8 24] (ab [aH 25 12 [],aa 26 25,aj 27 26 (cM 5),aj 28 26 (cM 7),aj 29 26 (call (cF 20) [t 27,t 28]),cO 30 (pick (t 26) (t 29) bc),aa 31 30,aj 32 31 (cM 6),aj 33 31 (cM 8),aj 34 31 (cB .eql (t 32) (t 33)),cO 35 (pick (t 31) (t 34) bc),aa 4 35] ret))))))
theorem is4:Is Tryz.prog 4 b4:=mkI Tryz.func4
def b11:F2:=(F2.mk 40 [RV.t 4] (ab [cO 2 (box (t 0)),cO 4 (mov bc)] ((ab [aa 10 1,bd 11 10,cO 12 (mov (cN 0))] (block 0 (ab [aK 13 .lss 12 11] ((aq 13 skip (exit 0)).seq ((block 1 (ab [cO 14 (ixaS 1 (t 10) (t 12)),az 15 14,aa 6 15] (ab [aa 16 6,aH 17 40 [t 16],cO 18 (un UnOp.not (t 17))] (aq 18 (ab [cO 4 (mov bc)] ret) skip)))).seq (ops 0 [am 19 .add 12 1,aa 12 19])))).loop)).seq (ab [cO 7 (mov (cN 0))] ((ab [bB 20 0 2,az 21 20,bd 22 21,cO 23 (mov (cN 0))] (block 2 (ab [aK 24 .lss 23 22] ((aq 24 skip (exit 2)).seq ((block 3 (ab [cO 25 (ixaS 1 (t 21) (t 23)),az 26 25,aa 9 26] (ops 0 [aa 27 7,aa 28 9,bd 29 28,cO 30 (mn (t 29) [cN ((10))]),cO 31 (cB .shl (cN 1) (t 30)),aK 32 .add 27 31,aa 7 32]))).seq (ops 0 [am 33 .add 23 1,aa 23 33])))).loop)).seq (ab [bl 34 1 2,aH 35 41 [t 34],aa 36 35,aj 37 36 (cM 7),aj 38 36 (cB .leq (t 37) (cN 400)),cO 39 (pick (t 36) (t 38) bc),aa 4 39] ret))))))
theorem N8:Is Tryz.prog 11 b11:=mkI Tryz.func11
def b12:F2:=(F2.mk 193 [RV.t 0] (ab [cO 0 (mov bc)] (ab [cO 21 (bldS 1 2 [ba] [(0,1,cN ((0))),(1,1,cN ((1)))]),aH 22 42 [t 21],cO 23 (bldS 1 2 [ba] [(0,1,cN ((0))),(1,1,cN ((2)))]),aH 24 42 [t 23],cO 25 (bldS 1 2 [ba] [(0,1,cN ((1))),(1,1,cN ((2)))]),aH 26 42 [t 25],cO 27 (bldS 1 3 [AV.esl] [(0,1,t 22),(1,1,t 24),(2,1,t 26)]),aa 1 27] (ab [aa 28 1,cO 29 (bld [AV.esl] [(0,1,t 28)]),cO 30 (bldS 1 3 [ba] [(0,1,cN ((0))),(1,1,cN ((1))),(2,1,cN ((2)))]),aH 31 42 [t 30],cO 32 (bldS 1 1 [AV.esl] [(0,1,t 31)]),cO 33 (bld [AV.esl] [(0,1,t 32)]),cO 2 (alloc (AV.agg [AV.esl])),cO 3 (alloc (AV.agg [AV.esl])),be 1 2 29,be 1 3 33] (ab [cO 34 (bldS 1 3 [ba] [(0,1,cN ((0))),(1,1,cN ((1))),(2,1,cN ((2)))]),aH 35 42 [t 34],cO 36 (bldS 1 3 [ba] [(0,1,cN ((0))),(1,1,cN ((1))),(2,1,cN ((3)))]),aH 37 42 [t 36],cO 38 (bldS 1 3 [ba] [(0,1,cN ((0))),(1,1,cN ((2))),(2,1,cN ((3)))]),aH 39 42 [t 38],cO 40 (bldS 1 3 [ba] [(0,1,cN ((1))),(1,1,cN ((2))),(2,1,cN ((3)))]),aH 41 42 [t 40],cO 42 (bldS 1 4 [AV.esl] [(0,1,t 35),(1,1,t 37),(2,1,t 39),(3,1,t 41)]),cO 43 (bld [AV.esl] [(0,1,t 42)]),cO 4 (alloc (AV.agg [AV.esl])),be 1 4 43] (ab [bl 45 1 2,aH 46 13 [t 45],aa 44 46,a5 47 44 0,a5 48 44 1,aa 5 47,aa 6 48] (ab [bl 50 1 3,aH 51 13 [t 50],aa 49 51,a5 52 49 0,a5 53 49 1,aa 7 52,aa 8 53] (ab [bl 55 1 4,aH 56 13 [t 55],aa 54 56,a5 57 54 0,a5 58 54 1,aa 9 57,aa 10 58] (ab [bl 60 1 2,aH 61 18 ([t 60,cN ((1))]),aa 59 61,a5 62 59 0,a5 63 59 1,aa 11 62,aa 12 63] ((ab [aa 64 6,aa 65 8,aK 66 .add 64 65,aa 67 10,aK 68 .add 66 67,aa 69 12,aK 70 .add 68 69,am 71 .neq 70 0,aa 72 71,bu 73 72 (cM 5),bu 74 72 (bldS 1 2 [ba] [(0,1,cN ((1))),(1,1,cN ((1)))]),bu 75 72 (call (cF 17) [t 73,t 74]),bu 76 72 (un UnOp.not (t 75)),cO 77 (pick (t 72) cS (t 76)),aa 78 77,bu 79 78 (cM 7),bu 80 78 (bldS 1 3 [ba] [(0,1,cN ((1))),(1,1,cN ((0))),(2,1,cN ((0)))]),bu 81 78 (call (cF 17) [t 79,t 80]),bu 82 78 (un UnOp.not (t 81)),cO 83 (pick (t 78) cS (t 82)),aa 84 83,bu 85 84 (cM 9),bu 86 84 (bldS 1 3 [ba] [(0,1,cN ((1))),(1,1,cN ((0))),(2,1,cN ((1)))]),bu 87 84 (call (cF 17) [t 85,t 86]),bu 88 84 (un UnOp.not (t 87)),cO 89 (pick (t 84) cS (t 88)),aa 90 89,bu 91 90 (cM 11),bu 92 90 (lenS (t 91)),bu 93 90 (cB .neq (t 92) (cN 1)),cO 94 (pick (t 90) cS (t 93)),aa 95 94,bu 96 95 (cM 11),bu 97 95 (ixaS 1 (t 96) (cN 0)),bu 98 95 (cD 97),bu 99 95 (cM 1),bu 100 95 (call (cF 23) [t 98,t 99]),bu 101 95 (un UnOp.not (t 100)),cO 102 (pick (t 95) cS (t 101))] (aq 102 (ab [cO 0 (mov bc)] ret) skip)).seq (ab [bl 104 1 2,aa 105 1,aH 106 21 [t 104,t 105],aa 103 106,a5 107 103 0,a5 108 103 1,a5 109 103 2,a5 110 103 3,aa 13 107,aa 14 108,aa 15 109,aa 6 110] (ab [bl 112 1 3,aa 113 1,aH 114 21 [t 112,t 113],aa 111 114,a5 115 111 0,a5 116 111 1,a5 117 111 2,a5 118 111 3,aa 16 115,aa 17 116,aa 18 117,aa 8 118] (ab [bl 120 1 4,aH 121 15 ([t 120,cN ((1))]),aa 119 121,a5 122 119 0,a5 123 119 1,aa 19 122,aa 10 123] (ab [bl 125 1 4,aH 126 15 ([t 125,cN ((2))]),aa 124 126,a5 127 124 0,a5 128 124 1,aa 20 127,aa 12 128] ((ab [aa 129 6,aa 130 8,aK 131 .add 129 130,aa 132 10,aK 133 .add 131 132,aa 134 12,aK 135 .add 133 134,am 136 .neq 135 0,aa 137 136,bu 138 137 (cM 15),cO 139 (pick (t 137) cS (t 138)),aa 140 139,bu 141 140 (cM 18),bu 142 140 (un UnOp.not (t 141)),cO 143 (pick (t 140) cS (t 142)),aa 144 143,bu 145 144 (cM 19),bu 146 144 (un UnOp.not (t 145)),cO 147 (pick (t 144) cS (t 146)),aa 148 147,bu 149 148 (cM 20),cO 150 (pick (t 148) cS (t 149)),aa 151 150,bu 152 151 (cM 16),bu 153 151 (bldS 1 3 [ba] [(0,1,cN ((0))),(1,1,cN ((1))),(2,1,cN ((2)))]),bu 154 151 (call (cF 42) [t 153]),bu 155 151 (bldS 1 1 [AV.esl] [(0,1,t 154)]),bu 156 151 (call (cF 23) [t 152,t 155]),bu 157 151 (un UnOp.not (t 156)),cO 158 (pick (t 151) cS (t 157))] (aq 158 (ab [cO 0 (mov bc)] ret) skip)).seq ((mix 1 [bl 159 1 2,aa 160 1,aa 161 14,aH 162 27 [t 159,t 160,t 161],am 163 .eql 162 0,aa 164 163,aj 165 164 (ldn 1 (t 2)),aj 166 164 (cM 1),aj 167 164 (cM 1),aj 168 164 (sls 1 (t 167) (some (cN 2)) none none),aj 169 164 (call (cF 27) [t 165,t 166,t 168]),aj 170 164 (cB .eql (t 169) (cN 0)),cO 171 (pick (t 164) (t 170) bc),aa 172 171,aj 173 172 (ldn 1 (t 3)),aj 174 172 (cM 1),aj 175 172 (cM 1),aj 176 172 (sls 1 (t 175) (some (cN 2)) none none),aj 177 172 (call (cF 27) [t 173,t 174,t 176]),aj 178 172 (cB .eql (t 177) (cN 18)),cO 179 (pick (t 172) (t 178) bc),aa 180 179,aj 181 180 (ldn 1 (t 3)),aj 182 180 (cM 1),aj 183 180 (cM 16),aj 184 180 (call (cF 25) [t 181,t 182,t 183]),aj 185 180 (cB .eql (t 184) (cN 0)),cO 186 (pick (t 180) (t 185) bc),aa 187 186,aj 188 187 (ldn 1 (t 2)),aj 189 187 (cM 1),aj 190 187 (call (cF 25) [t 188,t 189,c AV.esl]),aj 191 187 (cB .eql (t 190) (cN 18)),cO 192 (pick (t 187) (t 191) bc),aa 0 192] [1,2,0,3,4,5,7,8,9,6,10,11,12,13,15,16,17,14,18,19,20,21,23,24,22,25,26,27,28,30,29,31,32,33,34]).seq ret))))))))))))))))
theorem OB:Is Tryz.prog 12 b12:=mkI Tryz.func12
def b13:F2:=(F2.mk 14 [RV.t 2,RV.t 3] (ab [cO 1 (box (t 0)),cO 2 (mov (c AV.esl)),cO 3 (mov (cN 0))] ((ab [bl 5 1 1,aH 6 43 [t 5],aa 4 6] (ab [aa 7 4,am 8 .neq 7 0] (aq 8 (ab [aa 9 4,cO 2 (mov (c AV.esl)),aa 3 9] ret) skip))).seq (ab [bl 10 1 1,aH 11 44 [t 10],a5 12 11 0,a5 13 11 1,aa 2 12,aa 3 13] ret))))
theorem N5:Is Tryz.prog 13 b13:=mkI Tryz.func13
def b15:F2:=(F2.mk 47 [RV.t 4,RV.t 5] (ab [cO 2 (box (t 0)),cO 4 (mov bc),cO 5 (mov (cN 0))] ((ab [bl 9 1 2,aH 10 43 [t 9],aa 6 10] (ab [aa 11 6,am 12 .neq 11 0] (aq 12 (ab [aa 13 6,cO 4 (mov bc),aa 5 13] ret) skip))).seq ((ab [aa 14 1,cO 15 (cB .lss (t 14) (cN ((-1)))),aa 16 15,bu 17 16 (cM 1),bu 18 16 (cB .geq (t 17) (cN 8)),cO 19 (pick (t 16) cS (t 18))] (aq 19 (ab [cO 4 (mov bc),cO 5 (mov (cN 2))] ret) skip)).seq (ab [bl 21 1 2,aH 22 44 [t 21],aa 20 22,a5 23 20 0,a5 24 20 1,aa 7 23,aa 8 24] ((ab [aa 25 8,am 26 .neq 25 0,aa 27 26,bu 28 27 (cM 7),bu 29 27 (lenS (t 28)),bu 30 27 (cB .eql (t 29) (cN 0)),cO 31 (pick (t 27) cS (t 30))] (aq 31 (ab [aa 32 8,cO 4 (mov bc),aa 5 32] ret) skip)).seq (ab [aa 33 7,cO 34 (ixaS 1 (t 33) (cN 0)),az 35 34,am 36 .sub 35 1,cO 37 (ixaS 1 (t 33) (cN 0)),be 1 37 36] (ab [aa 38 7,aa 39 1,am 40 .add 39 1,aa 41 7,bd 42 41,cO 43 (mn (t 40) [t 42]),cO 44 (sls 1 (t 38) none (some (t 43)) none),aH 45 48 ([t 44,c (AV.func 49 [])]),cO 46 (un UnOp.not (t 45)),aa 4 46,cO 5 (mov (cN 0))] ret))))))))
theorem N4:Is Tryz.prog 15 b15:=mkI Tryz.func15
def b17:F2:=(F2.mk 26 [RV.t 4] (ab [cO 4 (mov bc)] ((ab [aa 6 0,bd 7 6,aa 8 1,bd 9 8,aK 10 .neq 7 9] (aq 10 (ab [cO 4 (mov bc)] ret) skip)).seq ((ab [aa 11 0,bd 12 11,cO 13 (mov (cN 0))] (block 0 (ab [aK 14 .lss 13 12] ((aq 14 skip (exit 0)).seq ((block 1 (ab [aa 15 13,aa 5 15] ((ops 1 [aa 16 0,aa 17 5,cO 18 (ixaS 1 (t 16) (t 17)),az 19 18,aa 20 1,aa 21 5,cO 22 (ixaS 1 (t 20) (t 21)),az 23 22,aK 24 .neq 19 23]).seq (aq 24 (ab [cO 4 (mov bc)] ret) skip)))).seq (ops 0 [am 25 .add 13 1,aa 13 25])))).loop)).seq (ab [cO 4 (mov cS)] ret)))))
theorem Oc:Is Tryz.prog 17 b17:=mkI Tryz.func17
def b18:F2:=(F2.mk 46 [RV.c1 4,RV.c1 5] (ab [cO 2 (box (t 0)),cO 3 (box (t 1)),cO 4 (alloc AV.esl),cO 5 (alloc (ba))] ((ab [bl 12 1 2,aH 13 43 [t 12],aa 6 13] (ab [aa 14 6,am 15 .neq 14 0] (aq 15 (ab [aa 16 6,Op2.mk none none (Ins.st 1 (t 4) (c AV.esl)),be 1 5 16] ret) skip))).seq ((ab [az 17 3,am 18 .lss 17 0,aa 19 18,bu 20 19 (cD 3),bu 21 19 (cB .geq (t 20) (cN 8)),cO 22 (pick (t 19) cS (t 21))] (aq 22 (ab [Op2.mk none none (Ins.st 1 (t 4) (c AV.esl)),Op2.mk none none (Ins.st 1 (t 5) (cN 2))] ret) skip)).seq (ab [cO 7 (alloc AV.esl)] ((ab [bl 23 1 2,az 24 3,aH 25 50 [t 23,t 24]] (block 0 (rangeF (t 25) [26,27] (ab [aa 8 26] (ops 0 [aa 9 27])) (block 1 ((ab [aa 28 9,am 29 .neq 28 0] (aq 29 (ab [aa 30 9,Op2.mk none none (Ins.st 1 (t 4) (c AV.esl)),be 1 5 30] ret) skip)).seq (ab [bl 32 1 2,az 33 3,aa 34 8,aH 35 34 [t 32,t 33,t 34],aa 31 35,a5 36 31 0,a5 37 31 1,aa 10 36,aa 11 37] ((ab [aa 38 11,am 39 .neq 38 0] (aq 39 (ab [aa 40 11,Op2.mk none none (Ins.st 1 (t 4) (c AV.esl)),be 1 5 40] ret) skip)).seq (ops 0 [az 41 7,aa 42 10,cO 43 (bldS 1 1 [AV.esl] [(0,1,t 42)]),cO 44 (app 1 24 (t 41) (t 43)),be 1 7 44])))))))).seq (ab [az 45 7,be 1 4 45,Op2.mk none none (Ins.st 1 (t 5) (cN 0))] ret)))))))
theorem M9:Is Tryz.prog 18 b18:=mkI Tryz.func18
def b19:F2:=(F2.mk 66 [RV.t 4,RV.t 5] (ab [cO 2 (box (t 0)),cO 4 (mov (c AV.esl)),cO 5 (mov (cN 0))] ((ab [bl 13 1 2,aH 14 45 [t 13],aa 6 14] (ab [aa 15 6,am 16 .neq 15 0] (aq 16 (ab [aa 17 6,cO 4 (mov (c AV.esl)),aa 5 17] ret) skip))).seq ((ab [aa 18 1,am 19 .lss 18 0,aa 20 19,bu 21 20 (cM 1),bu 22 20 (cB .geq (t 21) (cN 8)),cO 23 (pick (t 20) cS (t 22))] (aq 23 (ab [cO 4 (mov (c AV.esl)),cO 5 (mov (cN 2))] ret) skip)).seq (ab [bl 24 1 2,aa 25 1,am 26 .add 25 1,aH 27 51 [t 24,t 26],aa 7 27] (ab [bl 28 1 2,aa 29 1,aH 30 53 [t 28,t 29],aH 31 52 [t 30],cO 8 (alloc (AV.agg [ba,AV.esl])),be 2 8 31] (ab [cO 9 (mov (c AV.esl))] (ab [cO 10 (mov (c AV.esl))] ((ab [cO 11 (mov (cN 0))] (block 0 ((ab [aa 32 11,bB 33 1 8,az 34 33,bd 35 34,aK 36 .lss 32 35] (aq 36 skip (exit 0))).seq ((block 1 (ab [cO 12 (mov (c AV.esl))] (ab [aa 39 12,aa 40 9,cO 41 (app 1 24 (t 39) (t 40)),aa 12 41] (ab [aa 42 12,bB 43 1 8,az 44 43,aa 45 11,cO 46 (ixaS 1 (t 44) (t 45)),az 47 46,cO 48 (bldS 1 1 [AV.esl] [(0,1,t 47)]),cO 49 (app 1 24 (t 42) (t 48)),aa 12 49] (ab [bl 50 1 2,aa 51 1,aa 52 12,aH 53 54 [t 50,t 51,t 52]] (aq 53 (ab [aa 54 12,aa 9 54] (ops 0 [aa 55 10,aa 56 7,bB 57 1 8,az 58 57,aa 59 11,cO 60 (ixaS 1 (t 58) (t 59)),az 61 60,aH 62 55 [t 56,t 61],cO 63 (bldS 1 1 [AV.esl] [(0,1,t 62)]),cO 64 (app 1 24 (t 55) (t 63)),aa 10 64])) skip)))))).seq (ops 0 [aa 37 11,am 38 .add 37 1,aa 11 38]))).loop)).seq (ab [aa 65 10,aa 4 65,cO 5 (mov (cN 0))] ret))))))))))
theorem Lu:Is Tryz.prog 19 b19:=mkI Tryz.func19
def b20:F2:=(F2.mk 8 [RV.t 4] (ab [cO 4 (mov bc)] (ab [aa 5 0,aa 6 1,aH 7 56 ([t 5,t 6,c (AV.func 23 [])]),aa 4 7] ret)))
theorem OD:Is Tryz.prog 20 b20:=mkI Tryz.func20
def b21:F2:=(F2.mk 84 [RV.t 4,RV.t 5,RV.t 6,RV.t 7] (ab [cO 2 (box (t 0)),cO 4 (mov (c AV.esl)),cO 5 (mov (c AV.esl)),cO 6 (mov bc),cO 7 (mov (cN 0))] ((ab [bl 19 1 2,aH 20 43 [t 19],aa 8 20] (ab [aa 21 8,am 22 .neq 21 0] (aq 22 (ab [aa 23 8,cO 4 (mov (c AV.esl)),cO 5 (mov (c AV.esl)),cO 6 (mov bc),aa 7 23] ret) skip))).seq (ab [bl 25 1 2,aa 26 1,aH 27 57 [t 25,t 26],aa 24 27,a5 28 24 0,a5 29 24 1,aa 9 28,aa 10 29] ((ab [aa 30 10,am 31 .neq 30 0] (aq 31 (ab [aa 32 10,cO 4 (mov (c AV.esl)),cO 5 (mov (c AV.esl)),cO 6 (mov bc),aa 7 32] ret) skip)).seq ((ab [aa 33 1,bd 34 33,am 35 .eql 34 0] (aq 35 (ab [cO 4 (mov (c AV.esl)),cO 5 (mov (c AV.esl)),cO 6 (mov cS),cO 7 (mov (cN 0))] ret) skip)).seq (ab [aa 36 1,cO 37 (ixaS 1 (t 36) (cN 0)),az 38 37,bd 39 38,am 40 .sub 39 1,aa 11 40] (ab [bl 42 1 2,aa 43 11,am 44 .add 43 1,aH 45 58 [t 42,t 44],aa 41 45,a5 46 41 0,a5 47 41 1,cO 12 (alloc (AV.agg [ba,AV.esl])),be 2 12 46,aa 10 47] ((ab [aa 48 10,am 49 .neq 48 0] (aq 49 (ab [aa 50 10,cO 4 (mov (c AV.esl)),cO 5 (mov (c AV.esl)),cO 6 (mov bc),aa 7 50] ret) skip)).seq (ab [bl 52 2 12,aa 53 9,aH 54 59 [t 52,t 53],aa 51 54,a5 55 51 0,a5 56 51 1,a5 57 51 2,a5 58 51 3,aa 13 55,aa 14 56,aa 15 57,aa 10 58] ((ab [aa 59 10,am 60 .neq 59 0] (aq 60 (ab [aa 61 10,cO 4 (mov (c AV.esl)),cO 5 (mov (c AV.esl)),cO 6 (mov bc),aa 7 61] ret) skip)).seq ((ab [aa 62 15] (aq 62 (ab [bl 64 1 2,aa 65 11,am 66 .add 65 1,aa 67 13,aH 68 34 [t 64,t 66,t 67],aa 63 68,a5 69 63 0,a5 70 63 1,aa 16 69,aa 17 70] (ab [aa 71 16,aa 72 17,am 73 .eql 72 0,aa 74 17,aa 4 71,cO 5 (mov (c AV.esl)),aa 6 73,aa 7 74] ret)) skip)).seq (ab [bl 76 1 2,aa 77 11,aa 78 14,aH 79 34 [t 76,t 77,t 78],aa 75 79,a5 80 75 0,a5 81 75 1,aa 18 80,aa 10 81] (ab [aa 82 18,aa 83 10,cO 4 (mov (c AV.esl)),aa 5 82,cO 6 (mov bc),aa 7 83] ret))))))))))))))
theorem NG:Is Tryz.prog 21 b21:=mkI Tryz.func21
def b23:F2:=(F2.mk 27 [RV.t 4] (ab [cO 4 (mov bc)] ((ab [aa 6 0,bd 7 6,aa 8 1,bd 9 8,aK 10 .neq 7 9] (aq 10 (ab [cO 4 (mov bc)] ret) skip)).seq ((ab [cO 5 (mov (cN 0))] (block 0 ((ab [aa 11 5,aa 12 0,bd 13 12,aK 14 .lss 11 13] (aq 14 skip (exit 0))).seq ((block 1 ((mixS 1 [aa 17 0,aa 18 5,cO 19 (ixaS 1 (t 17) (t 18)),az 20 19,aa 21 1,aa 22 5,cO 23 (ixaS 1 (t 21) (t 22)),az 24 23,aH 25 63 [t 20,t 24],cO 26 (un UnOp.not (t 25))] [(0,0),(1,0),(2,0),(3,0),(4,0),(5,0),(6,0),(7,0),(8,2),(9,0)]).seq (aq 26 (ab [cO 4 (mov bc)] ret) skip))).seq (ops 0 [aa 15 5,am 16 .add 15 1,aa 5 16]))).loop)).seq (ab [cO 4 (mov cS)] ret)))))
theorem Ow:Is Tryz.prog 23 b23:=mkI Tryz.func23
def b25:F2:=(F2.mk 55 [RV.t 6] (ab [cO 3 (box (t 0)),cO 6 (mov (cN 0))] ((ab [bl 13 1 3,aa 14 1,aa 15 2,aH 16 67 [t 13,t 14,t 15],aa 12 16,a5 17 12 0,a5 18 12 1,a5 19 12 2,aa 7 17,aa 8 18,aa 9 19] (ab [aa 20 9,am 21 .neq 20 0] (aq 21 (ab [aa 22 9,aa 6 22] ret) skip))).seq (((ops 1 [aa 23 1,bd 24 23,am 25 .gtr 24 0,aa 26 25,aj 27 26 (cM 2),aj 28 26 (lenS (t 27)),aj 29 26 (cB .gtr (t 28) (cN 0)),cO 30 (pick (t 26) (t 29) bc),aa 31 30,aj 32 31 (cM 2),aj 33 31 (ixaS 1 (t 32) (cN 0)),aj 34 31 (cD 33),aj 35 31 (lenS (t 34)),aj 36 31 (cM 1),aj 37 31 (ixaS 1 (t 36) (cN 0)),aj 38 31 (cD 37),aj 39 31 (lenS (t 38)),aj 40 31 (cB .add (t 39) (cN 1)),aj 41 31 (cB .neq (t 35) (t 40)),cO 42 (pick (t 31) (t 41) bc)]).seq (aq 42 (ab [cO 6 (mov (cN 15))] ret) skip)).seq (ab [aa 44 2,aH 45 29 [t 44],aa 43 45,a5 46 43 0,a5 47 43 1,aa 10 46,aa 11 47] ((ab [aa 48 11,am 49 .neq 48 0] (aq 49 (ab [aa 50 11,aa 6 50] ret) skip)).seq ((ab [aa 51 10,aa 52 1,aH 53 68 ([t 51,t 52,c (AV.func 69 [])]),cO 54 (un UnOp.not (t 53))] (aq 54 (ab [cO 6 (mov (cN 18))] ret) skip)).seq (ab [cO 6 (mov (cN 0))] ret))))))))
theorem Og:Is Tryz.prog 25 b25:=mkI Tryz.func25
def b27:F2:=(F2.mk 55 [RV.t 6] (ab [cO 3 (box (t 0)),cO 6 (mov (cN 0))] (ab [bl 12 1 3,aa 13 1,aa 14 2,aH 15 67 [t 12,t 13,t 14],aa 11 15,a5 16 11 0,a5 17 11 1,a5 18 11 2,aa 7 16,aa 8 17,aa 9 18] ((ab [aa 19 9,am 20 .neq 19 0] (aq 20 (ab [aa 21 9,aa 6 21] ret) skip)).seq ((ab [aa 22 1,bd 23 22,am 24 .eql 23 0,aa 25 24,bu 26 25 (cM 2),bu 27 25 (lenS (t 26)),bu 28 25 (cB .eql (t 27) (cN 0)),cO 29 (pick (t 25) cS (t 28))] (aq 29 (ab [cO 6 (mov (cN 18))] ret) skip)).seq (((ops 1 [aa 30 1,cO 31 (ixaS 1 (t 30) (cN 0)),az 32 31,bd 33 32,aa 34 2,cO 35 (ixaS 1 (t 34) (cN 0)),az 36 35,bd 37 36,aK 38 .neq 33 37]).seq (aq 38 (ab [cO 6 (mov (cN 15))] ret) skip)).seq ((ops 1 [bl 40 1 3,aa 41 1,cO 42 (ixaS 1 (t 41) (cN 0)),az 43 42,bd 44 43,aH 45 58 [t 40,t 44],aa 39 45,a5 46 39 0,a5 47 39 1,cO 10 (alloc (AV.agg [ba,AV.esl])),be 2 10 46,aa 9 47]).seq ((ab [aa 48 9,am 49 .neq 48 0] (aq 49 (ab [aa 50 9,aa 6 50] ret) skip)).seq (ab [bl 51 2 10,aa 52 7,aa 53 8,aH 54 71 [t 51,t 52,t 53],aa 6 54] ret)))))))))
theorem NI:Is Tryz.prog 27 b27:=mkI Tryz.func27
def b28:F2:=(F2.mk 68 [RV.t 2] (ab [cO 1 (box (t 0)),cO 2 (mov (cN 0))] (ab [bB 8 0 1,az 9 8,aa 3 9] ((ab [aa 10 3,bd 11 10,am 12 .gtr 11 4096] (aq 12 (ab [cO 2 (mov (cN 5))] ret) skip)).seq ((ab [cO 4 (mov (cN 0))] (block 0 ((ab [aa 13 4,aa 14 3,bd 15 14,aK 16 .lss 13 15] (aq 16 skip (exit 0))).seq ((block 1 ((ab [aa 19 3,aa 20 4,cO 21 (ixaS 1 (t 19) (t 20)),az 22 21,aH 23 72 [t 22],aa 5 23] (ab [aa 24 5,am 25 .neq 24 0] (aq 25 (ab [aa 26 5,aa 2 26] ret) skip))).seq ((mixS 1 [aa 27 4,am 28 .gtr 27 0,aa 29 28,aj 30 29 (cM 3),aj 31 29 (cM 4),aj 32 29 (cB .sub (t 31) (cN 1)),aj 33 29 (ixaS 1 (t 30) (t 32)),aj 34 29 (cD 33),aj 35 29 (cM 3),aj 36 29 (cM 4),aj 37 29 (ixaS 1 (t 35) (t 36)),aj 38 29 (cD 37),aj 39 29 (call (cF 73) [t 34,t 38]),aj 40 29 (cB .geq (t 39) (cN 0)),cO 41 (pick (t 29) (t 40) bc)] [(0,0),(1,0),(2,0),(3,0),(4,0),(5,0),(6,0),(7,0),(8,0),(9,0),(10,0),(11,0),(12,2),(13,0),(14,0)]).seq (aq 41 (ab [cO 2 (mov (cN 14))] ret) skip)))).seq (ops 0 [aa 17 4,am 18 .add 17 1,aa 4 18]))).loop)).seq ((ab [cO 6 (mov (cN 0))] (block 2 ((ab [aa 42 6,aa 43 3,bd 44 43,aK 45 .lss 42 44] (aq 45 skip (exit 2))).seq ((block 3 (ab [cO 7 (mov (cN 0))] (block 4 ((ab [aa 48 7,aa 49 3,bd 50 49,aK 51 .lss 48 50] (aq 51 skip (exit 4))).seq ((block 5 ((mixS 1 [aa 54 6,aa 55 7,aK 56 .neq 54 55,aa 57 56,aj 58 57 (cM 3),aj 59 57 (cM 6),aj 60 57 (ixaS 1 (t 58) (t 59)),aj 61 57 (cD 60),aj 62 57 (cM 3),aj 63 57 (cM 7),aj 64 57 (ixaS 1 (t 62) (t 63)),aj 65 57 (cD 64),aj 66 57 (call (cF 74) [t 61,t 65]),cO 67 (pick (t 57) (t 66) bc)] [(0,0),(1,0),(2,0),(3,0),(4,0),(5,0),(6,0),(7,0),(8,0),(9,0),(10,0),(11,0),(12,2),(13,0)]).seq (aq 67 (ab [cO 2 (mov (cN 7))] ret) skip))).seq (ops 0 [aa 52 7,am 53 .add 52 1,aa 7 53]))).loop))).seq (ops 0 [aa 46 6,am 47 .add 46 1,aa 6 47]))).loop)).seq (ab [cO 2 (mov (cN 0))] ret)))))))
theorem ND:Is Tryz.prog 28 b28:=mkI Tryz.func28
def b29:F2:=(F2.mk 15 [RV.t 2,RV.t 3] (ab [cO 2 (mov (c AV.esl)),cO 3 (mov (cN 0))] ((ab [aa 5 0,aH 6 75 [t 5],aa 4 6] (ab [aa 7 4,am 8 .neq 7 0] (aq 8 (ab [aa 9 4,cO 2 (mov (c AV.esl)),aa 3 9] ret) skip))).seq (ab [aa 10 0,aH 11 77 [t 10],aH 12 76 [t 11],a5 13 12 0,a5 14 12 1,aa 2 13,aa 3 14] ret))))
theorem NR:Is Tryz.prog 29 b29:=mkI Tryz.func29
def b30:F2:=(F2.mk 60 [RV.t 4,RV.t 5] (ab [cO 2 (box (t 0)),cO 4 (mov (c AV.esl)),cO 5 (mov (cN 0))] ((ab [bl 15 1 2,aH 16 78 [t 15],aa 6 16] (ab [aa 17 6,am 18 .neq 17 0] (aq 18 (ab [aa 19 6,cO 4 (mov (c AV.esl)),aa 5 19] ret) skip))).seq ((ab [aa 20 1,aH 21 75 [t 20],aa 7 21] (ab [aa 22 7,am 23 .neq 22 0] (aq 23 (ab [aa 24 7,cO 4 (mov (c AV.esl)),aa 5 24] ret) skip))).seq ((ab [aa 25 1,bd 26 25,am 27 .eql 26 0] (aq 27 (ab [cO 4 (mov (c AV.esl)),cO 5 (mov (cN 0))] ret) skip)).seq ((mixS 1 [bl 29 1 2,aa 30 1,cO 31 (ixaS 1 (t 30) (cN 0)),az 32 31,bd 33 32,aH 34 79 [t 29,t 33],aa 28 34,a5 35 28 0,a5 36 28 1,aa 8 35,aa 9 36] [(0,0),(1,0),(2,0),(3,0),(4,0),(5,2),(6,0),(7,0),(8,0),(9,0),(10,0)]).seq ((ab [aa 37 9,am 38 .neq 37 0] (aq 38 (ab [aa 39 9,cO 4 (mov (c AV.esl)),aa 5 39] ret) skip)).seq (ab [cO 10 (mov (c AV.esl))] ((ab [aa 40 1,bd 41 40,cO 42 (mov (cN 0))] (block 0 (ab [aK 43 .lss 42 41] ((aq 43 skip (exit 0)).seq ((block 1 (ab [cO 44 (ixaS 1 (t 40) (t 42)),az 45 44,aa 12 45] (ab [aa 47 8,aa 48 12,aH 49 80 [t 47,t 48],aa 46 49,a5 50 46 0,a5 51 46 1,aa 13 50,aa 14 51] ((ab [aa 52 14,cO 53 (un UnOp.not (t 52))] (aq 53 (ab [cO 4 (mov (c AV.esl)),cO 5 (mov (cN 6))] ret) skip)).seq (ops 0 [aa 54 10,aa 55 13,cO 56 (bldS 1 1 [ba] [(0,1,t 55)]),cO 57 (app 1 8 (t 54) (t 56)),aa 10 57]))))).seq (ops 0 [am 58 .add 42 1,aa 42 58])))).loop)).seq (ab [aa 59 10,aa 4 59,cO 5 (mov (cN 0))] ret))))))))))
theorem Om:Is Tryz.prog 30 b30:=mkI Tryz.func30
def b33:F2:=(F2.mk 14 [RV.t 2,RV.t 3] (ab [cO 2 (mov bc),cO 3 (mov (cN 0))] ((ab [aa 5 0,aH 6 75 [t 5],aa 4 6] (ab [aa 7 4,am 8 .neq 7 0] (aq 8 (ab [aa 9 4,cO 2 (mov bc),aa 3 9] ret) skip))).seq (ab [aa 10 0,aH 11 77 [t 10],bd 12 11,am 13 .eql 12 0,aa 2 13,cO 3 (mov (cN 0))] ret))))
theorem OQ:Is Tryz.prog 33 b33:=mkI Tryz.func33
def b34:F2:=(F2.mk 72 [RV.t 6,RV.t 7] (ab [cO 3 (box (t 0)),cO 6 (mov (c AV.esl)),cO 7 (mov (cN 0))] ((ab [bl 14 1 3,aH 15 78 [t 14],aa 8 15] (ab [aa 16 8,am 17 .neq 16 0] (aq 17 (ab [aa 18 8,cO 6 (mov (c AV.esl)),aa 7 18] ret) skip))).seq ((ab [aa 19 1,am 20 .lss 19 0,aa 21 20,bu 22 21 (cM 1),bu 23 21 (cB .geq (t 22) (cN 8)),cO 24 (pick (t 21) cS (t 23))] (aq 24 (ab [cO 6 (mov (c AV.esl)),cO 7 (mov (cN 2))] ret) skip)).seq (ab [bl 26 1 3,aa 27 1,aH 28 83 [t 26,t 27],aa 25 28,a5 29 25 0,a5 30 25 1,aa 9 29,aa 10 30] ((ab [aa 31 10,am 32 .neq 31 0] (aq 32 (ab [aa 33 10,cO 6 (mov (c AV.esl)),aa 7 33] ret) skip)).seq (ab [cO 11 (mov (c AV.esl))] ((ab [aa 34 2,bd 35 34,cO 36 (mov (cN 0))] (block 0 (ab [aK 37 .lss 36 35] ((aq 37 skip (exit 0)).seq ((block 1 (ab [aa 38 36,cO 39 (ixaS 1 (t 34) (t 36)),az 40 39,aa 12 38,aa 13 40] ((block 2 (ab [aa 42 13,am 43 .lss 42 0,aa 44 43,bu 45 44 (cM 13),bu 46 44 (cM 9),bu 47 44 (lenS (t 46)),bu 48 44 (cB .geq (t 45) (t 47)),cO 49 (pick (t 44) cS (t 48)),aa 41 49] (aq 41 (ab [cO 6 (mov (c AV.esl)),cO 7 (mov (cN 2))] ret) (ab [aa 51 12,am 52 .gtr 51 0,aa 53 52,aj 54 53 (cM 13),aj 55 53 (cM 2),aj 56 53 (cM 12),aj 57 53 (cB .sub (t 56) (cN 1)),aj 58 53 (ixaS 1 (t 55) (t 57)),aj 59 53 (cD 58),aj 60 53 (cB .leq (t 54) (t 59)),cO 61 (pick (t 53) (t 60) bc),aa 50 61] (aq 50 (ab [cO 6 (mov (c AV.esl)),cO 7 (mov (cN 14))] ret) skip))))).seq (ops 0 [aa 62 11,aa 63 9,aa 64 13,cO 65 (ixaS 1 (t 63) (t 64)),az 66 65,cO 67 (bldS 1 1 [AV.esl] [(0,1,t 66)]),cO 68 (app 1 24 (t 62) (t 67)),aa 11 68])))).seq (ops 0 [am 69 .add 36 1,aa 36 69])))).loop)).seq (ab [aa 70 11,aH 71 84 [t 70],aa 6 71,cO 7 (mov (cN 0))] ret)))))))))
theorem NQ:Is Tryz.prog 34 b34:=mkI Tryz.func34
def b37:F2:=(F2.mk 40 [RV.t 2,RV.t 3] (ab [cO 1 (box (t 0)),cO 2 (mov (cN 0)),cO 3 (mov (cN 0))] ((ab [bl 9 1 1,aH 10 78 [t 9],aa 4 10] (ab [aa 11 4,am 12 .neq 11 0] (aq 12 (ab [aa 13 4,cO 2 (mov (cN 0)),aa 3 13] ret) skip))).seq (ab [cO 5 (mov (cN 0))] ((ab [cO 6 (mov (cN 1))] (block 0 ((ab [aa 14 6,am 15 .leq 14 8] (aq 15 skip (exit 0))).seq ((block 1 (ab [bB 19 0 1,az 20 19,aa 21 6,aH 22 87 [t 20,t 21],aa 18 22,a5 23 18 0,a5 24 18 1,aa 7 23,aa 8 24] ((ab [aa 25 8,am 26 .neq 25 0] (aq 26 (ab [aa 27 8,cO 2 (mov (cN 0)),aa 3 27] ret) skip)).seq (ab [aa 28 6,am 29 .rem 28 2,am 30 .eql 29 1] (aq 30 (ops 0 [aa 31 5,aa 32 7,bd 33 32,aK 34 .add 31 33,aa 5 34]) (ops 0 [aa 35 5,aa 36 7,bd 37 36,aK 38 .sub 35 37,aa 5 38])))))).seq (ops 0 [aa 16 6,am 17 .add 16 1,aa 6 17]))).loop)).seq (ab [aa 39 5,aa 2 39,cO 3 (mov (cN 0))] ret))))))
theorem Lb:Is Tryz.prog 37 b37:=mkI Tryz.func37
def b40:F2:=(F2.mk 28 [RV.t 2] (ab [cO 2 (mov bc)] ((ab [cO 3 (mov (cN 0))] (block 0 ((ab [aa 4 3,aa 5 0,bd 6 5,aK 7 .lss 4 6,aa 8 7,aj 9 8 (cM 3),aj 10 8 (cB .lss (t 9) (cN 50)),cO 11 (pick (t 8) (t 10) bc)] (aq 11 skip (exit 0))).seq ((block 1 (ab [aa 14 0,aa 15 3,cO 16 (ixaS 1 (t 14) (t 15)),az 17 16,bd 18 17,am 19 .gtr 18 10] (aq 19 (ab [cO 2 (mov bc)] ret) skip))).seq (ops 0 [aa 12 3,am 13 .add 12 1,aa 3 13]))).loop)).seq (ab [aa 20 0,bd 21 20,am 22 .leq 21 40,aa 23 22,bu 24 23 (cM 0),bu 25 23 (lenS (t 24)),bu 26 23 (cB .gtr (t 25) (cN 4096)),cO 27 (pick (t 23) cS (t 26)),aa 2 27] ret))))
theorem N7:Is Tryz.prog 40 b40:=mkI Tryz.func40
def b41:F2:=(F2.mk 6 [RV.t 2] (ab [cO 1 (box (t 0)),cO 2 (mov bc)] (ab [bB 3 0 1,az 4 3,aH 5 95 [t 4],aa 2 5] ret)))
theorem Ox:Is Tryz.prog 41 b41:=mkI Tryz.func41
def b42:F2:=(F2.mk 19 [RV.t 2] (ab [cO 2 (mov (c AV.esl))] (ab [cO 3 (mov (c AV.esl))] ((ab [aa 6 0,bd 7 6,cO 8 (mov (cN 0))] (block 0 (ab [aK 9 .lss 8 7] ((aq 9 skip (exit 0)).seq ((block 1 (ab [cO 10 (ixaS 1 (t 6) (t 8)),az 11 10,aa 5 11] (ops 0 [aa 12 3,aa 13 5,cO 14 (bld [ba,ba] [(0,1,t 13)]),cO 15 (bldS 2 1 [ba,ba] [(0,2,t 14)]),cO 16 (app 2 16 (t 12) (t 15)),aa 3 16]))).seq (ops 0 [am 17 .add 8 1,aa 8 17])))).loop)).seq (ab [aa 18 3,aa 2 18] ret)))))
theorem OI:Is Tryz.prog 42 b42:=mkI Tryz.func42
def b43:F2:=(F2.mk 11 [RV.t 2] (ab [cO 1 (box (t 0)),cO 2 (mov (cN 0))] (ab [bl 6 1 1,aH 7 37 [t 6],aa 5 7,a5 8 5 0,a5 9 5 1,aa 3 8,aa 4 9] (ab [aa 10 4,aa 2 10] ret))))
theorem I4:Is Tryz.prog 43 b43:=mkI Tryz.func43
def b44:F2:=(F2.mk 79 [RV.t 2,RV.t 3] (ab [cO 1 (box (t 0)),cO 2 (mov (c AV.esl)),cO 3 (mov (cN 0))] (ab [bl 16 1 1,aH 17 96 [t 16],aa 15 17,a5 18 15 0,a5 19 15 1,a5 20 15 2,aa 4 18,aa 5 19,aa 6 20] ((ab [aa 21 6,am 22 .neq 21 0] (aq 22 (ab [aa 23 6,cO 2 (mov (c AV.esl)),aa 3 23] ret) skip)).seq (ab [cO 24 (mkm none),aa 7 24] ((ab [aa 25 4,am 26 .add 25 2,cO 27 (mov (cN 0))] (block 0 (ab [aK 28 .lss 27 26] ((aq 28 skip (exit 0)).seq ((block 1 (ab [aa 29 27,aa 8 29] (ab [bl 31 1 1,aa 32 8,aH 33 58 [t 31,t 32],aa 30 33,a5 34 30 0,a5 35 30 1,cO 9 (alloc (AV.agg [ba,AV.esl])),be 2 9 34,aa 10 35] ((ab [aa 36 10,am 37 .neq 36 0] (aq 37 (ab [aa 38 10,cO 2 (mov (c AV.esl)),aa 3 38] ret) skip)).seq (ab [aa 40 7,aa 41 8,bl 42 2 9,aH 43 97 [t 42],aa 39 43,a5 44 39 0,a5 45 39 1,Op2.mk none none (mput (one int) (t 40) (t 41) (t 44)),aa 10 45] (ab [aa 46 10,am 47 .neq 46 0] (aq 47 (ab [aa 48 10,cO 2 (mov (c AV.esl)),aa 3 48] ret) skip))))))).seq (ops 0 [am 49 .add 27 1,aa 27 49])))).loop)).seq (ab [cO 11 (mov (c AV.esl))] ((ab [aa 50 4,am 51 .add 50 1,cO 52 (mov (cN 0))] (block 2 (ab [aK 53 .lss 52 51] ((aq 53 skip (exit 2)).seq ((block 3 (ab [aa 54 52,aa 12 54] (ab [bl 56 1 1,aa 57 12,aH 58 98 [t 56,t 57],aa 55 58,a5 59 55 0,a5 60 55 1,aa 13 59,aa 14 60] ((ab [aa 61 14,am 62 .neq 61 0] (aq 62 (ab [aa 63 14,cO 2 (mov (c AV.esl)),aa 3 63] ret) skip)).seq (ops 0 [aa 64 11,aa 65 13,aa 66 7,aa 67 12,cO 68 (Ins.mget (one int) (ba) false (t 66) (t 67)),aK 69 .sub 65 68,aa 70 7,aa 71 12,am 72 .add 71 1,cO 73 (Ins.mget (one int) (ba) false (t 70) (t 72)),aK 74 .sub 69 73,cO 75 (bldS 1 1 [ba] [(0,1,t 74)]),cO 76 (app 1 8 (t 64) (t 75)),aa 11 76]))))).seq (ops 0 [am 77 .add 52 1,aa 52 77])))).loop)).seq (ab [aa 78 11,aa 2 78,cO 3 (mov (cN 0))] ret)))))))))
theorem KR:Is Tryz.prog 44 b44:=mkI Tryz.func44
def b45:F2:=(F2.mk 25 [RV.t 2] (ab [cO 1 (box (t 0)),cO 2 (mov (cN 0))] ((ab [bl 7 1 1,aH 8 28 [t 7],aa 3 8] (ab [aa 9 3,am 10 .neq 9 0] (aq 10 (ab [aa 11 3,aa 2 11] ret) skip))).seq ((ab [cO 4 (mov (cN 1))] (block 0 ((ab [aa 12 4,am 13 .leq 12 8] (aq 13 skip (exit 0))).seq ((block 1 (ab [bl 17 1 1,aa 18 4,aH 19 99 [t 17,t 18],aa 16 19,a5 20 16 0,a5 21 16 1,aa 5 20,aa 6 21] (ab [aa 22 6,am 23 .neq 22 0] (aq 23 (ab [aa 24 6,aa 2 24] ret) skip)))).seq (ops 0 [aa 14 4,am 15 .add 14 1,aa 4 15]))).loop)).seq (ab [cO 2 (mov (cN 0))] ret)))))
theorem NJ:Is Tryz.prog 45 b45:=mkI Tryz.func45
def b48:F2:=(F2.mk 9 [RV.t 4] (ab [cO 4 (mov bc)] (ab [aa 5 0,aa 6 1,aH 7 101 [t 5,t 6],am 8 .geq 7 0,aa 4 8] ret)))
theorem OX:Is Tryz.prog 48 b48:=mkI Tryz.func48
def b49:F2:=(F2.mk 5 [RV.t 2] (ab [cO 2 (mov bc)] (ab [aa 3 0,am 4 .neq 3 0,aa 2 4] ret)))
theorem Oz:Is Tryz.prog 49 b49:=mkI Tryz.func49
def b50:F2:=(F2.mk 6 [RV.t 4] (ab [cO 2 (box (t 0)),cO 3 (box (t 1)),cO 4 (mov (c AV.nilf))] (ab [cO 5 (mkfn 102 [t 2,t 3]),aa 4 5] ret)))
theorem Ob:Is Tryz.prog 50 b50:=mkI Tryz.func50
def b51:F2:=(F2.mk 44 [RV.t 4] (ab [cO 2 (box (t 0)),cO 4 (mov (c AV.esl))] (ab [cO 5 (mov (c AV.esl))] ((ab [cO 6 (mov (cN 0))] (block 0 ((ab [aa 9 6,bB 10 0 2,az 11 10,bd 12 11,aK 13 .lss 9 12] (aq 13 skip (exit 0))).seq ((block 1 ((ab [aa 16 1,bB 17 0 2,az 18 17,aa 19 6,cO 20 (ixaS 1 (t 18) (t 19)),az 21 20,bd 22 21,aK 23 .gtr 16 22] (aq 23 (exit 1) skip)).seq (ab [bB 24 0 2,az 25 24,aa 26 6,cO 27 (ixaS 1 (t 25) (t 26)),az 28 27,aa 29 1,aH 30 104 [t 28,t 29],aa 7 30] (ab [cO 8 (mov (cN 0))] (block 2 ((ab [aa 31 8,aa 32 7,bd 33 32,aK 34 .lss 31 33] (aq 34 skip (exit 2))).seq ((block 3 (ops 0 [aa 37 5,aa 38 7,aa 39 8,cO 40 (ixaS 1 (t 38) (t 39)),az 41 40,aH 42 105 [t 37,t 41],aa 5 42])).seq (ops 0 [aa 35 8,am 36 .add 35 1,aa 8 36]))).loop))))).seq (ops 0 [aa 14 6,am 15 .add 14 1,aa 6 15]))).loop)).seq (ab [aa 43 5,aa 4 43] ret)))))
theorem NH:Is Tryz.prog 51 b51:=mkI Tryz.func51
def b52:F2:=(F2.mk 55 [RV.cn 2 2] (ab [cO 1 (box (t 0)),cO 2 (alloc (AV.agg [ba,AV.esl]))] (ab [bl 8 2 1,aH 9 106 [t 8],cO 3 (alloc (AV.agg [ba,AV.esl])),be 2 3 9] (ab [bB 10 0 1,az 11 10,cO 12 (bld [ba,AV.esl] [(0,1,t 11)]),cO 4 (alloc (AV.agg [ba,AV.esl])),be 2 4 12] ((ab [cO 5 (mov (cN 0))] (block 0 ((ab [aa 13 5,bB 14 0 1,az 15 14,aK 16 .lss 13 15] (aq 16 skip (exit 0))).seq ((block 1 ((ab [bl 19 2 3,aa 20 5,aH 21 107 [t 19,t 20]] (aq 21 (exit 1) skip)).seq (ab [aa 22 5,cO 23 (bldS 1 1 [ba] [(0,1,t 22)]),aa 6 23] ((ab [cO 7 (mov (cN 0))] (block 2 ((ab [aa 24 7,bB 25 1 3,az 26 25,bd 27 26,aK 28 .lss 24 27] (aq 28 skip (exit 2))).seq ((block 3 (ab [bB 31 1 3,az 32 31,aa 33 7,cO 34 (ixaS 1 (t 32) (t 33)),az 35 34,aa 36 5,aH 37 108 [t 35,t 36]] (aq 37 (ops 0 [aa 38 6,bB 39 1 3,az 40 39,aa 41 7,cO 42 (ixaS 1 (t 40) (t 41)),az 43 42,cO 44 (ixaS 1 (t 43) (cN 0)),az 45 44,cO 46 (bldS 1 1 [ba] [(0,1,t 45)]),aH 47 109 [t 38,t 46],aa 6 47]) skip))).seq (ops 0 [aa 29 7,am 30 .add 29 1,aa 7 30]))).loop)).seq (ops 0 [bB 48 1 4,az 49 48,aa 50 6,cO 51 (bldS 1 1 [AV.esl] [(0,1,t 50)]),cO 52 (app 1 24 (t 49) (t 51)),bB 53 1 4,be 1 53 52]))))).seq (ops 0 [aa 17 5,am 18 .add 17 1,aa 5 18]))).loop)).seq (ab [bl 54 2 4,be 2 2 54] ret))))))
theorem OW:Is Tryz.prog 52 b52:=mkI Tryz.func52
def b53:F2:=(F2.mk 20 [RV.cn 4 2] (ab [cO 2 (box (t 0)),cO 4 (alloc (AV.agg [ba,AV.esl]))] (ab [bl 6 1 2,aa 7 1,am 8 .add 7 1,aH 9 51 [t 6,t 8],aa 5 9] ((ab [aa 10 1,am 11 .eql 10 0] (aq 11 (ab [aa 12 5,bd 13 12,cO 14 (bld [ba,AV.esl] [(0,1,t 13)]),be 2 4 14] ret) skip)).seq (ab [aa 15 5,bl 16 1 2,aa 17 1,aH 18 51 [t 16,t 17],aH 19 110 [t 15,t 18],be 2 4 19] ret)))))
theorem OG:Is Tryz.prog 53 b53:=mkI Tryz.func53
def b54:F2:=(F2.mk 32 [RV.t 6] (ab [cO 3 (box (t 0)),cO 6 (mov bc)] (ab [bl 9 1 3,aa 10 1,am 11 .add 10 1,aH 12 53 [t 9,t 11],aH 13 111 [t 12],cO 7 (alloc (AV.agg [ba,AV.esl])),be 2 7 13] (ab [bl 14 2 7,aH 15 106 [t 14],cO 16 (part1 1 (t 15)),bd 17 16,aa 8 17] (ab [bB 18 1 7,az 19 18,aa 20 2,cO 21 (app 1 24 (t 19) (t 20)),bB 22 1 7,be 1 22 21] (ab [bl 23 2 7,aH 24 106 [t 23],cO 25 (part1 1 (t 24)),bd 26 25,aa 27 8,aa 28 2,bd 29 28,aK 30 .add 27 29,aK 31 .eql 26 30,aa 6 31] ret))))))
theorem Ol:Is Tryz.prog 54 b54:=mkI Tryz.func54
def b55:F2:=(F2.mk 24 [RV.t 4] (ab [cO 4 (mov (c AV.esl))] (ab [cO 5 (mov (c AV.esl))] ((ab [cO 6 (mov (cN 0))] (block 0 ((ab [aa 7 6,aa 8 1,bd 9 8,aK 10 .lss 7 9] (aq 10 skip (exit 0))).seq ((block 1 (ops 0 [aa 13 5,aa 14 0,aa 15 1,aa 16 6,cO 17 (ixaS 1 (t 15) (t 16)),az 18 17,cO 19 (ixaS 1 (t 14) (t 18)),az 20 19,cO 21 (bldS 1 1 [AV.esl] [(0,1,t 20)]),cO 22 (app 1 24 (t 13) (t 21)),aa 5 22])).seq (ops 0 [aa 11 6,am 12 .add 11 1,aa 6 12]))).loop)).seq (ab [aa 23 5,aa 4 23] ret)))))
theorem NY:Is Tryz.prog 55 b55:=mkI Tryz.func55
def b56:F2:=(F2.mk 32 [RV.t 6] (ab [cO 6 (mov bc)] ((ab [aa 10 0,bd 11 10,aa 12 1,bd 13 12,aK 14 .neq 11 13] (aq 14 (ab [cO 6 (mov bc)] ret) skip)).seq ((ab [aa 15 0,bd 16 15,cO 17 (mov (cN 0))] (block 0 (ab [aK 18 .lss 17 16] ((aq 18 skip (exit 0)).seq ((block 1 (ab [aa 19 17,cO 20 (ixaS 1 (t 15) (t 17)),az 21 20,aa 7 19,aa 8 21] (ab [aa 22 1,aa 23 7,cO 24 (ixaS 1 (t 22) (t 23)),az 25 24,aa 9 25] (ab [aa 26 2,aa 27 8,aa 28 9,cO 29 (call (t 26) [t 27,t 28]),cO 30 (un UnOp.not (t 29))] (aq 30 (ab [cO 6 (mov bc)] ret) skip))))).seq (ops 0 [am 31 .add 17 1,aa 17 31])))).loop)).seq (ab [cO 6 (mov cS)] ret)))))
theorem OE:Is Tryz.prog 56 b56:=mkI Tryz.func56
def b57:F2:=(F2.mk 31 [RV.t 4,RV.t 5] (ab [cO 2 (box (t 0)),cO 4 (mov (c AV.esl)),cO 5 (mov (cN 0))] (ab [bl 10 1 2,aa 11 1,aH 12 30 [t 10,t 11],aa 9 12,a5 13 9 0,a5 14 9 1,aa 6 13,aa 7 14] ((ab [aa 15 7,am 16 .neq 15 0] (aq 16 (ab [aa 17 7,cO 4 (mov (c AV.esl)),aa 5 17] ret) skip)).seq (ab [aa 19 1,aH 20 33 [t 19],aa 18 20,a5 21 18 0,a5 22 18 1,aa 8 21,aa 7 22] ((ab [aa 23 7,am 24 .eql 23 0,aa 25 24,aj 26 25 (cM 8),aj 27 25 (un UnOp.not (t 26)),cO 28 (pick (t 25) (t 27) bc)] (aq 28 (ab [cO 4 (mov (c AV.esl)),cO 5 (mov (cN 3))] ret) skip)).seq (ab [aa 29 6,aa 30 7,aa 4 29,aa 5 30] ret)))))))
theorem Oy:Is Tryz.prog 57 b57:=mkI Tryz.func57
def b58:F2:=(F2.mk 26 [RV.cn 4 2,RV.t 5] (ab [cO 2 (box (t 0)),cO 4 (alloc (AV.agg [ba,AV.esl])),cO 5 (mov (cN 0))] ((ab [aa 8 1,am 9 .lss 8 8] (aq 9 (ab [bl 10 1 2,aa 11 1,aH 12 112 [t 10,t 11],a5 13 12 0,a5 14 12 1,be 2 4 13,aa 5 14] ret) skip)).seq (ab [bl 16 1 2,aa 17 1,am 18 .sub 17 1,aH 19 98 [t 16,t 18],aa 15 19,a5 20 15 0,a5 21 15 1,aa 6 20,aa 7 21] (ab [aa 22 6,cO 23 (mks 1 24 [AV.esl] (t 22) (t 22)),cO 24 (bld [ba,AV.esl] [(1,1,t 23)]),aa 25 7,be 2 4 24,aa 5 25] ret)))))
theorem N0:Is Tryz.prog 58 b58:=mkI Tryz.func58
def b59:F2:=(F2.mk 65 [RV.t 4,RV.t 5,RV.t 6,RV.t 7] (ab [cO 2 (box (t 0)),cO 4 (mov (c AV.esl)),cO 5 (mov (c AV.esl)),cO 6 (mov bc),cO 7 (mov (cN 0))] ((ab [bl 17 2 2,aH 18 113 [t 17],aa 8 18] (ab [aa 19 8,am 20 .neq 19 0] (aq 20 (ab [aa 21 8,cO 4 (mov (c AV.esl)),cO 5 (mov (c AV.esl)),cO 6 (mov bc),aa 7 21] ret) skip))).seq ((ab [aa 22 1,bB 23 1 2,az 24 23,bd 25 24,aH 26 114 [t 22,t 25],aa 9 26] (ab [aa 27 9,am 28 .neq 27 0] (aq 28 (ab [aa 29 9,cO 4 (mov (c AV.esl)),cO 5 (mov (c AV.esl)),cO 6 (mov bc),aa 7 29] ret) skip))).seq (ab [bl 31 2 2,aH 32 115 [t 31],aa 30 32,a5 33 30 0,a5 34 30 1,aa 10 33,aa 11 34] ((ab [aa 35 11,bd 36 35,cO 37 (mov (cN 0))] (block 0 (ab [aK 38 .lss 37 36] ((aq 38 skip (exit 0)).seq ((block 1 (ab [cO 39 (ixaS 1 (t 35) (t 37)),az 40 39,aa 13 40] (ab [aa 41 13,aa 42 1,aH 43 116 [t 41,t 42]] (aq 43 (ab [aa 44 13,cO 4 (mov (c AV.esl)),aa 5 44,cO 6 (mov bc),cO 7 (mov (cN 0))] ret) skip)))).seq (ops 0 [am 45 .add 37 1,aa 37 45])))).loop)).seq (ab [cO 14 (mov (c AV.esl))] ((ab [aa 46 10,bd 47 46,cO 48 (mov (cN 0))] (block 2 (ab [aK 49 .lss 48 47] ((aq 49 skip (exit 2)).seq ((block 3 (ab [cO 50 (ixaS 2 (t 46) (t 48)),bl 51 2 50,cO 16 (alloc (AV.agg [AV.esl,AV.esl])),be 2 16 51] (ab [bB 52 1 16,az 53 52,aa 54 1,aH 55 116 [t 53,t 54]] (aq 55 (ops 0 [aa 56 14,bB 57 0 16,az 58 57,cO 59 (ixaS 1 (t 58) (cN 0)),az 60 59,cO 61 (bldS 1 1 [ba] [(0,1,t 60)]),cO 62 (app 1 8 (t 56) (t 61)),aa 14 62]) skip)))).seq (ops 0 [am 63 .add 48 1,aa 48 63])))).loop)).seq (ab [aa 64 14,aa 4 64,cO 5 (mov (c AV.esl)),cO 6 (mov cS),cO 7 (mov (cN 0))] ret)))))))))
theorem OO:Is Tryz.prog 59 b59:=mkI Tryz.func59
def b63:F2:=(F2.mk 9 [RV.t 4] (ab [cO 4 (mov bc)] (ab [aa 5 0,aa 6 1,aH 7 73 [t 5,t 6],am 8 .eql 7 0,aa 4 8] ret)))
theorem N3:Is Tryz.prog 63 b63:=mkI Tryz.func63
def b67:F2:=(F2.mk 36 [RV.t 6,RV.t 7,RV.t 8] (ab [cO 3 (box (t 0)),cO 6 (mov (c AV.esl)),cO 7 (mov (c AV.esl)),cO 8 (mov (cN 0))] ((ab [bl 13 1 3,aH 14 43 [t 13],aa 9 14] (ab [aa 15 9,am 16 .neq 15 0] (aq 16 (ab [aa 17 9,cO 6 (mov (c AV.esl)),cO 7 (mov (c AV.esl)),aa 8 17] ret) skip))).seq (ab [bl 19 1 3,aa 20 1,aH 21 30 [t 19,t 20],aa 18 21,a5 22 18 0,a5 23 18 1,aa 10 22,aa 11 23] ((ab [aa 24 11,am 25 .neq 24 0] (aq 25 (ab [aa 26 11,cO 6 (mov (c AV.esl)),cO 7 (mov (c AV.esl)),aa 8 26] ret) skip)).seq (ab [bl 28 1 3,aa 29 2,aH 30 30 [t 28,t 29],aa 27 30,a5 31 27 0,a5 32 27 1,aa 12 31,aa 11 32] (ab [aa 33 10,aa 34 12,aa 35 11,aa 6 33,aa 7 34,aa 8 35] ret)))))))
theorem OJ:Is Tryz.prog 67 b67:=mkI Tryz.func67
def b68:F2:=(F2.mk 32 [RV.t 6] (ab [cO 6 (mov bc)] ((ab [aa 10 0,bd 11 10,aa 12 1,bd 13 12,aK 14 .neq 11 13] (aq 14 (ab [cO 6 (mov bc)] ret) skip)).seq ((ab [aa 15 0,bd 16 15,cO 17 (mov (cN 0))] (block 0 (ab [aK 18 .lss 17 16] ((aq 18 skip (exit 0)).seq ((block 1 (ab [aa 19 17,cO 20 (ixaS 1 (t 15) (t 17)),az 21 20,aa 7 19,aa 8 21] (ab [aa 22 1,aa 23 7,cO 24 (ixaS 1 (t 22) (t 23)),az 25 24,aa 9 25] (ab [aa 26 2,aa 27 8,aa 28 9,cO 29 (call (t 26) [t 27,t 28]),cO 30 (un UnOp.not (t 29))] (aq 30 (ab [cO 6 (mov bc)] ret) skip))))).seq (ops 0 [am 31 .add 17 1,aa 17 31])))).loop)).seq (ab [cO 6 (mov cS)] ret)))))
theorem Ot:Is Tryz.prog 68 b68:=mkI Tryz.func68
def b69:F2:=(F2.mk 9 [RV.t 4] (ab [cO 4 (mov bc)] (ab [aa 5 0,aa 6 1,aH 7 70 [t 5,t 6],am 8 .eql 7 0,aa 4 8] ret)))
theorem OH:Is Tryz.prog 69 b69:=mkI Tryz.func69
def b70:F2:=(F2.mk 8 [RV.t 4] (ab [cO 4 (mov (cN 0))] (ab [aa 5 0,aa 6 1,aH 7 122 ([t 5,t 6,c (AV.func 123 [])]),aa 4 7] ret)))
theorem OU:Is Tryz.prog 70 b70:=mkI Tryz.func70
def b71:F2:=(F2.mk 57 [RV.t 6] (ab [cO 3 (box (t 0)),cO 6 (mov (cN 0))] ((ab [bl 13 2 3,aH 14 113 [t 13],aa 7 14] (ab [aa 15 7,am 16 .neq 15 0] (aq 16 (ab [aa 17 7,aa 6 17] ret) skip))).seq ((ab [aa 18 1,bB 19 1 3,az 20 19,bd 21 20,aH 22 114 [t 18,t 21],aa 8 22] (ab [aa 23 8,am 24 .neq 23 0] (aq 24 (ab [aa 25 8,aa 6 25] ret) skip))).seq ((ab [aa 26 2,bB 27 1 3,az 28 27,bd 29 28,aH 30 114 [t 26,t 29],aa 9 30] (ab [aa 31 9,am 32 .neq 31 0] (aq 32 (ab [aa 33 9,aa 6 33] ret) skip))).seq (ab [cO 10 (mov (c AV.esl))] ((ab [aa 34 2,bd 35 34,cO 36 (mov (cN 0))] (block 0 (ab [aK 37 .lss 36 35] ((aq 37 skip (exit 0)).seq ((block 1 (ab [cO 38 (ixaS 1 (t 34) (t 36)),az 39 38,aa 12 39] (ops 0 [aa 40 10,bB 41 1 3,az 42 41,aa 43 12,cO 44 (ixaS 1 (t 42) (t 43)),az 45 44,aH 46 124 [t 40,t 45],aa 10 46]))).seq (ops 0 [am 47 .add 36 1,aa 36 47])))).loop)).seq ((ab [aa 48 10,bd 49 48,am 50 .gtr 49 0,aa 51 50,bu 52 51 (cM 2),bu 53 51 (cM 1),bu 54 51 (call (cF 116) [t 52,t 53]),bu 55 51 (un UnOp.not (t 54)),cO 56 (pick (t 51) cS (t 55))] (aq 56 (ab [cO 6 (mov (cN 18))] ret) skip)).seq (ab [cO 6 (mov (cN 0))] ret)))))))))
theorem NS:Is Tryz.prog 71 b71:=mkI Tryz.func71
def b72:F2:=(F2.mk 39 [RV.t 2] (ab [cO 2 (mov (cN 0))] ((block 0 (ab [aa 5 0,bd 6 5,am 7 .eql 6 0,aa 4 7] (aq 4 (ab [cO 2 (mov (cN 16))] ret) (ab [aa 9 0,bd 10 9,am 11 .gtr 10 8,aa 8 11] (aq 8 (ab [cO 2 (mov (cN 5))] ret) skip))))).seq ((ab [cO 3 (mov (cN 0))] (block 1 ((ab [aa 12 3,aa 13 0,bd 14 13,aK 15 .lss 12 14] (aq 15 skip (exit 1))).seq ((block 2 ((ab [aa 18 0,aa 19 3,cO 20 (ixaS 2 (t 18) (t 19)),bl 21 2 20,aH 22 125 [t 21],cO 23 (un UnOp.not (t 22))] (aq 23 (ab [cO 2 (mov (cN 2))] ret) skip)).seq ((mixS 1 [aa 24 3,am 25 .gtr 24 0,aa 26 25,aj 27 26 (cM 0),aj 28 26 (cM 3),aj 29 26 (cB .sub (t 28) (cN 1)),aj 30 26 (ixaS 2 (t 27) (t 29)),aj 31 26 (ldn 2 (t 30)),aj 32 26 (cM 0),aj 33 26 (cM 3),aj 34 26 (ixaS 2 (t 32) (t 33)),aj 35 26 (ldn 2 (t 34)),aj 36 26 (call (cF 126) [t 31,t 35]),aj 37 26 (cB .geq (t 36) (cN 0)),cO 38 (pick (t 26) (t 37) bc)] [(0,0),(1,0),(2,0),(3,0),(4,0),(5,0),(6,0),(7,0),(8,0),(9,0),(10,0),(11,0),(12,2),(13,0),(14,0)]).seq (aq 38 (ab [cO 2 (mov (cN 14))] ret) skip)))).seq (ops 0 [aa 16 3,am 17 .add 16 1,aa 3 17]))).loop)).seq (ab [cO 2 (mov (cN 0))] ret)))))
theorem Oi:Is Tryz.prog 72 b72:=mkI Tryz.func72
def b73:F2:=(F2.mk 43 [RV.t 4] (ab [cO 4 (mov (cN 0))] ((ab [cO 5 (mov (cN 0))] (block 0 ((ab [aa 7 5,aa 8 0,bd 9 8,aK 10 .lss 7 9,aa 11 10,aj 12 11 (cM 5),aj 13 11 (cM 1),aj 14 11 (lenS (t 13)),aj 15 11 (cB .lss (t 12) (t 14)),cO 16 (pick (t 11) (t 15) bc)] (aq 16 skip (exit 0))).seq ((block 1 ((mixS 1 [aa 19 0,aa 20 5,cO 21 (ixaS 2 (t 19) (t 20)),bl 22 2 21,aa 23 1,aa 24 5,cO 25 (ixaS 2 (t 23) (t 24)),bl 26 2 25,aH 27 126 [t 22,t 26],aa 6 27] [(0,0),(1,0),(2,0),(3,0),(4,0),(5,0),(6,0),(7,0),(8,2),(9,0)]).seq (ab [aa 28 6,am 29 .neq 28 0] (aq 29 (ab [aa 30 6,aa 4 30] ret) skip)))).seq (ops 0 [aa 17 5,am 18 .add 17 1,aa 5 18]))).loop)).seq ((block 2 (ab [aa 32 0,bd 33 32,aa 34 1,bd 35 34,aK 36 .lss 33 35,aa 31 36] (aq 31 (ab [cO 4 (mov (cN ((-1))))] ret) (ab [aa 38 0,bd 39 38,aa 40 1,bd 41 40,aK 42 .gtr 39 41,aa 37 42] (aq 37 (ab [cO 4 (mov (cN 1))] ret) skip))))).seq (ab [cO 4 (mov (cN 0))] ret)))))
theorem N6:Is Tryz.prog 73 b73:=mkI Tryz.func73
def b74:F2:=(F2.mk 19 [RV.t 4] (ab [cO 4 (mov bc)] ((ab [cO 5 (mov (cN 0))] (block 0 ((ab [aa 6 5,aa 7 0,bd 8 7,aK 9 .lss 6 8] (aq 9 skip (exit 0))).seq ((block 1 (ab [aa 12 1,aa 13 0,aa 14 5,cO 15 (ixaS 2 (t 13) (t 14)),bl 16 2 15,aH 17 127 [t 12,t 16],cO 18 (un UnOp.not (t 17))] (aq 18 (ab [cO 4 (mov bc)] ret) skip))).seq (ops 0 [aa 10 5,am 11 .add 10 1,aa 5 11]))).loop)).seq (ab [cO 4 (mov cS)] ret))))
theorem NL:Is Tryz.prog 74 b74:=mkI Tryz.func74
def b75:F2:=(F2.mk 43 [RV.t 2] (ab [cO 2 (mov (cN 0))] ((ab [aa 6 0,bd 7 6,am 8 .gtr 7 4096] (aq 8 (ab [cO 2 (mov (cN 5))] ret) skip)).seq ((ab [aa 9 0,bd 10 9,cO 11 (mov (cN 0))] (block 0 (ab [aK 12 .lss 11 10] ((aq 12 skip (exit 0)).seq ((block 1 (ab [aa 13 11,cO 14 (ixaS 1 (t 9) (t 11)),az 15 14,aa 3 13,aa 4 15] ((ab [aa 16 4,aH 17 128 [t 16],aa 5 17] (ab [aa 18 5,am 19 .neq 18 0] (aq 19 (ab [aa 20 5,aa 2 20] ret) skip))).seq (block 2 (ab [aa 22 4,bd 23 22,aa 24 0,cO 25 (ixaS 1 (t 24) (cN 0)),az 26 25,bd 27 26,aK 28 .neq 23 27,aa 21 28] (aq 21 (ab [cO 2 (mov (cN 15))] ret) (ab [aa 30 3,am 31 .gtr 30 0,aa 32 31,aj 33 32 (cM 0),aj 34 32 (cM 3),aj 35 32 (cB .sub (t 34) (cN 1)),aj 36 32 (ixaS 1 (t 33) (t 35)),aj 37 32 (cD 36),aj 38 32 (cM 4),aj 39 32 (call (cF 70) [t 37,t 38]),aj 40 32 (cB .geq (t 39) (cN 0)),cO 41 (pick (t 32) (t 40) bc),aa 29 41] (aq 29 (ab [cO 2 (mov (cN 14))] ret) skip)))))))).seq (ops 0 [am 42 .add 11 1,aa 11 42])))).loop)).seq (ab [cO 2 (mov (cN 0))] ret)))))
theorem NP:Is Tryz.prog 75 b75:=mkI Tryz.func75
def b76:F2:=(F2.mk 9 [RV.t 2,RV.t 3] (ab [cO 2 (mov (c AV.esl)),cO 3 (mov (cN 0))] ((ab [aa 4 0,bd 5 4,am 6 .gtr 5 4096] (aq 6 (ab [cO 2 (mov (c AV.esl)),cO 3 (mov (cN 5))] ret) skip)).seq (ab [aa 7 0,aH 8 84 [t 7],aa 2 8,cO 3 (mov (cN 0))] ret))))
theorem Od:Is Tryz.prog 76 b76:=mkI Tryz.func76
def b77:F2:=(F2.mk 52 [RV.t 2] (ab [cO 2 (mov (c AV.esl))] (ab [cO 13 (mkm none),cO 3 (alloc AV.nilm),be 1 3 13] ((ab [aa 14 0,bd 15 14,cO 16 (mov (cN 0))] (block 0 (ab [aK 17 .lss 16 15] ((aq 17 skip (exit 0)).seq ((block 1 (ab [cO 18 (ixaS 1 (t 14) (t 16)),az 19 18,aa 5 19] (ab [aa 20 5,aH 21 129 [t 20]] (block 2 (rangeF (t 21) [22] (ops 0 [aa 6 22]) (block 3 (ab [cO 7 (alloc (AV.agg [ba,ba,ba,ba,ba,ba,ba,ba,ba,ba,ba,ba,ba,ba,ba,ba]))] (ab [cO 23 (slp 8 2 (t 7)),aa 24 6,cO 25 (cpy 2 (t 23) (t 24))] (ab [az 27 3,bl 28 16 7,cO 29 (Ins.mget (MK.st [int,int,int,int,int,int,int,int,int,int,int,int,int,int,int,int]) AV.esl true (t 27) (t 28)),aa 26 29,a5 30 26 0,a5 31 26 1,aa 8 30,aa 9 31] (ab [aa 32 9] (aq 32 (ops 0 [az 33 3,bl 34 16 7,Op2.mk none none (mdel (MK.st [int,int,int,int,int,int,int,int,int,int,int,int,int,int,int,int]) (t 33) (t 34))]) (ops 0 [az 35 3,bl 36 16 7,aa 37 6,Op2.mk none none (mput (MK.st [int,int,int,int,int,int,int,int,int,int,int,int,int,int,int,int]) (t 35) (t 36) (t 37))])))))))))))).seq (ops 0 [am 38 .add 16 1,aa 16 38])))).loop)).seq (ab [cO 10 (mov (c AV.esl))] ((ab [az 39 3,cO 40 (mrng (t 39))] (block 4 (ab [cO 41 (mnxt (t 40)),a5 42 41 0] ((aq 42 skip (exit 4)).seq (block 5 (ab [cO 43 (ment (t 40)),a5 44 43 1,aa 12 44] (ops 0 [aa 45 10,aa 46 12,cO 47 (bldS 1 1 [AV.esl] [(0,1,t 46)]),cO 48 (app 1 24 (t 45) (t 47)),aa 10 48]))))).loop)).seq (ab [aa 49 10,aH 50 130 ([t 49,c (AV.func 70 [])])] (ab [aa 51 10,aa 2 51] ret))))))))
theorem Oj:Is Tryz.prog 77 b77:=mkI Tryz.func77
def b78:F2:=(F2.mk 60 [RV.t 2] (ab [cO 1 (box (t 0)),cO 2 (mov (cN 0))] ((ab [bB 9 0 1,az 10 9,bd 11 10,am 12 .gtr 11 4096] (aq 12 (ab [cO 2 (mov (cN 5))] ret) skip)).seq ((ab [bB 13 0 1,az 14 13,bd 15 14,cO 16 (mov (cN 0))] (block 0 (ab [aK 17 .lss 16 15] ((aq 17 skip (exit 0)).seq ((block 1 (ab [aa 18 16,cO 19 (ixaS 1 (t 14) (t 16)),az 20 19,aa 3 18,aa 4 20] ((ab [aa 21 4,aH 22 128 [t 21],aa 5 22] (ab [aa 23 5,am 24 .neq 23 0] (aq 24 (ab [aa 25 5,aa 2 25] ret) skip))).seq (ab [aa 26 3,am 27 .gtr 26 0,aa 28 27,aj 29 28 (fa 0 (t 1)),aj 30 28 (cD 29),aj 31 28 (cM 3),aj 32 28 (cB .sub (t 31) (cN 1)),aj 33 28 (ixaS 1 (t 30) (t 32)),aj 34 28 (cD 33),aj 35 28 (cM 4),aj 36 28 (call (cF 70) [t 34,t 35]),aj 37 28 (cB .geq (t 36) (cN 0)),cO 38 (pick (t 28) (t 37) bc)] (aq 38 (ab [cO 2 (mov (cN 14))] ret) skip))))).seq (ops 0 [am 39 .add 16 1,aa 16 39])))).loop)).seq (ab [bB 40 0 1,az 41 40,aH 42 92 [t 41],aa 6 42] ((ab [bB 43 0 1,az 44 43,bd 45 44,cO 46 (mov (cN 0))] (block 2 (ab [aK 47 .lss 46 45] ((aq 47 skip (exit 2)).seq ((block 3 (ab [cO 48 (ixaS 1 (t 44) (t 46)),az 49 48,aa 8 49] ((mixS 9 [bB 50 0 1,az 51 50,aa 52 6,aa 53 8,cO 54 (ixaS 2 (t 53) (cN 0)),bl 55 2 54,cO 56 (Ins.mget (MK.st [int,int]) AV.esl false (t 52) (t 55)),aa 57 8,aH 58 131 [t 51,t 56,t 57]] [(0,0),(1,0),(2,0),(3,0),(4,0),(5,0),(7,0),(6,1),(8,2)]).seq (aq 58 (ab [cO 2 (mov (cN 7))] ret) skip)))).seq (ops 0 [am 59 .add 46 1,aa 46 59])))).loop)).seq (ab [cO 2 (mov (cN 0))] ret)))))))
theorem OC:Is Tryz.prog 78 b78:=mkI Tryz.func78
def b79:F2:=(F2.mk 24 [RV.t 4,RV.t 5] (ab [cO 2 (box (t 0)),cO 4 (mov (c AV.esl)),cO 5 (mov (cN 0))] ((ab [bl 7 1 2,aH 8 78 [t 7],aa 6 8] (ab [aa 9 6,am 10 .neq 9 0] (aq 10 (ab [aa 11 6,cO 4 (mov (c AV.esl)),aa 5 11] ret) skip))).seq ((ab [aa 12 1,am 13 .lss 12 1,aa 14 13,bu 15 14 (cM 1),bu 16 14 (cB .gtr (t 15) (cN 8)),cO 17 (pick (t 14) cS (t 16))] (aq 17 (ab [cO 4 (mov (c AV.esl)),cO 5 (mov (cN 2))] ret) skip)).seq (ab [bB 18 0 2,az 19 18,aa 20 1,aH 21 87 [t 19,t 20],a5 22 21 0,a5 23 21 1,aa 4 22,aa 5 23] ret)))))
theorem NT:Is Tryz.prog 79 b79:=mkI Tryz.func79
def b80:F2:=(F2.mk 11 [RV.t 4,RV.t 5] (ab [cO 4 (mov (cN 0)),cO 5 (mov bc)] (ab [aa 6 0,aa 7 1,aH 8 132 ([t 6,t 7,c (AV.func 70 [])]),a5 9 8 0,a5 10 8 1,aa 4 9,aa 5 10] ret)))
theorem Oh:Is Tryz.prog 80 b80:=mkI Tryz.func80
def b81:F2:=(F2.mk 51 [RV.t 4,RV.t 5] (ab [cO 2 (box (t 0)),cO 4 (mov (c AV.nilp)),cO 5 (mov (cN 0))] (ab [bl 11 1 2,aa 12 1,am 13 .add 12 1,aH 14 58 [t 11,t 13],aa 10 14,a5 15 10 0,a5 16 10 1,cO 6 (alloc (AV.agg [ba,AV.esl])),be 2 6 15,aa 7 16] ((ab [aa 17 7,am 18 .neq 17 0] (aq 18 (ab [aa 19 7,cO 4 (mov (c AV.nilp)),aa 5 19] ret) skip)).seq (ab [bl 21 1 2,aa 22 1,aH 23 98 [t 21,t 22],aa 20 23,a5 24 20 0,a5 25 20 1,aa 8 24,aa 7 25] ((ab [aa 26 7,am 27 .neq 26 0] (aq 27 (ab [aa 28 7,cO 4 (mov (c AV.nilp)),aa 5 28] ret) skip)).seq (ab [bl 30 2 6,aH 31 133 [t 30],aa 29 31,a5 32 29 0,a5 33 29 1,cO 9 (alloc (AV.agg [ba,AV.esl])),be 2 9 32,aa 7 33] ((ab [aa 34 7,am 35 .neq 34 0] (aq 35 (ab [aa 36 7,cO 4 (mov (c AV.nilp)),aa 5 36] ret) skip)).seq (ab [aa 37 8,bB 38 0 9,be 1 38 37] (ab [bl 40 2 9,aH 41 134 [t 40],aa 39 41,a5 42 39 0,a5 43 39 1,be 2 9 42,aa 7 43] (ab [bl 44 2 9,bB 45 1 9,az 46 45,bd 47 46,cO 48 (bld [ba,AV.esl,ba] [(0,2,t 44),(2,1,t 47)]),cO 49 (box (t 48)),aa 50 7,aa 4 49,aa 5 50] ret)))))))))))
theorem NN:Is Tryz.prog 81 b81:=mkI Tryz.func81
def b82:F2:=(F2.mk 48 [RV.t 4,RV.t 5] (ab [cO 4 (mov bc),cO 5 (mov (cN 0))] ((mixF [aa 9 0,cO 10 (nilck (t 9)),bB 11 0 10,bB 12 0 11,az 13 12,aa 14 0,cO 15 (nilck (t 14)),bB 16 0 15,bB 17 1 16,az 18 17,aH 19 135 [t 18],aa 20 1,cO 21 (bldS 1 1 [AV.esl] [(0,1,t 20)]),cO 22 (app 1 24 (t 19) (t 21)),cO 23 (bld [ba,AV.esl] [(0,1,t 13),(1,1,t 22)]),cO 6 (alloc (AV.agg [ba,AV.esl])),be 2 6 23] (15,1) [(0,0),(1,0),(2,0),(3,0),(4,0),(5,0),(6,0),(7,0),(8,0),(9,0),(11,0),(12,3),(10,1),(13,1),(14,0)] [(16,2)]).seq (ab [bl 25 2 6,aH 26 97 [t 25],aa 24 26,a5 27 24 0,a5 28 24 1,aa 7 27,aa 8 28] ((ab [aa 29 8,am 30 .neq 29 0,aa 31 30,bu 32 31 (cM 7),bu 33 31 (cM 0),bu 34 31 (nilck (t 33)),bu 35 31 (fa 2 (t 34)),bu 36 31 (cD 35),bu 37 31 (cB .eql (t 32) (t 36)),cO 38 (pick (t 31) cS (t 37))] (aq 38 (ab [aa 39 8,cO 4 (mov bc),aa 5 39] ret) skip)).seq (ab [aa 40 0,aa 41 0,bl 42 2 6,aa 43 7,cO 44 (nilck (t 40)),bB 45 0 44,be 2 45 42,cO 46 (nilck (t 41)),bB 47 2 46,be 1 47 43] (ab [cO 4 (mov cS),cO 5 (mov (cN 0))] ret)))))))
theorem Ou:Is Tryz.prog 82 b82:=mkI Tryz.func82
def b83:F2:=(F2.mk 14 [RV.t 4,RV.t 5] (ab [cO 2 (box (t 0)),cO 4 (mov (c AV.esl)),cO 5 (mov (cN 0))] ((ab [aa 6 1,am 7 .lss 6 0] (aq 7 (ab [cO 4 (mov (c AV.esl)),cO 5 (mov (cN 0))] ret) skip)).seq (ab [bl 8 1 2,aa 9 1,am 10 .add 9 1,aH 11 79 [t 8,t 10],a5 12 11 0,a5 13 11 1,aa 4 12,aa 5 13] ret))))
theorem Oq:Is Tryz.prog 83 b83:=mkI Tryz.func83
def b84:F2:=(F2.mk 19 [RV.t 2] (ab [cO 2 (mov (c AV.esl))] (ab [cO 3 (mov (c AV.esl))] ((ab [aa 6 0,bd 7 6,cO 8 (mov (cN 0))] (block 0 (ab [aK 9 .lss 8 7] ((aq 9 skip (exit 0)).seq ((block 1 (ab [cO 10 (ixaS 1 (t 6) (t 8)),az 11 10,aa 5 11] (ops 0 [aa 12 3,aa 13 5,aH 14 136 [t 13],cO 15 (bldS 1 1 [AV.esl] [(0,1,t 14)]),cO 16 (app 1 24 (t 12) (t 15)),aa 3 16]))).seq (ops 0 [am 17 .add 8 1,aa 8 17])))).loop)).seq (ab [aa 18 3,aa 2 18] ret)))))
theorem N2:Is Tryz.prog 84 b84:=mkI Tryz.func84
def b87:F2:=(F2.mk 60 [RV.t 4,RV.t 5] (ab [cO 4 (mov (c AV.esl)),cO 5 (mov (cN 0))] (ab [cO 14 (mkm none),aa 6 14] (ab [cO 7 (mov (c AV.esl))] ((ab [aa 15 0,bd 16 15,cO 17 (mov (cN 0))] (block 0 (ab [aK 18 .lss 17 16] ((aq 18 skip (exit 0)).seq ((block 1 (ab [cO 19 (ixaS 1 (t 15) (t 17)),az 20 19,aa 9 20] ((ab [aa 21 9,bd 22 21,aa 23 1,aK 24 .lss 22 23] (aq 24 (exit 1) skip)).seq (ab [aa 26 9,aa 27 1,aH 28 137 [t 26,t 27],aa 25 28,a5 29 25 0,a5 30 25 1,aa 10 29,aa 11 30] ((ab [aa 31 11,am 32 .neq 31 0] (aq 32 (ab [aa 33 11,cO 4 (mov (c AV.esl)),aa 5 33] ret) skip)).seq ((ab [aa 34 10,bd 35 34,cO 36 (mov (cN 0))] (block 2 (ab [aK 37 .lss 36 35] ((aq 37 skip (exit 2)).seq ((block 3 (ab [cO 38 (ixaS 1 (t 34) (t 36)),az 39 38,aa 13 39] (ab [aa 40 6,aa 41 13,aH 42 138 [t 41],cO 43 (Ins.mget (MK.st [int,int,int,int,int,int,int,int,int,int,int,int,int,int,int,int]) (AV.bool false) false (t 40) (t 42)),cO 44 (un UnOp.not (t 43))] (aq 44 (ab [aa 45 6,aa 46 13,aH 47 138 [t 46],Op2.mk none none (mput (MK.st [int,int,int,int,int,int,int,int,int,int,int,int,int,int,int,int]) (t 45) (t 47) cS)] (ops 0 [aa 48 7,aa 49 13,cO 50 (bldS 1 1 [AV.esl] [(0,1,t 49)]),cO 51 (app 1 24 (t 48) (t 50)),aa 7 51])) skip)))).seq (ops 0 [am 52 .add 36 1,aa 36 52])))).loop)).seq (ab [aa 53 7,bd 54 53,am 55 .gtr 54 4096] (aq 55 (ab [cO 4 (mov (c AV.esl)),cO 5 (mov (cN 17))] ret) skip)))))))).seq (ops 0 [am 56 .add 17 1,aa 17 56])))).loop)).seq (ab [aa 57 7,aH 58 130 ([t 57,c (AV.func 70 [])])] (ab [aa 59 7,aa 4 59,cO 5 (mov (cN 0))] ret)))))))
theorem Oe:Is Tryz.prog 87 b87:=mkI Tryz.func87
def b92:F2:=(F2.mk 33 [RV.t 2] (ab [cO 2 (mov (c AV.nilm))] (ab [cO 8 (mkm none),aa 3 8] ((ab [aa 9 0,bd 10 9,cO 11 (mov (cN 0))] (block 0 (ab [aK 12 .lss 11 10] ((aq 12 skip (exit 0)).seq ((block 1 (ab [aa 13 11,cO 14 (ixaS 1 (t 9) (t 11)),az 15 14,aa 4 13,aa 5 15] (ab [aa 16 5,bd 17 16,cO 18 (mov (cN 0))] (block 2 (ab [aK 19 .lss 18 17] ((aq 19 skip (exit 2)).seq ((block 3 (ab [cO 20 (ixaS 2 (t 16) (t 18)),bl 21 2 20,cO 7 (alloc (AV.agg [ba,ba])),be 2 7 21] (ops 0 [aa 22 3,bl 23 2 7,aa 25 4,cO 26 (bldS 1 1 [ba] [(0,1,t 25)]),cO 27 (mplc (MK.st [int,int]) AV.esl (t 22) (t 23)),a5 24 27 0,cO 28 (app 1 8 (t 24) (t 26)),a5 29 27 1,Op2.mk none none (mpst (t 22) (t 29) (t 28))]))).seq (ops 0 [am 30 .add 18 1,aa 18 30])))).loop)))).seq (ops 0 [am 31 .add 11 1,aa 11 31])))).loop)).seq (ab [aa 32 3,aa 2 32] ret)))))
theorem OA:Is Tryz.prog 92 b92:=mkI Tryz.func92
def b94:F2:=(F2.mk 33 [RV.t 2,RV.t 3] (ab [cO 1 (box (t 0)),cO 2 (mov (cN 0)),cO 3 (mov bc)] (ab [cO 4 (mov (cN 8)),cO 5 (mov (cN 0))] ((ab [bB 8 0 1,az 9 8,bd 10 9,cO 11 (mov (cN 0))] (block 0 (ab [aK 12 .lss 11 10] ((aq 12 skip (exit 0)).seq ((block 1 (ab [cO 13 (ixaS 1 (t 9) (t 11)),az 14 13,aa 7 14] (ops 0 [aa 15 4,aa 16 7,bd 17 16,cO 18 (mn (t 15) [t 17]),aa 19 5,aa 20 7,bd 21 20,cO 22 (mx (t 19) [t 21]),aa 4 18,aa 5 22]))).seq (ops 0 [am 23 .add 11 1,aa 11 23])))).loop)).seq (ab [aa 24 5,am 25 .sub 24 1,aa 26 5,am 27 .eql 26 0,aa 28 27,bu 29 28 (cM 4),bu 30 28 (cM 5),bu 31 28 (cB .eql (t 29) (t 30)),cO 32 (pick (t 28) cS (t 31)),aa 2 25,aa 3 32] ret)))))
theorem NV:Is Tryz.prog 94 b94:=mkI Tryz.func94
def b95:F2:=(F2.mk 19 [RV.t 2] (ab [cO 2 (mov bc)] ((ab [aa 4 0,bd 5 4,am 6 .gtr 5 30] (aq 6 (ab [cO 2 (mov bc)] ret) skip)).seq ((ab [cO 3 (mov (cN 0))] (block 0 ((ab [aa 7 3,aa 8 0,bd 9 8,aK 10 .lss 7 9] (aq 10 skip (exit 0))).seq ((block 1 (ab [aa 13 0,aa 14 3,cO 15 (ixaS 1 (t 13) (t 14)),az 16 15,aH 17 145 [t 16],cO 18 (un UnOp.not (t 17))] (aq 18 (ab [cO 2 (mov bc)] ret) skip))).seq (ops 0 [aa 11 3,am 12 .add 11 1,aa 3 12]))).loop)).seq (ab [cO 2 (mov cS)] ret)))))
theorem OM:Is Tryz.prog 95 b95:=mkI Tryz.func95
def b96:F2:=(F2.mk 20 [RV.t 2,RV.t 3,RV.t 4] (ab [cO 1 (box (t 0)),cO 2 (mov (cN 0)),cO 3 (mov bc),cO 4 (mov (cN 0))] ((ab [bl 8 1 1,aH 9 78 [t 8],aa 5 9] (ab [aa 10 5,am 11 .neq 10 0] (aq 11 (ab [aa 12 5,cO 2 (mov (cN 0)),cO 3 (mov bc),aa 4 12] ret) skip))).seq (ab [bl 14 1 1,aH 15 94 [t 14],aa 13 15,a5 16 13 0,a5 17 13 1,aa 6 16,aa 7 17] (ab [aa 18 6,aa 19 7,aa 2 18,aa 3 19,cO 4 (mov (cN 0))] ret)))))
theorem Oo:Is Tryz.prog 96 b96:=mkI Tryz.func96
def b97:F2:=(F2.mk 15 [RV.t 2,RV.t 3] (ab [cO 1 (box (t 0)),cO 2 (mov (cN 0)),cO 3 (mov (cN 0))] (ab [bl 7 2 1,aH 8 134 [t 7],aa 6 8,a5 9 6 0,a5 10 6 1,cO 4 (alloc (AV.agg [ba,AV.esl])),be 2 4 9,aa 5 10] (ab [bB 11 1 4,az 12 11,bd 13 12,aa 14 5,aa 2 13,aa 3 14] ret))))
theorem N9:Is Tryz.prog 97 b97:=mkI Tryz.func97
def b98:F2:=(F2.mk 24 [RV.t 4,RV.t 5] (ab [cO 2 (box (t 0)),cO 4 (mov (cN 0)),cO 5 (mov (cN 0))] ((ab [aa 8 1,am 9 .lss 8 0,aa 10 9,bu 11 10 (cM 1),bu 12 10 (cB .geq (t 11) (cN 8)),cO 13 (pick (t 10) cS (t 12))] (aq 13 (ab [cO 4 (mov (cN 0)),cO 5 (mov (cN 0))] ret) skip)).seq (ab [bl 15 1 2,aa 16 1,am 17 .add 16 1,aH 18 79 [t 15,t 17],aa 14 18,a5 19 14 0,a5 20 14 1,aa 6 19,aa 7 20] (ab [aa 21 6,bd 22 21,aa 23 7,aa 4 22,aa 5 23] ret)))))
theorem OL:Is Tryz.prog 98 b98:=mkI Tryz.func98
def b99:F2:=(F2.mk 26 [RV.t 4,RV.t 5] (ab [cO 2 (box (t 0)),cO 4 (mov (c AV.esl)),cO 5 (mov (cN 0))] ((ab [bl 8 1 2,aH 9 28 [t 8],aa 6 9] (ab [aa 10 6,am 11 .neq 10 0] (aq 11 (ab [aa 12 6,cO 4 (mov (c AV.esl)),aa 5 12] ret) skip))).seq ((ab [aa 13 1,am 14 .lss 13 1,aa 15 14,bu 16 15 (cM 1),bu 17 15 (cB .gtr (t 16) (cN 8)),cO 18 (pick (t 15) cS (t 17))] (aq 18 (ab [cO 4 (mov (c AV.esl)),cO 5 (mov (cN 2))] ret) skip)).seq (ab [bl 19 1 2,aa 20 1,aH 21 51 [t 19,t 20],aa 7 21] ((ab [aa 22 7,bd 23 22,am 24 .gtr 23 4096] (aq 24 (ab [cO 4 (mov (c AV.esl)),cO 5 (mov (cN 17))] ret) skip)).seq (ab [aa 25 7,aa 4 25,cO 5 (mov (cN 0))] ret)))))))
theorem NW:Is Tryz.prog 99 b99:=mkI Tryz.func99
def Mb:F2:=(F2.mk 19 [RV.t 4] (ab [cO 4 (mov (cN 0))] ((ab [aa 6 0,bd 7 6,cO 8 (mov (cN 0))] (block 0 (ab [aK 9 .lss 8 7] ((aq 9 skip (exit 0)).seq ((block 1 (ab [aa 10 8,aa 5 10] (ab [aa 11 1,aa 12 0,aa 13 5,cO 14 (ixaS 1 (t 12) (t 13)),az 15 14,cO 16 (call (t 11) [t 15])] (aq 16 (ab [aa 17 5,aa 4 17] ret) skip)))).seq (ops 0 [am 18 .add 8 1,aa 8 18])))).loop)).seq (ab [cO 4 (mov (cN ((-1))))] ret))))
theorem LQ:Is Tryz.prog 101 Mb:=mkI Tryz.func101
def Ms:F2:=(F2.mk 64 [] (ab [bl 13 1 1,az 14 2,aH 15 81 [t 13,t 14],aa 12 15,a5 16 12 0,a5 17 12 1,aa 4 16,aa 5 17] (ab [cO 6 (alloc (AV.agg [ba,AV.esl]))] ((ab [aa 18 5,am 19 .eql 18 0] (aq 19 (ab [cO 7 (alloc (AV.agg [ba,AV.esl]))] (ab [bl 21 1 1,az 22 2,aH 23 58 [t 21,t 22],aa 20 23,a5 24 20 0,a5 25 20 1,be 2 7 24,aa 5 25] (ab [aa 26 5,am 27 .eql 26 0] (aq 27 (ops 0 [bl 29 2 7,aH 30 103 [t 29],aa 28 30,a5 31 28 0,a5 32 28 1,be 2 6 31,aa 5 32]) skip)))) skip)).seq ((ab [aa 33 5,am 34 .neq 33 0] (aq 34 (ab [aa 35 0,aa 36 5,cO 37 (call (t 35) [c AV.esl,t 36])] ret) skip)).seq (ab [bB 38 1 6,az 39 38,bd 40 39,cO 41 (mov (cN 0))] (block 0 (ab [aK 42 .lss 41 40] ((aq 42 skip (exit 0)).seq ((block 1 (ab [cO 43 (ixaS 1 (t 39) (t 41)),az 44 43,aa 9 44] (ab [aa 46 4,aa 47 9,aH 48 82 [t 46,t 47],aa 45 48,a5 49 45 0,a5 50 45 1,aa 10 49,aa 11 50] (ab [aa 51 10,aa 52 51,bu 53 52 (cM 11),bu 54 52 (cB .neq (t 53) (cN 0)),cO 55 (pick (t 52) cS (t 54)),aa 56 55,aj 57 56 (cM 0),aj 58 56 (cM 9),aj 59 56 (cM 11),aj 60 56 (call (t 57) [t 58,t 59]),aj 61 56 (un UnOp.not (t 60)),cO 62 (pick (t 56) (t 61) bc)] (aq 62 ret skip))))).seq (ops 0 [am 63 .add 41 1,aa 41 63])))).loop)))))))
theorem MF:Is Tryz.prog 102 Ms:=mkI Tryz.func102
def Lp:F2:=(F2.mk 76 [RV.cn 2 2,RV.t 3] (ab [cO 1 (box (t 0)),cO 2 (alloc (AV.agg [ba,AV.esl])),cO 3 (mov (cN 0))] (ab [bl 15 2 1,aH 16 134 [t 15],aa 14 16,a5 17 14 0,a5 18 14 1,cO 4 (alloc (AV.agg [ba,AV.esl])),be 2 4 17,aa 5 18] ((ab [aa 19 5,am 20 .neq 19 0] (aq 20 (ab [cO 21 (bld [ba,AV.esl] []),aa 22 5,be 2 2 21,aa 3 22] ret) skip)).seq (ab [bB 23 0 1,az 24 23,cO 25 (bld [ba,AV.esl] [(0,1,t 24)]),cO 6 (alloc (AV.agg [ba,AV.esl])),be 2 6 25] (ab [cO 26 (mkm none),aa 7 26] ((ab [bB 27 1 4,az 28 27,bd 29 28,cO 30 (mov (cN 0))] (block 0 (ab [aK 31 .lss 30 29] ((aq 31 skip (exit 0)).seq ((block 1 (ab [cO 32 (ixaS 1 (t 28) (t 30)),az 33 32,aa 9 33] (ops 0 [aa 34 7,aa 35 9,cO 36 (ixaS 1 (t 35) (cN 0)),az 37 36,Op2.mk none none (mput (one int) (t 34) (t 37) cS)]))).seq (ops 0 [am 38 .add 30 1,aa 30 38])))).loop)).seq ((ab [bB 39 0 1,az 40 39,cO 41 (mov (cN 0))] (block 2 (ab [aK 42 .lss 41 40] ((aq 42 skip (exit 2)).seq ((block 3 (ab [aa 43 41,aa 10 43] ((ab [aa 44 7,aa 45 10,cO 46 (Ins.mget (one int) (AV.bool false) false (t 44) (t 45))] (aq 46 (exit 3) skip)).seq (ab [aa 47 10,cO 48 (bldS 1 1 [ba] [(0,1,t 47)]),aa 11 48] ((ab [bB 49 1 4,az 50 49,bd 51 50,cO 52 (mov (cN 0))] (block 4 (ab [aK 53 .lss 52 51] ((aq 53 skip (exit 4)).seq ((block 5 (ab [cO 54 (ixaS 1 (t 50) (t 52)),az 55 54,aa 13 55] (ab [aa 56 13,aa 57 10,aH 58 146 [t 56,t 57]] (aq 58 (ops 0 [aa 59 11,aa 60 13,cO 61 (ixaS 1 (t 60) (cN 0)),az 62 61,cO 63 (bldS 1 1 [ba] [(0,1,t 62)]),cO 64 (app 1 8 (t 59) (t 63)),aa 11 64]) skip)))).seq (ops 0 [am 65 .add 52 1,aa 52 65])))).loop)).seq (ab [aa 66 11,aH 67 147 [t 66]] (ops 0 [bB 68 1 6,az 69 68,aa 70 11,cO 71 (bldS 1 1 [AV.esl] [(0,1,t 70)]),cO 72 (app 1 24 (t 69) (t 71)),bB 73 1 6,be 1 73 72]))))))).seq (ops 0 [am 74 .add 41 1,aa 41 74])))).loop)).seq (ab [bl 75 2 6,be 2 2 75,cO 3 (mov (cN 0))] ret)))))))))
theorem KV:Is Tryz.prog 103 Lp:=mkI Tryz.func103
def JY:F2:=(F2.mk 47 [RV.t 4] (ab [cO 4 (mov (c AV.esl))] ((ab [aa 9 1,am 10 .eql 9 0] (aq 10 (ab [cO 11 (bldS 1 1 [AV.esl] [(0,1,c AV.esl)]),aa 4 11] ret) skip)).seq (ab [cO 5 (mov (c AV.esl))] ((ab [cO 6 (mov (cN 0))] (block 0 ((ab [aa 12 6,aa 13 1,aK 14 .add 12 13,aa 15 0,bd 16 15,aK 17 .leq 14 16] (aq 17 skip (exit 0))).seq ((block 1 (ab [aa 20 0,aa 21 6,am 22 .add 21 1,cO 23 (sls 2 (t 20) (some (t 22)) none none),aa 24 1,am 25 .sub 24 1,aH 26 104 [t 23,t 25],aa 7 26] (ab [cO 8 (mov (cN 0))] (block 2 ((ab [aa 27 8,aa 28 7,bd 29 28,aK 30 .lss 27 29] (aq 30 skip (exit 2))).seq ((block 3 (mixS 9 [aa 33 5,aa 34 0,aa 35 6,cO 36 (ixaS 2 (t 34) (t 35)),bl 37 2 36,cO 38 (bldS 2 1 [ba,ba] [(0,2,t 37)]),aa 39 7,aa 40 8,cO 41 (ixaS 1 (t 39) (t 40)),az 42 41,cO 43 (app 2 16 (t 38) (t 42)),cO 44 (bldS 1 1 [AV.esl] [(0,1,t 43)]),cO 45 (app 1 24 (t 33) (t 44)),aa 5 45] [(0,0),(1,0),(2,0),(3,0),(4,0),(6,0),(7,0),(8,0),(9,0),(5,1),(10,2),(11,3),(12,2),(13,0)])).seq (ops 0 [aa 31 8,am 32 .add 31 1,aa 8 32]))).loop)))).seq (ops 0 [aa 18 6,am 19 .add 18 1,aa 6 19]))).loop)).seq (ab [aa 46 5,aa 4 46] ret))))))
theorem Ic:Is Tryz.prog 104 JY:=mkI Tryz.func104
def MG:F2:=(F2.mk 48 [RV.t 4] (ab [cO 4 (mov (c AV.esl))] (ab [cO 5 (mov (c AV.esl))] (ab [cO 6 (mov bc)] ((ab [cO 7 (mov (cN 0))] (block 0 ((ab [aa 9 7,aa 10 0,bd 11 10,aK 12 .lss 9 11] (aq 12 skip (exit 0))).seq ((block 1 (ab [aa 15 1,aa 16 0,aa 17 7,cO 18 (ixaS 1 (t 16) (t 17)),az 19 18,aH 20 73 [t 15,t 19],aa 8 20] ((ab [aa 21 8,am 22 .eql 21 0] (aq 22 (ab [aa 23 0,aa 4 23] ret) skip)).seq ((ab [aa 24 6,cO 25 (un UnOp.not (t 24)),aa 26 25,aj 27 26 (cM 8),aj 28 26 (cB .lss (t 27) (cN 0)),cO 29 (pick (t 26) (t 28) bc)] (aq 29 (ops 0 [aa 30 5,aa 31 1,cO 32 (bldS 1 1 [AV.esl] [(0,1,t 31)]),cO 33 (app 1 24 (t 30) (t 32)),aa 5 33,cO 6 (mov cS)]) skip)).seq (ops 0 [aa 34 5,aa 35 0,aa 36 7,cO 37 (ixaS 1 (t 35) (t 36)),az 38 37,cO 39 (bldS 1 1 [AV.esl] [(0,1,t 38)]),cO 40 (app 1 24 (t 34) (t 39)),aa 5 40]))))).seq (ops 0 [aa 13 7,am 14 .add 13 1,aa 7 14]))).loop)).seq ((ab [aa 41 6,cO 42 (un UnOp.not (t 41))] (aq 42 (ops 0 [aa 43 5,aa 44 1,cO 45 (bldS 1 1 [AV.esl] [(0,1,t 44)]),cO 46 (app 1 24 (t 43) (t 45)),aa 5 46]) skip)).seq (ab [aa 47 5,aa 4 47] ret)))))))
theorem M3:Is Tryz.prog 105 MG:=mkI Tryz.func105
def JN:F2:=(F2.mk 81 [RV.cn 2 2] (ab [cO 1 (box (t 0)),cO 2 (alloc (AV.agg [ba,AV.esl]))] (ab [cO 3 (mov (c AV.esl))] (ab [aa 9 3,bB 10 1 1,az 11 10,cO 12 (app 1 24 (t 9) (t 11)),aa 3 12] (ab [cO 4 (mov (cN 0))] ((ab [cO 5 (mov (cN 0))] (block 0 ((ab [aa 13 5,bB 14 0 1,az 15 14,aK 16 .lss 13 15] (aq 16 skip (exit 0))).seq ((block 1 (ab [aa 19 3,aa 20 4,aa 21 5,aH 22 148 [t 19,t 20,t 21],aa 6 22] ((ab [aa 23 6,am 24 .lss 23 0] (aq 24 (exit 1) skip)).seq ((ops 1 [aa 25 3,aa 26 4,aa 27 3,aa 28 6,aa 29 3,aa 30 6,cO 31 (ixaS 1 (t 29) (t 30)),az 32 31,aa 33 3,aa 34 4,cO 35 (ixaS 1 (t 33) (t 34)),az 36 35,cO 37 (ixaS 1 (t 25) (t 26)),be 1 37 32,cO 38 (ixaS 1 (t 27) (t 28)),be 1 38 36]).seq ((ab [cO 7 (mov (cN 0))] (block 2 ((ab [aa 39 7,aa 40 3,bd 41 40,aK 42 .lss 39 41] (aq 42 skip (exit 2))).seq ((block 3 (ab [aa 45 7,aa 46 4,aK 47 .neq 45 46,aa 48 47,aj 49 48 (cM 3),aj 50 48 (cM 7),aj 51 48 (ixaS 1 (t 49) (t 50)),aj 52 48 (cD 51),aj 53 48 (cM 5),aj 54 48 (call (cF 108) [t 52,t 53]),cO 55 (pick (t 48) (t 54) bc)] (aq 55 (mixS 1 [aa 56 3,aa 57 7,aa 58 3,aa 59 7,cO 60 (ixaS 1 (t 58) (t 59)),az 61 60,aa 62 3,aa 63 4,cO 64 (ixaS 1 (t 62) (t 63)),az 65 64,aH 66 109 [t 61,t 65],cO 67 (ixaS 1 (t 56) (t 57)),be 1 67 66] [(0,0),(1,0),(2,0),(3,0),(4,0),(5,0),(6,0),(7,0),(8,0),(9,0),(10,2),(11,0),(12,2)]) skip))).seq (ops 0 [aa 43 7,am 44 .add 43 1,aa 7 44]))).loop)).seq (ops 0 [aa 68 4,am 69 .add 68 1,aa 4 69])))))).seq (ops 0 [aa 17 5,am 18 .add 17 1,aa 5 18]))).loop)).seq (ab [bB 70 0 1,az 71 70,cO 72 (bld [ba,AV.esl] [(0,1,t 71)]),cO 8 (alloc (AV.agg [ba,AV.esl])),be 2 8 72] ((ops 1 [bB 73 1 8,az 74 73,aa 75 3,aa 76 4,cO 77 (sls 1 (t 75) none (some (t 76)) none),cO 78 (app 1 24 (t 74) (t 77)),bB 79 1 8,be 1 79 78]).seq (ab [bl 80 2 8,be 2 2 80] ret)))))))))
theorem Iu:Is Tryz.prog 106 JN:=mkI Tryz.func106
def L7:F2:=(F2.mk 22 [RV.t 4] (ab [cO 2 (box (t 0)),cO 4 (mov bc)] ((ab [cO 5 (mov (cN 0))] (block 0 ((ab [aa 6 5,bB 7 1 2,az 8 7,bd 9 8,aK 10 .lss 6 9] (aq 10 skip (exit 0))).seq ((block 1 (ab [bB 13 1 2,az 14 13,aa 15 5,cO 16 (ixaS 1 (t 14) (t 15)),az 17 16,cO 18 (ixaS 1 (t 17) (cN 0)),az 19 18,aa 20 1,aK 21 .eql 19 20] (aq 21 (ab [cO 4 (mov cS)] ret) skip))).seq (ops 0 [aa 11 5,am 12 .add 11 1,aa 5 12]))).loop)).seq (ab [cO 4 (mov bc)] ret))))
theorem LX:Is Tryz.prog 107 L7:=mkI Tryz.func107
def KE:F2:=(F2.mk 18 [RV.t 4] (ab [cO 4 (mov bc)] ((ab [cO 5 (mov (cN 0))] (block 0 ((ab [aa 6 5,aa 7 0,bd 8 7,aK 9 .lss 6 8] (aq 9 skip (exit 0))).seq ((block 1 (ab [aa 12 0,aa 13 5,cO 14 (ixaS 1 (t 12) (t 13)),az 15 14,aa 16 1,aK 17 .eql 15 16] (aq 17 (ab [cO 4 (mov cS)] ret) skip))).seq (ops 0 [aa 10 5,am 11 .add 10 1,aa 5 11]))).loop)).seq (ab [cO 4 (mov bc)] ret))))
theorem NA:Is Tryz.prog 108 KE:=mkI Tryz.func108
def Mv:F2:=(F2.mk 77 [RV.t 4] (ab [cO 4 (mov (c AV.esl))] (ab [cO 5 (mov (c AV.esl))] (ab [cO 6 (mov (cN 0)),cO 7 (mov (cN 0))] ((block 0 ((ab [aa 8 6,aa 9 0,bd 10 9,aK 11 .lss 8 10,aa 12 11,bu 13 12 (cM 7),bu 14 12 (cM 1),bu 15 12 (lenS (t 14)),bu 16 12 (cB .lss (t 13) (t 15)),cO 17 (pick (t 12) cS (t 16))] (aq 17 skip (exit 0))).seq (block 1 ((ops 1 [aa 18 7,aa 19 1,bd 20 19,aK 21 .eql 18 20,aa 22 21,bu 23 22 (cM 6),bu 24 22 (cM 0),bu 25 22 (lenS (t 24)),bu 26 22 (cB .lss (t 23) (t 25)),bu 27 22 (cM 26),aj 28 27 (cM 0),aj 29 27 (cM 6),aj 30 27 (ixaS 1 (t 28) (t 29)),aj 31 27 (cD 30),aj 32 27 (cM 1),aj 33 27 (cM 7),aj 34 27 (ixaS 1 (t 32) (t 33)),aj 35 27 (cD 34),aj 36 27 (cB .lss (t 31) (t 35)),bu 37 22 (pick (t 27) (t 36) bc),cO 38 (pick (t 22) cS (t 37))]).seq (aq 38 (ab [aa 39 5,aa 40 0,aa 41 6,cO 42 (ixaS 1 (t 40) (t 41)),az 43 42,cO 44 (bldS 1 1 [ba] [(0,1,t 43)]),cO 45 (app 1 8 (t 39) (t 44)),aa 5 45] (ops 0 [aa 46 6,am 47 .add 46 1,aa 6 47])) ((ops 1 [aa 48 6,aa 49 0,bd 50 49,aK 51 .eql 48 50,aa 52 51,bu 53 52 (cM 1),bu 54 52 (cM 7),bu 55 52 (ixaS 1 (t 53) (t 54)),bu 56 52 (cD 55),bu 57 52 (cM 0),bu 58 52 (cM 6),bu 59 52 (ixaS 1 (t 57) (t 58)),bu 60 52 (cD 59),bu 61 52 (cB .lss (t 56) (t 60)),cO 62 (pick (t 52) cS (t 61))]).seq (aq 62 (ab [aa 63 5,aa 64 1,aa 65 7,cO 66 (ixaS 1 (t 64) (t 65)),az 67 66,cO 68 (bldS 1 1 [ba] [(0,1,t 67)]),cO 69 (app 1 8 (t 63) (t 68)),aa 5 69] (ops 0 [aa 70 7,am 71 .add 70 1,aa 7 71])) (ab [aa 72 6,am 73 .add 72 1,aa 6 73] (ops 0 [aa 74 7,am 75 .add 74 1,aa 7 75])))))))).loop).seq (ab [aa 76 5,aa 4 76] ret))))))
theorem K1:Is Tryz.prog 109 Mv:=mkI Tryz.func109
def Ku:F2:=(F2.mk 44 [RV.cn 4 2] (ab [cO 4 (alloc (AV.agg [ba,AV.esl]))] (ab [aa 9 0,bd 10 9,cO 11 (bld [ba,AV.esl] [(0,1,t 10)]),cO 5 (alloc (AV.agg [ba,AV.esl])),be 2 5 11] ((ab [cO 6 (mov (cN 0))] (block 0 ((ab [aa 12 6,aa 13 1,bd 14 13,aK 15 .lss 12 14] (aq 15 skip (exit 0))).seq ((block 1 (ab [cO 7 (mov (c AV.esl))] ((ab [cO 8 (mov (cN 0))] (block 2 ((ab [aa 18 8,aa 19 0,bd 20 19,aK 21 .lss 18 20] (aq 21 skip (exit 2))).seq ((block 3 ((mixS 1 [aa 24 1,aa 25 6,cO 26 (ixaS 1 (t 24) (t 25)),az 27 26,aa 28 0,aa 29 8,cO 30 (ixaS 1 (t 28) (t 29)),az 31 30,aH 32 74 [t 27,t 31]] [(0,0),(1,0),(2,0),(3,0),(4,0),(5,0),(6,0),(7,0),(8,2)]).seq (aq 32 (ops 0 [aa 33 7,aa 34 8,cO 35 (bldS 1 1 [ba] [(0,1,t 34)]),cO 36 (app 1 8 (t 33) (t 35)),aa 7 36]) skip))).seq (ops 0 [aa 22 8,am 23 .add 22 1,aa 8 23]))).loop)).seq (ops 0 [bB 37 1 5,az 38 37,aa 39 7,cO 40 (bldS 1 1 [AV.esl] [(0,1,t 39)]),cO 41 (app 1 24 (t 38) (t 40)),bB 42 1 5,be 1 42 41])))).seq (ops 0 [aa 16 6,am 17 .add 16 1,aa 6 17]))).loop)).seq (ab [bl 43 2 5,be 2 4 43] ret)))))
theorem LD:Is Tryz.prog 110 Ku:=mkI Tryz.func110
def J9:F2:=(F2.mk 42 [RV.cn 2 2] (ab [cO 1 (box (t 0)),cO 2 (alloc (AV.agg [ba,AV.esl]))] (ab [bB 7 1 1,az 8 7,bd 9 8,cO 10 (bld [ba,AV.esl] [(0,1,t 9)]),cO 3 (alloc (AV.agg [ba,AV.esl])),be 2 3 10] ((ab [cO 4 (mov (cN 0))] (block 0 ((ab [aa 11 4,bB 12 0 1,az 13 12,aK 14 .lss 11 13] (aq 14 skip (exit 0))).seq ((block 1 (ab [cO 5 (mov (c AV.esl))] ((ab [cO 6 (mov (cN 0))] (block 2 ((ab [aa 17 6,bB 18 1 1,az 19 18,bd 20 19,aK 21 .lss 17 20] (aq 21 skip (exit 2))).seq ((block 3 (ab [bB 24 1 1,az 25 24,aa 26 6,cO 27 (ixaS 1 (t 25) (t 26)),az 28 27,aa 29 4,aH 30 108 [t 28,t 29]] (aq 30 (ops 0 [aa 31 5,aa 32 6,cO 33 (bldS 1 1 [ba] [(0,1,t 32)]),cO 34 (app 1 8 (t 31) (t 33)),aa 5 34]) skip))).seq (ops 0 [aa 22 6,am 23 .add 22 1,aa 6 23]))).loop)).seq (ops 0 [bB 35 1 3,az 36 35,aa 37 5,cO 38 (bldS 1 1 [AV.esl] [(0,1,t 37)]),cO 39 (app 1 24 (t 36) (t 38)),bB 40 1 3,be 1 40 39])))).seq (ops 0 [aa 15 4,am 16 .add 15 1,aa 4 16]))).loop)).seq (ab [bl 41 2 3,be 2 2 41] ret)))))
theorem Ng:Is Tryz.prog 111 J9:=mkI Tryz.func111
def Lz:F2:=(F2.mk 87 [RV.cn 4 2,RV.t 5] (ab [cO 2 (box (t 0)),cO 4 (alloc (AV.agg [ba,AV.esl])),cO 5 (mov (cN 0))] ((ab [bl 16 1 2,aH 17 78 [t 16],aa 6 17] (ab [aa 18 6,am 19 .neq 18 0] (aq 19 (ab [cO 20 (bld [ba,AV.esl] []),aa 21 6,be 2 4 20,aa 5 21] ret) skip))).seq ((ab [aa 22 1,am 23 .lss 22 0,aa 24 23,bu 25 24 (cM 1),bu 26 24 (cB .geq (t 25) (cN 8)),cO 27 (pick (t 24) cS (t 26))] (aq 27 (ab [cO 28 (bld [ba,AV.esl] []),be 2 4 28,cO 5 (mov (cN 2))] ret) skip)).seq (ab [bl 30 1 2,aa 31 1,aH 32 83 [t 30,t 31],aa 29 32,a5 33 29 0,a5 34 29 1,aa 7 33,aa 8 34] ((ab [aa 35 8,am 36 .neq 35 0] (aq 36 (ab [cO 37 (bld [ba,AV.esl] []),aa 38 8,be 2 4 37,aa 5 38] ret) skip)).seq (ab [bl 40 1 2,aa 41 1,am 42 .sub 41 1,aH 43 83 [t 40,t 42],aa 39 43,a5 44 39 0,a5 45 39 1,cO 9 (alloc AV.esl),be 1 9 44,aa 8 45] ((ab [aa 46 8,am 47 .neq 46 0] (aq 47 (ab [cO 48 (bld [ba,AV.esl] []),aa 49 8,be 2 4 48,aa 5 49] ret) skip)).seq (ab [aa 50 7,bd 51 50,az 52 9,bd 53 52,cO 54 (mks 1 24 [AV.esl] (t 53) (t 53)),cO 55 (bld [ba,AV.esl] [(0,1,t 51),(1,1,t 54)]),cO 10 (alloc (AV.agg [ba,AV.esl])),be 2 10 55] ((ab [aa 56 7,bd 57 56,cO 58 (mov (cN 0))] (block 0 (ab [aK 59 .lss 58 57] ((aq 59 skip (exit 0)).seq ((block 1 (ab [aa 60 58,cO 61 (ixaS 1 (t 56) (t 58)),az 62 61,cO 11 (alloc (ba)),be 1 11 60,aa 12 62] (ab [aa 63 12,aH 64 129 [t 63]] (block 2 (rangeF (t 64) [65] (ops 0 [aa 13 65]) (block 3 (ab [az 67 9,aa 68 13,aH 69 80 [t 67,t 68],aa 66 69,a5 70 66 0,a5 71 66 1,aa 14 70,aa 15 71] (ab [aa 72 15] (aq 72 (mixS 2 [bB 73 1 10,az 74 73,aa 75 14,bB 76 1 10,az 77 76,aa 78 14,cO 79 (ixaS 1 (t 77) (t 78)),az 80 79,az 81 11,cO 82 (bldS 1 1 [ba] [(0,1,t 81)]),cO 83 (app 1 8 (t 80) (t 82)),cO 84 (ixaS 1 (t 74) (t 75)),be 1 84 83] [(0,0),(1,0),(2,0),(3,0),(4,0),(5,0),(6,0),(7,0),(8,0),(9,1),(10,1),(11,0),(12,2)]) skip))))))))).seq (ops 0 [am 85 .add 58 1,aa 58 85])))).loop)).seq (ab [bl 86 2 10,be 2 4 86,cO 5 (mov (cN 0))] ret)))))))))))
theorem LO:Is Tryz.prog 112 Lz:=mkI Tryz.func112
def K0:F2:=(F2.mk 35 [RV.t 2] (ab [cO 1 (box (t 0)),cO 2 (mov (cN 0))] ((block 0 (ab [bB 7 0 1,az 8 7,am 9 .lss 8 0,aa 10 9,bu 11 10 (fa 0 (t 1)),bu 12 10 (cD 11),bu 13 10 (cB .gtr (t 12) (cN 4096)),cO 14 (pick (t 10) cS (t 13)),aa 6 14] (aq 6 (ab [cO 2 (mov (cN 2))] ret) (ab [bB 16 1 1,az 17 16,bd 18 17,am 19 .gtr 18 4096,aa 15 19] (aq 15 (ab [cO 2 (mov (cN 5))] ret) skip))))).seq ((ab [bB 20 1 1,az 21 20,bd 22 21,cO 23 (mov (cN 0))] (block 1 (ab [aK 24 .lss 23 22] ((aq 24 skip (exit 1)).seq ((block 2 (ab [cO 25 (ixaS 1 (t 21) (t 23)),az 26 25,aa 4 26] (ab [aa 27 4,bB 28 0 1,az 29 28,aH 30 114 [t 27,t 29],aa 5 30] (ab [aa 31 5,am 32 .neq 31 0] (aq 32 (ab [aa 33 5,aa 2 33] ret) skip))))).seq (ops 0 [am 34 .add 23 1,aa 23 34])))).loop)).seq (ab [cO 2 (mov (cN 0))] ret)))))
theorem Ns:Is Tryz.prog 113 K0:=mkI Tryz.func113
def Mw:F2:=(F2.mk 35 [RV.t 4] (ab [cO 4 (mov (cN 0))] ((ab [aa 7 0,bd 8 7,cO 9 (mov (cN 0))] (block 0 (ab [aK 10 .lss 9 8] ((aq 10 skip (exit 0)).seq ((block 1 (ab [aa 11 9,cO 12 (ixaS 1 (t 7) (t 9)),az 13 12,aa 5 11,aa 6 13] (block 2 (ab [aa 15 6,am 16 .lss 15 0,aa 17 16,bu 18 17 (cM 6),bu 19 17 (cM 1),bu 20 17 (cB .geq (t 18) (t 19)),cO 21 (pick (t 17) cS (t 20)),aa 14 21] (aq 14 (ab [cO 4 (mov (cN 2))] ret) (ab [aa 23 5,am 24 .gtr 23 0,aa 25 24,aj 26 25 (cM 0),aj 27 25 (cM 5),aj 28 25 (cB .sub (t 27) (cN 1)),aj 29 25 (ixaS 1 (t 26) (t 28)),aj 30 25 (cD 29),aj 31 25 (cM 6),aj 32 25 (cB .geq (t 30) (t 31)),cO 33 (pick (t 25) (t 32) bc),aa 22 33] (aq 22 (ab [cO 4 (mov (cN 14))] ret) skip))))))).seq (ops 0 [am 34 .add 9 1,aa 9 34])))).loop)).seq (ab [cO 4 (mov (cN 0))] ret))))
theorem MY:Is Tryz.prog 114 Mw:=mkI Tryz.func114
def Mc:F2:=(F2.mk 95 [RV.t 2,RV.t 3] (ab [cO 1 (box (t 0)),cO 2 (mov (c AV.esl)),cO 3 (mov (c AV.esl))] (ab [cO 16 (mkm none),cO 4 (alloc AV.nilm),be 1 4 16] (ab [cO 17 (mkfn 149 [t 4]),aa 5 17] (ab [cO 6 (mov (c AV.esl))] ((ab [bB 18 1 1,az 19 18,bd 20 19,cO 21 (mov (cN 0))] (block 0 (ab [aK 22 .lss 21 20] ((aq 22 skip (exit 0)).seq ((block 1 (ab [aa 23 21,cO 24 (ixaS 1 (t 19) (t 21)),az 25 24,aa 7 23,aa 8 25] (ab [aa 26 5,aa 27 8,aH 28 150 [t 27],aa 29 7,cO 30 (bldS 1 1 [ba] [(0,1,t 29)]),cO 31 (bld [AV.esl,AV.esl] [(0,1,t 28),(1,1,t 30)]),cO 32 (call (t 26) [t 31]),cO 9 (alloc (AV.agg [AV.esl,AV.esl])),be 2 9 32] ((ab [bB 33 0 9,az 34 33,bd 35 34,am 36 .eql 35 0] (aq 36 (ab [aa 37 6,bB 38 1 9,az 39 38,cO 40 (bldS 1 1 [AV.esl] [(0,1,t 39)]),cO 41 (app 1 24 (t 37) (t 40)),aa 6 41] (exit 1)) skip)).seq ((ab [az 42 4,cO 43 (mrng (t 42))] (block 2 (ab [cO 44 (mnxt (t 43)),a5 45 44 0] ((aq 45 skip (exit 2)).seq (block 3 (ab [cO 46 (ment (t 43)),a5 47 46 0,a5 48 46 1,cO 11 (alloc (AV.agg [AV.esl,AV.esl])),aa 10 47,be 2 11 48] ((mixS 1 [bB 49 0 11,az 50 49,bB 51 0 9,az 52 51,cO 53 (ixaS 1 (t 52) (cN 0)),az 54 53,aH 55 146 [t 50,t 54]] [(0,0),(1,0),(2,0),(3,0),(4,0),(5,0),(6,2)]).seq (aq 55 (mixS 9 [az 56 4,aa 57 10,bB 58 0 11,az 59 58,bB 60 0 9,az 61 60,aH 62 124 [t 59,t 61],bB 63 1 11,az 64 63,bB 65 1 9,az 66 65,aH 67 124 [t 64,t 66],cO 68 (bld [AV.esl,AV.esl] [(0,1,t 62),(1,1,t 67)]),Op2.mk none none (mput (one int) (t 56) (t 57) (t 68))] [(0,0),(1,0),(2,0),(3,0),(4,0),(5,0),(7,0),(8,0),(9,0),(10,0),(6,1),(11,1),(12,0),(13,2)]) skip)))))).loop)).seq (mixS 9 [az 69 4,bB 70 0 9,az 71 70,cO 72 (ixaS 1 (t 71) (cN 0)),az 73 72,bl 74 2 9,Op2.mk none none (mput (one int) (t 69) (t 73) (t 74))] [(0,0),(1,0),(2,0),(3,0),(4,0),(5,0),(6,2)])))))).seq (ops 0 [am 75 .add 21 1,aa 21 75])))).loop)).seq (ab [cO 12 (mov (c AV.esl))] ((ab [bB 76 0 1,az 77 76,cO 78 (mov (cN 0))] (block 4 (ab [aK 79 .lss 78 77] ((aq 79 skip (exit 4)).seq ((block 5 (ab [aa 80 78,aa 13 80] (ab [az 82 4,aa 83 13,cO 84 (Ins.mget (one int) (AV.agg [AV.esl,AV.esl]) true (t 82) (t 83)),aa 81 84,a5 85 81 0,a5 86 81 1,cO 14 (alloc (AV.agg [AV.esl,AV.esl])),be 2 14 85,aa 15 86] (ab [aa 87 15] (aq 87 (ops 0 [aa 88 12,bl 89 2 14,cO 90 (bldS 2 1 [AV.esl,AV.esl] [(0,2,t 89)]),cO 91 (app 2 48 (t 88) (t 90)),aa 12 91]) skip))))).seq (ops 0 [am 92 .add 78 1,aa 78 92])))).loop)).seq (ab [aa 93 12,aa 94 6,aa 2 93,aa 3 94] ret)))))))))
theorem LN:Is Tryz.prog 115 Mc:=mkI Tryz.func115
def Lw:F2:=(F2.mk 18 [RV.t 4] (ab [cO 4 (mov bc)] (ab [aa 5 0,bd 6 5,aa 7 1,bd 8 7,aK 9 .add 6 8,aa 10 0,aa 11 1,aH 12 124 [t 10,t 11],bd 13 12,aK 14 .sub 9 13,am 15 .quo 14 2,am 16 .rem 15 2,am 17 .eql 16 1,aa 4 17] ret)))
theorem Mz:Is Tryz.prog 116 Lw:=mkI Tryz.func116
def K5:F2:=(F2.mk 39 [RV.t 6] (ab [cO 6 (mov (cN 0))] ((ab [aa 11 0,bd 12 11,cO 13 (mov (cN 0))] (block 0 (ab [aK 14 .lss 13 12] ((aq 14 skip (exit 0)).seq ((block 1 (ab [aa 15 13,cO 16 (ixaS 2 (t 11) (t 13)),bl 17 2 16,cO 8 (alloc (AV.agg [ba,ba])),aa 7 15,be 2 8 17] ((ab [aa 18 7,aa 19 1,bd 20 19,aK 21 .geq 18 20] (aq 21 (ab [cO 6 (mov (cN 1))] ret) skip)).seq (ab [aa 22 1,aa 23 7,cO 24 (ixaS 2 (t 22) (t 23)),bl 25 2 24,cO 9 (alloc (AV.agg [ba,ba])),be 2 9 25] (ab [aa 26 2,bl 27 2 8,bl 28 2 9,cO 29 (call (t 26) [t 27,t 28]),aa 10 29] (ab [aa 30 10,am 31 .neq 30 0] (aq 31 (ab [aa 32 10,aa 6 32] ret) skip))))))).seq (ops 0 [am 33 .add 13 1,aa 13 33])))).loop)).seq ((ab [aa 34 0,bd 35 34,aa 36 1,bd 37 36,aK 38 .lss 35 37] (aq 38 (ab [cO 6 (mov (cN ((-1))))] ret) skip)).seq (ab [cO 6 (mov (cN 0))] ret)))))
theorem Mu:Is Tryz.prog 122 K5:=mkI Tryz.func122
def Ny:F2:=(F2.mk 17 [RV.t 4] (ab [cO 2 (box (t 0)),cO 3 (box (t 1)),cO 4 (mov (cN 0))] ((mixS 1 [bB 5 0 2,az 6 5,bB 7 0 3,az 8 7,aH 9 152 [t 6,t 8],bB 10 1 2,az 11 10,bB 12 1 3,az 13 12,aH 14 152 [t 11,t 13],cO 15 (bldS 1 2 [ba] [(0,1,t 9),(1,1,t 14)]),aH 16 151 [t 15],aa 4 16] [(0,0),(1,0),(2,0),(3,0),(5,0),(6,0),(7,0),(8,0),(4,1),(9,2),(10,2),(11,2),(12,0)]).seq ret)))
theorem Lx:Is Tryz.prog 123 Ny:=mkI Tryz.func123
def LY:F2:=(F2.mk 61 [RV.t 4] (ab [cO 4 (mov (c AV.esl))] (ab [aa 6 0,bd 7 6,aa 8 1,bd 9 8,aK 10 .add 7 9,cO 11 (mks 1 8 [ba] (cN 0) (t 10)),aa 5 11] ((block 0 ((ab [aa 12 0,bd 13 12,am 14 .gtr 13 0,aa 15 14,aj 16 15 (cM 1),aj 17 15 (lenS (t 16)),aj 18 15 (cB .gtr (t 17) (cN 0)),cO 19 (pick (t 15) (t 18) bc)] (aq 19 skip (exit 0))).seq (block 1 (block 2 ((ops 1 [aa 25 0,cO 26 (ixaS 1 (t 25) (cN 0)),az 27 26,aa 28 1,cO 29 (ixaS 1 (t 28) (cN 0)),az 30 29,aK 31 .lss 27 30,aa 24 31]).seq (aq 24 (ops 1 [aa 32 5,aa 33 0,cO 34 (ixaS 1 (t 33) (cN 0)),az 35 34,cO 36 (bldS 1 1 [ba] [(0,1,t 35)]),cO 37 (app 1 8 (t 32) (t 36)),aa 38 0,cO 39 (sls 1 (t 38) (some (cN 1)) none none),aa 5 37,aa 0 39]) ((ops 1 [aa 41 0,cO 42 (ixaS 1 (t 41) (cN 0)),az 43 42,aa 44 1,cO 45 (ixaS 1 (t 44) (cN 0)),az 46 45,aK 47 .gtr 43 46,aa 40 47]).seq (aq 40 (ops 1 [aa 48 5,aa 49 1,cO 50 (ixaS 1 (t 49) (cN 0)),az 51 50,cO 52 (bldS 1 1 [ba] [(0,1,t 51)]),cO 53 (app 1 8 (t 48) (t 52)),aa 54 1,cO 55 (sls 1 (t 54) (some (cN 1)) none none),aa 5 53,aa 1 55]) (ops 1 [aa 20 0,cO 21 (sls 1 (t 20) (some (cN 1)) none none),aa 22 1,cO 23 (sls 1 (t 22) (some (cN 1)) none none),aa 0 21,aa 1 23])))))))).loop).seq (ab [aa 56 5,aa 57 0,cO 58 (app 1 8 (t 56) (t 57)),aa 59 1,cO 60 (app 1 8 (t 58) (t 59)),aa 4 60] ret)))))
theorem KB:Is Tryz.prog 124 LY:=mkI Tryz.func124
def LS:F2:=(F2.mk 21 [RV.t 2] (ab [cO 1 (box (t 0)),cO 2 (mov bc)] (ab [bB 3 0 1,az 4 3,am 5 .geq 4 0,aa 6 5,aj 7 6 (fa 0 (t 1)),aj 8 6 (cD 7),aj 9 6 (cB .lss (t 8) (cN 8)),cO 10 (pick (t 6) (t 9) bc),aa 11 10,aj 12 11 (fa 1 (t 1)),aj 13 11 (cD 12),aj 14 11 (cB .geq (t 13) (cN 0)),cO 15 (pick (t 11) (t 14) bc),aa 16 15,aj 17 16 (fa 1 (t 1)),aj 18 16 (cD 17),aj 19 16 (cB .leq (t 18) (cN 1048576)),cO 20 (pick (t 16) (t 19) bc),aa 2 20] ret)))
theorem KL:Is Tryz.prog 125 LS:=mkI Tryz.func125
def KQ:F2:=(F2.mk 29 [RV.t 4] (ab [cO 2 (box (t 0)),cO 3 (box (t 1)),cO 4 (mov (cN 0))] ((block 0 (ab [bB 6 0 2,az 7 6,bB 8 0 3,az 9 8,aK 10 .lss 7 9,aa 5 10] (aq 5 (ab [cO 4 (mov (cN ((-1))))] ret) (ab [bB 12 0 2,az 13 12,bB 14 0 3,az 15 14,aK 16 .gtr 13 15,aa 11 16] (aq 11 (ab [cO 4 (mov (cN 1))] ret) (ab [bB 18 1 2,az 19 18,bB 20 1 3,az 21 20,aK 22 .lss 19 21,aa 17 22] (aq 17 (ab [cO 4 (mov (cN ((-1))))] ret) (ab [bB 24 1 2,az 25 24,bB 26 1 3,az 27 26,aK 28 .gtr 25 27,aa 23 28] (aq 23 (ab [cO 4 (mov (cN 1))] ret) skip))))))))).seq (ab [cO 4 (mov (cN 0))] ret))))
theorem J8:Is Tryz.prog 126 KQ:=mkI Tryz.func126
def MB:F2:=(F2.mk 18 [RV.t 4] (ab [cO 3 (box (t 1)),cO 4 (mov bc)] ((ab [cO 5 (mov (cN 0))] (block 0 ((ab [aa 6 5,aa 7 0,bd 8 7,aK 9 .lss 6 8] (aq 9 skip (exit 0))).seq ((block 1 ((ops 1 [aa 12 0,aa 13 5,cO 14 (ixaS 2 (t 12) (t 13)),bl 15 2 14,bl 16 2 3,cO 17 (binS BinOp.eql [int,int] (t 15) (t 16))]).seq (aq 17 (ab [cO 4 (mov cS)] ret) skip))).seq (ops 0 [aa 10 5,am 11 .add 10 1,aa 5 11]))).loop)).seq (ab [cO 4 (mov bc)] ret))))
theorem Ki:Is Tryz.prog 127 MB:=mkI Tryz.func127
def Nd:F2:=(F2.mk 36 [RV.t 2] (ab [cO 2 (mov (cN 0))] ((block 0 (ab [aa 6 0,bd 7 6,am 8 .eql 7 0,aa 5 8] (aq 5 (ab [cO 2 (mov (cN 16))] ret) (ab [aa 10 0,bd 11 10,am 12 .gtr 11 8,aa 9 12] (aq 9 (ab [cO 2 (mov (cN 5))] ret) skip))))).seq ((ab [aa 13 0,bd 14 13,cO 15 (mov (cN 0))] (block 1 (ab [aK 16 .lss 15 14] ((aq 16 skip (exit 1)).seq ((block 2 (ab [aa 17 15,cO 18 (ixaS 2 (t 13) (t 15)),bl 19 2 18,cO 4 (alloc (AV.agg [ba,ba])),aa 3 17,be 2 4 19] ((ab [bl 20 2 4,aH 21 153 [t 20],cO 22 (un UnOp.not (t 21))] (aq 22 (ab [cO 2 (mov (cN 2))] ret) skip)).seq ((mixS 1 [aa 23 3,am 24 .gtr 23 0,aa 25 24,aj 26 25 (cM 0),aj 27 25 (cM 3),aj 28 25 (cB .sub (t 27) (cN 1)),aj 29 25 (ixaS 2 (t 26) (t 28)),aj 30 25 (ldn 2 (t 29)),aj 31 25 (ldn 2 (t 4)),aj 32 25 (call (cF 123) [t 30,t 31]),aj 33 25 (cB .geq (t 32) (cN 0)),cO 34 (pick (t 25) (t 33) bc)] [(0,0),(1,0),(2,0),(3,0),(4,0),(5,0),(6,0),(7,0),(8,0),(9,2),(10,0),(11,0)]).seq (aq 34 (ab [cO 2 (mov (cN 14))] ret) skip))))).seq (ops 0 [am 35 .add 15 1,aa 15 35])))).loop)).seq (ab [cO 2 (mov (cN 0))] ret)))))
theorem Lh:Is Tryz.prog 128 Nd:=mkI Tryz.func128
def Mh:F2:=(F2.mk 4 [RV.t 2] (ab [cO 1 (box (t 0)),cO 2 (mov (c AV.nilf))] (ab [cO 3 (mkfn 154 [t 1]),aa 2 3] ret)))
theorem Kn:Is Tryz.prog 129 Mh:=mkI Tryz.func129
def Jh:F2:=(F2.mk 14 [] (ab [aa 5 0,bd 6 5,aa 4 6] (ops 0 [aa 7 0,aa 8 4,aa 9 4,cO 10 (conv IntKind.u64 (t 9)),aH 11 156 [t 10],aa 12 1,aH 13 155 ([t 7,cN ((0)),t 8,t 11,t 12])])))
theorem Iy:Is Tryz.prog 130 Jh:=mkI Tryz.func130
def Md:F2:=(F2.mk 10 [RV.t 6] (ab [cO 3 (box (t 0)),cO 5 (box (t 2)),cO 6 (mov bc)] (ab [aa 7 1,cO 8 (mkfn 157 [t 3,t 5]),aH 9 48 [t 7,t 8],aa 6 9] ret)))
theorem MU:Is Tryz.prog 131 Md:=mkI Tryz.func131
def MQ:F2:=(F2.mk 49 [RV.t 6,RV.t 7] (ab [cO 6 (mov (cN 0)),cO 7 (mov bc)] (ab [aa 12 0,bd 13 12,aa 8 13] (ab [aa 14 8,cO 9 (mov (cN 0)),aa 10 14] ((block 0 ((ab [aa 15 9,aa 16 10,aK 17 .lss 15 16] (aq 17 skip (exit 0))).seq (block 1 (ab [aa 18 9,aa 19 10,aK 20 .add 18 19,cO 21 (conv IntKind.u64 (t 20)),cO 22 (cB .shr (t 21) (c (AV.int IntKind.u64 (1)))),cO 23 (conv IntKind.i64 (t 22)),aa 11 23] (ab [aa 24 2,aa 25 0,aa 26 11,cO 27 (ixaS 1 (t 25) (t 26)),az 28 27,aa 29 1,cO 30 (call (t 24) [t 28,t 29]),am 31 .lss 30 0] (aq 31 (ops 0 [aa 32 11,am 33 .add 32 1,aa 9 33]) (ops 0 [aa 34 11,aa 10 34])))))).loop).seq (ab [aa 35 9,aa 36 9,aa 37 8,aK 38 .lss 36 37,aa 39 38,aj 40 39 (cM 2),aj 41 39 (cM 0),aj 42 39 (cM 9),aj 43 39 (ixaS 1 (t 41) (t 42)),aj 44 39 (cD 43),aj 45 39 (cM 1),aj 46 39 (call (t 40) [t 44,t 45]),aj 47 39 (cB .eql (t 46) (cN 0)),cO 48 (pick (t 39) (t 47) bc),aa 6 35,aa 7 48] ret))))))
theorem ME:Is Tryz.prog 132 MQ:=mkI Tryz.func132
def ML:F2:=(F2.mk 52 [RV.cn 2 2,RV.t 3] (ab [cO 1 (box (t 0)),cO 2 (alloc (AV.agg [ba,AV.esl])),cO 3 (mov (cN 0))] ((ab [bl 10 2 1,aH 11 113 [t 10],aa 4 11] (ab [aa 12 4,am 13 .neq 12 0] (aq 13 (ab [cO 14 (bld [ba,AV.esl] []),aa 15 4,be 2 2 14,aa 3 15] ret) skip))).seq ((ops 1 [bB 16 1 1,az 17 16,bd 18 17,bB 19 0 1,az 20 19,cO 21 (mks 1 24 [AV.esl] (t 20) (t 20)),cO 22 (bld [ba,AV.esl] [(0,1,t 18),(1,1,t 21)]),cO 5 (alloc (AV.agg [ba,AV.esl])),be 2 5 22]).seq ((ab [bB 23 1 1,az 24 23,bd 25 24,cO 26 (mov (cN 0))] (block 0 (ab [aK 27 .lss 26 25] ((aq 27 skip (exit 0)).seq ((block 1 (ab [aa 28 26,cO 29 (ixaS 1 (t 24) (t 26)),az 30 29,aa 6 28,aa 7 30] (ab [aa 31 7,bd 32 31,cO 33 (mov (cN 0))] (block 2 (ab [aK 34 .lss 33 32] ((aq 34 skip (exit 2)).seq ((block 3 (ab [cO 35 (ixaS 1 (t 31) (t 33)),az 36 35,aa 9 36] (mixS 2 [bB 37 1 5,az 38 37,aa 39 9,bB 40 1 5,az 41 40,aa 42 9,cO 43 (ixaS 1 (t 41) (t 42)),az 44 43,aa 45 6,cO 46 (bldS 1 1 [ba] [(0,1,t 45)]),cO 47 (app 1 8 (t 44) (t 46)),cO 48 (ixaS 1 (t 38) (t 39)),be 1 48 47] [(0,0),(1,0),(2,0),(3,0),(4,0),(5,0),(6,0),(7,0),(8,0),(9,1),(10,1),(11,0),(12,2)]))).seq (ops 0 [am 49 .add 33 1,aa 33 49])))).loop)))).seq (ops 0 [am 50 .add 26 1,aa 26 50])))).loop)).seq (ab [bl 51 2 5,be 2 2 51,cO 3 (mov (cN 0))] ret))))))
theorem LZ:Is Tryz.prog 133 ML:=mkI Tryz.func133
def LI:F2:=(F2.mk 39 [RV.cn 2 2,RV.t 3] (ab [cO 1 (box (t 0)),cO 2 (alloc (AV.agg [ba,AV.esl])),cO 3 (mov (cN 0))] ((ab [bl 10 2 1,aH 11 113 [t 10],aa 4 11] (ab [aa 12 4,am 13 .neq 12 0] (aq 13 (ab [cO 14 (bld [ba,AV.esl] []),aa 15 4,be 2 2 14,aa 3 15] ret) skip))).seq (ab [bB 16 0 1,az 17 16,cO 18 (bld [ba,AV.esl] [(0,1,t 17)]),cO 5 (alloc (AV.agg [ba,AV.esl])),be 2 5 18] (ab [bl 20 2 1,aH 21 115 [t 20],aa 19 21,a5 22 19 0,a5 23 19 1,aa 6 22,aa 7 23] ((ab [aa 24 6,bd 25 24,cO 26 (mov (cN 0))] (block 0 (ab [aK 27 .lss 26 25] ((aq 27 skip (exit 0)).seq ((block 1 (ab [cO 28 (ixaS 2 (t 24) (t 26)),bl 29 2 28,cO 9 (alloc (AV.agg [AV.esl,AV.esl])),be 2 9 29] (ops 0 [bB 30 1 5,az 31 30,bB 32 0 9,az 33 32,cO 34 (bldS 1 1 [AV.esl] [(0,1,t 33)]),cO 35 (app 1 24 (t 31) (t 34)),bB 36 1 5,be 1 36 35]))).seq (ops 0 [am 37 .add 26 1,aa 26 37])))).loop)).seq (ab [bl 38 2 5,be 2 2 38,cO 3 (mov (cN 0))] ret)))))))
theorem MZ:Is Tryz.prog 134 LI:=mkI Tryz.func134
def Li:F2:=(F2.mk 8 [RV.t 2] (ab [cO 2 (mov (c AV.esl))] ((ab [aa 3 0,cO 4 (snil false (t 3))] (aq 4 (ab [cO 2 (mov (c AV.esl))] ret) skip)).seq (ab [cO 5 (bldS 1 0 [AV.esl] []),aa 6 0,cO 7 (app 1 24 (t 5) (t 6)),aa 2 7] ret))))
theorem M8:Is Tryz.prog 135 Li:=mkI Tryz.func135
def JG:F2:=(F2.mk 8 [RV.t 2] (ab [cO 2 (mov (c AV.esl))] ((ab [aa 3 0,cO 4 (snil false (t 3))] (aq 4 (ab [cO 2 (mov (c AV.esl))] ret) skip)).seq (ab [cO 5 (bldS 2 0 [ba,ba] []),aa 6 0,cO 7 (app 2 16 (t 5) (t 6)),aa 2 7] ret))))
theorem Iw:Is Tryz.prog 136 JG:=mkI Tryz.func136
def KJ:F2:=(F2.mk 24 [RV.t 4,RV.t 5] (ab [cO 4 (mov (c AV.esl)),cO 5 (mov (cN 0))] ((ab [aa 7 0,aH 8 128 [t 7],aa 6 8] (ab [aa 9 6,am 10 .neq 9 0] (aq 10 (ab [aa 11 6,cO 4 (mov (c AV.esl)),aa 5 11] ret) skip))).seq ((ab [aa 12 1,am 13 .lss 12 1,aa 14 13,bu 15 14 (cM 1),bu 16 14 (cM 0),bu 17 14 (lenS (t 16)),bu 18 14 (cB .gtr (t 15) (t 17)),cO 19 (pick (t 14) cS (t 18))] (aq 19 (ab [cO 4 (mov (c AV.esl)),cO 5 (mov (cN 2))] ret) skip)).seq (ab [aa 20 0,aa 21 1,aH 22 160 [t 20,t 21],aH 23 159 [t 22],aa 4 23,cO 5 (mov (cN 0))] ret)))))
theorem LK:Is Tryz.prog 137 KJ:=mkI Tryz.func137
def L9:F2:=(F2.mk 16 [RV.cn 2 16] (ab [cO 2 (alloc (AV.agg [ba,ba,ba,ba,ba,ba,ba,ba,ba,ba,ba,ba,ba,ba,ba,ba]))] (ab [cO 3 (alloc (AV.agg [ba,ba,ba,ba,ba,ba,ba,ba,ba,ba,ba,ba,ba,ba,ba,ba]))] ((ab [cO 5 (mov (cN 0))] (block 0 (ab [am 6 .lss 5 8] ((aq 6 skip (exit 0)).seq ((block 1 (ab [aa 7 5,aa 4 7] (ops 0 [aa 8 4,cO 9 (ixaA 8 2 (t 3) (t 8)),bB 10 0 9,Op2.mk none none (Ins.st 1 (t 10) (cN ((-1))))]))).seq (ops 0 [am 11 .add 5 1,aa 5 11])))).loop)).seq (ab [cO 12 (slp 8 2 (t 3)),aa 13 0,cO 14 (cpy 2 (t 12) (t 13))] (ab [bl 15 16 3,be 16 2 15] ret))))))
theorem Ly:Is Tryz.prog 138 L9:=mkI Tryz.func138
def Nq:F2:=(F2.mk 36 [RV.t 2] (ab [cO 2 (mov (c AV.esl))] (ab [cO 3 (mov (cN 0))] ((ab [aa 9 0,bd 10 9,cO 11 (mov (cN 0))] (block 0 (ab [aK 12 .lss 11 10] ((aq 12 skip (exit 0)).seq ((block 1 (ab [cO 13 (ixaS 1 (t 9) (t 11)),az 14 13,aa 5 14] (ab [aa 15 3,aa 16 5,bd 17 16,aK 18 .add 15 17,aa 3 18] (ab [aa 19 3,am 20 .lss 19 0] (aq 20 (ops 0 [cO 21 dead,Op2.mk none none dead]) skip))))).seq (ops 0 [am 22 .add 11 1,aa 11 22])))).loop)).seq (ab [aa 23 3,aH 24 161 [c AV.esl,t 23],aa 6 24] ((ab [aa 25 0,bd 26 25,cO 27 (mov (cN 0))] (block 2 (ab [aK 28 .lss 27 26] ((aq 28 skip (exit 2)).seq ((block 3 (ab [cO 29 (ixaS 1 (t 25) (t 27)),az 30 29,aa 8 30] (ops 0 [aa 31 6,aa 32 8,cO 33 (app 2 16 (t 31) (t 32)),aa 6 33]))).seq (ops 0 [am 34 .add 27 1,aa 27 34])))).loop)).seq (ab [aa 35 6,aa 2 35] ret)))))))
theorem LR:Is Tryz.prog 141 Nq:=mkI Tryz.func141
def Nx:F2:=(F2.mk 6 [RV.t 2] (ab [cO 2 (mov bc)] (ab [aa 3 0,bd 4 3,am 5 .leq 4 10,aa 2 5] ret)))
theorem KM:Is Tryz.prog 145 Nx:=mkI Tryz.func145
def MP:F2:=(F2.mk 14 [RV.t 4] (ab [cO 4 (mov bc)] (ab [aa 8 0,aa 9 1,aH 10 163 [t 8,t 9],aa 7 10,a5 11 7 0,a5 12 7 1,aa 5 11,aa 6 12] (ab [aa 13 6,aa 4 13] ret))))
theorem Nb:Is Tryz.prog 146 MP:=mkI Tryz.func146
def Jr:F2:=(F2.mk 11 [] (ab [aa 3 0,bd 4 3,aa 2 4] (ops 0 [aa 5 0,aa 6 2,aa 7 2,cO 8 (conv IntKind.u64 (t 7)),aH 9 156 [t 8],aH 10 164 ([t 5,cN ((0)),t 6,t 9])])))
theorem Ia:Is Tryz.prog 147 Jr:=mkI Tryz.func147
def Ma:F2:=(F2.mk 22 [RV.t 6] (ab [cO 6 (mov (cN 0))] ((ab [aa 8 1,aa 7 8] (block 0 ((ab [aa 9 7,aa 10 0,bd 11 10,aK 12 .lss 9 11] (aq 12 skip (exit 0))).seq ((block 1 (ab [aa 15 0,aa 16 7,cO 17 (ixaS 1 (t 15) (t 16)),az 18 17,aa 19 2,aH 20 108 [t 18,t 19]] (aq 20 (ab [aa 21 7,aa 6 21] ret) skip))).seq (ops 0 [aa 13 7,am 14 .add 13 1,aa 7 14]))).loop)).seq (ab [cO 6 (mov (cN ((-1))))] ret))))
theorem Lm:Is Tryz.prog 148 Ma:=mkI Tryz.func148
def Lo:F2:=(F2.mk 38 [RV.cn 3 2] (ab [cO 2 (box (t 0)),cO 3 (alloc (AV.agg [AV.esl,AV.esl]))] ((ab [cO 4 (mov (cN 0))] (block 0 ((ab [aa 7 4,bB 8 0 2,az 9 8,bd 10 9,aK 11 .lss 7 10] (aq 11 skip (exit 0))).seq (block 1 ((mixS 9 [az 13 1,bB 14 0 2,az 15 14,aa 16 4,cO 17 (ixaS 1 (t 15) (t 16)),az 18 17,cO 19 (Ins.mget (one int) (AV.agg [AV.esl,AV.esl]) true (t 13) (t 18)),aa 12 19,a5 20 12 0,a5 21 12 1,cO 5 (alloc (AV.agg [AV.esl,AV.esl])),be 2 5 20,aa 6 21] [(0,0),(1,0),(2,0),(3,0),(4,0),(5,0),(6,4),(7,0),(8,0),(9,0),(10,1),(11,2),(12,0)]).seq ((ab [aa 22 6,cO 23 (un UnOp.not (t 22))] (aq 23 (ab [aa 24 4,am 25 .add 24 1,aa 4 25] (exit 1)) skip)).seq (mixS 1 [bB 26 0 2,az 27 26,bB 28 0 5,az 29 28,aH 30 124 [t 27,t 29],bB 31 1 2,az 32 31,bB 33 1 5,az 34 33,aH 35 124 [t 32,t 34],cO 36 (bld [AV.esl,AV.esl] [(0,1,t 30),(1,1,t 35)]),be 2 2 36] [(0,0),(1,0),(2,0),(3,0),(5,0),(6,0),(7,0),(8,0),(4,1),(9,2),(10,0),(11,2)]))))).loop)).seq (ab [bl 37 2 2,be 2 3 37] ret))))
theorem Kx:Is Tryz.prog 149 Lo:=mkI Tryz.func149
def MA:F2:=(F2.mk 8 [RV.t 2] (ab [cO 2 (mov (c AV.esl))] ((ab [aa 3 0,cO 4 (snil false (t 3))] (aq 4 (ab [cO 2 (mov (c AV.esl))] ret) skip)).seq (ab [cO 5 (bldS 1 0 [ba] []),aa 6 0,cO 7 (app 1 8 (t 5) (t 6)),aa 2 7] ret))))
theorem Mg:Is Tryz.prog 150 MA:=mkI Tryz.func150
def L8:F2:=(F2.mk 18 [RV.t 2] (ab [cO 2 (mov (cN 0))] (ab [cO 3 (mov (cN 0))] ((ab [aa 6 0,bd 7 6,cO 8 (mov (cN 0))] (block 0 (ab [aK 9 .lss 8 7] ((aq 9 skip (exit 0)).seq ((block 1 (ab [cO 10 (ixaS 1 (t 6) (t 8)),az 11 10,aa 5 11] (ab [aa 12 5,aa 13 3,aK 14 .neq 12 13] (aq 14 (ab [aa 15 5,aa 2 15] ret) skip)))).seq (ops 0 [am 16 .add 8 1,aa 8 16])))).loop)).seq (ab [aa 17 3,aa 2 17] ret)))))
theorem Ky:Is Tryz.prog 151 L8:=mkI Tryz.func151
def KF:F2:=(F2.mk 20 [RV.t 4] (ab [cO 4 (mov (cN 0))] (ab [aa 7 0,aH 8 165 [t 7],aa 5 8] (ab [aa 9 1,aH 10 165 [t 9],aa 6 10] ((ab [aa 11 5] (aq 11 ((ab [aa 12 6] (aq 12 (ab [cO 4 (mov (cN 0))] ret) skip)).seq (ab [cO 4 (mov (cN ((-1))))] ret)) skip)).seq ((ab [aa 13 6] (aq 13 (ab [cO 4 (mov (cN 1))] ret) skip)).seq ((ab [aa 14 0,aa 15 1,aK 16 .lss 14 15] (aq 16 (ab [cO 4 (mov (cN ((-1))))] ret) skip)).seq ((ab [aa 17 0,aa 18 1,aK 19 .gtr 17 18] (aq 19 (ab [cO 4 (mov (cN 1))] ret) skip)).seq (ab [cO 4 (mov (cN 0))] ret)))))))))
theorem K9:Is Tryz.prog 152 KF:=mkI Tryz.func152
def MH:F2:=(F2.mk 21 [RV.t 2] (ab [cO 1 (box (t 0)),cO 2 (mov bc)] (ab [bB 3 0 1,az 4 3,am 5 .geq 4 0,aa 6 5,aj 7 6 (fa 0 (t 1)),aj 8 6 (cD 7),aj 9 6 (cB .lss (t 8) (cN 8)),cO 10 (pick (t 6) (t 9) bc),aa 11 10,aj 12 11 (fa 1 (t 1)),aj 13 11 (cD 12),aj 14 11 (cB .geq (t 13) (cN 0)),cO 15 (pick (t 11) (t 14) bc),aa 16 15,aj 17 16 (fa 1 (t 1)),aj 18 16 (cD 17),aj 19 16 (cB .leq (t 18) (cN 1048576)),cO 20 (pick (t 16) (t 19) bc),aa 2 20] ret)))
theorem Na:Is Tryz.prog 153 MH:=mkI Tryz.func153
def KH:F2:=(F2.mk 27 [] (ab [az 4 1,bd 5 4,cO 6 (mov (cN 0))] (block 0 (ab [aK 7 .lss 6 5] ((aq 7 skip (exit 0)).seq ((block 1 (ab [aa 8 6,aa 3 8] ((mixS 1 [az 9 1,bd 10 9,am 11 .gtr 10 1,aa 12 11,aj 13 12 (cM 0),aj 14 12 (cD 1),aj 15 12 (cM 3),aj 16 12 (sls 2 (t 14) none (some (t 15)) none),aj 17 12 (cD 1),aj 18 12 (cM 3),aj 19 12 (cB .add (t 18) (cN 1)),aj 20 12 (sls 2 (t 17) (some (t 19)) none none),aj 21 12 (bldS 1 2 [AV.esl] [(0,1,t 16),(1,1,t 20)]),aj 22 12 (call (cF 141) [t 21]),aj 23 12 (call (t 13) [t 22]),aj 24 12 (un UnOp.not (t 23)),cO 25 (pick (t 12) (t 24) bc)] [(0,0),(1,0),(2,0),(3,0),(4,0),(5,0),(6,0),(7,0),(8,0),(9,0),(10,0),(11,0),(12,2),(13,2),(14,2),(15,0),(16,0)]).seq (aq 25 ret skip)))).seq (ops 0 [am 26 .add 6 1,aa 6 26])))).loop)))
theorem Kz:Is Tryz.prog 154 KH:=mkI Tryz.func154
def Jo:F2:=(F2.mk 148 [] (ab [cO 10 (mov cS)] (ab [cO 11 (mov cS)] (block 0 (block 1 (ab [aa 21 2,aa 22 1,aK 23 .sub 21 22,aa 12 23] ((ab [aa 24 12,am 25 .leq 24 12] (aq 25 (ab [aa 26 0,aa 27 1,aa 28 2,aa 29 4,aH 30 166 [t 26,t 27,t 28,t 29]] ret) skip)).seq ((ab [aa 31 3,am 32 .eql 31 0] (aq 32 (ab [aa 33 0,aa 34 1,aa 35 2,aa 36 4,aH 37 167 [t 33,t 34,t 35,t 36]] ret) skip)).seq ((ab [aa 38 10,cO 39 (un UnOp.not (t 38))] (aq 39 (ab [aa 40 0,aa 41 1,aa 42 2,aa 43 4,aH 44 168 [t 40,t 41,t 42,t 43]] (ops 0 [aa 45 3,am 46 .sub 45 1,aa 3 46])) skip)).seq (ab [aa 48 0,aa 49 1,aa 50 2,aa 51 4,aH 52 169 [t 48,t 49,t 50,t 51],aa 47 52,a5 53 47 0,a5 54 47 1,aa 13 53,aa 14 54] ((ab [aa 55 14,am 56 .eql 55 2] (aq 56 (ab [aa 57 0,aa 58 1,aa 59 2,aa 60 4,aH 61 170 [t 57,t 58,t 59,t 60]] (ab [aa 62 2,am 63 .sub 62 1,aa 64 13,aa 65 1,aK 66 .sub 64 65,aK 67 .sub 63 66,aa 13 67] (ops 0 [cO 14 (mov (cN 1))]))) skip)).seq ((ab [aa 68 10,aa 69 68,aj 70 69 (cM 11),cO 71 (pick (t 69) (t 70) bc),aa 72 71,aj 73 72 (cM 14),aj 74 72 (cB .eql (t 73) (cN 1)),cO 75 (pick (t 72) (t 74) bc)] (aq 75 (ab [aa 76 0,aa 77 1,aa 78 2,aa 79 4,aH 80 171 [t 76,t 77,t 78,t 79]] (aq 80 ret skip)) skip)).seq (((mixS 1 [aa 81 1,am 82 .gtr 81 0,aa 83 82,aj 84 83 (cM 4),aj 85 83 (cM 0),aj 86 83 (cM 1),aj 87 83 (cB .sub (t 86) (cN 1)),aj 88 83 (ixaS 1 (t 85) (t 87)),aj 89 83 (cD 88),aj 90 83 (cM 0),aj 91 83 (cM 13),aj 92 83 (ixaS 1 (t 90) (t 91)),aj 93 83 (cD 92),aj 94 83 (call (t 84) [t 89,t 93]),aj 95 83 (cB .lss (t 94) (cN 0)),aj 96 83 (un UnOp.not (t 95)),cO 97 (pick (t 83) (t 96) bc)] [(0,0),(1,0),(2,0),(3,0),(4,0),(5,0),(6,0),(7,0),(8,0),(9,0),(10,0),(11,0),(12,0),(13,2),(14,0),(15,0),(16,0)]).seq (aq 97 (ab [aa 98 0,aa 99 1,aa 100 2,aa 101 13,aa 102 4,aH 103 172 [t 98,t 99,t 100,t 101,t 102],aa 15 103] (ab [aa 104 15,aa 1 104] (exit 1))) skip)).seq (ab [aa 106 0,aa 107 1,aa 108 2,aa 109 13,aa 110 4,aH 111 173 [t 106,t 107,t 108,t 109,t 110],aa 105 111,a5 112 105 0,a5 113 105 1,aa 16 112,aa 17 113] (ab [aa 114 17,aa 11 114] (ab [aa 115 16,aa 116 1,aK 117 .sub 115 116,aa 118 2,aa 119 16,aK 120 .sub 118 119,aa 18 117,aa 19 120] (ab [aa 121 12,am 122 .quo 121 8,aa 20 122] (ab [aa 123 18,aa 124 19,aK 125 .lss 123 124] (aq 125 (ab [aa 126 18,aa 127 20,aK 128 .geq 126 127,aa 10 128] (ab [aa 129 0,aa 130 1,aa 131 16,aa 132 3,aa 133 4,aH 134 155 [t 129,t 130,t 131,t 132,t 133]] (ops 0 [aa 135 16,am 136 .add 135 1,aa 1 136]))) (ab [aa 137 19,aa 138 20,aK 139 .geq 137 138,aa 10 139] (ab [aa 140 0,aa 141 16,am 142 .add 141 1,aa 143 2,aa 144 3,aa 145 4,aH 146 155 [t 140,t 142,t 143,t 144,t 145]] (ops 0 [aa 147 16,aa 2 147])))))))))))))))))).loop))))
theorem II:Is Tryz.prog 155 Jo:=mkI Tryz.func155
def I1:F2:=(F2.mk 8 [RV.t 2] (ab [cO 2 (mov (cN 0))] ((C2.cond bc (ab [aa 3 0,cO 4 (conv IntKind.u32 (t 3)),aH 5 174 [t 4],aa 2 5] ret) skip).seq (ab [aa 6 0,aH 7 175 [t 6],aa 2 7] ret))))
theorem Ij:Is Tryz.prog 156 I1:=mkI Tryz.func156
def M7:F2:=(F2.mk 21 [RV.t 4] (ab [cO 4 (mov bc)] ((mixS 1 [az 5 1,aa 6 0,cO 7 (ixaS 1 (t 5) (t 6)),az 8 7,bd 9 8,az 10 2,bd 11 10,aK 12 .gtr 9 11,aa 13 12,aj 14 13 (cD 2),aj 15 13 (cD 1),aj 16 13 (cM 0),aj 17 13 (ixaS 1 (t 15) (t 16)),aj 18 13 (cD 17),aj 19 13 (call (cF 158) [t 14,t 18]),cO 20 (pick (t 13) (t 19) bc),aa 4 20] [(0,0),(1,0),(2,0),(3,0),(4,0),(5,0),(6,0),(7,0),(8,0),(9,0),(10,0),(11,0),(12,0),(13,0),(14,2),(15,0),(16,0)]).seq ret)))
theorem MM:Is Tryz.prog 157 M7:=mkI Tryz.func157
def M6:F2:=(F2.mk 29 [RV.t 4] (ab [cO 4 (mov bc)] ((ab [aa 7 0,bd 8 7,cO 9 (mov (cN 0))] (block 0 (ab [aK 10 .lss 9 8] ((aq 10 skip (exit 0)).seq ((block 1 (ab [cO 11 (ixaS 2 (t 7) (t 9)),bl 12 2 11,cO 6 (alloc (AV.agg [ba,ba])),be 2 6 12] ((block 2 (((ops 1 [aa 13 1,bd 14 13,am 15 .gtr 14 0,aa 16 15,aj 17 16 (cM 1),aj 18 16 (ixaS 2 (t 17) (cN 0)),aj 19 16 (ldn 2 (t 18)),aj 20 16 (ldn 2 (t 6)),aj 21 16 (binS BinOp.neq [int,int] (t 19) (t 20)),cO 22 (pick (t 16) (t 21) bc)]).seq (aq 22 skip (exit 2))).seq (block 3 (ops 0 [aa 23 1,cO 24 (sls 2 (t 23) (some (cN 1)) none none),aa 1 24]))).loop).seq (ab [aa 25 1,bd 26 25,am 27 .eql 26 0] (aq 27 (ab [cO 4 (mov bc)] ret) skip))))).seq (ops 0 [am 28 .add 9 1,aa 9 28])))).loop)).seq (ab [cO 4 (mov cS)] ret))))
theorem L2:Is Tryz.prog 158 M6:=mkI Tryz.func158
def LF:F2:=(F2.mk 5 [RV.t 2] (ab [cO 2 (mov (c AV.esl))] (ab [aa 3 0,aH 4 176 [c AV.esl,t 3],aa 2 4] ret)))
theorem MS:Is Tryz.prog 159 LF:=mkI Tryz.func159
def Nr:F2:=(F2.mk 6 [RV.t 4] (ab [cO 2 (box (t 0)),cO 3 (box (t 1)),cO 4 (mov (c AV.nilf))] (ab [cO 5 (mkfn 177 [t 3,t 2]),aa 4 5] ret)))
theorem Mo:Is Tryz.prog 160 Nr:=mkI Tryz.func160
def MC:F2:=(F2.mk 27 [RV.t 4] (ab [cO 4 (mov (c AV.esl))] ((ab [aa 5 1,am 6 .lss 5 0] (aq 6 (ops 0 [cO 7 dead,Op2.mk none none dead]) skip)).seq ((ab [aa 8 1,aa 9 0,cO 10 (capE (t 9)),aa 11 0,bd 12 11,aK 13 .sub 10 12,aK 14 .sub 8 13,aa 1 14] (ab [aa 15 1,am 16 .gtr 15 0] (aq 16 (ops 0 [aa 17 0,aa 18 0,cO 19 (capE (t 18)),cO 20 (sls 2 (t 17) none (some (t 19)) none),aa 21 1,cO 22 (apz 2 16 [ba,ba] (t 20) (t 21)),aa 23 0,bd 24 23,cO 25 (sls 2 (t 22) none (some (t 24)) none),aa 0 25]) skip))).seq (ab [aa 26 0,aa 4 26] ret)))))
theorem Mn:Is Tryz.prog 161 MC:=mkI Tryz.func161
def L4:F2:=(F2.mk 54 [RV.t 4,RV.t 5] (ab [cO 4 (mov (cN 0)),cO 5 (mov bc)] (ab [aa 10 0,bd 11 10,aa 6 11] (ab [aa 12 6,cO 7 (mov (cN 0)),aa 8 12] ((block 0 ((ab [aa 13 7,aa 14 8,aK 15 .lss 13 14] (aq 15 skip (exit 0))).seq (block 1 (ab [aa 16 7,aa 17 8,aK 18 .add 16 17,cO 19 (conv IntKind.u64 (t 18)),cO 20 (cB .shr (t 19) (c (AV.int IntKind.u64 (1)))),cO 21 (conv IntKind.i64 (t 20)),aa 9 21] (ab [aa 22 0,aa 23 9,cO 24 (ixaS 1 (t 22) (t 23)),az 25 24,aa 26 1,aH 27 187 [t 25,t 26]] (aq 27 (ops 0 [aa 28 9,am 29 .add 28 1,aa 7 29]) (ops 0 [aa 30 9,aa 8 30])))))).loop).seq (ab [aa 31 7,aa 32 7,aa 33 6,aK 34 .lss 32 33,aa 35 34,aj 36 35 (cM 0),aj 37 35 (cM 7),aj 38 35 (ixaS 1 (t 36) (t 37)),aj 39 35 (cD 38),aj 40 35 (cM 1),aj 41 35 (cB .eql (t 39) (t 40)),aj 42 35 (cM 41),bu 43 42 (cM 0),bu 44 42 (cM 7),bu 45 42 (ixaS 1 (t 43) (t 44)),bu 46 42 (cD 45),bu 47 42 (call (cF 188) [t 46]),bu 48 42 (cM 47),aj 49 48 (cM 1),aj 50 48 (call (cF 188) [t 49]),bu 51 42 (pick (t 48) (t 50) bc),aj 52 35 (pick (t 42) cS (t 51)),cO 53 (pick (t 35) (t 52) bc),aa 4 31,aa 5 53] ret))))))
theorem La:Is Tryz.prog 163 L4:=mkI Tryz.func163
def JM:F2:=(F2.mk 134 [] (ab [cO 8 (mov cS)] (ab [cO 9 (mov cS)] (block 0 (block 1 (ab [aa 19 2,aa 20 1,aK 21 .sub 19 20,aa 10 21] ((ab [aa 22 10,am 23 .leq 22 12] (aq 23 (ab [aa 24 0,aa 25 1,aa 26 2,aH 27 189 [t 24,t 25,t 26]] ret) skip)).seq ((ab [aa 28 3,am 29 .eql 28 0] (aq 29 (ab [aa 30 0,aa 31 1,aa 32 2,aH 33 190 [t 30,t 31,t 32]] ret) skip)).seq ((ab [aa 34 8,cO 35 (un UnOp.not (t 34))] (aq 35 (ab [aa 36 0,aa 37 1,aa 38 2,aH 39 191 [t 36,t 37,t 38]] (ops 0 [aa 40 3,am 41 .sub 40 1,aa 3 41])) skip)).seq (ab [aa 43 0,aa 44 1,aa 45 2,aH 46 192 [t 43,t 44,t 45],aa 42 46,a5 47 42 0,a5 48 42 1,aa 11 47,aa 12 48] ((ab [aa 49 12,am 50 .eql 49 2] (aq 50 (ab [aa 51 0,aa 52 1,aa 53 2,aH 54 193 [t 51,t 52,t 53]] (ab [aa 55 2,am 56 .sub 55 1,aa 57 11,aa 58 1,aK 59 .sub 57 58,aK 60 .sub 56 59,aa 11 60] (ops 0 [cO 12 (mov (cN 1))]))) skip)).seq ((ab [aa 61 8,aa 62 61,aj 63 62 (cM 9),cO 64 (pick (t 62) (t 63) bc),aa 65 64,aj 66 65 (cM 12),aj 67 65 (cB .eql (t 66) (cN 1)),cO 68 (pick (t 65) (t 67) bc)] (aq 68 (ab [aa 69 0,aa 70 1,aa 71 2,aH 72 194 [t 69,t 70,t 71]] (aq 72 ret skip)) skip)).seq (((mixS 1 [aa 73 1,am 74 .gtr 73 0,aa 75 74,aj 76 75 (cM 0),aj 77 75 (cM 1),aj 78 75 (cB .sub (t 77) (cN 1)),aj 79 75 (ixaS 1 (t 76) (t 78)),aj 80 75 (cD 79),aj 81 75 (cM 0),aj 82 75 (cM 11),aj 83 75 (ixaS 1 (t 81) (t 82)),aj 84 75 (cD 83),aj 85 75 (call (cF 187) [t 80,t 84]),aj 86 75 (un UnOp.not (t 85)),cO 87 (pick (t 75) (t 86) bc)] [(0,0),(1,0),(2,0),(3,0),(4,0),(5,0),(6,0),(7,0),(8,0),(9,0),(10,0),(11,0),(12,2),(13,0),(14,0)]).seq (aq 87 (ab [aa 88 0,aa 89 1,aa 90 2,aa 91 11,aH 92 195 [t 88,t 89,t 90,t 91],aa 13 92] (ab [aa 93 13,aa 1 93] (exit 1))) skip)).seq (ab [aa 95 0,aa 96 1,aa 97 2,aa 98 11,aH 99 196 [t 95,t 96,t 97,t 98],aa 94 99,a5 100 94 0,a5 101 94 1,aa 14 100,aa 15 101] (ab [aa 102 15,aa 9 102] (ab [aa 103 14,aa 104 1,aK 105 .sub 103 104,aa 106 2,aa 107 14,aK 108 .sub 106 107,aa 16 105,aa 17 108] (ab [aa 109 10,am 110 .quo 109 8,aa 18 110] (ab [aa 111 16,aa 112 17,aK 113 .lss 111 112] (aq 113 (ab [aa 114 16,aa 115 18,aK 116 .geq 114 115,aa 8 116] (ab [aa 117 0,aa 118 1,aa 119 14,aa 120 3,aH 121 164 [t 117,t 118,t 119,t 120]] (ops 0 [aa 122 14,am 123 .add 122 1,aa 1 123]))) (ab [aa 124 17,aa 125 18,aK 126 .geq 124 125,aa 8 126] (ab [aa 127 0,aa 128 14,am 129 .add 128 1,aa 130 2,aa 131 3,aH 132 164 [t 127,t 129,t 130,t 131]] (ops 0 [aa 133 14,aa 2 133])))))))))))))))))).loop))))
theorem It:Is Tryz.prog 164 JM:=mkI Tryz.func164
def Nk:F2:=(F2.mk 6 [RV.t 2] (ab [cO 2 (mov bc)] (ab [aa 3 0,aa 4 0,aK 5 .neq 3 4,aa 2 5] ret)))
theorem KP:Is Tryz.prog 165 Nk:=mkI Tryz.func165
def IQ:F2:=(F2.mk 53 [] (ab [aa 10 1,am 11 .add 10 1,aa 8 11] (block 0 ((ab [aa 12 8,aa 13 2,aK 14 .lss 12 13] (aq 14 skip (exit 0))).seq ((block 1 (ab [aa 17 8,aa 9 17] (block 2 (((mixS 1 [aa 18 9,aa 19 1,aK 20 .gtr 18 19,aa 21 20,aj 22 21 (cM 3),aj 23 21 (cM 0),aj 24 21 (cM 9),aj 25 21 (ixaS 1 (t 23) (t 24)),aj 26 21 (cD 25),aj 27 21 (cM 0),aj 28 21 (cM 9),aj 29 21 (cB .sub (t 28) (cN 1)),aj 30 21 (ixaS 1 (t 27) (t 29)),aj 31 21 (cD 30),aj 32 21 (call (t 22) [t 26,t 31]),aj 33 21 (cB .lss (t 32) (cN 0)),cO 34 (pick (t 21) (t 33) bc)] [(0,0),(1,0),(2,0),(3,0),(4,0),(5,0),(6,0),(7,0),(8,0),(9,0),(10,0),(11,0),(12,0),(13,0),(14,2),(15,0),(16,0)]).seq (aq 34 skip (exit 2))).seq ((block 3 (ops 1 [aa 37 0,aa 38 9,aa 39 0,aa 40 9,am 41 .sub 40 1,aa 42 0,aa 43 9,am 44 .sub 43 1,cO 45 (ixaS 1 (t 42) (t 44)),az 46 45,aa 47 0,aa 48 9,cO 49 (ixaS 1 (t 47) (t 48)),az 50 49,cO 51 (ixaS 1 (t 37) (t 38)),be 1 51 46,cO 52 (ixaS 1 (t 39) (t 41)),be 1 52 50])).seq (ops 0 [aa 35 9,am 36 .sub 35 1,aa 9 36]))).loop))).seq (ops 0 [aa 15 8,am 16 .add 15 1,aa 8 16]))).loop)))
theorem Ie:Is Tryz.prog 166 IQ:=mkI Tryz.func166
def Kp:F2:=(F2.mk 60 [] (ab [aa 13 1,aa 8 13] (ab [cO 9 (mov (cN 0))] (ab [aa 14 2,aa 15 1,aK 16 .sub 14 15,aa 10 16] ((ab [aa 17 10,am 18 .sub 17 1,am 19 .quo 18 2,aa 11 19] (block 0 ((ab [aa 20 11,am 21 .geq 20 0] (aq 21 skip (exit 0))).seq ((block 1 (ops 0 [aa 24 0,aa 25 11,aa 26 10,aa 27 8,aa 28 3,aH 29 197 [t 24,t 25,t 26,t 27,t 28]])).seq (ops 0 [aa 22 11,am 23 .sub 22 1,aa 11 23]))).loop)).seq (ab [aa 30 10,am 31 .sub 30 1,aa 12 31] (block 2 ((ab [aa 32 12,am 33 .geq 32 0] (aq 33 skip (exit 2))).seq ((block 3 ((ops 1 [aa 36 0,aa 37 8,aa 38 0,aa 39 8,aa 40 12,aK 41 .add 39 40,aa 42 0,aa 43 8,aa 44 12,aK 45 .add 43 44,cO 46 (ixaS 1 (t 42) (t 45)),az 47 46,aa 48 0,aa 49 8,cO 50 (ixaS 1 (t 48) (t 49)),az 51 50,cO 52 (ixaS 1 (t 36) (t 37)),be 1 52 47,cO 53 (ixaS 1 (t 38) (t 41)),be 1 53 51]).seq (ops 0 [aa 54 0,aa 55 9,aa 56 12,aa 57 8,aa 58 3,aH 59 197 [t 54,t 55,t 56,t 57,t 58]]))).seq (ops 0 [aa 34 12,am 35 .sub 34 1,aa 12 35]))).loop)))))))
theorem LA:Is Tryz.prog 167 Kp:=mkI Tryz.func167
def Nf:F2:=(F2.mk 67 [] (ab [aa 13 2,aa 14 1,aK 15 .sub 13 14,aa 8 15] (ab [aa 16 8,am 17 .geq 16 8] (aq 17 (ab [aa 18 8,cO 19 (conv IntKind.u64 (t 18)),cO 9 (alloc (AV.int IntKind.u64 (0))),be 1 9 19] (ab [aa 20 8,aH 21 198 [t 20],aa 10 21] (ab [aa 22 1,aa 23 8,am 24 .quo 23 4,am 25 .mul 24 2,aK 26 .add 22 25,am 27 .sub 26 1,aa 11 27] (block 0 ((ab [aa 28 11,aa 29 1,aa 30 8,am 31 .quo 30 4,am 32 .mul 31 2,aK 33 .add 29 32,am 34 .add 33 1,aK 35 .leq 28 34] (aq 35 skip (exit 0))).seq ((block 1 (ab [aH 38 199 [t 9],aa 39 10,cO 40 (cB .sub (t 39) (c (AV.int IntKind.u64 (1)))),aK 41 .and 38 40,cO 42 (conv IntKind.i64 (t 41)),aa 12 42] ((ab [aa 43 12,aa 44 8,aK 45 .geq 43 44] (aq 45 (ops 0 [aa 46 12,aa 47 8,aK 48 .sub 46 47,aa 12 48]) skip)).seq (ops 1 [aa 49 0,aa 50 11,aa 51 0,aa 52 1,aa 53 12,aK 54 .add 52 53,aa 55 0,aa 56 1,aa 57 12,aK 58 .add 56 57,cO 59 (ixaS 1 (t 55) (t 58)),az 60 59,aa 61 0,aa 62 11,cO 63 (ixaS 1 (t 61) (t 62)),az 64 63,cO 65 (ixaS 1 (t 49) (t 50)),be 1 65 60,cO 66 (ixaS 1 (t 51) (t 54)),be 1 66 64])))).seq (ops 0 [aa 36 11,am 37 .add 36 1,aa 11 37]))).loop)))) skip))))
theorem KO:Is Tryz.prog 168 Nf:=mkI Tryz.func168
def K3:F2:=(F2.mk 63 [RV.t 8,RV.t 9] (ab [cO 8 (mov (cN 0)),cO 9 (mov (cN 0))] (ab [aa 15 2,aa 16 1,aK 17 .sub 15 16,aa 10 17] (ab [cO 11 (alloc (ba))] (ab [aa 18 1,aa 19 10,am 20 .quo 19 4,am 21 .mul 20 1,aK 22 .add 18 21,aa 12 22] (ab [aa 23 1,aa 24 10,am 25 .quo 24 4,am 26 .mul 25 2,aK 27 .add 23 26,aa 13 27] (ab [aa 28 1,aa 29 10,am 30 .quo 29 4,am 31 .mul 30 3,aK 32 .add 28 31,aa 14 32] ((ab [aa 33 10,am 34 .geq 33 8] (aq 34 ((ab [aa 35 10,am 36 .geq 35 50] (aq 36 (ab [aa 37 0,aa 38 12,aa 39 3,aH 40 200 [t 37,t 38,t 11,t 39],aa 12 40] (ab [aa 41 0,aa 42 13,aa 43 3,aH 44 200 [t 41,t 42,t 11,t 43],aa 13 44] (ops 0 [aa 45 0,aa 46 14,aa 47 3,aH 48 200 [t 45,t 46,t 11,t 47],aa 14 48]))) skip)).seq (ops 0 [aa 49 0,aa 50 12,aa 51 13,aa 52 14,aa 53 3,aH 54 201 [t 49,t 50,t 51,t 52,t 11,t 53],aa 13 54])) skip)).seq (ab [az 55 11] (block 0 (ab [am 58 .eql 55 0,aa 57 58] (aq 57 (ab [aa 59 13,aa 8 59,cO 9 (mov (cN 1))] ret) (ab [am 61 .eql 55 12,aa 60 61] (aq 60 (ab [aa 62 13,aa 8 62,cO 9 (mov (cN 2))] ret) (ab [aa 56 13,aa 8 56,cO 9 (mov (cN 0))] ret)))))))))))))))
theorem Ls:Is Tryz.prog 169 K3:=mkI Tryz.func169
def Me:F2:=(F2.mk 34 [] (ab [aa 10 1,aa 8 10] (ab [aa 11 2,am 12 .sub 11 1,aa 9 12] (block 0 ((ab [aa 13 8,aa 14 9,aK 15 .lss 13 14] (aq 15 skip (exit 0))).seq (block 1 ((ops 1 [aa 16 0,aa 17 8,aa 18 0,aa 19 9,aa 20 0,aa 21 9,cO 22 (ixaS 1 (t 20) (t 21)),az 23 22,aa 24 0,aa 25 8,cO 26 (ixaS 1 (t 24) (t 25)),az 27 26,cO 28 (ixaS 1 (t 16) (t 17)),be 1 28 23,cO 29 (ixaS 1 (t 18) (t 19)),be 1 29 27]).seq (ab [aa 30 8,am 31 .add 30 1,aa 8 31] (ops 0 [aa 32 9,am 33 .sub 32 1,aa 9 33]))))).loop))))
theorem Mq:Is Tryz.prog 170 Me:=mkI Tryz.func170
def Mm:F2:=(F2.mk 141 [RV.t 8] (ab [cO 8 (mov bc)] (ab [aa 13 1,am 14 .add 13 1,aa 9 14] ((ab [cO 10 (mov (cN 0))] (block 0 ((ab [aa 15 10,am 16 .lss 15 5] (aq 16 skip (exit 0))).seq ((block 1 ((block 2 (((mixS 1 [aa 19 9,aa 20 2,aK 21 .lss 19 20,aa 22 21,aj 23 22 (cM 3),aj 24 22 (cM 0),aj 25 22 (cM 9),aj 26 22 (ixaS 1 (t 24) (t 25)),aj 27 22 (cD 26),aj 28 22 (cM 0),aj 29 22 (cM 9),aj 30 22 (cB .sub (t 29) (cN 1)),aj 31 22 (ixaS 1 (t 28) (t 30)),aj 32 22 (cD 31),aj 33 22 (call (t 23) [t 27,t 32]),aj 34 22 (cB .lss (t 33) (cN 0)),aj 35 22 (un UnOp.not (t 34)),cO 36 (pick (t 22) (t 35) bc)] [(0,0),(1,0),(2,0),(3,0),(4,0),(5,0),(6,0),(7,0),(8,0),(9,0),(10,0),(11,0),(12,0),(13,0),(14,2),(15,0),(16,0),(17,0)]).seq (aq 36 skip (exit 2))).seq (block 3 (ops 0 [aa 37 9,am 38 .add 37 1,aa 9 38]))).loop).seq ((ab [aa 39 9,aa 40 2,aK 41 .eql 39 40] (aq 41 (ab [cO 8 (mov cS)] ret) skip)).seq ((ab [aa 42 2,aa 43 1,aK 44 .sub 42 43,am 45 .lss 44 50] (aq 45 (ab [cO 8 (mov bc)] ret) skip)).seq ((ops 1 [aa 46 0,aa 47 9,aa 48 0,aa 49 9,am 50 .sub 49 1,aa 51 0,aa 52 9,am 53 .sub 52 1,cO 54 (ixaS 1 (t 51) (t 53)),az 55 54,aa 56 0,aa 57 9,cO 58 (ixaS 1 (t 56) (t 57)),az 59 58,cO 60 (ixaS 1 (t 46) (t 47)),be 1 60 55,cO 61 (ixaS 1 (t 48) (t 50)),be 1 61 59]).seq ((ab [aa 62 9,aa 63 1,aK 64 .sub 62 63,am 65 .geq 64 2] (aq 65 (ab [aa 66 9,am 67 .sub 66 1,aa 11 67] (block 4 ((ab [aa 68 11,am 69 .geq 68 1] (aq 69 skip (exit 4))).seq ((block 5 (((mixS 1 [aa 72 3,aa 73 0,aa 74 11,cO 75 (ixaS 1 (t 73) (t 74)),az 76 75,aa 77 0,aa 78 11,am 79 .sub 78 1,cO 80 (ixaS 1 (t 77) (t 79)),az 81 80,cO 82 (call (t 72) [t 76,t 81]),am 83 .lss 82 0,cO 84 (un UnOp.not (t 83))] [(0,0),(1,0),(2,0),(3,0),(4,0),(5,0),(6,0),(7,0),(8,0),(9,0),(10,2),(11,0),(12,0)]).seq (aq 84 (exit 4) skip)).seq (ops 1 [aa 85 0,aa 86 11,aa 87 0,aa 88 11,am 89 .sub 88 1,aa 90 0,aa 91 11,am 92 .sub 91 1,cO 93 (ixaS 1 (t 90) (t 92)),az 94 93,aa 95 0,aa 96 11,cO 97 (ixaS 1 (t 95) (t 96)),az 98 97,cO 99 (ixaS 1 (t 85) (t 86)),be 1 99 94,cO 100 (ixaS 1 (t 87) (t 89)),be 1 100 98]))).seq (ops 0 [aa 70 11,am 71 .sub 70 1,aa 11 71]))).loop)) skip)).seq (ab [aa 101 2,aa 102 9,aK 103 .sub 101 102,am 104 .geq 103 2] (aq 104 (ab [aa 105 9,am 106 .add 105 1,aa 12 106] (block 6 ((ab [aa 107 12,aa 108 2,aK 109 .lss 107 108] (aq 109 skip (exit 6))).seq ((block 7 (((mixS 1 [aa 112 3,aa 113 0,aa 114 12,cO 115 (ixaS 1 (t 113) (t 114)),az 116 115,aa 117 0,aa 118 12,am 119 .sub 118 1,cO 120 (ixaS 1 (t 117) (t 119)),az 121 120,cO 122 (call (t 112) [t 116,t 121]),am 123 .lss 122 0,cO 124 (un UnOp.not (t 123))] [(0,0),(1,0),(2,0),(3,0),(4,0),(5,0),(6,0),(7,0),(8,0),(9,0),(10,2),(11,0),(12,0)]).seq (aq 124 (exit 6) skip)).seq (ops 1 [aa 125 0,aa 126 12,aa 127 0,aa 128 12,am 129 .sub 128 1,aa 130 0,aa 131 12,am 132 .sub 131 1,cO 133 (ixaS 1 (t 130) (t 132)),az 134 133,aa 135 0,aa 136 12,cO 137 (ixaS 1 (t 135) (t 136)),az 138 137,cO 139 (ixaS 1 (t 125) (t 126)),be 1 139 134,cO 140 (ixaS 1 (t 127) (t 129)),be 1 140 138]))).seq (ops 0 [aa 110 12,am 111 .add 110 1,aa 12 111]))).loop)) skip)))))))).seq (ops 0 [aa 17 10,am 18 .add 17 1,aa 10 18]))).loop)).seq (ab [cO 8 (mov bc)] ret)))))
theorem Nn:Is Tryz.prog 171 Mm:=mkI Tryz.func171
def Kl:F2:=(F2.mk 90 [RV.t 10] (ab [cO 10 (mov (cN 0))] ((ops 1 [aa 13 0,aa 14 1,aa 15 0,aa 16 3,aa 17 0,aa 18 3,cO 19 (ixaS 1 (t 17) (t 18)),az 20 19,aa 21 0,aa 22 1,cO 23 (ixaS 1 (t 21) (t 22)),az 24 23,cO 25 (ixaS 1 (t 13) (t 14)),be 1 25 20,cO 26 (ixaS 1 (t 15) (t 16)),be 1 26 24]).seq (ab [aa 27 1,am 28 .add 27 1,aa 29 2,am 30 .sub 29 1,aa 11 28,aa 12 30] ((block 0 (block 1 ((block 2 (((mixS 1 [aa 31 11,aa 32 12,aK 33 .leq 31 32,aa 34 33,aj 35 34 (cM 4),aj 36 34 (cM 0),aj 37 34 (cM 1),aj 38 34 (ixaS 1 (t 36) (t 37)),aj 39 34 (cD 38),aj 40 34 (cM 0),aj 41 34 (cM 11),aj 42 34 (ixaS 1 (t 40) (t 41)),aj 43 34 (cD 42),aj 44 34 (call (t 35) [t 39,t 43]),aj 45 34 (cB .lss (t 44) (cN 0)),aj 46 34 (un UnOp.not (t 45)),cO 47 (pick (t 34) (t 46) bc)] [(0,0),(1,0),(2,0),(3,0),(4,0),(5,0),(6,0),(7,0),(8,0),(9,0),(10,0),(11,0),(12,0),(13,2),(14,0),(15,0),(16,0)]).seq (aq 47 skip (exit 2))).seq (block 3 (ops 0 [aa 48 11,am 49 .add 48 1,aa 11 49]))).loop).seq ((block 4 (((mixS 1 [aa 50 11,aa 51 12,aK 52 .leq 50 51,aa 53 52,aj 54 53 (cM 4),aj 55 53 (cM 0),aj 56 53 (cM 1),aj 57 53 (ixaS 1 (t 55) (t 56)),aj 58 53 (cD 57),aj 59 53 (cM 0),aj 60 53 (cM 12),aj 61 53 (ixaS 1 (t 59) (t 60)),aj 62 53 (cD 61),aj 63 53 (call (t 54) [t 58,t 62]),aj 64 53 (cB .lss (t 63) (cN 0)),cO 65 (pick (t 53) (t 64) bc)] [(0,0),(1,0),(2,0),(3,0),(4,0),(5,0),(6,0),(7,0),(8,0),(9,0),(10,0),(11,0),(12,0),(13,2),(14,0),(15,0)]).seq (aq 65 skip (exit 4))).seq (block 5 (ops 0 [aa 66 12,am 67 .sub 66 1,aa 12 67]))).loop).seq ((ab [aa 68 11,aa 69 12,aK 70 .gtr 68 69] (aq 70 (exit 0) skip)).seq ((ops 1 [aa 71 0,aa 72 11,aa 73 0,aa 74 12,aa 75 0,aa 76 12,cO 77 (ixaS 1 (t 75) (t 76)),az 78 77,aa 79 0,aa 80 11,cO 81 (ixaS 1 (t 79) (t 80)),az 82 81,cO 83 (ixaS 1 (t 71) (t 72)),be 1 83 78,cO 84 (ixaS 1 (t 73) (t 74)),be 1 84 82]).seq (ab [aa 85 11,am 86 .add 85 1,aa 11 86] (ops 0 [aa 87 12,am 88 .sub 87 1,aa 12 88]))))))).loop).seq (ab [aa 89 11,aa 10 89] ret))))))
theorem KW:Is Tryz.prog 172 Kl:=mkI Tryz.func172
def Kd:F2:=(F2.mk 178 [RV.t 10,RV.t 11] (ab [cO 10 (mov (cN 0)),cO 11 (mov bc)] ((ops 1 [aa 14 0,aa 15 1,aa 16 0,aa 17 3,aa 18 0,aa 19 3,cO 20 (ixaS 1 (t 18) (t 19)),az 21 20,aa 22 0,aa 23 1,cO 24 (ixaS 1 (t 22) (t 23)),az 25 24,cO 26 (ixaS 1 (t 14) (t 15)),be 1 26 21,cO 27 (ixaS 1 (t 16) (t 17)),be 1 27 25]).seq (ab [aa 28 1,am 29 .add 28 1,aa 30 2,am 31 .sub 30 1,aa 12 29,aa 13 31] ((block 0 (((mixS 1 [aa 32 12,aa 33 13,aK 34 .leq 32 33,aa 35 34,aj 36 35 (cM 4),aj 37 35 (cM 0),aj 38 35 (cM 12),aj 39 35 (ixaS 1 (t 37) (t 38)),aj 40 35 (cD 39),aj 41 35 (cM 0),aj 42 35 (cM 1),aj 43 35 (ixaS 1 (t 41) (t 42)),aj 44 35 (cD 43),aj 45 35 (call (t 36) [t 40,t 44]),aj 46 35 (cB .lss (t 45) (cN 0)),cO 47 (pick (t 35) (t 46) bc)] [(0,0),(1,0),(2,0),(3,0),(4,0),(5,0),(6,0),(7,0),(8,0),(9,0),(10,0),(11,0),(12,0),(13,2),(14,0),(15,0)]).seq (aq 47 skip (exit 0))).seq (block 1 (ops 0 [aa 48 12,am 49 .add 48 1,aa 12 49]))).loop).seq ((block 2 (((mixS 1 [aa 50 12,aa 51 13,aK 52 .leq 50 51,aa 53 52,aj 54 53 (cM 4),aj 55 53 (cM 0),aj 56 53 (cM 13),aj 57 53 (ixaS 1 (t 55) (t 56)),aj 58 53 (cD 57),aj 59 53 (cM 0),aj 60 53 (cM 1),aj 61 53 (ixaS 1 (t 59) (t 60)),aj 62 53 (cD 61),aj 63 53 (call (t 54) [t 58,t 62]),aj 64 53 (cB .lss (t 63) (cN 0)),aj 65 53 (un UnOp.not (t 64)),cO 66 (pick (t 53) (t 65) bc)] [(0,0),(1,0),(2,0),(3,0),(4,0),(5,0),(6,0),(7,0),(8,0),(9,0),(10,0),(11,0),(12,0),(13,2),(14,0),(15,0),(16,0)]).seq (aq 66 skip (exit 2))).seq (block 3 (ops 0 [aa 67 13,am 68 .sub 67 1,aa 13 68]))).loop).seq ((ab [aa 69 12,aa 70 13,aK 71 .gtr 69 70] (aq 71 ((ops 1 [aa 72 0,aa 73 13,aa 74 0,aa 75 1,aa 76 0,aa 77 1,cO 78 (ixaS 1 (t 76) (t 77)),az 79 78,aa 80 0,aa 81 13,cO 82 (ixaS 1 (t 80) (t 81)),az 83 82,cO 84 (ixaS 1 (t 72) (t 73)),be 1 84 79,cO 85 (ixaS 1 (t 74) (t 75)),be 1 85 83]).seq (ab [aa 86 13,aa 10 86,cO 11 (mov cS)] ret)) skip)).seq ((ops 1 [aa 87 0,aa 88 12,aa 89 0,aa 90 13,aa 91 0,aa 92 13,cO 93 (ixaS 1 (t 91) (t 92)),az 94 93,aa 95 0,aa 96 12,cO 97 (ixaS 1 (t 95) (t 96)),az 98 97,cO 99 (ixaS 1 (t 87) (t 88)),be 1 99 94,cO 100 (ixaS 1 (t 89) (t 90)),be 1 100 98]).seq (ab [aa 101 12,am 102 .add 101 1,aa 12 102] (ab [aa 103 13,am 104 .sub 103 1,aa 13 104] ((block 4 (block 5 ((block 6 (((mixS 1 [aa 105 12,aa 106 13,aK 107 .leq 105 106,aa 108 107,aj 109 108 (cM 4),aj 110 108 (cM 0),aj 111 108 (cM 12),aj 112 108 (ixaS 1 (t 110) (t 111)),aj 113 108 (cD 112),aj 114 108 (cM 0),aj 115 108 (cM 1),aj 116 108 (ixaS 1 (t 114) (t 115)),aj 117 108 (cD 116),aj 118 108 (call (t 109) [t 113,t 117]),aj 119 108 (cB .lss (t 118) (cN 0)),cO 120 (pick (t 108) (t 119) bc)] [(0,0),(1,0),(2,0),(3,0),(4,0),(5,0),(6,0),(7,0),(8,0),(9,0),(10,0),(11,0),(12,0),(13,2),(14,0),(15,0)]).seq (aq 120 skip (exit 6))).seq (block 7 (ops 0 [aa 121 12,am 122 .add 121 1,aa 12 122]))).loop).seq ((block 8 (((mixS 1 [aa 123 12,aa 124 13,aK 125 .leq 123 124,aa 126 125,aj 127 126 (cM 4),aj 128 126 (cM 0),aj 129 126 (cM 13),aj 130 126 (ixaS 1 (t 128) (t 129)),aj 131 126 (cD 130),aj 132 126 (cM 0),aj 133 126 (cM 1),aj 134 126 (ixaS 1 (t 132) (t 133)),aj 135 126 (cD 134),aj 136 126 (call (t 127) [t 131,t 135]),aj 137 126 (cB .lss (t 136) (cN 0)),aj 138 126 (un UnOp.not (t 137)),cO 139 (pick (t 126) (t 138) bc)] [(0,0),(1,0),(2,0),(3,0),(4,0),(5,0),(6,0),(7,0),(8,0),(9,0),(10,0),(11,0),(12,0),(13,2),(14,0),(15,0),(16,0)]).seq (aq 139 skip (exit 8))).seq (block 9 (ops 0 [aa 140 13,am 141 .sub 140 1,aa 13 141]))).loop).seq ((ab [aa 142 12,aa 143 13,aK 144 .gtr 142 143] (aq 144 (exit 4) skip)).seq ((ops 1 [aa 145 0,aa 146 12,aa 147 0,aa 148 13,aa 149 0,aa 150 13,cO 151 (ixaS 1 (t 149) (t 150)),az 152 151,aa 153 0,aa 154 12,cO 155 (ixaS 1 (t 153) (t 154)),az 156 155,cO 157 (ixaS 1 (t 145) (t 146)),be 1 157 152,cO 158 (ixaS 1 (t 147) (t 148)),be 1 158 156]).seq (ab [aa 159 12,am 160 .add 159 1,aa 12 160] (ops 0 [aa 161 13,am 162 .sub 161 1,aa 13 162]))))))).loop).seq ((ops 1 [aa 163 0,aa 164 13,aa 165 0,aa 166 1,aa 167 0,aa 168 1,cO 169 (ixaS 1 (t 167) (t 168)),az 170 169,aa 171 0,aa 172 13,cO 173 (ixaS 1 (t 171) (t 172)),az 174 173,cO 175 (ixaS 1 (t 163) (t 164)),be 1 175 170,cO 176 (ixaS 1 (t 165) (t 166)),be 1 176 174]).seq (ab [aa 177 13,aa 10 177,cO 11 (mov bc)] ret)))))))))))))
theorem Nm:Is Tryz.prog 173 Kd:=mkI Tryz.func173
def IK:F2:=(F2.mk 25 [RV.t 2] (ab [cO 2 (mov (cN 0))] ((ab [aa 3 0,cO 4 (cB .geq (t 3) (c (AV.int IntKind.u64 (4294967296))))] (aq 4 (ab [aa 5 0,cO 6 (cB .shr (t 5) (c (AV.int IntKind.u64 (32)))),aa 0 6] (ops 0 [cO 2 (mov (cN 32))])) skip)).seq ((ab [aa 7 0,cO 8 (cB .geq (t 7) (c (AV.int IntKind.u64 (65536))))] (aq 8 (ab [aa 9 0,cO 10 (cB .shr (t 9) (c (AV.int IntKind.u64 (16)))),aa 0 10] (ops 0 [aa 11 2,am 12 .add 11 16,aa 2 12])) skip)).seq ((ab [aa 13 0,cO 14 (cB .geq (t 13) (c (AV.int IntKind.u64 (256))))] (aq 14 (ab [aa 15 0,cO 16 (cB .shr (t 15) (c (AV.int IntKind.u64 (8)))),aa 0 16] (ops 0 [aa 17 2,am 18 .add 17 8,aa 2 18])) skip)).seq (ab [aa 19 2,aa 20 0,cO 21 (conv IntKind.u8 (t 20)),cO 22 (ixStr (c (AV.str (ByteArray.mk (Array.mk [0,1,2,2,3,3,3,3,4,4,4,4,4,4,4,4,5,5,5,5,5,5,5,5,5,5,5,5,5,5,5,5,6,6,6,6,6,6,6,6,6,6,6,6,6,6,6,6,6,6,6,6,6,6,6,6,6,6,6,6,6,6,6,6,7,7,7,7,7,7,7,7,7,7,7,7,7,7,7,7,7,7,7,7,7,7,7,7,7,7,7,7,7,7,7,7,7,7,7,7,7,7,7,7,7,7,7,7,7,7,7,7,7,7,7,7,7,7,7,7,7,7,7,7,7,7,7,7,8,8,8,8,8,8,8,8,8,8,8,8,8,8,8,8,8,8,8,8,8,8,8,8,8,8,8,8,8,8,8,8,8,8,8,8,8,8,8,8,8,8,8,8,8,8,8,8,8,8,8,8,8,8,8,8,8,8,8,8,8,8,8,8,8,8,8,8,8,8,8,8,8,8,8,8,8,8,8,8,8,8,8,8,8,8,8,8,8,8,8,8,8,8,8,8,8,8,8,8,8,8,8,8,8,8,8,8,8,8,8,8,8,8,8,8,8,8,8,8,8,8,8,8,8,8,8,8])))) (t 21)),cO 23 (conv IntKind.i64 (t 22)),aK 24 .add 19 23,aa 2 24] ret))))))
theorem Im:Is Tryz.prog 175 IK:=mkI Tryz.func175
def MN:F2:=(F2.mk 13 [RV.t 4] (ab [cO 2 (box (t 0)),cO 4 (mov (c AV.esl))] ((ab [aa 6 1] (block 0 (rangeF (t 6) [7] (ops 0 [aa 5 7]) (block 1 (ops 0 [az 8 2,aa 9 5,cO 10 (bldS 1 1 [AV.esl] [(0,1,t 9)]),cO 11 (app 1 24 (t 8) (t 10)),be 1 2 11]))))).seq (ab [az 12 2,aa 4 12] ret))))
theorem Nc:Is Tryz.prog 176 MN:=mkI Tryz.func176
def Lj:F2:=(F2.mk 10 [] (ab [cO 3 (box (t 0))] (ab [cO 4 (alloc AV.nilf)] (ab [cO 5 (mkfn 178 [t 1,t 3,t 2,t 4]),be 1 4 5] (mixS 1 [az 6 4,az 7 1,cO 8 (mks 2 16 [ba,ba] (cN 0) (t 7)),cO 9 (call (t 6) [cN ((0)),t 8])] [(0,0),(1,0),(2,1),(3,2)])))))
theorem Ml:Is Tryz.prog 177 Lj:=mkI Tryz.func177
def J2:F2:=(F2.mk 37 [RV.t 8] (ab [cO 8 (mov bc)] ((ab [aa 10 1,bd 11 10,az 12 2,aK 13 .eql 11 12] (aq 13 ((mixS 1 [az 14 3,aa 15 1,aH 16 136 [t 15],cO 17 (call (t 14) [t 16]),aa 8 17] [(0,0),(1,0),(2,1),(3,2),(4,0)]).seq ret) skip)).seq ((ab [aa 18 0,aa 9 18] (block 0 ((ab [aa 19 9,az 20 4,bd 21 20,aK 22 .lss 19 21] (aq 22 skip (exit 0))).seq ((block 1 ((mixS 2 [az 25 5,aa 26 9,am 27 .add 26 1,aa 28 1,az 29 4,aa 30 9,cO 31 (ixaS 2 (t 29) (t 30)),bl 32 2 31,cO 33 (bldS 2 1 [ba,ba] [(0,2,t 32)]),cO 34 (app 2 16 (t 28) (t 33)),cO 35 (call (t 25) [t 27,t 34]),cO 36 (un UnOp.not (t 35))] [(0,0),(1,0),(2,0),(3,0),(4,0),(5,0),(6,0),(7,0),(8,1),(9,1),(10,2),(11,0)]).seq (aq 36 (ab [cO 8 (mov bc)] ret) skip))).seq (ops 0 [aa 23 9,am 24 .add 23 1,aa 9 24]))).loop)).seq (ab [cO 8 (mov cS)] ret)))))
theorem H6:Is Tryz.prog 178 J2:=mkI Tryz.func178
def JD:F2:=(F2.mk 17 [RV.t 4] (ab [cO 4 (mov bc)] (ab [aa 5 0,aH 6 165 [t 5],aa 7 6,aj 8 7 (cM 1),aj 9 7 (call (cF 165) [t 8]),aj 10 7 (un UnOp.not (t 9)),cO 11 (pick (t 7) (t 10) bc),aa 12 11,bu 13 12 (cM 0),bu 14 12 (cM 1),bu 15 12 (cB .lss (t 13) (t 14)),cO 16 (pick (t 12) cS (t 15)),aa 4 16] ret)))
theorem Ig:Is Tryz.prog 187 JD:=mkI Tryz.func187
def LW:F2:=(F2.mk 6 [RV.t 2] (ab [cO 2 (mov bc)] (ab [aa 3 0,aa 4 0,aK 5 .neq 3 4,aa 2 5] ret)))
theorem KN:Is Tryz.prog 188 LW:=mkI Tryz.func188
def LH:F2:=(F2.mk 49 [] (ab [aa 8 1,am 9 .add 8 1,aa 6 9] (block 0 ((ab [aa 10 6,aa 11 2,aK 12 .lss 10 11] (aq 12 skip (exit 0))).seq ((block 1 (ab [aa 15 6,aa 7 15] (block 2 (((mixS 1 [aa 16 7,aa 17 1,aK 18 .gtr 16 17,aa 19 18,aj 20 19 (cM 0),aj 21 19 (cM 7),aj 22 19 (ixaS 1 (t 20) (t 21)),aj 23 19 (cD 22),aj 24 19 (cM 0),aj 25 19 (cM 7),aj 26 19 (cB .sub (t 25) (cN 1)),aj 27 19 (ixaS 1 (t 24) (t 26)),aj 28 19 (cD 27),aj 29 19 (call (cF 187) [t 23,t 28]),cO 30 (pick (t 19) (t 29) bc)] [(0,0),(1,0),(2,0),(3,0),(4,0),(5,0),(6,0),(7,0),(8,0),(9,0),(10,0),(11,0),(12,0),(13,2),(14,0)]).seq (aq 30 skip (exit 2))).seq ((block 3 (ops 1 [aa 33 0,aa 34 7,aa 35 0,aa 36 7,am 37 .sub 36 1,aa 38 0,aa 39 7,am 40 .sub 39 1,cO 41 (ixaS 1 (t 38) (t 40)),az 42 41,aa 43 0,aa 44 7,cO 45 (ixaS 1 (t 43) (t 44)),az 46 45,cO 47 (ixaS 1 (t 33) (t 34)),be 1 47 42,cO 48 (ixaS 1 (t 35) (t 37)),be 1 48 46])).seq (ops 0 [aa 31 7,am 32 .sub 31 1,aa 7 32]))).loop))).seq (ops 0 [aa 13 6,am 14 .add 13 1,aa 6 14]))).loop)))
theorem Nz:Is Tryz.prog 189 LH:=mkI Tryz.func189
def Nl:F2:=(F2.mk 56 [] (ab [aa 11 1,aa 6 11] (ab [cO 7 (mov (cN 0))] (ab [aa 12 2,aa 13 1,aK 14 .sub 12 13,aa 8 14] ((ab [aa 15 8,am 16 .sub 15 1,am 17 .quo 16 2,aa 9 17] (block 0 ((ab [aa 18 9,am 19 .geq 18 0] (aq 19 skip (exit 0))).seq ((block 1 (ops 0 [aa 22 0,aa 23 9,aa 24 8,aa 25 6,aH 26 205 [t 22,t 23,t 24,t 25]])).seq (ops 0 [aa 20 9,am 21 .sub 20 1,aa 9 21]))).loop)).seq (ab [aa 27 8,am 28 .sub 27 1,aa 10 28] (block 2 ((ab [aa 29 10,am 30 .geq 29 0] (aq 30 skip (exit 2))).seq ((block 3 ((ops 1 [aa 33 0,aa 34 6,aa 35 0,aa 36 6,aa 37 10,aK 38 .add 36 37,aa 39 0,aa 40 6,aa 41 10,aK 42 .add 40 41,cO 43 (ixaS 1 (t 39) (t 42)),az 44 43,aa 45 0,aa 46 6,cO 47 (ixaS 1 (t 45) (t 46)),az 48 47,cO 49 (ixaS 1 (t 33) (t 34)),be 1 49 44,cO 50 (ixaS 1 (t 35) (t 38)),be 1 50 48]).seq (ops 0 [aa 51 0,aa 52 7,aa 53 10,aa 54 6,aH 55 205 [t 51,t 52,t 53,t 54]]))).seq (ops 0 [aa 31 10,am 32 .sub 31 1,aa 10 32]))).loop)))))))
theorem MO:Is Tryz.prog 190 Nl:=mkI Tryz.func190
def MX:F2:=(F2.mk 65 [] (ab [aa 11 2,aa 12 1,aK 13 .sub 11 12,aa 6 13] (ab [aa 14 6,am 15 .geq 14 8] (aq 15 (ab [aa 16 6,cO 17 (conv IntKind.u64 (t 16)),cO 7 (alloc (AV.int IntKind.u64 (0))),be 1 7 17] (ab [aa 18 6,aH 19 198 [t 18],aa 8 19] (ab [aa 20 1,aa 21 6,am 22 .quo 21 4,am 23 .mul 22 2,aK 24 .add 20 23,am 25 .sub 24 1,aa 9 25] (block 0 ((ab [aa 26 9,aa 27 1,aa 28 6,am 29 .quo 28 4,am 30 .mul 29 2,aK 31 .add 27 30,am 32 .add 31 1,aK 33 .leq 26 32] (aq 33 skip (exit 0))).seq ((block 1 (ab [aH 36 199 [t 7],aa 37 8,cO 38 (cB .sub (t 37) (c (AV.int IntKind.u64 (1)))),aK 39 .and 36 38,cO 40 (conv IntKind.i64 (t 39)),aa 10 40] ((ab [aa 41 10,aa 42 6,aK 43 .geq 41 42] (aq 43 (ops 0 [aa 44 10,aa 45 6,aK 46 .sub 44 45,aa 10 46]) skip)).seq (ops 1 [aa 47 0,aa 48 9,aa 49 0,aa 50 1,aa 51 10,aK 52 .add 50 51,aa 53 0,aa 54 1,aa 55 10,aK 56 .add 54 55,cO 57 (ixaS 1 (t 53) (t 56)),az 58 57,aa 59 0,aa 60 9,cO 61 (ixaS 1 (t 59) (t 60)),az 62 61,cO 63 (ixaS 1 (t 47) (t 48)),be 1 63 58,cO 64 (ixaS 1 (t 49) (t 52)),be 1 64 62])))).seq (ops 0 [aa 34 9,am 35 .add 34 1,aa 9 35]))).loop)))) skip))))
theorem LC:Is Tryz.prog 191 MX:=mkI Tryz.func191
def L3:F2:=(F2.mk 57 [RV.t 6,RV.t 7] (ab [cO 6 (mov (cN 0)),cO 7 (mov (cN 0))] (ab [aa 13 2,aa 14 1,aK 15 .sub 13 14,aa 8 15] (ab [cO 9 (alloc (ba))] (ab [aa 16 1,aa 17 8,am 18 .quo 17 4,am 19 .mul 18 1,aK 20 .add 16 19,aa 10 20] (ab [aa 21 1,aa 22 8,am 23 .quo 22 4,am 24 .mul 23 2,aK 25 .add 21 24,aa 11 25] (ab [aa 26 1,aa 27 8,am 28 .quo 27 4,am 29 .mul 28 3,aK 30 .add 26 29,aa 12 30] ((ab [aa 31 8,am 32 .geq 31 8] (aq 32 ((ab [aa 33 8,am 34 .geq 33 50] (aq 34 (ab [aa 35 0,aa 36 10,aH 37 206 [t 35,t 36,t 9],aa 10 37] (ab [aa 38 0,aa 39 11,aH 40 206 [t 38,t 39,t 9],aa 11 40] (ops 0 [aa 41 0,aa 42 12,aH 43 206 [t 41,t 42,t 9],aa 12 43]))) skip)).seq (ops 0 [aa 44 0,aa 45 10,aa 46 11,aa 47 12,aH 48 207 [t 44,t 45,t 46,t 47,t 9],aa 11 48])) skip)).seq (ab [az 49 9] (block 0 (ab [am 52 .eql 49 0,aa 51 52] (aq 51 (ab [aa 53 11,aa 6 53,cO 7 (mov (cN 1))] ret) (ab [am 55 .eql 49 12,aa 54 55] (aq 54 (ab [aa 56 11,aa 6 56,cO 7 (mov (cN 2))] ret) (ab [aa 50 11,aa 6 50,cO 7 (mov (cN 0))] ret)))))))))))))))
theorem Kk:Is Tryz.prog 192 L3:=mkI Tryz.func192
def Kf:F2:=(F2.mk 32 [] (ab [aa 8 1,aa 6 8] (ab [aa 9 2,am 10 .sub 9 1,aa 7 10] (block 0 ((ab [aa 11 6,aa 12 7,aK 13 .lss 11 12] (aq 13 skip (exit 0))).seq (block 1 ((ops 1 [aa 14 0,aa 15 6,aa 16 0,aa 17 7,aa 18 0,aa 19 7,cO 20 (ixaS 1 (t 18) (t 19)),az 21 20,aa 22 0,aa 23 6,cO 24 (ixaS 1 (t 22) (t 23)),az 25 24,cO 26 (ixaS 1 (t 14) (t 15)),be 1 26 21,cO 27 (ixaS 1 (t 16) (t 17)),be 1 27 25]).seq (ab [aa 28 6,am 29 .add 28 1,aa 6 29] (ops 0 [aa 30 7,am 31 .sub 30 1,aa 7 31]))))).loop))))
theorem LP:Is Tryz.prog 193 Kf:=mkI Tryz.func193
def M5:F2:=(F2.mk 133 [RV.t 6] (ab [cO 6 (mov bc)] (ab [aa 11 1,am 12 .add 11 1,aa 7 12] ((ab [cO 8 (mov (cN 0))] (block 0 ((ab [aa 13 8,am 14 .lss 13 5] (aq 14 skip (exit 0))).seq ((block 1 ((block 2 (((mixS 1 [aa 17 7,aa 18 2,aK 19 .lss 17 18,aa 20 19,aj 21 20 (cM 0),aj 22 20 (cM 7),aj 23 20 (ixaS 1 (t 21) (t 22)),aj 24 20 (cD 23),aj 25 20 (cM 0),aj 26 20 (cM 7),aj 27 20 (cB .sub (t 26) (cN 1)),aj 28 20 (ixaS 1 (t 25) (t 27)),aj 29 20 (cD 28),aj 30 20 (call (cF 187) [t 24,t 29]),aj 31 20 (un UnOp.not (t 30)),cO 32 (pick (t 20) (t 31) bc)] [(0,0),(1,0),(2,0),(3,0),(4,0),(5,0),(6,0),(7,0),(8,0),(9,0),(10,0),(11,0),(12,0),(13,2),(14,0),(15,0)]).seq (aq 32 skip (exit 2))).seq (block 3 (ops 0 [aa 33 7,am 34 .add 33 1,aa 7 34]))).loop).seq ((ab [aa 35 7,aa 36 2,aK 37 .eql 35 36] (aq 37 (ab [cO 6 (mov cS)] ret) skip)).seq ((ab [aa 38 2,aa 39 1,aK 40 .sub 38 39,am 41 .lss 40 50] (aq 41 (ab [cO 6 (mov bc)] ret) skip)).seq ((ops 1 [aa 42 0,aa 43 7,aa 44 0,aa 45 7,am 46 .sub 45 1,aa 47 0,aa 48 7,am 49 .sub 48 1,cO 50 (ixaS 1 (t 47) (t 49)),az 51 50,aa 52 0,aa 53 7,cO 54 (ixaS 1 (t 52) (t 53)),az 55 54,cO 56 (ixaS 1 (t 42) (t 43)),be 1 56 51,cO 57 (ixaS 1 (t 44) (t 46)),be 1 57 55]).seq ((ab [aa 58 7,aa 59 1,aK 60 .sub 58 59,am 61 .geq 60 2] (aq 61 (ab [aa 62 7,am 63 .sub 62 1,aa 9 63] (block 4 ((ab [aa 64 9,am 65 .geq 64 1] (aq 65 skip (exit 4))).seq ((block 5 (((mixS 1 [aa 68 0,aa 69 9,cO 70 (ixaS 1 (t 68) (t 69)),az 71 70,aa 72 0,aa 73 9,am 74 .sub 73 1,cO 75 (ixaS 1 (t 72) (t 74)),az 76 75,aH 77 187 [t 71,t 76],cO 78 (un UnOp.not (t 77))] [(0,0),(1,0),(2,0),(3,0),(4,0),(5,0),(6,0),(7,0),(8,0),(9,2),(10,0)]).seq (aq 78 (exit 4) skip)).seq (ops 1 [aa 79 0,aa 80 9,aa 81 0,aa 82 9,am 83 .sub 82 1,aa 84 0,aa 85 9,am 86 .sub 85 1,cO 87 (ixaS 1 (t 84) (t 86)),az 88 87,aa 89 0,aa 90 9,cO 91 (ixaS 1 (t 89) (t 90)),az 92 91,cO 93 (ixaS 1 (t 79) (t 80)),be 1 93 88,cO 94 (ixaS 1 (t 81) (t 83)),be 1 94 92]))).seq (ops 0 [aa 66 9,am 67 .sub 66 1,aa 9 67]))).loop)) skip)).seq (ab [aa 95 2,aa 96 7,aK 97 .sub 95 96,am 98 .geq 97 2] (aq 98 (ab [aa 99 7,am 100 .add 99 1,aa 10 100] (block 6 ((ab [aa 101 10,aa 102 2,aK 103 .lss 101 102] (aq 103 skip (exit 6))).seq ((block 7 (((mixS 1 [aa 106 0,aa 107 10,cO 108 (ixaS 1 (t 106) (t 107)),az 109 108,aa 110 0,aa 111 10,am 112 .sub 111 1,cO 113 (ixaS 1 (t 110) (t 112)),az 114 113,aH 115 187 [t 109,t 114],cO 116 (un UnOp.not (t 115))] [(0,0),(1,0),(2,0),(3,0),(4,0),(5,0),(6,0),(7,0),(8,0),(9,2),(10,0)]).seq (aq 116 (exit 6) skip)).seq (ops 1 [aa 117 0,aa 118 10,aa 119 0,aa 120 10,am 121 .sub 120 1,aa 122 0,aa 123 10,am 124 .sub 123 1,cO 125 (ixaS 1 (t 122) (t 124)),az 126 125,aa 127 0,aa 128 10,cO 129 (ixaS 1 (t 127) (t 128)),az 130 129,cO 131 (ixaS 1 (t 117) (t 118)),be 1 131 126,cO 132 (ixaS 1 (t 119) (t 121)),be 1 132 130]))).seq (ops 0 [aa 104 10,am 105 .add 104 1,aa 10 105]))).loop)) skip)))))))).seq (ops 0 [aa 15 8,am 16 .add 15 1,aa 8 16]))).loop)).seq (ab [cO 6 (mov bc)] ret)))))
theorem L6:Is Tryz.prog 194 M5:=mkI Tryz.func194
def LJ:F2:=(F2.mk 84 [RV.t 8] (ab [cO 8 (mov (cN 0))] ((ops 1 [aa 11 0,aa 12 1,aa 13 0,aa 14 3,aa 15 0,aa 16 3,cO 17 (ixaS 1 (t 15) (t 16)),az 18 17,aa 19 0,aa 20 1,cO 21 (ixaS 1 (t 19) (t 20)),az 22 21,cO 23 (ixaS 1 (t 11) (t 12)),be 1 23 18,cO 24 (ixaS 1 (t 13) (t 14)),be 1 24 22]).seq (ab [aa 25 1,am 26 .add 25 1,aa 27 2,am 28 .sub 27 1,aa 9 26,aa 10 28] ((block 0 (block 1 ((block 2 (((mixS 1 [aa 29 9,aa 30 10,aK 31 .leq 29 30,aa 32 31,aj 33 32 (cM 0),aj 34 32 (cM 1),aj 35 32 (ixaS 1 (t 33) (t 34)),aj 36 32 (cD 35),aj 37 32 (cM 0),aj 38 32 (cM 9),aj 39 32 (ixaS 1 (t 37) (t 38)),aj 40 32 (cD 39),aj 41 32 (call (cF 187) [t 36,t 40]),aj 42 32 (un UnOp.not (t 41)),cO 43 (pick (t 32) (t 42) bc)] [(0,0),(1,0),(2,0),(3,0),(4,0),(5,0),(6,0),(7,0),(8,0),(9,0),(10,0),(11,0),(12,2),(13,0),(14,0)]).seq (aq 43 skip (exit 2))).seq (block 3 (ops 0 [aa 44 9,am 45 .add 44 1,aa 9 45]))).loop).seq ((block 4 (((mixS 1 [aa 46 9,aa 47 10,aK 48 .leq 46 47,aa 49 48,aj 50 49 (cM 0),aj 51 49 (cM 1),aj 52 49 (ixaS 1 (t 50) (t 51)),aj 53 49 (cD 52),aj 54 49 (cM 0),aj 55 49 (cM 10),aj 56 49 (ixaS 1 (t 54) (t 55)),aj 57 49 (cD 56),aj 58 49 (call (cF 187) [t 53,t 57]),cO 59 (pick (t 49) (t 58) bc)] [(0,0),(1,0),(2,0),(3,0),(4,0),(5,0),(6,0),(7,0),(8,0),(9,0),(10,0),(11,0),(12,2),(13,0)]).seq (aq 59 skip (exit 4))).seq (block 5 (ops 0 [aa 60 10,am 61 .sub 60 1,aa 10 61]))).loop).seq ((ab [aa 62 9,aa 63 10,aK 64 .gtr 62 63] (aq 64 (exit 0) skip)).seq ((ops 1 [aa 65 0,aa 66 9,aa 67 0,aa 68 10,aa 69 0,aa 70 10,cO 71 (ixaS 1 (t 69) (t 70)),az 72 71,aa 73 0,aa 74 9,cO 75 (ixaS 1 (t 73) (t 74)),az 76 75,cO 77 (ixaS 1 (t 65) (t 66)),be 1 77 72,cO 78 (ixaS 1 (t 67) (t 68)),be 1 78 76]).seq (ab [aa 79 9,am 80 .add 79 1,aa 9 80] (ops 0 [aa 81 10,am 82 .sub 81 1,aa 10 82]))))))).loop).seq (ab [aa 83 9,aa 8 83] ret))))))
theorem Lv:Is Tryz.prog 195 LJ:=mkI Tryz.func195
def Kj:F2:=(F2.mk 168 [RV.t 8,RV.t 9] (ab [cO 8 (mov (cN 0)),cO 9 (mov bc)] ((ops 1 [aa 12 0,aa 13 1,aa 14 0,aa 15 3,aa 16 0,aa 17 3,cO 18 (ixaS 1 (t 16) (t 17)),az 19 18,aa 20 0,aa 21 1,cO 22 (ixaS 1 (t 20) (t 21)),az 23 22,cO 24 (ixaS 1 (t 12) (t 13)),be 1 24 19,cO 25 (ixaS 1 (t 14) (t 15)),be 1 25 23]).seq (ab [aa 26 1,am 27 .add 26 1,aa 28 2,am 29 .sub 28 1,aa 10 27,aa 11 29] ((block 0 (((mixS 1 [aa 30 10,aa 31 11,aK 32 .leq 30 31,aa 33 32,aj 34 33 (cM 0),aj 35 33 (cM 10),aj 36 33 (ixaS 1 (t 34) (t 35)),aj 37 33 (cD 36),aj 38 33 (cM 0),aj 39 33 (cM 1),aj 40 33 (ixaS 1 (t 38) (t 39)),aj 41 33 (cD 40),aj 42 33 (call (cF 187) [t 37,t 41]),cO 43 (pick (t 33) (t 42) bc)] [(0,0),(1,0),(2,0),(3,0),(4,0),(5,0),(6,0),(7,0),(8,0),(9,0),(10,0),(11,0),(12,2),(13,0)]).seq (aq 43 skip (exit 0))).seq (block 1 (ops 0 [aa 44 10,am 45 .add 44 1,aa 10 45]))).loop).seq ((block 2 (((mixS 1 [aa 46 10,aa 47 11,aK 48 .leq 46 47,aa 49 48,aj 50 49 (cM 0),aj 51 49 (cM 11),aj 52 49 (ixaS 1 (t 50) (t 51)),aj 53 49 (cD 52),aj 54 49 (cM 0),aj 55 49 (cM 1),aj 56 49 (ixaS 1 (t 54) (t 55)),aj 57 49 (cD 56),aj 58 49 (call (cF 187) [t 53,t 57]),aj 59 49 (un UnOp.not (t 58)),cO 60 (pick (t 49) (t 59) bc)] [(0,0),(1,0),(2,0),(3,0),(4,0),(5,0),(6,0),(7,0),(8,0),(9,0),(10,0),(11,0),(12,2),(13,0),(14,0)]).seq (aq 60 skip (exit 2))).seq (block 3 (ops 0 [aa 61 11,am 62 .sub 61 1,aa 11 62]))).loop).seq ((ab [aa 63 10,aa 64 11,aK 65 .gtr 63 64] (aq 65 ((ops 1 [aa 66 0,aa 67 11,aa 68 0,aa 69 1,aa 70 0,aa 71 1,cO 72 (ixaS 1 (t 70) (t 71)),az 73 72,aa 74 0,aa 75 11,cO 76 (ixaS 1 (t 74) (t 75)),az 77 76,cO 78 (ixaS 1 (t 66) (t 67)),be 1 78 73,cO 79 (ixaS 1 (t 68) (t 69)),be 1 79 77]).seq (ab [aa 80 11,aa 8 80,cO 9 (mov cS)] ret)) skip)).seq ((ops 1 [aa 81 0,aa 82 10,aa 83 0,aa 84 11,aa 85 0,aa 86 11,cO 87 (ixaS 1 (t 85) (t 86)),az 88 87,aa 89 0,aa 90 10,cO 91 (ixaS 1 (t 89) (t 90)),az 92 91,cO 93 (ixaS 1 (t 81) (t 82)),be 1 93 88,cO 94 (ixaS 1 (t 83) (t 84)),be 1 94 92]).seq (ab [aa 95 10,am 96 .add 95 1,aa 10 96] (ab [aa 97 11,am 98 .sub 97 1,aa 11 98] ((block 4 (block 5 ((block 6 (((mixS 1 [aa 99 10,aa 100 11,aK 101 .leq 99 100,aa 102 101,aj 103 102 (cM 0),aj 104 102 (cM 10),aj 105 102 (ixaS 1 (t 103) (t 104)),aj 106 102 (cD 105),aj 107 102 (cM 0),aj 108 102 (cM 1),aj 109 102 (ixaS 1 (t 107) (t 108)),aj 110 102 (cD 109),aj 111 102 (call (cF 187) [t 106,t 110]),cO 112 (pick (t 102) (t 111) bc)] [(0,0),(1,0),(2,0),(3,0),(4,0),(5,0),(6,0),(7,0),(8,0),(9,0),(10,0),(11,0),(12,2),(13,0)]).seq (aq 112 skip (exit 6))).seq (block 7 (ops 0 [aa 113 10,am 114 .add 113 1,aa 10 114]))).loop).seq ((block 8 (((mixS 1 [aa 115 10,aa 116 11,aK 117 .leq 115 116,aa 118 117,aj 119 118 (cM 0),aj 120 118 (cM 11),aj 121 118 (ixaS 1 (t 119) (t 120)),aj 122 118 (cD 121),aj 123 118 (cM 0),aj 124 118 (cM 1),aj 125 118 (ixaS 1 (t 123) (t 124)),aj 126 118 (cD 125),aj 127 118 (call (cF 187) [t 122,t 126]),aj 128 118 (un UnOp.not (t 127)),cO 129 (pick (t 118) (t 128) bc)] [(0,0),(1,0),(2,0),(3,0),(4,0),(5,0),(6,0),(7,0),(8,0),(9,0),(10,0),(11,0),(12,2),(13,0),(14,0)]).seq (aq 129 skip (exit 8))).seq (block 9 (ops 0 [aa 130 11,am 131 .sub 130 1,aa 11 131]))).loop).seq ((ab [aa 132 10,aa 133 11,aK 134 .gtr 132 133] (aq 134 (exit 4) skip)).seq ((ops 1 [aa 135 0,aa 136 10,aa 137 0,aa 138 11,aa 139 0,aa 140 11,cO 141 (ixaS 1 (t 139) (t 140)),az 142 141,aa 143 0,aa 144 10,cO 145 (ixaS 1 (t 143) (t 144)),az 146 145,cO 147 (ixaS 1 (t 135) (t 136)),be 1 147 142,cO 148 (ixaS 1 (t 137) (t 138)),be 1 148 146]).seq (ab [aa 149 10,am 150 .add 149 1,aa 10 150] (ops 0 [aa 151 11,am 152 .sub 151 1,aa 11 152]))))))).loop).seq ((ops 1 [aa 153 0,aa 154 11,aa 155 0,aa 156 1,aa 157 0,aa 158 1,cO 159 (ixaS 1 (t 157) (t 158)),az 160 159,aa 161 0,aa 162 11,cO 163 (ixaS 1 (t 161) (t 162)),az 164 163,cO 165 (ixaS 1 (t 153) (t 154)),be 1 165 160,cO 166 (ixaS 1 (t 155) (t 156)),be 1 166 164]).seq (ab [aa 167 11,aa 8 167,cO 9 (mov bc)] ret)))))))))))))
theorem Nw:Is Tryz.prog 196 Kj:=mkI Tryz.func196
def Kt:F2:=(F2.mk 82 [] (ab [aa 12 1,aa 10 12] (block 0 (block 1 (ab [aa 13 10,cO 14 (cB .mul (cN 2) (t 13)),am 15 .add 14 1,aa 11 15] ((ab [aa 16 11,aa 17 2,aK 18 .geq 16 17] (aq 18 (exit 0) skip)).seq (((mixS 1 [aa 19 11,am 20 .add 19 1,aa 21 2,aK 22 .lss 20 21,aa 23 22,aj 24 23 (cM 4),aj 25 23 (cM 0),aj 26 23 (cM 3),aj 27 23 (cM 11),aj 28 23 (cB .add (t 26) (t 27)),aj 29 23 (ixaS 1 (t 25) (t 28)),aj 30 23 (cD 29),aj 31 23 (cM 0),aj 32 23 (cM 3),aj 33 23 (cM 11),aj 34 23 (cB .add (t 32) (t 33)),aj 35 23 (cB .add (t 34) (cN 1)),aj 36 23 (ixaS 1 (t 31) (t 35)),aj 37 23 (cD 36),aj 38 23 (call (t 24) [t 30,t 37]),aj 39 23 (cB .lss (t 38) (cN 0)),cO 40 (pick (t 23) (t 39) bc)] [(0,0),(1,0),(2,0),(3,0),(4,0),(5,0),(6,0),(7,0),(8,0),(9,0),(10,0),(11,0),(12,0),(13,0),(14,0),(15,0),(16,0),(17,0),(18,0),(19,2),(20,0),(21,0)]).seq (aq 40 (ops 0 [aa 41 11,am 42 .add 41 1,aa 11 42]) skip)).seq (((mixS 1 [aa 43 4,aa 44 0,aa 45 3,aa 46 10,aK 47 .add 45 46,cO 48 (ixaS 1 (t 44) (t 47)),az 49 48,aa 50 0,aa 51 3,aa 52 11,aK 53 .add 51 52,cO 54 (ixaS 1 (t 50) (t 53)),az 55 54,cO 56 (call (t 43) [t 49,t 55]),am 57 .lss 56 0,cO 58 (un UnOp.not (t 57))] [(0,0),(1,0),(2,0),(3,0),(4,0),(5,0),(6,0),(7,0),(8,0),(9,0),(10,0),(11,0),(12,0),(13,2),(14,0),(15,0)]).seq (aq 58 ret skip)).seq ((ops 1 [aa 59 0,aa 60 3,aa 61 10,aK 62 .add 60 61,aa 63 0,aa 64 3,aa 65 11,aK 66 .add 64 65,aa 67 0,aa 68 3,aa 69 11,aK 70 .add 68 69,cO 71 (ixaS 1 (t 67) (t 70)),az 72 71,aa 73 0,aa 74 3,aa 75 10,aK 76 .add 74 75,cO 77 (ixaS 1 (t 73) (t 76)),az 78 77,cO 79 (ixaS 1 (t 59) (t 62)),be 1 79 72,cO 80 (ixaS 1 (t 63) (t 66)),be 1 80 78]).seq (ops 0 [aa 81 11,aa 10 81]))))))).loop)))
theorem KT:Is Tryz.prog 197 Kt:=mkI Tryz.func197
def LL:F2:=(F2.mk 7 [RV.t 2] (ab [cO 2 (mov (c (AV.int IntKind.u64 (0))))] (ab [aa 3 0,cO 4 (conv IntKind.u64 (t 3)),aH 5 156 [t 4],cO 6 (cB .shl (c (AV.int IntKind.u64 (1))) (t 5)),aa 2 6] ret)))
theorem Nh:Is Tryz.prog 198 LL:=mkI Tryz.func198
def LB:F2:=(F2.mk 33 [RV.t 2] (ab [cO 2 (mov (c (AV.int IntKind.u64 (0))))] ((ops 1 [aa 3 0,cO 4 (nilck (t 3)),az 5 4,aa 6 0,cO 7 (nilck (t 6)),az 8 7,cO 9 (cB .shl (t 8) (c (AV.int IntKind.u64 (13)))),aK 10 .xor 5 9,cO 11 (nilck (t 3)),be 1 11 10]).seq ((ops 1 [aa 12 0,cO 13 (nilck (t 12)),az 14 13,aa 15 0,cO 16 (nilck (t 15)),az 17 16,cO 18 (cB .shr (t 17) (c (AV.int IntKind.u64 (7)))),aK 19 .xor 14 18,cO 20 (nilck (t 12)),be 1 20 19]).seq ((ops 1 [aa 21 0,cO 22 (nilck (t 21)),az 23 22,aa 24 0,cO 25 (nilck (t 24)),az 26 25,cO 27 (cB .shl (t 26) (c (AV.int IntKind.u64 (17)))),aK 28 .xor 23 27,cO 29 (nilck (t 21)),be 1 29 28]).seq (ab [aa 30 0,cO 31 (nilck (t 30)),az 32 31,aa 2 32] ret))))))
theorem Lf:Is Tryz.prog 199 LB:=mkI Tryz.func199
def KC:F2:=(F2.mk 18 [RV.t 8] (ab [cO 8 (mov (cN 0))] (ab [aa 9 0,aa 10 1,am 11 .sub 10 1,aa 12 1,aa 13 1,am 14 .add 13 1,aa 15 2,aa 16 3,aH 17 201 [t 9,t 11,t 12,t 14,t 15,t 16],aa 8 17] ret)))
theorem Kq:Is Tryz.prog 200 KC:=mkI Tryz.func200
def K7:F2:=(F2.mk 41 [RV.t 12] (ab [cO 12 (mov (cN 0))] (ab [aa 14 0,aa 15 1,aa 16 2,aa 17 4,aa 18 5,aH 19 208 [t 14,t 15,t 16,t 17,t 18],aa 13 19,a5 20 13 0,a5 21 13 1,aa 1 20,aa 2 21] (ab [aa 23 0,aa 24 2,aa 25 3,aa 26 4,aa 27 5,aH 28 208 [t 23,t 24,t 25,t 26,t 27],aa 22 28,a5 29 22 0,a5 30 22 1,aa 2 29,aa 3 30] (ab [aa 32 0,aa 33 1,aa 34 2,aa 35 4,aa 36 5,aH 37 208 [t 32,t 33,t 34,t 35,t 36],aa 31 37,a5 38 31 0,a5 39 31 1,aa 1 38,aa 2 39] (ab [aa 40 2,aa 12 40] ret))))))
theorem Mp:Is Tryz.prog 201 K7:=mkI Tryz.func201
def Mr:F2:=(F2.mk 76 [] (ab [aa 10 1,aa 8 10] (block 0 (block 1 (ab [aa 11 8,cO 12 (cB .mul (cN 2) (t 11)),am 13 .add 12 1,aa 9 13] ((ab [aa 14 9,aa 15 2,aK 16 .geq 14 15] (aq 16 (exit 0) skip)).seq (((mixS 1 [aa 17 9,am 18 .add 17 1,aa 19 2,aK 20 .lss 18 19,aa 21 20,aj 22 21 (cM 0),aj 23 21 (cM 3),aj 24 21 (cM 9),aj 25 21 (cB .add (t 23) (t 24)),aj 26 21 (ixaS 1 (t 22) (t 25)),aj 27 21 (cD 26),aj 28 21 (cM 0),aj 29 21 (cM 3),aj 30 21 (cM 9),aj 31 21 (cB .add (t 29) (t 30)),aj 32 21 (cB .add (t 31) (cN 1)),aj 33 21 (ixaS 1 (t 28) (t 32)),aj 34 21 (cD 33),aj 35 21 (call (cF 187) [t 27,t 34]),cO 36 (pick (t 21) (t 35) bc)] [(0,0),(1,0),(2,0),(3,0),(4,0),(5,0),(6,0),(7,0),(8,0),(9,0),(10,0),(11,0),(12,0),(13,0),(14,0),(15,0),(16,0),(17,0),(18,2),(19,0)]).seq (aq 36 (ops 0 [aa 37 9,am 38 .add 37 1,aa 9 38]) skip)).seq (((mixS 1 [aa 39 0,aa 40 3,aa 41 8,aK 42 .add 40 41,cO 43 (ixaS 1 (t 39) (t 42)),az 44 43,aa 45 0,aa 46 3,aa 47 9,aK 48 .add 46 47,cO 49 (ixaS 1 (t 45) (t 48)),az 50 49,aH 51 187 [t 44,t 50],cO 52 (un UnOp.not (t 51))] [(0,0),(1,0),(2,0),(3,0),(4,0),(5,0),(6,0),(7,0),(8,0),(9,0),(10,0),(11,0),(12,2),(13,0)]).seq (aq 52 ret skip)).seq ((ops 1 [aa 53 0,aa 54 3,aa 55 8,aK 56 .add 54 55,aa 57 0,aa 58 3,aa 59 9,aK 60 .add 58 59,aa 61 0,aa 62 3,aa 63 9,aK 64 .add 62 63,cO 65 (ixaS 1 (t 61) (t 64)),az 66 65,aa 67 0,aa 68 3,aa 69 8,aK 70 .add 68 69,cO 71 (ixaS 1 (t 67) (t 70)),az 72 71,cO 73 (ixaS 1 (t 53) (t 56)),be 1 73 66,cO 74 (ixaS 1 (t 57) (t 60)),be 1 74 72]).seq (ops 0 [aa 75 9,aa 8 75]))))))).loop)))
theorem L0:Is Tryz.prog 205 Mr:=mkI Tryz.func205
def L5:F2:=(F2.mk 15 [RV.t 6] (ab [cO 6 (mov (cN 0))] (ab [aa 7 0,aa 8 1,am 9 .sub 8 1,aa 10 1,aa 11 1,am 12 .add 11 1,aa 13 2,aH 14 207 [t 7,t 9,t 10,t 12,t 13],aa 6 14] ret)))
theorem Lr:Is Tryz.prog 206 L5:=mkI Tryz.func206
def M4:F2:=(F2.mk 36 [RV.t 10] (ab [cO 10 (mov (cN 0))] (ab [aa 12 0,aa 13 1,aa 14 2,aa 15 4,aH 16 210 [t 12,t 13,t 14,t 15],aa 11 16,a5 17 11 0,a5 18 11 1,aa 1 17,aa 2 18] (ab [aa 20 0,aa 21 2,aa 22 3,aa 23 4,aH 24 210 [t 20,t 21,t 22,t 23],aa 19 24,a5 25 19 0,a5 26 19 1,aa 2 25,aa 3 26] (ab [aa 28 0,aa 29 1,aa 30 2,aa 31 4,aH 32 210 [t 28,t 29,t 30,t 31],aa 27 32,a5 33 27 0,a5 34 27 1,aa 1 33,aa 2 34] (ab [aa 35 2,aa 10 35] ret))))))
theorem Kr:Is Tryz.prog 207 M4:=mkI Tryz.func207
def Lc:F2:=(F2.mk 32 [RV.t 10,RV.t 11] (ab [cO 10 (mov (cN 0)),cO 11 (mov (cN 0))] (((mixS 1 [aa 12 4,aa 13 0,aa 14 2,cO 15 (ixaS 1 (t 13) (t 14)),az 16 15,aa 17 0,aa 18 1,cO 19 (ixaS 1 (t 17) (t 18)),az 20 19,cO 21 (call (t 12) [t 16,t 20]),am 22 .lss 21 0] [(0,0),(1,0),(2,0),(3,0),(4,0),(5,0),(6,0),(7,0),(8,0),(9,2),(10,0)]).seq (aq 22 (ab [aa 23 3,cO 24 (nilck (t 23)),az 25 24,am 26 .add 25 1,cO 27 (nilck (t 23)),be 1 27 26] (ab [aa 28 2,aa 29 1,aa 10 28,aa 11 29] ret)) skip)).seq (ab [aa 30 1,aa 31 2,aa 10 30,aa 11 31] ret))))
theorem KG:Is Tryz.prog 208 Lc:=mkI Tryz.func208
def KI:F2:=(F2.mk 28 [RV.t 8,RV.t 9] (ab [cO 8 (mov (cN 0)),cO 9 (mov (cN 0))] (((mixS 1 [aa 10 0,aa 11 2,cO 12 (ixaS 1 (t 10) (t 11)),az 13 12,aa 14 0,aa 15 1,cO 16 (ixaS 1 (t 14) (t 15)),az 17 16,aH 18 187 [t 13,t 17]] [(0,0),(1,0),(2,0),(3,0),(4,0),(5,0),(6,0),(7,0),(8,2)]).seq (aq 18 (ab [aa 19 3,cO 20 (nilck (t 19)),az 21 20,am 22 .add 21 1,cO 23 (nilck (t 19)),be 1 23 22] (ab [aa 24 2,aa 25 1,aa 8 24,aa 9 25] ret)) skip)).seq (ab [aa 26 1,aa 27 2,aa 8 26,aa 9 27] ret))))
theorem Ld:Is Tryz.prog 210 KI:=mkI Tryz.func210
end Go.Proofs.YtekdaafnjdlenaaGreat
namespace Go.Proofs.YtekdaafnjdlenaaGreat
open Go Go.Abs
open Nat (reduceEqDiff reduceAdd reduceLeDiff)
def swp{α:Type}[Inhabited α](L:List α)(i j:Nat):List α:=(L.set i (L.getD j default)).set j (L.getD i default)
structure PermR{α:Type}[Inhabited α](a b:Nat)(L L':List α):Prop where
 len:L'.length=L.length
 out:∀i,i<a\/b<=i->L'.getD i default=L.getD i default
 perm:L'.Perm L
section
variable{α:Type}[Inhabited α]{a b a' b':Nat}{L L' L'':List α}
theorem dU{l:List α}{i j:Nat}{x:α}(h:i<l.length):(l.set i x).getD j default=if i=j then x else l.getD j default:=by
 simp only[List.getD,List.getElem?_set];split
 ·rename_i e;subst e;simp[h]
 ·rfl
theorem BS(i j:Nat):(swp L i j).length=L.length:=by simp[swp]
theorem er{i j:Nat}(hi:i<L.length)(hj:j<L.length)(k:Nat):(swp L i j).getD k default=if k=j then L.getD i default else if k=i then L.getD j default else L.getD k default:=by
 unfold swp;rw[dU (by simpa using hj),dU hi];by_cases e:k=j
 ·subst e;simp
 ·rw[if_neg (λh=>e h.symm),if_neg e];by_cases e2:k=i
  ·subst e2;simp
  ·rw[if_neg (λh=>e2 h.symm),if_neg e2]
theorem Fg{i j:Nat}(hi:i<L.length)(hj:j<L.length):(swp L i j).Perm L:=by
 unfold swp;have e1:L.getD i default=L[i]:=by simp[List.getD,hi]
 have e2:L.getD j default=L[j]:=by simp[List.getD,hj]
 rw[e1,e2];exact List.set_set_perm hi hj
theorem PermR.refl:PermR a b L L:=⟨rfl,λ_ _=>rfl,List.Perm.refl _⟩
theorem PermR.trans(h:PermR a b L L')(k:PermR a b L' L''):PermR a b L L'':=⟨k.len.trans h.len,λi hi=>(k.out i hi).trans (h.out i hi),k.perm.trans h.perm⟩
theorem PermR.mono(h:PermR a' b' L L')(h1:a<=a')(h2:b'<=b):PermR a b L L':=⟨h.len,λi hi=>h.out i (by omega),h.perm⟩
theorem PermR.swap{i j:Nat}(h1:a<=i/\i<b)(h2:a<=j/\j<b)(hb:b<=L.length):PermR a b L (swp L i j):=
 ⟨BS i j,λk hk=>by rw[er (by omega) (by omega),if_neg (by omega),if_neg (by omega)],Fg (by omega) (by omega)⟩
theorem yx{l m:List α}(hl:l.length=m.length)(h:∀i,i<l.length->l.getD i default=m.getD i default):l=m:=
 List.ext_getElem hl (fun i h1 h2=>by
  have:=h i h1;simpa[List.getD,h1,h2] using this)
theorem PermR.mid(h:PermR a b L L')(hab:a<=b)(hb:b<=L.length):((L'.drop a).take (b-a)).Perm ((L.drop a).take (b-a)):=by
 have e1:∀M:List α,b<=M.length->M=M.take a++((M.drop a).take (b-a)++M.drop b):=λM hM=>by
  have:M.drop b=(M.drop a).drop (b-a):=by rw[List.drop_drop];congr 1;omega
  rw[this,Ep,Ep]
 have t:L'.take a=L.take a:=yx (by simp [h.len]) (fun i hi=>by
  have hi':i<a:=by simp at hi;omega
  rw[qe hi',qe hi'];exact h.out i (.inl hi'))
 have d:L'.drop b=L.drop b:=yx (by simp [h.len]) (fun i hi=>by
  have e:∀M:List α,(M.drop b).getD i default=M.getD (b+i) default:=λM=>by simp[List.getD,nr]
  rw[e,e];exact h.out (b+i) (.inr (by omega)))
 have p:=h.perm;rw[e1 L' (by rw[h.len];exact hb),e1 L hb,t,d] at p;exact(List.perm_append_right_iff _).1 ((List.perm_append_left_iff _).1 p)
theorem Bj{M:List α}{x:α}(hab:a<=b)(hb:b<=M.length):x∈(M.drop a).take (b-a)↔ ∃i,a<=i/\i<b/\M.getD i default=x:=by
 constructor
 ·intro h;obtain⟨j,hj,e⟩:=jW h;have hj':j<b-a:=by simp at hj;omega
  refine⟨a+j,by omega,by omega,?_⟩;rw[<-e];simp[List.getD,List.getElem_take,List.getElem_drop,show a+j<M.length by omega]
 ·rintro⟨i,h1,h2,rfl⟩;rw[List.mem_iff_getElem?];refine⟨i-a,?_⟩;rw[iT,if_pos (by omega),nr,show a+(i-a)=i by omega];simp[List.getD,show i<M.length by omega]
theorem PermR.all{p:α->Prop}(h:PermR a b L L')(hab:a<=b)(hb:b<=L.length)(hp:∀i,a<=i->i<b->p (L.getD i default)):∀i,a<=i->i<b->p (L'.getD i default):=by
 intro i h1 h2;have hm:L'.getD i default∈(L'.drop a).take (b-a):=(Bj hab (by rw[h.len];exact hb)).2 ⟨i,h1,h2,rfl⟩;obtain⟨j,k1,k2,e⟩:=(Bj hab hb).1 ((h.mid hab hb).mem_iff.1 hm);rw[<-e];exact hp j k1 k2
end
structure Ord{α:Type}(K:α->α->Int):Prop where
 irr:∀x,¬K x x<0
 asym:∀x y,K x y<0->¬K y x<0
 negtr:∀x y z,¬K y x<0->¬K z y<0->¬K z x<0
def bh{α:Type}[Inhabited α](K:α->α->Int)(a b:Nat)(L:List α):Prop:=∀i j,a<=i->i<j->j<b->¬K (L.getD j default) (L.getD i default)<0
theorem bh.one{α:Type}[Inhabited α]{K:α->α->Int}{a b:Nat}{L:List α}(h:b<=a+1):bh K a b L:=λi j h1 h2 h3=>by omega
structure LinK{α:Type}(K:α->α->Int):Prop where
 ord:Ord K
 eq:∀x y,¬K x y<0->¬K y x<0->x=y
def cl{α:Type}(K:α->α->Int)(l:List α):Prop:=l.Pairwise λx y=>K x y<0
def kY{α:Type}(K:α->α->Int):List α->α->List α
 |[],v=>[v]
 |a::l,v=>if K v a<0 then v::a::l else a::kY K l v
section
variable{α:Type}[DecidableEq α]{K:α->α->Int}
def lZ(K:α->α->Int)(acc:List α)(v:α):List α:=if v∈acc then acc else kY K acc v
def p9(K:α->α->Int)(acc l:List α):List α:=l.foldl (lZ K) acc
def md(K:α->α->Int)(l:List α):List α:=p9 K [] l
omit [DecidableEq α] in
theorem cl.nil:cl K ([]:List α):=pp
omit [DecidableEq α] in
theorem cl.nodup{l:List α}(hK:LinK K)(h:cl K l):l.Nodup:=yO (λ{a b} h e=>by subst e;exact hK.ord.irr a h) h
omit [DecidableEq α] in
theorem LinK.tri(hK:LinK K)(x y:α):K x y<0\/x=y\/K y x<0:=by
 by_cases h1:K x y<0
 ·exact .inl h1
 ·by_cases h2:K y x<0
  ·exact .inr (.inr h2)
  ·exact .inr (.inl (hK.eq x y h1 h2))
omit [DecidableEq α] in
theorem LinK.trans(hK:LinK K){x y z:α}(h1:K x y<0)(h2:K y z<0):K x z<0:=by
 refine Decidable.byContradiction λhn=>?_;exact hK.ord.negtr z x y hn (hK.ord.asym _ _ h1) h2
omit [DecidableEq α] in
theorem nj{a b:List α}(hK:LinK K)(ha:cl K a)(hb:cl K b)(h:∀x,x∈a↔x∈b):a=b:=by
 classical
 have hp:a.Perm b:=(List.perm_ext_iff_of_nodup (ha.nodup hK) (hb.nodup hK)).2 h;exact List.Perm.eq_of_pairwise (λx y _ _ h1 h2=>absurd h2 (hK.ord.asym _ _ h1)) ha hb hp
omit [DecidableEq α] in
theorem zK{l:List α}{v x:α}:x∈kY K l v↔x∈l\/x=v:=by
 induction l with
 |nil=>simp[kY]
 |cons a l ih=>
  unfold kY;split
  ·simp only[c9];exact⟨λh=>h.elim .inr .inl,λh=>h.elim .inr .inl⟩
  ·rw[c9,ih,c9,or_assoc]
omit [DecidableEq α] in
theorem D5{l:List α}{v:α}(hK:LinK K)(h:cl K l)(hv:v∉l):cl K (kY K l v):=by
 induction l with
 |nil=>exact List.pairwise_singleton _ _
 |cons a l ih=>
  unfold cl at h;rw[ie] at h;unfold kY;split
  ·rename_i hlt
   exact ie.2 ⟨fun y hy=>by
    rcases c9.1 hy with rfl|hy
    ·exact hlt
    ·exact hK.trans hlt (h.1 y hy),ie.2 h⟩
  ·rename_i hlt;refine ie.2 ⟨λy hy=>?_,ih h.2 λhm=>hv (eD _ hm)⟩;rcases zK.1 hy with hy|rfl
   ·exact h.1 y hy
   ·rcases hK.tri y a with k|k|k
    ·exact absurd k hlt
    ·exact absurd (k▸dq) hv
    ·exact k
omit [DecidableEq α] in
theorem yR{l:List α}{v:α}:(kY K l v).length=l.length+1:=by
 induction l with
 |nil=>rfl
 |cons a l ih=>unfold kY;split<;>simp[ih]
theorem FK{acc:List α}{v x:α}:x∈lZ K acc v↔x∈acc\/x=v:=by
 unfold lZ;split
 ·rename_i h;exact⟨.inl,λh2=>h2.elim id (λe=>e▸h)⟩
 ·exact zK
theorem F7{acc:List α}{v:α}(hK:LinK K)(h:cl K acc):cl K (lZ K acc v):=by
 unfold lZ;split
 ·exact h
 ·rename_i hn;exact D5 hK h hn
theorem DY{acc:List α}{v:α}:(lZ K acc v).length<=acc.length+1:=by
 unfold lZ;split
 ·omega
 ·rw[yR];exact aN _
theorem y9:∀{l acc:List α}{x:α},x∈p9 K acc l↔x∈acc\/x∈l
 |[],acc,x=>by simp[p9]
 |v::l,acc,x=>by
  rw[show p9 K acc (v::l)=p9 K (lZ K acc v) l from rfl,y9,FK,c9,or_assoc]
theorem zm(hK:LinK K):∀{l acc:List α},cl K acc->cl K (p9 K acc l)
 |[],_,h=>h
 |v::l,acc,h=>zm hK (l:=l) (F7 hK (v:=v) h)
theorem yU:∀{l acc:List α},(p9 K acc l).length<=acc.length+l.length
 |[],acc=>by simp[p9]
 |v::l,acc=>by
  rw[show p9 K acc (v::l)=p9 K (lZ K acc v) l from rfl];have:=yU (l:=l) (acc:=lZ K acc v);have:=DY (K:=K) (acc:=acc) (v:=v);rw[bC];omega
theorem DP{acc l:List α}{v:α}:p9 K acc (l++[v])=lZ K (p9 K acc l) v:=by
 unfold p9;rw[List.foldl_append];rfl
theorem si(hK:LinK K)(l:List α):cl K (md K l):=zm hK pp
theorem mz{l:List α}{x:α}:x∈md K l↔x∈l:=by
 unfold md;rw[y9];simp
theorem o9{l:List α}:(md K l).length<=l.length:=by
 have:=yU (K:=K) (l:=l) (acc:=[]);unfold md;rw[dp] at this;omega
theorem GR(hK:LinK K){l:List α}(h:cl K l):md K l=l:=nj hK (si hK l) h λ_=>mz
theorem CI{l:List α}{v:α}:md K (l++[v])=lZ K (md K l) v:=DP
theorem yF{l:List α}:md K l=[]↔l=[]:=by
 constructor
 ·intro h;cases l with
  |nil=>rfl
  |cons a l=>
   have:a∈md K (a::l):=mz.2 (dq ..);rw[h] at this;exact absurd this (by simp)
 ·rintro rfl;rfl
end
section
variable{α:Type}[Inhabited α][DecidableEq α]
end
abbrev Shn{α:Type}(l:List α):Prop:=l.length<=17592186044416
structure Vtx where
 color:Int
 label:Int
 deriving Inhabited,DecidableEq
abbrev Spx:=List Vtx
def DV(v:Vtx):List AV:=[.int .i64 v.color,.int .i64 v.label]
abbrev dF(v:Vtx):AV:=.agg [.int .i64 v.color,.int .i64 v.label]
def aD(l:Spx):AV:=iS 2 dF l
def ao(l:List Spx):AV:=iS 1 aD l
def cX(l:Spx):List AV:=l.flatMap DV
theorem FE(v:Vtx):Dat (dF v):=Dat.agg (DatL.cons .int (DatL.cons .int DatL.nil))
theorem dt (l:Spx):Dat (aD l):=rW (fun x _ c hc=>by
 simp only[dF,AV.cells,c9,List.not_mem_nil,or_false] at hc;rcases hc with rfl|rfl<;>exact .int)
theorem bK (l:List Spx):Dat (ao l):=rW (fun x _ c hc=>by
 simp only[aD,iS,AV.cells,c6] at hc;subst hc;exact dt x)
instance datI_encX{v:Vtx}:DatI (dF v):=⟨FE v⟩
instance datI_encXs{l:Spx}:DatI (aD l):=⟨dt l⟩
instance datI_encXss{l:List Spx}:DatI (ao l):=⟨bK l⟩
theorem aQ{l:Spx}:(aD l).cells=[aD l]:=rfl
theorem bb{l:Spx}:(aD l).one=true:=rfl
theorem ah{l:List Spx}:(ao l).cells=[ao l]:=rfl
theorem ai{l:List Spx}:(ao l).one=true:=rfl
theorem A2{l:Spx}{k:IntKind}{n:Int}:eG 2 (aD l) (.int k n)=if 0<=n/\n<l.length then some (.iptr [.int .i64 (l.getD n.toNat default).color,.int .i64 (l.getD n.toNat default).label] 0) else none:=mO
theorem au{l:Spx}:dy (aD l)=some (.int .i64 l.length):=lg
theorem ra{l:List Spx}{k:IntKind}{n:Int}:eG 1 (ao l) (.int k n)=if 0<=n/\n<l.length then some (.iptr [aD (l.getD n.toNat default)] 0) else none:=mO
theorem af{l:List Spx}:dy (ao l)=some (.int .i64 l.length):=lg
theorem ix2{l:Spx}{k:Nat}(h:k<l.length):eG 2 (aD l) (.int .i64 (k:Int))=some (.iptr [.int .i64 (l.getD k default).color,.int .i64 (l.getD k default).label] 0):=by
 rw[A2,if_pos ⟨by omega,by omega⟩,bN]
theorem eh{l:List Spx}{k:Nat}(h:k<l.length):eG 1 (ao l) (.int .i64 (k:Int))=some (.iptr [aD (l.getD k default)] 0):=by
 rw[ra,if_pos ⟨by omega,by omega⟩,bN]
theorem gL(l:Spx):(cX l).length=l.length*2:=by
 induction l with
 |nil=>rfl
 |cons a l ih=>rw[cX,uq,cw,bC,show(l.flatMap DV).length=l.length*2 from ih];show 2+_=_;omega
theorem mP(l m:Spx):cX (l++m)=cX l++cX m:=List.flatMap_append
theorem I0(v:Vtx):cX [v]=[.int .i64 v.color,.int .i64 v.label]:=rfl
theorem A5(l:Spx):(l.map dF).flatMap AV.cells=cX l:=by
 induction l with
 |nil=>rfl
 |cons a l ih=>rw[fY,uq,ih];rfl
theorem Gj{H:Hp}{s:AV}{l:Spx}(h:Row H 2 s (cX l)):Snap H s (aD l):=by
 refine Row.snap (elems:=l.map dF) (by rw[A5];exact h) (λy hy=>?_) (by omega) (λy hy c hx=>?_)
 ·obtain⟨n,_,rfl⟩:=bJ.1 hy;rfl
 ·obtain⟨n,_,rfl⟩:=bJ.1 hy;simp only[dF,AV.cells,c9,List.not_mem_nil,or_false] at hx;rcases hx with rfl|rfl<;>exact .int
theorem gq{H:Hp}{s:AV}{l:List Spx}(h:Row H 1 s (l.map aD)):Snap H s (ao l):=h.snapL' (λ_=>rfl) (λx _=>dt x)
theorem vn{H:Hp}{l:Spx}:fX 2 H (aD l)=some (l.length,cX l):=by
 unfold aD iS;rw[jB,A5];simp
theorem kN(l:Spx):AV.ones (cX l)=true:=by
 unfold AV.ones;rw[eF];intro x hx;obtain⟨v,_,hv⟩:=List.mem_flatMap.1 hx;simp only[DV,c9,List.not_mem_nil,or_false] at hv;rcases hv with rfl|rfl<;>rfl
def cI(v w:Vtx):Int:=if v.color<w.color then-1 else if v.color>w.color then 1 else if v.label<w.label then-1 else if v.label>w.label then 1 else 0
def bq:Spx->Spx->Int
 |[],[]=>0
 |[],_::_=>-1
 |_::_,[]=>1
 |a::l,b::m=>if cI a b≠0 then cI a b else bq l m
theorem oH{v w:Vtx}:cI v w<0↔v.color<w.color\/(v.color=w.color/\v.label<w.label):=by
 unfold cI;(repeat' split)<;>constructor<;>intro h<;>omega
theorem ou{v w:Vtx}:v=w↔v.color=w.color/\v.label=w.label:=by
 obtain⟨a,b⟩:=v;obtain⟨c,d⟩:=w;simp
theorem ja{v w:Vtx}:cI v w=0↔v=w:=by
 rw[ou];unfold cI;(repeat' split)<;>constructor<;>intro h<;>omega
theorem uZ(v w:Vtx):cI w v=- cI v w:=by
 unfold cI;(repeat' split)<;>omega
theorem zV:LinK cI where
 ord:={irr:=λx=>by rw[oH];omega,asym:=λx y h=>by rw[oH] at *;omega,negtr:=λx y z h1 h2=>by rw[oH] at *;omega}
 eq:=λx y h1 h2=>by rw[oH] at *;rw[ou];omega
theorem gb:∀l:Spx,bq l l=0
 |[]=>rfl
 |a::l=>by rw[bq,ja.2 rfl,if_neg (by simp)];exact gb l
theorem pq:∀{l m:Spx},bq l m=0->l=m
 |[],[],_=>rfl
 |[],_::_,h=>by simp[bq] at h
 |_::_,[],h=>by simp[bq] at h
 |a::l,b::m,h=>by
  rw[bq] at h;by_cases e:cI a b=0
  ·rw[if_neg (λh=>h e)] at h;rw[ja.1 e,pq h]
  ·rw[if_pos e] at h;exact absurd h e
theorem vH{l m:Spx}:bq l m=0↔l=m:=⟨pq,λh=>by rw[h];exact gb _⟩
theorem p8:∀l m:Spx,bq m l=- bq l m
 |[],[]=>rfl
 |[],_::_=>rfl
 |_::_,[]=>rfl
 |a::l,b::m=>by
  rw[bq,bq,uZ a b];by_cases e:cI a b=0
  ·rw[e,if_neg (by simp),if_neg (by simp)];exact p8 l m
  ·rw[if_pos (by omega),if_pos e]
theorem rZ:∀(x y z:Spx),¬bq y x<0->¬bq z y<0->¬bq z x<0
 |[],_,[],_,_=>by simp[bq]
 |[],_,_::_,_,_=>by simp[bq]
 |_::_,[],_,h,_=>by simp[bq] at h
 |_::_,_::_,[],_,h=>by simp[bq] at h
 |a::x,b::y,c::z,h1,h2=>by
  rw[bq] at h1 h2 |-;have n:=zV.ord.negtr a b c;by_cases e1:cI b a=0
  ·have e1':=ja.1 e1;subst e1';rw[if_neg (λh=>h e1)] at h1;by_cases e2:cI c b=0
   ·rw[if_neg (λh=>h e2)] at h2 |-;exact rZ x y z h1 h2
   ·rw[if_pos e2] at h2 |-;exact h2
  ·rw[if_pos e1] at h1;by_cases e2:cI c b=0
   ·have e2':=ja.1 e2;subst e2';rw[if_pos e1];exact h1
   ·rw[if_pos e2] at h2;have h3:=n h1 h2;by_cases e3:cI c a=0
    ·exfalso;have e3':=ja.1 e3;subst e3';have:=uZ b c;omega
    ·rw[if_pos e3];exact h3
theorem mG:LinK bq where
 ord:={irr:=λx=>by rw[gb];omega,asym:=λx y h=>by rw[p8];omega,negtr:=rZ}
 eq:=λx y h1 h2=>by
  have:=p8 x y;exact pq (by omega)
theorem vP{l m:Spx}{k:Nat}(h1:k<l.length)(h2:k<m.length):bq (l.drop k) (m.drop k)=if cI (l.getD k default) (m.getD k default)≠0 then cI (l.getD k default) (m.getD k default) else bq (l.drop (k+1)) (m.drop (k+1)):=by
 rw[mZ h1,mZ h2,bq]
theorem tC{l m:Spx}{k:Nat}(h:l.length<=k\/m.length<=k)(hk:k<=l.length/\k<=m.length):bq (l.drop k) (m.drop k)=if l.length<m.length then-1 else if m.length<l.length then 1 else 0:=by
 by_cases e1:l.length=k
 ·rw[E5 (show l.length<=k by omega)];by_cases e2:m.length=k
  ·rw[E5 (by omega),if_neg (by omega),if_neg (by omega)];rfl
  ·rw[mZ (l:=m) (k:=k) (by omega),if_pos (by omega)];rfl
 ·have e2:m.length=k:=by omega
  rw[mZ (l:=l) (k:=k) (by omega),E5 (show m.length<=k by omega),if_neg (by omega),if_pos (by omega)];rfl
def dT(f:Nat->Int):Nat->Int
 |0=>0
 |n+1=>if dT f n≠0 then dT f n else f n
theorem dL{f:Nat->Int}:∀{n:Nat},(∀i,i<n->f i=0)->dT f n=0
 |0,_=>rfl
 |n+1,h=>by
  have:=dL (f:=f) (n:=n) (λi hi=>h i (by omega));rw[dT,this,if_neg (by simp)];exact h n (by omega)
theorem di{f:Nat->Int}:∀{n k:Nat},k<n->(∀i,i<k->f i=0)->f k≠0->dT f n=f k
 |0,k,h,_,_=>absurd h (by omega)
 |n+1,k,h,h0,hk=>by
  rw[dT];by_cases e:k=n
  ·subst e;rw[dL h0,if_neg (by simp)]
  ·rw[di (n:=n) (by omega) h0 hk,if_pos hk]
theorem jd{f:Nat->Int}:∀{n:Nat},dT f n=0->∀i,i<n->f i=0
 |0,_,i,h=>absurd h (by omega)
 |n+1,h,i,hi=>by
  rw[dT] at h;by_cases e:dT f n=0
  ·rw[e,if_neg (by simp)] at h;by_cases ei:i=n
   ·subst ei;exact h
   ·exact jd e i (by omega)
  ·rw[if_pos e] at h;exact absurd h e
def fP(v:Vtx):Bool:=decide (0<=v.color)&&decide (v.color<8)&&(decide (0<=v.label)&&decide (v.label<=1048576))
def qS(l:Spx)(k:Nat):Int:=if fP (l.getD k default)=false then 2 else if 0<k/\0<=cI (l.getD (k-1) default) (l.getD k default) then 14 else 0
def b6(l:Spx):Int:=if l.length=0 then 16 else if 8<l.length then 5 else dT (qS l) l.length
theorem cA{l:Spx}(h:b6 l=0):1<=l.length/\l.length<=8/\cl cI l/\∀v∈l,fP v=true:=by
 unfold b6 at h;split at h
 ·exact absurd h (by decide)
 split at h
 ·exact absurd h (by decide)
 rename_i h1 h2;have hz:=jd h
 have h3:∀k,k<l.length->fP (l.getD k default)=true/\(0<k->cI (l.getD (k-1) default) (l.getD k default)<0):=λk hk=>by
  have:=hz k hk;unfold qS at this;split at this
  ·exact absurd this (by decide)
  rename_i g1;split at this
  ·exact absurd this (by decide)
  rename_i g2;exact⟨by simpa using g1,λh0=>by omega⟩
 refine⟨by omega,by omega,?_,λv hv=>?_⟩
 ·have step:∀j i,i<j->j<l.length->cI (l.getD i default) (l.getD j default)<0:=by
    intro j
    induction j with
    |zero=>intro i h;omega
    |succ j ih=>
     intro i hi hj;have hs:=(h3 (j+1) hj).2 (by omega);rw[lI] at hs;by_cases e:i=j
     ·subst e;exact hs
     ·exact zV.trans (ih i (by omega) (by omega)) hs
  unfold cl;rw[kp];intro i j hi hj hij;have:=step j i hij hj;simpa[List.getD,hi,hj] using this
 ·obtain⟨i,hi,rfl⟩:=jW hv;have:=(h3 i hi).1;simpa[List.getD,hi] using this
theorem eP{α:Type}[Inhabited α]{K:α->α->Int}{l:List α}(h:cl K l){i j:Nat}(hij:i<j)(hj:j<l.length):K (l.getD i default) (l.getD j default)<0:=by
 have:=kp.1 h i j (by omega) hj hij;simpa[List.getD,hj,show i<l.length by omega] using this
theorem yE{l:Spx}(h1:1<=l.length/\l.length<=8)(h2:cl cI l)(h3:∀v∈l,fP v=true):b6 l=0:=by
 unfold b6;rw[if_neg (by omega),if_neg (by omega)];refine dL λk hk=>?_;unfold qS;rw[h3 _ (aP hk),if_neg (by simp),if_neg];rintro⟨h0,h4⟩;have:=eP h2 (i:=k-1) (j:=k) (by omega) hk;omega
def c3i(a b:Int):Int:=if a<b then-1 else if a>b then 1 else 0
theorem G0(v w:Vtx):(if c3i v.color w.color≠0 then c3i v.color w.color else c3i v.label w.label)=cI v w:=by
 unfold c3i cI;by_cases h1:v.color<w.color
 ·rw[if_pos h1,if_pos h1,if_pos (by simp)]
 ·rw[if_neg h1,if_neg h1];by_cases h2:v.color>w.color
  ·rw[if_pos h2,if_pos h2,if_pos (by simp)]
  ·rw[if_neg h2,if_neg h2,if_neg (by simp)]
section
attribute [local irreducible] aM ak bg aY aR aS aF aV a6 bj Go.Abs.Fn aX Go.Abs.Pure ar aL Yl
theorem jh(n:Int):pU 165 [.int .i64 n] (.bool false):=by
 refine pO KP ?_;simp only[Nk,aG];refine wnZ and_self ?_;exact ci (aW (λh=>h rfl))
theorem Ev(a b:Int):pU 152 [.int .i64 a,.int .i64 b] (.int .i64 (c3i a b)):=by
 refine pO K9 ?_;simp only[KF,aG];have h1:=jh a;have h2:=jh b;unfold c3i
 repeat' (first|refine zW ?_|apply a_n|apply a_r|refine zO ?_|refine vZ ?_|refine cZ ?_ (hp:=by first|exact h1|exact h2)|refine cFZ ?_|(refine zGZ ?_ ?_<;>(intro _hg;try (exfalso;omega)))|refine bR rfl ?_|refine r1Z ?_|fail)
 all_goals (refine ey ?_)
 ·rw[if_pos (by omega)]
 ·rw[if_neg (by omega),if_pos (by omega)]
 ·rw[if_neg (by omega),if_neg (by omega)]
theorem Mi(a b:Int):pU 151 [aE [a,b]] (.int .i64 (if a≠0 then a else b)):=by
 refine pO Ky ?_;simp only[L8,aG];refine wnZ and_self ?_;refine Ca (λk=>[(3,.int .i64 0),(6,aE [a,b]),(7,.int .i64 2),(8,.int .i64 k)]) 2 (λk=>[a,b].getD k default=0) (by(iterate 4 refine And.intro rfl ?_);trivial) ?_;intro k hk hz;rcases(by omega:k=0\/k=1\/k=2) with rfl|rfl|rfl
 ·have e:[a,b].getD 0 default=a:=rfl;have ix:eG 1 (aE [a,b]) (.int .i64 ((0:Nat):Int))=some (.iptr [.int .i64 a] 0):=rfl;by_cases h0:a=0
  ·have z:decide (a≠0)=false:=aW (λh=>h h0);refine wnZ (aI @ix @z) ?_;exact⟨by omega,h0,by(iterate 4 refine And.intro rfl ?_);trivial,rfl,rfl⟩
  ·have z:decide (a≠0)=true:=aZ h0;refine wnZ (aI @ix @z) ?_;rw[if_pos h0];exact .int _ _
 ·have h0:a=0:=hz 0 (by omega);have ix:eG 1 (aE [a,b]) (.int .i64 ((1:Nat):Int))=some (.iptr [.int .i64 b] 0):=rfl;rw[if_neg (λh=>h h0)];by_cases h1:b=0
  ·have z:decide (b≠0)=false:=aW (λh=>h h1);refine wnZ (aI @ix @z) ?_;exact⟨by omega,h1,by(iterate 4 refine And.intro rfl ?_);trivial,rfl,rfl⟩
  ·have z:decide (b≠0)=true:=aZ h1;refine wnZ (aI @ix @z) ?_;exact .int _ _
 ·have h0:a=0:=hz 0 (by omega);have h1:b=0:=hz 1 (by omega);rw[if_neg (λh=>h h0),h1];refine wnZ and_self ?_;exact .int _ _
theorem Bi(v w:Vtx):pU 123 [dF v,dF w] (.int .i64 (cI v w)):=by
 refine pO Lx ?_;simp only[Ny,aG];have h1:=Ev v.color w.color;have h2:=Ev v.label w.label;have h3:=Mi (c3i v.color w.color) (c3i v.label w.label);rw[G0] at h3;refine wkZ and_self ?_;refine eb ev0 (by((try simp only[b7,ZA,reduceEqDiff,↓reduceIte,reduceAdd,reduceLeDiff]);(try with_reducible rfl));rfl) h3 (aJ (ag (dD ae rfl rfl) an) rfl) ?_;refine wnZ and_self ?_;exact .int _ _
theorem tV(v w:Vtx):pU 126 [dF v,dF w] (.int .i64 (cI v w)):=by
 refine pO J8 ?_;simp only[KQ,aG];unfold cI
 repeat' (first|refine zW ?_|apply a_n|apply a_r|refine zO ?_|refine vZ ?_|refine bxZ ?_|(refine zGZ ?_ ?_<;>(intro _hg;try (exfalso;omega)))|refine bR rfl ?_|refine r1Z ?_|fail)
 all_goals (refine ey ?_;(repeat' split)<;>omega)
theorem AK(v:Vtx):pU 153 [dF v] (.bool (fP v)):=by
 refine pO Na ?_;simp only[MH,aG];unfold fP
 repeat' (first|refine zW ?_|apply a_n|refine zO ?_|refine vZ ?_|refine bxZ ?_|refine gTZ ?_|refine gFZ ?_|(refine zGZ ?_ ?_<;>(intro _hg;try (exfalso;omega)))|refine bR rfl ?_|refine r1Z ?_|fail)
 all_goals (refine ci ?_;rw[Bool.eq_iff_iff];simp only[dP,xo,jz,false_iff];omega)
theorem DB(v:Vtx):pU 125 [dF v] (.bool (fP v)):=by
 refine pO KL ?_;simp only[LS,aG];unfold fP
 repeat' (first|refine zW ?_|apply a_n|refine zO ?_|refine vZ ?_|refine bxZ ?_|refine gTZ ?_|refine gFZ ?_|(refine zGZ ?_ ?_<;>(intro _hg;try (exfalso;omega)))|refine bR rfl ?_|refine r1Z ?_|fail)
 all_goals (refine ci ?_;rw[Bool.eq_iff_iff];simp only[dP,xo,jz,false_iff];omega)
end
end Go.Proofs.YtekdaafnjdlenaaGreat
