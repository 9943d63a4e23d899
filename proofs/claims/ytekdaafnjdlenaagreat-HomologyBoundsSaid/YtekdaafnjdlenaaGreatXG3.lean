/- Contracts of functions and plain laws, for all inputs that the theorems name. -/
import Derived.Test.YtekdaafnjdlenaaGreatXG2
import Derived.ChangeArms
import Derived.Carry
import Derived.Deep.Slices
import Derived.Lib.SmallJoins
import Derived.Test.YtekdaafnjdlenaaGreatProg
import Derived.KernelRfl

set_option linter.unusedSimpArgs false
set_option linter.unusedVariables false
set_option maxHeartbeats 4000000
namespace Go.Abs
open Go.RowKit
variable{P:Program}{T:Tm}{H:Hp}{nx:Nat}
theorem J6{K:CP}(h:K .normal T H nx):aK P .skip T H nx K:=h
theorem Kj{K:CP}{i:Nat}(h:K (.exit i) T H nx):aK P (.exit i) T H nx K:=h
theorem Nj{K:CP}(h:K .ret T H nx):aK P .ret T H nx K:=h
theorem J2{K:CP}{l:List Op2}(h:an P .text l T H nx λT H nx=>K .normal T H nx):aK P (.ops 0 l) T H nx K:=⟨T,H,nx,_,Gh.refl _ _ _,h⟩
theorem w_mix1{K:CP}{l:List Op2}{C:List Nat}(h:an P .draw l T H nx λT H nx=>K .normal T H nx):aK P (.mix 1 l C) T H nx K:=.inl ⟨by decide,T,H,nx,_,Gh.refl _ _ _,h⟩
theorem qr{K:CP}{l:List Op2}{C:List Nat}(h:an P (.fresh nx) l T H nx λT H nx=>K .normal T H nx):aK P (.mix 2 l C) T H nx K:=.inl ⟨by decide,T,H,nx,_,Gh.refl _ _ _,h⟩
theorem JO{K:CP}{m:Nat}{l alt:List Op2}{C:List Nat}(ha:(C.map λk=>l.getD k ⟨none,none,.dead⟩)=alt)(h:an P .text alt T H nx λT H nx=>K .normal T H nx):aK P (.mix m l C) T H nx K:=by
 subst ha;exact .inr ⟨T,H,nx,_,Gh.refl _ _ _,h⟩
theorem xN{K:CP}{l alt:List Op2}{C:List Nat}(ha:(C.map λk=>l.getD k ⟨none,none,.dead⟩)=alt)(h:an P .text alt T H nx λT H nx=>K .normal T H nx):aK P (.mix 9 l C) T H nx K:=JO ha h
theorem HY{K:CP}{l:List Op2}{C:List (Nat×Nat)}(h:an P .draw l T H nx λT H nx=>K .normal T H nx):aK P (.mixS 1 l C) T H nx K:=.inl ⟨by decide,T,H,nx,_,Gh.refl _ _ _,h⟩
theorem Hx{K:CP}{l:List Op2}{C:List (Nat×Nat)}(h:an P (.fresh nx) l T H nx λT H nx=>K .normal T H nx):aK P (.mixS 2 l C) T H nx K:=.inl ⟨by decide,T,H,nx,_,Gh.refl _ _ _,h⟩
theorem x9(S:Hp){K:CP}{m:Nat}{l:List Op2}{alt:List (Op2×Nat)}{C:List (Nat×Nat)}(ha:(C.map λk=>(l.getD k.1 ⟨none,none,.dead⟩,k.2))=alt)(hs:Sub S H)(h:be P S alt T H nx λT H nx=>K .normal T H nx):aK P (.mixS m l C) T H nx K:=by
 subst ha;exact .inr ⟨T,H,nx,_,S,Gh.refl _ _ _,hs,h⟩
theorem Kz(S:Hp){K:CP}{l:List Op2}{f:Nat×Nat}{C D:List (Nat×Nat)}(hs:Sub S H)(h:ie P S (l.getD f.1 ⟨none,none,.dead⟩,f.2) (D.map λk=>(l.getD k.1 ⟨none,none,.dead⟩,k.2)) (C.map λk=>(l.getD k.1 ⟨none,none,.dead⟩,k.2)) T H nx λT H nx=>K .normal T H nx):aK P (.mixF l f C D) T H nx K:=⟨T,H,nx,_,S,Gh.refl _ _ _,hs,h⟩
theorem Lb{S:Hp}{K:SP}{f:Op2×Nat}{l2:List (Op2×Nat)}(h:be P S (f::l2) T H nx K):ie P S f l2 [] T H nx K:=h
theorem I9{S:Hp}{K:SP}{f:Op2×Nat}{l l2:List (Op2×Nat)}{o:Op2}{k:Nat}(h:be P S [(o,k)] T H nx λT H nx=>ie P S f l2 l T H nx K)(hk:¬(k=1\/k=2):=by decide):ie P S f l2 ((o,k)::l) T H nx K:=⟨λq=>absurd q hk,h⟩
theorem Lk{S:Hp}{K:SP}{f x:Op2×Nat}{l l2:List (Op2×Nat)}(h1:be P S (f::x::(l++l2)) T H nx K)(h2:be P S [x] T H nx λT H nx=>ie P S f l2 l T H nx K):ie P S f l2 (x::l) T H nx K:=⟨λ_=>h1,h2⟩
theorem vV{S:Hp}{K:SP}(h:K T H nx):be P S [] T H nx K:=h
theorem Ji{S:Hp}{K:SP}{l:List (Op2×Nat)}{d:Option Nat}{i:Ins}{r:AV}(h:b9 T S i=some r)(k:be P S l (aO T d r) H nx K):be P S ((⟨d,none,i⟩,0)::l) T H nx K:=by
 show aF (b9 T S i) λr=>be P S l (aO T d r) H nx K;rw[h];exact k
theorem Jb{S:Hp}{K:SP}{l:List (Op2×Nat)}{d:Option Nat}{len:Nat}{z cs:List AV}{parts:List (Nat×Nat×Opd)}{pv:List (Nat×Nat×AV)}(hp:parts.map (λp=>(p.1,p.2.1,ov T p.2.2))=pv)(hc:eB (bD (.agg z) len) pv=some cs)(hl:len≠0)(hn:cs.length=len)(ho:cs.all AV.one=true)
    (k:be P S l (aO T d (.sl 1 cs)) H nx K):be P S ((⟨d,none,.bldS 1 len z parts⟩,3)::l) T H nx K:=by
 show aF (vH T (.bldS 1 len z parts)) _
 have:vH T (.bldS 1 len z parts)=some (.sl 1 cs):=by
  simp only[vH,ki,hl,if_false,hp,hc,sV,ay,if_true,hn];rw[if_pos ⟨trivial,hl,ho⟩]
 rw[this];exact k
theorem K1{S:Hp}{K:SP}{l:List (Op2×Nat)}{d:Option Nat}{i:Ins}{r:AV}(h:ilk T S i=some r)(k:be P S l (aO T d r) H nx K):be P S ((⟨d,none,i⟩,4)::l) T H nx K:=by
 show aF (ilk T S i) λr=>be P S l (aO T d r) H nx K;rw[h];exact k
theorem d7{S:Hp}{K:SP}{l:List (Op2×Nat)}{d:Option Nat}{i:Ins}(k:an P .text [⟨d,none,i⟩] T H nx λT H nx=>Sub S H/\be P S l T H nx K):be P S ((⟨d,none,i⟩,1)::l) T H nx K:=by
 have k:bk P .text i T H nx λr H nx=>Sub S H/\be P S l (aO T d r) H nx K:=k;show bk P .text i T H nx λr H' nx'=>(0=0->Sub S H')/\be P S l (aO T d r) H' nx' K;exact nS k (λ_ _ _ h=>⟨λ_=>h.1,h.2⟩)
theorem jH{S:Hp}{K:SP}{l:List (Op2×Nat)}{d:Option Nat}{i:Ins}(k:an P .text [⟨d,none,i⟩] T H nx λT H nx=>be P S l T H nx K):be P S ((⟨d,none,i⟩,2)::l) T H nx K:=by
 have k:bk P .text i T H nx λr H nx=>be P S l (aO T d r) H nx K:=k;show bk P .text i T H nx λr H' nx'=>(1=0->Sub S H')/\be P S l (aO T d r) H' nx' K;exact nS k (λ_ _ _ h=>⟨λhh=>absurd hh (by decide),h⟩)
theorem KH{K:CP}{l:List Op2}(h:an P .draw l T H nx λT H nx=>K .normal T H nx):aK P (.ops 1 l) T H nx K:=⟨T,H,nx,_,Gh.refl _ _ _,h⟩
theorem JT{K:CP}{l:List Op2}(h:an P (.fresh nx) l T H nx λT H nx=>K .normal T H nx):aK P (.ops 2 l) T H nx K:=⟨T,H,nx,_,Gh.refl _ _ _,h⟩
theorem dQ{K:CP}{x y:C2}(h:aK P x T H nx λe T H nx=>aR e (aK P y T H nx K) (K e T H nx)):aK P (.seq x y) T H nx K:=h
theorem lS{K:CP}{i:Nat}{b:C2}(h:aK P b T H nx λe T H nx=>K (qL i e) T H nx):aK P (.block i b) T H nx K:=h
theorem Bg{K:CP}{c:Opd}{x y:C2}{b:Bool}(hc:ov T c=.bool b)(h1:b=true->aK P x T H nx K)(h2:b=false->aK P y T H nx K):aK P (.cond c x y) T H nx K:=by
 simp only[aK,hc];exact⟨h1,h2⟩
theorem CD{K:CP}{c:Opd}{x y:C2}(hc:ov T c=.bool true)(h1:aK P x T H nx K):aK P (.cond c x y) T H nx K:=
 Bg hc (λ_=>h1) (λh=>by cases h)
theorem C0{K:CP}{c:Opd}{x y:C2}(hc:ov T c=.bool false)(h2:aK P y T H nx K):aK P (.cond c x y) T H nx K:=
 Bg hc (λh=>by cases h) (λ_=>h2)
theorem J7{K:CP}{b:C2}(h:a5 (aK P b) T H nx K):aK P (.loop b) T H nx K:=h
theorem a_n{A B:Prop}(h:A):aR .normal A B:=h
theorem a_x{A B:Prop}{i:Nat}(h:B):aR (.exit i) A B:=h
theorem a_r{A B:Prop}(h:B):aR .ret A B:=h
theorem kB{dm:DM}{K:SP}(h:K T H nx):an P dm [] T H nx K:=h
theorem ou{dm:DM}{K:SP}{l:List Op2}{d:Option Nat}{i:Ins}{r:AV}(hi:ic i=.val)(hd:dm2 dm T i=true)(h:b9 T H i=some r)(k:an P dm l (aO T d r) H nx K):an P dm (⟨d,none,i⟩::l) T H nx K:=by
 show bk P dm i T H nx λr H nx=>an P dm l (aO T d r) H nx K;unfold bk;rw[hi];exact⟨hd,by rw[h];exact k⟩
theorem oC{dm:DM}{K:SP}{l:List Op2}{d:Option Nat}{i:Ins}{r:AV}{H':Hp}{nx':Nat}(hi:ic i=.eff)(hd:dm2 dm T i=true)(h:ki T H nx i=some (r,H',nx'))(k:an P dm l (aO T d r) H' nx' K):an P dm (⟨d,none,i⟩::l) T H nx K:=by
 show bk P dm i T H nx λr H nx=>an P dm l (aO T d r) H nx K;unfold bk;rw[hi];exact⟨hd,by rw[h];exact k⟩
theorem BU{K:SP}{l:List Op2}{d:Option Nat}{f:Opd}{args:List Opd}{g:FuncId}{caps:List AV}(hf:ov T f=.func g caps)(k:Fn P g (args.map (ov T)++caps) H nx λr H nx=>an P .text l (aO T d r) H nx K):
    an P .text (⟨d,none,.call f args⟩::l) T H nx K:=by
 left;show aF (pG (ov T f)) _;rw[hf];exact k
theorem CY{dm:DM}(hdm:dm.isText=false){K:SP}{l:List Op2}{d:Option Nat}{f:Opd}{args:List Opd}{g:FuncId}{caps:List AV}(hf:ov T f=.func g caps)(k:aZ P g (args.map (ov T)++caps) H λr=>an P dm l (aO T d r) H nx K):
    an P dm (⟨d,none,.call f args⟩::l) T H nx K:=by
 left;show aF (pG (ov T f)) _;rw[hf];show(match dm.isText with|false=>_|true=>_);rw[hdm];exact k
theorem yv{K:SP}{l:List Op2}{d:Option Nat}{f:Opd}{args:List Opd}{b:Nat}{xs:List AV}(hf:ov T f=.yld b)(ha:args.map (ov T)=xs)(k:Yl P b xs H nx λr H nx=>an P .text l (aO T d r) H nx K):
    an P .text (⟨d,none,.call f args⟩::l) T H nx K:=by
 right;exact⟨rfl,.inl ⟨b,hf,by rw[ha];exact k⟩⟩
theorem mf{K:SP}{l:List Op2}{d:Option Nat}{i:Ins}(hi:ic i=.sp)(k:isp i T H nx λr H nx=>an P .text l (aO T d r) H nx K):an P .text (⟨d,none,i⟩::l) T H nx K:=by
 show bk P .text i T H nx λr H nx=>an P .text l (aO T d r) H nx K;unfold bk;rw[hi];exact⟨rfl,k⟩
theorem v5{K:SP}{l:List Op2}{d:Option Nat}(k:an P .text l (aO T d (.mp nx)) (ay H nx [.omap [] []]) (nx+1) K):an P .text (⟨d,none,.mkm none⟩::l) T H nx K:=mf rfl ⟨.inl rfl,.inl k⟩
theorem qn{K:SP}{l:List Op2}{d:Option Nat}{kk:MK}{m key x:Opd}{b:Nat}{ks vs:List AV}{kv xv:AV}{r:Option Nat}(hm:ov T m=.mp b)(hb:H b=some [.omap ks vs])(hk:ov T key=kv)(hx:ov T x=xv)(hfit:ka kk kv=true)(hr:dw kk kv ks=some r)
    (k:an P .text l (aO T d (.tup [])) (ay H b [.omap (c9 kv r ks) (gH xv r vs)]) nx K):an P .text (⟨d,none,.mput kk m key x⟩::l) T H nx K:=by
 subst hk hx;exact mf rfl (.inl ⟨b,ks,vs,r,hm,hb,hfit,hr,k⟩)
theorem jL{K:SP}{l:List Op2}{d:Option Nat}{kk:MK}{z:AV}{ok:Bool}{m key:Opd}{b:Nat}{ks vs:List AV}{kv:AV}{r:Option Nat}(hm:ov T m=.mp b)(hb:H b=some [.omap ks vs])(hk:ov T key=kv)(hfit:ka kk kv=true)(hr:dw kk kv ks=some r)
    (k:an P .text l (aO T d (mget z ok r vs)) H nx K):an P .text (⟨d,none,.mget kk z ok m key⟩::l) T H nx K:=by
 subst hk;exact mf rfl (.inl ⟨b,ks,vs,r,hm,hb,hfit,hr,k⟩)
theorem GH{K:SP}{l:List Op2}{d:Option Nat}{kk:MK}{z:AV}{m key:Opd}{b:Nat}{ks vs:List AV}{kv:AV}{r:Option Nat}(hm:ov T m=.mp b)(hb:H b=some [.omap ks vs])(hk:ov T key=kv)(hfit:ka kk kv=true)(hr:dw kk kv ks=some r)
    (k:an P .text l (aO T d (.tup [Dp z r vs,.int .i64 (Bh r ks)])) (ay H b [.omap (c9 kv r ks) (n4 z r vs)]) nx K):an P .text (⟨d,none,.mplc kk z m key⟩::l) T H nx K:=by
 subst hk;exact mf rfl ⟨b,ks,vs,r,hm,hb,hfit,hr,k⟩
theorem Fm{K:SP}{l:List Op2}{d:Option Nat}{m s x:Opd}{b i:Nat}{ks vs:List AV}{xv:AV}(hm:ov T m=.mp b)(hb:H b=some [.omap ks vs])(hi:ov T s=.int .i64 (i:Int))(hlt:i<ks.length)(hx:ov T x=xv)
    (k:an P .text l (aO T d (.tup [])) (ay H b [.omap ks (vs.set i xv)]) nx K):an P .text (⟨d,none,.mpst m s x⟩::l) T H nx K:=by
 subst hx;exact mf rfl ⟨b,ks,vs,i,hm,hb,hi,hlt,k⟩
theorem Ka{K:SP}{l:List Op2}{d:Option Nat}{m:Opd}{b:Nat}{ks vs:List AV}(hm:ov T m=.mp b)(hb:H b=some [.omap ks vs])(k:an P .text l (aO T d (.itr nx)) (ay H nx [.oiter b ks.length []]) (nx+1) K):an P .text (⟨d,none,.mrng m⟩::l) T H nx K:=mf rfl (.inl ⟨b,ks,vs,hm,hb,k⟩)
theorem KI{K:SP}{l:List Op2}{d:Option Nat}{it:Opd}{b m n0:Nat}{seen:List Nat}{ks vs:List AV}(hi:ov T it=.itr b)(hb:H b=some [.oiter m n0 seen])(hm:H m=some [.omap ks vs])(hkn:ks.length=n0)
    (h1:∀i,i<ks.length->i∉seen->an P .text l (aO T d (.tup [.bool true,ks.getD i .undef,vs.getD i .undef])) (ay H b [.oiter m n0 (seen++[i])]) nx K)
    (h2:(∀i,i<n0->i<ks.length->i∈seen)->an P .text l (aO T d (.tup [.bool false])) H nx K):an P .text (⟨d,none,.mnxt it⟩::l) T H nx K:=mf rfl (.inl ⟨b,m,n0,seen,ks,vs,hi,hb,hm,hkn,h1,h2⟩)
theorem J9{K:SP}{l:List Op2}{d:Option Nat}{it:Opd}{b m n0 i:Nat}{seen:List Nat}{ks vs:List AV}(hi:ov T it=.itr b)(hb:H b=some [.oiter m n0 seen])(hm:H m=some [.omap ks vs])(hkn:ks.length=n0)(hl:seen.getLast?=some i)(hlt:i<ks.length)
    (k:an P .text l (aO T d (.tup [ks.getD i .undef,vs.getD i .undef])) H nx K):an P .text (⟨d,none,.ment it⟩::l) T H nx K:=mf rfl (.inl ⟨b,m,n0,i,seen,ks,vs,hi,hb,hm,hkn,hl,hlt,k⟩)
theorem JM{K:SP}{l:List Op2}{d:Option Nat}(k:an P .text l (aO T d (.mp nx)) (ay H nx [.bmap [] [] [] 0]) (nx+1) K):an P .text (⟨d,none,.mkm none⟩::l) T H nx K:=mf rfl ⟨.inl rfl,.inr k⟩
theorem I1{K:SP}{l:List Op2}{d:Option Nat}{kk:MK}{m key x:Opd}{b:Nat}{ks vs:List AV}{bs:List Nat}{ck:Nat}{kv xv:AV}{r:Option Nat}(hm:ov T m=.mp b)(hb:H b=some [.bmap ks vs bs ck])(hk:ov T key=kv)(hx:ov T x=xv)(hfit:ka kk kv=true)(hr:dw kk kv ks=some r)
    (k:an P .text l (aO T d (.tup [])) (ay H b [.bmap (c9 kv r ks) (gH xv r vs) (rm ck r bs) (vU ck r)]) nx K):an P .text (⟨d,none,.mput kk m key x⟩::l) T H nx K:=by
 subst hk hx;exact mf rfl (.inr ⟨b,ks,vs,bs,ck,r,hm,hb,hfit,hr,k⟩)
theorem Kc{K:SP}{l:List Op2}{d:Option Nat}{kk:MK}{m key:Opd}{b:Nat}{ks vs:List AV}{bs:List Nat}{ck:Nat}{kv:AV}{r:Option Nat}(hm:ov T m=.mp b)(hb:H b=some [.bmap ks vs bs ck])(hk:ov T key=kv)(hfit:ka kk kv=true)(hr:dw kk kv ks=some r)
    (k:an P .text l (aO T d (.tup [])) (ay H b [.bmap (mb r ks) (mb r vs) (mb r bs) ck]) nx K):an P .text (⟨d,none,.mdel kk m key⟩::l) T H nx K:=by
 subst hk;exact mf rfl ⟨b,ks,vs,bs,ck,r,hm,hb,hfit,hr,k⟩
theorem Ct{K:SP}{l:List Op2}{d:Option Nat}{kk:MK}{z:AV}{ok:Bool}{m key:Opd}{b:Nat}{ks vs:List AV}{bs:List Nat}{ck:Nat}{kv:AV}{r:Option Nat}(hm:ov T m=.mp b)(hb:H b=some [.bmap ks vs bs ck])(hk:ov T key=kv)(hfit:ka kk kv=true)(hr:dw kk kv ks=some r)
    (k:an P .text l (aO T d (mget z ok r vs)) H nx K):an P .text (⟨d,none,.mget kk z ok m key⟩::l) T H nx K:=by
 subst hk;exact mf rfl (.inr ⟨b,ks,vs,bs,ck,r,hm,hb,hfit,hr,k⟩)
theorem Iq{K:SP}{l:List Op2}{d:Option Nat}{m:Opd}{b:Nat}{ks vs:List AV}{bs:List Nat}{ck:Nat}(hm:ov T m=.mp b)(hb:H b=some [.bmap ks vs bs ck])(k:an P .text l (aO T d (.itr nx)) (ay H nx [.biter b ck []]) (nx+1) K):an P .text (⟨d,none,.mrng m⟩::l) T H nx K:=mf rfl (.inr ⟨b,ks,vs,bs,ck,hm,hb,k⟩)
theorem Ia{K:SP}{l:List Op2}{d:Option Nat}{it:Opd}{b m ck:Nat}{seen bs:List Nat}{ks vs:List AV}(hi:ov T it=.itr b)(hb:H b=some [.biter m ck seen])(hm:H m=some [.bmap ks vs bs ck])
    (h1:∀(i s:Nat),bs[i]?=some s->s∉seen->an P .text l (aO T d (.tup [.bool true,ks.getD i .undef,vs.getD i .undef])) (ay H b [.biter m ck (seen++[s])]) nx K)
    (h2:(∀s∈bs,s∈seen)->an P .text l (aO T d (.tup [.bool false])) H nx K):an P .text (⟨d,none,.mnxt it⟩::l) T H nx K:=mf rfl (.inr ⟨b,m,ck,seen,ks,vs,bs,hi,hb,hm,h1,h2⟩)
theorem Hz{K:SP}{l:List Op2}{d:Option Nat}{it:Opd}{b m ck i s:Nat}{seen bs:List Nat}{ks vs:List AV}(hi:ov T it=.itr b)(hb:H b=some [.biter m ck seen])(hm:H m=some [.bmap ks vs bs ck])(hl:seen.getLast?=some s)(hbi:bs[i]?=some s)
    (k:an P .text l (aO T d (.tup [ks.getD i .undef,vs.getD i .undef])) H nx K):an P .text (⟨d,none,.ment it⟩::l) T H nx K:=mf rfl (.inr ⟨b,m,ck,i,s,seen,ks,vs,bs,hi,hb,hm,hl,hbi,k⟩)
theorem Jl{K:SP}{l:List Op2}{d:Option Nat}{sz n:Nat}{x y:Opd}{H':Hp}(h:tO sz (ov T x) (ov T y) H=some (n,H'))(k:an P .text l (aO T d (.int .i64 n)) H' nx K):an P .text (⟨d,none,.cpy sz x y⟩::l) T H nx K:=mf rfl ⟨n,H',h,k⟩
theorem Jt{K:SP}{l:List Op2}{d:Option Nat}{len sz:Nat}{x:Opd}{b n off:Nat}{cs:List AV}(hx:ov T x=.ptr b n off)(hb:H b=some cs)(hn:cs.length=n)(hf:off+len*sz=n)(k:an P .text l (aO T d (.msl b n sz off len)) H nx K):an P .text (⟨d,none,.slp len sz x⟩::l) T H nx K:=mf rfl ⟨b,n,off,cs,hx,hb,hn,hf,k⟩
theorem xD{K:SP}{l:List Op2}{d:Option Nat}{neg:Bool}{x:Opd}{k:Nat}(hx:fW (ov T x)=some k)(h1:0<k->an P .text l (aO T d (.bool neg)) H nx K)(h2:k=0->an P .text l (aO T d (.bool true)) H nx K)(h3:k=0->an P .text l (aO T d (.bool false)) H nx K):an P .text (⟨d,none,.snil neg x⟩::l) T H nx K:=mf rfl ⟨k,hx,h1,λh=>⟨h2 h,h3 h⟩⟩
theorem He{K:CP}{g:Opd}{ps:List Nat}{a b:C2}{f:FuncId}{caps:List AV}(hg:ov T g=.func f caps)
    (h:∀ (c0:AV) (cj:AEx→AV),(∀ (args:List AV) (H':Hp) (nx':Nat) (K':AV→Hp→Nat→Prop),H' nx=some [c0]→args.length=ps.length →
        aK P a (lA T ps args) H' nx' (λe T2 H2 nx2=>aR e (H2 nx=some [c0]/\aK P b T2 (dp H2 nx) nx2 λe T3 H3 nx3=>aR e (K' (.bool true) (ay H3 nx [c0]) nx3) (K' (.bool false) (ay H3 nx [cj e]) nx3)) False)->
        Yl P nx args H' nx' K')->
     Fn P f (.yld nx::caps) (ay H nx [c0]) (nx+1) λ_ H' nx'=>(H' nx=some [c0]/\K .normal T (dp H' nx) nx')\/ ∃e,e≠.normal/\H' nx=some [cj e]/\K e T (dp H' nx) nx'):aK P (.rangeF g ps a b) T H nx K:=⟨f,caps,hg,h⟩
theorem Ko{dm:DM}{K:SP}{l:List Op2}{d:Option Nat}{i:Ins}{t:Nat}{w:Bool}(h:T t=.bool w)(k:an P dm (⟨d,none,i⟩::l) T H nx K):an P dm (⟨d,some (t,w),i⟩::l) T H nx K:=by
 show aV (g2 T (some (t,w))) _ _;have:g2 T (some (t,w))=some true:=by simp[g2,h]
 rw[this];exact k
theorem KW{dm:DM}{K:SP}{l:List Op2}{d:Option Nat}{i:Ins}{t:Nat}{w:Bool}(h:T t=.bool (!w)\/T t=.tup [])(k:an P dm l (aO T d (.tup [])) H nx K):an P dm (⟨d,some (t,w),i⟩::l) T H nx K:=by
 show aV (g2 T (some (t,w))) _ _
 have:g2 T (some (t,w))=some false:=by
  rcases h with h|h
  ·cases w<;>simp[g2,h]
  ·simp[g2,h]
 rw[this];exact k
theorem b6{e:AEx}{A:Prop}(he:e.ends=true)(h:A):aU e.ends A:=⟨he,h⟩
theorem r_1{K:AV->Prop}{a:RV}{x:AV}(ha:rv T H a=some x)(h:K x):bu T H K [a]:=by
 show aF (rv T H a) K;rw[ha];exact h
theorem r_2{K:AV->Prop}{a b:RV}{x y:AV}(ha:rv T H a=some x)(hb:rv T H b=some y)(h:K (.tup [x,y])):bu T H K [a,b]:=by
 show aF (rv T H a) _;rw[ha];show aF (rv T H b) _;rw[hb];exact h
theorem r_5{K:AV->Prop}{a b c d e:RV}{x y z u v:AV}(ha:rv T H a=some x)(hb:rv T H b=some y)(hc:rv T H c=some z)(hd:rv T H d=some u)(he:rv T H e=some v)(h:K (.tup [x,y,z,u,v])):bu T H K [a,b,c,d,e]:=by
 show yx T H [a,b,c,d,e] λxs=>K (.tup xs);simp only[yx,ha,hb,hc,hd,he];exact h
theorem r_3{K:AV->Prop}{a b c:RV}{x y z:AV}(ha:rv T H a=some x)(hb:rv T H b=some y)(hc:rv T H c=some z)(h:K (.tup [x,y,z])):bu T H K [a,b,c]:=by
 show aF (rv T H a) _;rw[ha];show aF (rv T H b) _;rw[hb];show aF (rv T H c) _;rw[hc];exact h
theorem A3{T:Tm}{t:Nat}{v:AV}(h:T t=v):upd T t v=T:=by
 funext x;simp only[upd];split
 ·rename_i e;rw[e,h]
 ·rfl
theorem Ni{dm:DM}{K:SP}{l:List Op2}{d:Option Nat}{i:Ins}{t:Nat}{w b:Bool}(h:T t=.bool b)(k1:b=w->an P dm (⟨d,none,i⟩::l) (upd T t (.bool w)) H nx K)
    (k2:b=!w->an P dm l (aO (upd T t (.bool (!w))) d (.tup [])) H nx K):an P dm (⟨d,some (t,w),i⟩::l) T H nx K:=by
 by_cases hb:b=w
 ·subst hb;have:=k1 rfl;rw[A3 h] at this;exact Ko h this
 ·have hb':b=!w:=by cases b<;>cases w<;>simp_all
  subst hb';have:=k2 rfl;rw[A3 h] at this;exact KW (.inl h) this
theorem Aj{α:Type}{f:α->AV}{l:List α}{k:Nat}{u:AV}(d:α)(h:k<l.length):(l.map f).getD k u=f (l.getD k d):=by
 simp[List.getD,h]
theorem Cz{c:Prop}[Decidable c]{x:Option AV}{r:AV}(hc:c)(h:x=some r):(if c then x else none)=some r:=by rw[if_pos hc];exact h
theorem EF{k:IntKind}{n:Int}:AV.cells (.int k n)=[.int k n]:=rfl
end Go.Abs
namespace Go.Abs
open Go.RowKit
def Dat(x:AV):Prop:=∀H,Snap H x x
theorem Dat.int{k:IntKind}{n:Int}:Dat (.int k n):=λ_=>.int _ _
theorem Dat.bool{b:Bool}:Dat (.bool b):=λ_=>.bool _
theorem Dat.str{s:ByteArray}:Dat (.str s):=λ_=>.str _
theorem Dat.esl:Dat .esl:=λ_=>.esl
theorem Dat.nilp:Dat .nilp:=λ_=>.nilp
theorem Dat.nilf:Dat .nilf:=λ_=>.nilf
theorem Dat.sl{sz:Nat}{l:List AV}(h:∀x∈l,∀c∈x.cells,Dat c):Dat (.sl sz l):=λH=>
 .sl sz l l rfl (fun i x y hx hy=>by rw [hx] at hy; cases hy; rfl) (fun i j x y a b hx hy ha hb=>by
  rw[hx] at hy;cases hy;rw[ha] at hb;cases hb;exact h x (gJ hx) a (gJ ha) H)
theorem Dat.agg{l:List AV}(h:∀x∈l,Dat x):Dat (.agg l):=λH=>
 .agg l l rfl (λi a c ha hc=>by rw[ha] at hc;cases hc;exact h a (gJ ha) H)
theorem Dat.tup{l:List AV}(h:∀x∈l,Dat x):Dat (.tup l):=λH=>
 .tup l l rfl (λi a c ha hc=>by rw[ha] at hc;cases hc;exact h a (gJ ha) H)
theorem Dat.func{f:FuncId}{l:List AV}(h:∀x∈l,Dat x):Dat (.func f l):=λH=>
 .func f l l rfl (λi a c ha hc=>by rw[ha] at hc;cases hc;exact h a (gJ ha) H)
def aD(l:List Int):AV:=.sl 1 (l.map (AV.int .i64))
def br(l:List (List Int)):AV:=.sl 1 (l.map aD)
theorem cJ (l:List Int):Dat (aD l):=Dat.sl (fun x hx c hc=>by
 obtain⟨n,_,rfl⟩:=bE.1 hx;simp only[AV.cells,dg] at hc;subst hc;exact .int)
theorem kR (l:List (List Int)):Dat (br l):=Dat.sl (fun x hx c hc=>by
 obtain⟨n,_,rfl⟩:=bE.1 hx;simp only[aD,AV.cells,dg] at hc;subst hc;exact cJ n)
theorem BV{l:List Int}:(aD l).cells=[aD l]:=rfl
theorem ak{H:Hp}:aL H [] []:=aL.nil
theorem aX{H:Hp}{x:AV}{xs ys:List AV}(h:Dat x)(hs:aL H xs ys):aL H (x::xs) (x::ys):=aL.cons (h H) hs
class DatI(x:AV):Prop where
 d:Dat x
instance datI_int{k:IntKind}{n:Int}:DatI (.int k n):=⟨.int⟩
instance datI_bool{b:Bool}:DatI (.bool b):=⟨.bool⟩
instance datI_str{s:ByteArray}:DatI (.str s):=⟨.str⟩
instance datI_esl:DatI .esl:=⟨.esl⟩
instance datI_nilf:DatI .nilf:=⟨.nilf⟩
instance datI_encV{l:List Int}:DatI (aD l):=⟨cJ l⟩
instance datI_encVV{l:List (List Int)}:DatI (br l):=⟨kR l⟩
theorem bv{H:Hp}{x:AV}{xs ys:List AV}[h:DatI x](hs:aL H xs ys):aL H (x::xs) (x::ys):=aX h.d hs
variable{P:Program}{T:Tm}{H:Hp}{nx:Nat}
theorem ez{dm:DM}{K:SP}{l:List Op2}{d:Option Nat}{f:Opd}{args:List Opd}{g:FuncId}{caps xs ys:List AV}{r:AV}(hf:ov T f=.func g caps)(ha:args.map (ov T)++caps=xs)
    (hp:Pure P g ys r) (hs:az H xs ys r) (k:an P dm l (aO T d r) H nx K):an P dm (⟨d,none,.call f args⟩::l) T H nx K:=by
 subst ha;cases hd:dm.isText with
 |false=>exact CY hd hf (aZ.of_pure hp hs k)
 |true=>
  cases dm with
  |text=>exact BU hf (Fn.of_pure hp hs k)
  |draw=>cases hd
  |fresh m=>cases hd
theorem gg{dm:DM}{K:SP}{l:List Op2}{d:Option Nat}{f:Opd}{args:List Opd}{g:FuncId}{caps xs ys:List AV}{r:AV}(hf:ov T f=.func g caps)(ha:args.map (ov T)++caps=xs)
    (hp:PureF P g ys r) (hs:aL H xs ys) (k:an P dm l (aO T d r) H nx K):an P dm (⟨d,none,.call f args⟩::l) T H nx K:=by
 subst ha;have hc:=hp.callOk hs;cases hd:dm.isText with
 |false=>exact CY hd hf (aZ.of_callOk hc k)
 |true=>
  cases dm with
  |text=>exact BU hf (Fn.of_callOk hc k)
  |draw=>cases hd
  |fresh m=>cases hd
theorem CZ{dm:DM}{K:SP}{l:List Op2}{d:Option Nat}{f:Opd}{args:List Opd}{g:FuncId}{caps xs:List AV}{r:AV}(hf:ov T f=.func g caps)(ha:args.map (ov T)++caps=xs)
    (hp:Pure P g xs r) (hs:az H xs xs r) (k:an P dm l (aO T d r) H nx K):an P dm (⟨d,none,.call f args⟩::l) T H nx K:=ez hf ha hp hs k
theorem aW{xs ys:List AV}{r:AV}{H:Hp}(h:aL bN xs ys):az H xs ys r:=.inl h
theorem aG{xs ys:List AV}{r:AV}{H:Hp}(h:aL H xs ys)(hr:r.sca=true):az H xs ys r:=.inr ⟨h,hr⟩
theorem s9{α:Type}[Inhabited α]{f:α->AV}{l:List α}{sz:Nat}{k:IntKind}{n:Int}:eF sz (.sl sz (l.map f)) (.int k n)=if 0<=n/\n<l.length then some (.iptr (f (l.getD n.toNat default)).cells 0) else none:=by
 simp only[eF,true_and,bo];split
 ·rename_i h;rw[Aj default (by omega)]
 ·rfl
theorem qQ{α:Type}{f:α->AV}{l:List α}{sz:Nat}:dz (.sl sz (l.map f))=some (.int .i64 l.length):=by simp[dz]
theorem nz{l:List Int}{k:IntKind}{n:Int}:eF 1 (aD l) (.int k n)=if 0<=n/\n<l.length then some (.iptr [.int .i64 (l.getD n.toNat default)] 0) else none:=s9
theorem oU{l:List (List Int)}{k:IntKind}{n:Int}:eF 1 (br l) (.int k n)=if 0<=n/\n<l.length then some (.iptr [aD (l.getD n.toNat default)] 0) else none:=s9
theorem uV{l:List Int}:dz (aD l)=some (.int .i64 l.length):=qQ
theorem rA{l:List (List Int)}:dz (br l)=some (.int .i64 l.length):=qQ
end Go.Abs
namespace Go.Abs
theorem SA:(∀(T:Tm)(n:Nat),ov T (.t n)=T n)/\(∀(T:Tm)(v:AV),ov T (.c v)=v)/\(∀(T:Tm)(d t:Nat)(v:AV),upd T d v t=if t=d then v else T t)/\(∀(T:Tm)(d:Nat)(v:AV),aO T (some d) v=upd T d v)/\
    (∀(T:Tm)(v:AV),aO T none v=T)/\(∀(x:AV)(l:List AV),T0 (x::l) 0=x)/\(∀(x:AV)(l:List AV)(n:Nat),T0 (x::l) (n+1)=T0 l n)/\(∀n:Nat,T0 [] n=.undef)/\
    (∀(d t:Nat)(v:AV)(l:List (Nat×AV)),tl ((d,v)::l) t=if t=d then v else tl l t)/\(∀t:Nat,tl [] t=.undef)/\
    (∀(T:Tm)(t:Nat)(ts:List Nat)(x:AV)(xs:List AV),lA T (t::ts) (x::xs)=lA (upd T t x) ts xs)/\(∀(T:Tm)(xs:List AV),lA T [] xs=T):=
 ⟨λ_ _=>rfl,λ_ _=>rfl,λ_ _ _ _=>rfl,λ_ _ _=>rfl,λ_ _=>rfl,λ_ _=>rfl,λ_ _ _=>rfl,λ_=>rfl,λ_ _ _ _=>rfl,λ_=>rfl,λ_ _ _ _ _=>rfl,λ_ xs=>by cases xs<;>rfl⟩
theorem SV:(∀(T:Tm)(H:Hp)(x:Opd),b9 T H (.mov x)=some (ov T x))/\
    (∀(T:Tm)(H:Hp)(c a b:Opd),b9 T H (.pick c a b)=match ov T c with|.bool t=>some (if t=true then ov T a else ov T b)|_=>none)/\
    (∀(T:Tm)(H:Hp)(a:Opd),b9 T H (.ld1 a)=rd1 H (ov T a))/\(∀(T:Tm)(H:Hp)(k:Nat)(a:Opd),b9 T H (.ldn k a)=(rd H k (ov T a)).map .agg)/\
    (∀(T:Tm)(H:Hp)(op:BinOp)(tb tf:Bool)(x y:Opd),b9 T H (.bin op tb tf x y)=bw op tb tf (ov T x) (ov T y))/\
    (∀(T:Tm)(H:Hp)(op:UnOp)(x:Opd),b9 T H (.un op x)=aun op (ov T x))/\
    (∀(T:Tm)(H:Hp)(f:FuncId)(caps:List Opd),b9 T H (.mkfn f caps)=some (.func f (caps.map (ov T))))/\
    (∀(T:Tm)(H:Hp)(k:Nat)(p:Opd),b9 T H (.fa k p)=mc k (ov T p))/\
    (∀(T:Tm)(H:Hp)(sz:Nat)(x i:Opd),b9 T H (.ixaS sz x i)=eF sz (ov T x) (ov T i))/\
    (∀(T:Tm)(H:Hp)(x:Opd)(i:Nat),b9 T H (.ext x i)=iZ (ov T x) i)/\
    (∀(T:Tm)(H:Hp)(x:Opd),b9 T H (.lenS x)=dz (ov T x))/\
    (∀(T:Tm)(H:Hp)(z:List AV)(parts:List (Nat×Nat×Opd)),b9 T H (.bld z parts)=(eB z (parts.map λp=>(p.1,p.2.1,ov T p.2.2))).map .agg)/\
    (∀(T:Tm)(H:Hp)(x:Opd)(l:List Opd),b9 T H (.mx x l)=iM pS (ov T x) (l.map (ov T)))/\
    (∀(T:Tm)(H:Hp)(x:Opd)(l:List Opd),b9 T H (.mn x l)=iM pP (ov T x) (l.map (ov T)))/\
    (∀(T:Tm)(H:Hp)(k:IntKind)(x:Opd),b9 T H (.conv k x)=vC (ov T x) λn=>some (.int k (k.wrap n)))/\
    (∀(T:Tm)(H:Hp)(sz:Nat)(x:Opd)(lo hi mx:Option Opd),b9 T H (.sls sz x lo hi mx)=kI sz (ov T x) (lo.map (ov T)) (hi.map (ov T)) (mx.map (ov T)))/\
    (∀(T:Tm)(H:Hp)(off:Nat)(x:Opd),b9 T H (.part1 off x)=ib (ov T x) λcs=>cs[off]?)/\
    (∀(T:Tm)(H:Hp)(op:BinOp)(ks:List TK)(x y:Opd),b9 T H (.binS op ks x y)=ib (ov T x) λxs=>ib (ov T y) λys=>pe op ks xs ys):=
 ⟨fun _ _ _=>rfl,fun _ _ _ _ _=>rfl,fun _ _ _=>rfl,fun _ _ _ _=>rfl,fun _ _ _ _ _ _ _=>rfl,fun _ _ _ _=>rfl,fun _ _ _ _=>rfl,fun _ _ _ _=>rfl,fun _ _ _ _ _=>rfl,fun _ _ _ _=>rfl,fun _ _ _=>rfl,
  λ_ _ _ _=>rfl,λ_ _ _ _=>rfl,λ_ _ _ _=>rfl,λ_ _ _ _=>rfl,λ_ _ _ _ _ _ _=>rfl,λ_ _ _ _=>rfl,λ_ _ _ _ _ _=>rfl⟩
def oH:AV->AV->Option AV
 |.str s,.int _ n=>if 0<=n/\n<s.size then some (.int .u8 (s[n.toNat]?.getD 0).toNat) else none
 |_,_=>none
theorem SV2:(∀(T:Tm)(H:Hp)(x i:Opd),b9 T H (.ixStr x i)=oH (ov T x) (ov T i))/\
    (∀(s:ByteArray)(k:IntKind)(n:Int),oH (.str s) (.int k n)=if 0<=n/\n<s.size then some (.int .u8 (s[n.toNat]?.getD 0).toNat) else none):=
 ⟨fun T H x i=>by
  simp only[b9];cases ov T x<;>cases ov T i<;>rfl,λ_ _ _=>rfl⟩
theorem SN:(∀(k:IntKind)(a b:Int)(tb tf:Bool),bw .lss tb tf (.int k a) (.int k b)=some (.bool (decide (a<b))))/\(∀(k:IntKind)(a b:Int)(tb tf:Bool),bw .leq tb tf (.int k a) (.int k b)=some (.bool (decide (a<=b))))/\
    (∀(k:IntKind)(a b:Int)(tb tf:Bool),bw .gtr tb tf (.int k a) (.int k b)=some (.bool (decide (b<a))))/\(∀(k:IntKind)(a b:Int)(tb tf:Bool),bw .geq tb tf (.int k a) (.int k b)=some (.bool (decide (b<=a))))/\
    (∀(k:IntKind)(a b:Int)(tb tf:Bool),bw .eql tb tf (.int k a) (.int k b)=some (.bool (decide (a=b))))/\(∀(k:IntKind)(a b:Int)(tb tf:Bool),bw .neq tb tf (.int k a) (.int k b)=some (.bool (decide (a≠b))))/\
    (∀(k:IntKind)(a b:Int)(tb tf:Bool),bw .add tb tf (.int k a) (.int k b)=some (.int k (k.wrap (a+b))))/\(∀(k:IntKind)(a b:Int)(tb tf:Bool),bw .sub tb tf (.int k a) (.int k b)=some (.int k (k.wrap (a-b))))/\
    (∀(k:IntKind)(a b:Int)(tb tf:Bool),bw .mul tb tf (.int k a) (.int k b)=some (.int k (k.wrap (a*b))))/\
    (∀(a b:Bool)(tf:Bool),bw .eql true tf (.bool a) (.bool b)=some (.bool (a==b)))/\(∀(a b:Bool)(tf:Bool),bw .neq true tf (.bool a) (.bool b)=some (.bool (!(a==b))))/\
    (∀tb:Bool,bw .eql tb true .nilf .nilf=some (.bool true))/\(∀tb:Bool,bw .neq tb true .nilf .nilf=some (.bool false))/\
    (∀(tb:Bool)(f:FuncId)(c:List AV),bw .eql tb true (.func f c) .nilf=some (.bool false))/\(∀(tb:Bool)(f:FuncId)(c:List AV),bw .neq tb true (.func f c) .nilf=some (.bool true))/\
    (∀b:Bool,aun .not (.bool b)=some (.bool (!b)))/\
    (∀(k:IntKind)(a b:Int),pS (.int k a) (.int k b)=some (.int k (max a b)))/\(∀(k:IntKind)(a b:Int),pP (.int k a) (.int k b)=some (.int k (min a b)))/\
    (∀(f:AV->AV->Option AV)(x:AV),iM f x []=some x)/\(∀(f:AV->AV->Option AV)(x y:AV)(l:List AV),iM f x (y::l)=match f x y with|some z=>iM f z l|none=>none)/\
    (∀(k:Nat)(b n off:Nat),mc k (.ptr b n off)=some (.ptr b n (off+k)))/\(∀(k:Nat)(cs:List AV)(off:Nat),mc k (.iptr cs off)=some (.iptr cs (off+k)))/\
    (∀(cs:List AV)(off:Nat),rd1 bN (.iptr cs off)=cs[off]?):=
 ⟨fun _ _ _ _ _=>IL,fun _ _ _ _ _=>II,fun _ _ _ _ _=>HN,fun _ _ _ _ _=>IR,fun _ _ _ _ _=>Ix,fun _ _ _ _ _=>HC,fun _ _ _ _ _=>Iu,fun _ _ _ _ _=>IG,fun _ _ _ _ _=>HU,
  λ_ _ _=>rfl,λ_ _ _=>rfl,λ_=>rfl,λ_=>rfl,λ_ _ _=>rfl,λ_ _ _=>rfl,λ_=>rfl,
  λk a b=>by simp only[pS,Int.max_def];split<;>split<;>simp <;>omega,λk a b=>by simp only[pP,Int.min_def];split<;>split<;>simp <;>omega,λ_ _=>rfl,λ_ _ _ _=>rfl,λ_ _ _ _=>rfl,λ_ _ _=>rfl,λ_ _=>rfl⟩
theorem SL:(∀(a:AV)(l:List AV),(a::l)[0]?=some a)/\(∀(a:AV)(l:List AV)(n:Nat),(a::l)[n+1]?=l[n]?)/\(∀(l:List AV),l.drop 0=l)/\(∀(a:AV)(l:List AV)(n:Nat),(a::l).drop (n+1)=l.drop n)/\(∀n:Nat,([]:List AV).drop n=[])/\
    (∀(l:List AV),l.take 0=[])/\(∀(a:AV)(l:List AV)(n:Nat),(a::l).take (n+1)=a::l.take n)/\(∀n:Nat,([]:List AV).take n=[])/\(∀(l:List AV),[]++l=l)/\(∀(l:List AV),l++[]=l)/\(∀(a:AV)(l m:List AV),(a::l)++m=a::(l++m))/\
    (∀(cs:List AV)(off:Nat)(new:List AV),bJ cs off new=cs.take off++new++cs.drop (off+new.length))/\(([]:List AV).length=0)/\(∀(a:AV)(l:List AV),(a::l).length=l.length+1)/\
    (∀(k:IntKind)(n:Int),(AV.int k n).cells=[.int k n])/\(∀b:Bool,(AV.bool b).cells=[.bool b])/\(∀s:ByteArray,(AV.str s).cells=[.str s])/\(∀(k:Nat)(l:List AV),(AV.sl k l).cells=[.sl k l])/\(∀l:List AV,(AV.agg l).cells=l)/\(AV.esl.cells=[.esl])/\(AV.nilf.cells=[.nilf])/\
    (∀(f:FuncId)(c:List AV),(AV.func f c).cells=[.func f c])/\(∀(b n off:Nat),(AV.ptr b n off).cells=[.ptr b n off])/\(∀(c:List AV)(off:Nat),(AV.iptr c off).cells=[.iptr c off])/\(∀(b n sz off len:Nat),(AV.msl b n sz off len).cells=[.msl b n sz off len])/\(∀b:Nat,(AV.yld b).cells=[.yld b])/\(∀b:Nat,(AV.mp b).cells=[.mp b])/\(AV.nilp.cells=[.nilp])/\(∀(f:FuncId)(c:List AV),(AV.bfn f c).cells=[.bfn f c]):=
 ⟨fun _ _=>rfl,fun _ _ _=>rfl,fun _=>rfl,fun _ _ _=>rfl,fun n=>by cases n <;> rfl,fun _=>rfl,fun _ _ _=>rfl,fun n=>by cases n <;> rfl,fun _=>rfl,fun l=>fR l,fun _ _ _=>rfl,fun _ _ _=>rfl,rfl,fun _ _=>rfl,
  λ_ _=>rfl,λ_=>rfl,λ_=>rfl,λ_ _=>rfl,λ_=>rfl,rfl,rfl,λ_ _=>rfl,λ_ _ _=>rfl,λ_ _=>rfl,λ_ _ _ _ _=>rfl,λ_=>rfl,λ_=>rfl,rfl,λ_ _=>rfl⟩
def AV.ones(l:List AV):Bool:=l.all AV.one
theorem SO:(AV.ones []=true)/\(∀(a:AV)(l:List AV),AV.ones (a::l)=(a.one&&AV.ones l))/\(∀(k:IntKind)(n:Int),(AV.int k n).one=true)/\(∀b:Bool,(AV.bool b).one=true)/\(∀s:ByteArray,(AV.str s).one=true)/\(∀(k:Nat)(l:List AV),(AV.sl k l).one=true)/\(AV.esl.one=true)/\(AV.nilf.one=true)/\
    (∀(f:FuncId)(c:List AV),(AV.func f c).one=true)/\(∀(b n off:Nat),(AV.ptr b n off).one=true)/\(∀(c:List AV)(off:Nat),(AV.iptr c off).one=true)/\(∀(b n sz off len:Nat),(AV.msl b n sz off len).one=true)/\(∀b:Nat,(AV.yld b).one=true)/\(∀b:Nat,(AV.mp b).one=true)/\(AV.nilp.one=true)/\(∀l:List AV,l.all AV.one=AV.ones l):=
 ⟨rfl,λ_ _=>by simp[AV.ones],λ_ _=>rfl,λ_=>rfl,λ_=>rfl,λ_ _=>rfl,rfl,rfl,λ_ _=>rfl,λ_ _ _=>rfl,λ_ _=>rfl,λ_ _ _ _ _=>rfl,λ_=>rfl,λ_=>rfl,rfl,λ_=>rfl⟩
variable{P:Program}{T:Tm}{H:Hp}{nx:Nat}
theorem su{dm:DM}{K:SP}{l:List Op2}{d:Option Nat}{z:AV}{cs:List AV}(hd:dm2 dm T (.alloc z)=true)(hc:z.cells=cs)(ho:AV.ones cs=true)(k:an P dm l (aO T d (.ptr nx cs.length 0)) (ay H nx cs) (nx+1) K):an P dm (⟨d,none,.alloc z⟩::l) T H nx K:=by
 subst hc;refine oC rfl hd ?_ k;simp only[ki,vv];rw[if_pos (show z.flat=true from ho)]
theorem Jg{dm:DM}{K:SP}{l:List Op2}{d:Option Nat}{x:Opd}{v:AV}{cs:List AV}(hd:dm2 dm T (.box x)=true)(hx:ov T x=v)(hc:v.cells=cs)(ho:AV.ones cs=true)(k:an P dm l (aO T d (.ptr nx cs.length 0)) (ay H nx cs) (nx+1) K):an P dm (⟨d,none,.box x⟩::l) T H nx K:=by
 subst hc hx;refine oC rfl hd ?_ k;simp only[ki,vv];rw[if_pos (show(ov T x).flat=true from ho)]
theorem Kp{dm:DM}{K:SP}{l:List Op2}{d:Option Nat}{sz:Nat}{p x:Opd}{b n off:Nat}{v:AV}{cs vs:List AV}(hd:dm2 dm T (.st sz p x)=true)(hp:ov T p=.ptr b n off)(hx:ov T x=v)(hb:H b=some cs)(hc:v.cells=vs)(ho:AV.ones vs=true)(hn:cs.length=n)(hl:vs.length=sz)(hf:off+sz<=n)
    (k:an P dm l (aO T d (.tup [])) (ay H b (bJ cs off vs)) nx K):an P dm (⟨d,none,.st sz p x⟩::l) T H nx K:=by
 subst hc hx;refine oC rfl hd ?_ k;simp only[ki,hp,hb];rw[if_pos ⟨hn,ho,hl,hf⟩]
theorem yQ{dm:DM}{K:SP}{l:List Op2}{d:Option Nat}{sz bytes:Nat}{z:List AV}{x y:Opd}{k1 k2:IntKind}{n m:Int}(hd:dm2 dm T (.mks sz bytes z x y)=true)(hx:ov T x=.int k1 n)(hy:ov T y=.int k2 m)(h0:0<=n)(h1:n<=m)(h2:m<=9223372036854775807)(h3:bytes*m<=281474976710656)
    (k:an P dm l (aO T d (.msl nx (m.toNat*sz) sz 0 n.toNat)) (ay H nx (bD (.agg z) m.toNat)) (nx+1) K):an P dm (⟨d,none,.mks sz bytes z x y⟩::l) T H nx K:=by
 refine oC rfl hd ?_ k;simp only[ki,hx,hy];rw[if_pos ⟨h0,h1,h2,h3⟩]
theorem Ja{dm:DM}{K:SP}{l:List Op2}{d:Option Nat}{sz len:Nat}{z:List AV}{parts:List (Nat×Nat×Opd)}{pv:List (Nat×Nat×AV)}{cs:List AV}(hd:dm2 dm T (.bldS sz len z parts)=true)(hl:len≠0)(hp:parts.map (λp=>(p.1,p.2.1,ov T p.2.2))=pv)(hc:eB (bD (.agg z) len) pv=some cs)
    (k:an P dm l (aO T d (.msl nx cs.length sz 0 len)) (ay H nx cs) (nx+1) K):an P dm (⟨d,none,.bldS sz len z parts⟩::l) T H nx K:=by
 refine oC rfl hd ?_ k;simp only[ki,hl,if_false,hp,hc]
theorem FC{dm:DM}{K:SP}{l:List Op2}{d:Option Nat}{sz:Nat}{z:List AV}(hd:dm2 dm T (.bldS sz 0 z [])=true)(k:an P dm l (aO T d .esl) H nx K):an P dm (⟨d,none,.bldS sz 0 z []⟩::l) T H nx K:=by
 refine oC rfl hd ?_ k;simp[ki]
theorem jd{dm:DM}{K:SP}{l:List Op2}{d:Option Nat}{sz bytes n:Nat}{s x:Opd}{v:AV}{new:List AV}(hd:dm2 dm T (.app sz bytes s x)=true)(hs:ov T s=.esl)(hx:ov T x=v)(hsrc:gI sz H v=some (n,new))(ho:AV.ones new=true)(h1:n*bytes<=140737488355328)(h2:n<=9223372036854775807)
    (k:an P dm l (aO T d (.msl nx (n*sz) sz 0 n)) (ay H nx new) (nx+1) K):an P dm (⟨d,none,.app sz bytes s x⟩::l) T H nx K:=by
 subst hx;refine oC rfl hd ?_ k;simp only[ki,IA,hs,hsrc];rw[if_pos (show new.all AV.one=true from ho),if_pos ⟨h1,h2⟩]
theorem AO{dm:DM}{K:SP}{l:List Op2}{d:Option Nat}{sz bytes n:Nat}{s x:Opd}{v:AV}{new cs:List AV}{b m len:Nat}(hd:dm2 dm T (.app sz bytes s x)=true)(hs:ov T s=.msl b m sz 0 len)(hb:H b=some cs)(hx:ov T x=v)(hsrc:gI sz H v=some (n,new))(ho:AV.ones new=true)(hm:cs.length=m)(hl:m=len*sz)
    (h1:(len+n)*bytes<=140737488355328) (h2:len+n<=9223372036854775807)
    (k:an P dm l (aO T d (.msl b ((len+n)*sz) sz 0 (len+n))) (ay H b (cs++new)) nx K):an P dm (⟨d,none,.app sz bytes s x⟩::l) T H nx K:=by
 subst hx;refine oC rfl hd ?_ k;simp only[ki,IA,hs,hsrc,hb];rw[if_pos (show new.all AV.one=true from ho),if_pos ⟨hm,trivial⟩,if_pos ⟨trivial,hl,h1,h2⟩]
theorem BJ{dm:DM}{K:SP}{l:List Op2}{d:Option Nat}{sz bytes n:Nat}{s x:Opd}{v:AV}{new cs:List AV}{b m off len:Nat}(hd:dm2 dm T (.app sz bytes s x)=true)(hs:ov T s=.msl b m sz off len)(hb:H b=some cs)(hx:ov T x=v)(hsrc:gI sz H v=some (n,new))(ho:AV.ones new=true)(hm:cs.length=m)(hl:off=0->m≠len*sz)(h0:0<m)(h1:off+(len+n)*sz<=m)
    (k:an P dm l (aO T d (.msl b m sz off (len+n))) (ay H b (bJ cs (off+len*sz) new)) nx K):an P dm (⟨d,none,.app sz bytes s x⟩::l) T H nx K:=by
 subst hx;refine oC rfl hd ?_ k;simp only[ki,IA,hs,hsrc,hb];rw[if_pos (show new.all AV.one=true from ho),if_pos ⟨hm,trivial⟩,if_neg (λh=>hl h.1 h.2.1),if_pos ⟨h1,h0⟩]
theorem kr{sz:Nat}{l:List AV}:gI sz H (.sl sz l)=some (l.length,l.flatMap AV.cells):=by simp[gI]
theorem pq{sz:Nat}:gI sz H .esl=some (0,[]):=rfl
theorem fE{sz b n off len:Nat}{cs:List AV}(h:H b=some cs)(hn:cs.length=n)(hf:off+len*sz<=n):gI sz H (.msl b n sz off len)=some (len,(cs.drop off).take (len*sz)):=by
 simp only[gI];split
 ·rename_i h0;subst h0;simp
 ·simp only[h,hn,true_and,hf,if_true]
theorem SR:(∀(H:Hp)(b n off:Nat),rd1 H (.ptr b n off)=match H b with|some cs=>if cs.length=n then cs[off]? else none|none=>none)/\
    (∀(H:Hp)(k b n off:Nat),rd H k (.ptr b n off)=match H b with|some cs=>if cs.length=n/\off+k<=n then some ((cs.drop off).take k) else none|none=>none)/\
    (∀(H:Hp)(cs:List AV)(off:Nat),rd1 H (.iptr cs off)=cs[off]?)/\(∀(H:Hp)(cs:List AV)(off k:Nat),rd H k (.iptr cs off)=if off+k<=cs.length then some ((cs.drop off).take k) else none)/\
    (∀(l:List AV)(i:Nat),iZ (.tup l) i=l[i]?)/\(∀(l:List AV)(f:List AV->Option AV),ib (.agg l) f=f l)/\(∀(k:IntKind)(n:Int)(f:Int->Option AV),vC (.int k n) f=f n)/\
    (∀(cs:List AV),eB cs []=some cs)/\
    (∀(cs:List AV)(off sz:Nat)(x:AV)(r:List (Nat×Nat×AV)),eB cs ((off,sz,x)::r)=if AV.ones x.cells=true/\x.cells.length=sz/\off+sz<=cs.length then eB (bJ cs off x.cells) r else none)/\
    (∀(b n sz off len:Nat),dz (.msl b n sz off len)=some (.int .i64 len))/\(dz .esl=some (.int .i64 0))/\(∀(sz:Nat)(l:List AV),dz (.sl sz l)=some (.int .i64 l.length))/\
    (∀(z:AV),bD z 0=[])/\(∀(z:AV)(n:Nat),bD z (n+1)=z.cells++bD z n):=
 ⟨λ_ _ _ _=>rfl,λ_ _ _ _ _=>rfl,λ_ _ _=>rfl,λ_ _ _ _=>rfl,λl i=>by cases l<;>rfl,λ_ _=>rfl,λ_ _ _=>rfl,λ_=>rfl,λ_ _ _ _ _=>rfl,λ_ _ _ _ _=>rfl,rfl,λ_ _=>rfl,λ_=>rfl,λz n=>by simp[bD,List.replicate_succ]⟩
end Go.Abs
namespace Go.Abs
theorem cC{H:Hp}{a b:Bool}(h:a=b):Snap H (.bool a) (.bool b):=by subst h;exact .bool _
theorem eh{H:Hp}{k:IntKind}{a b:Int}(h:a=b):Snap H (.int k a) (.int k b):=by subst h;exact .int _ _
theorem bt{H:Hp}{l m:List AV}(h:aL H l m):Snap H (.tup l) (.tup m):=.tup l m h.1 h.2
theorem ja{H:Hp}{l m:List AV}(h:aL H l m):Snap H (.agg l) (.agg m):=.agg l m h.1 h.2
theorem ag{H:Hp}{x y:AV}{xs ys:List AV}(h:Snap H x y)(hs:aL H xs ys):aL H (x::xs) (y::ys):=aL.cons h hs
theorem Dat.snap{H:Hp}{x:AV}(h:Dat x):Snap H x x:=h H
theorem bZ{P:Program}{b:C2}{T:Tm}{H:Hp}{nx:Nat}{K:CP}{X:Type}(L:X->List (Nat×AV))(I:X->Hp->Nat->Prop)(μ:X->Nat)(x0:X)(h0:I x0 H nx)(hT:agr T (L x0))
    (step:∀x H nx,I x H nx->aK P b (tl (L x)) H nx λe T H' nx'=>aR e (∃y,μ y<μ x/\I y H' nx'/\agr T (L y)) (K e T H' nx')):a5 (aK P b) T H nx K:=by
 refine FB (X:=X×Hp×Nat) (λx=>tl (L x.1)) (λx=>x.2.1) (λx=>x.2.2) (λx=>I x.1 x.2.1 x.2.2) (λx=>μ x.1) ⟨(x0,H,nx),h0,_,Gh.weak (ux hT)⟩ (λx hx=>ea b (step x.1 x.2.1 x.2.2 hx) (λe T H' nx' h=>?_));cases e with
 |normal=>
  obtain⟨y,h1,h2,h3⟩:=h;exact⟨(y,H',nx'),h2,h1,_,Gh.weak (ux h3)⟩
 |exit i=>exact h
 |ret=>exact h
def fT(Hf:Hp)(cs cs':List AV):Prop:=cs'.length=cs.length/\∀(i:Nat)(x x':AV),cs[i]?=some x->cs'[i]?=some x'->x'=x\/Snap Hf x x'
theorem fT.refl(Hf:Hp)(cs:List AV):fT Hf cs cs:=⟨rfl,λi x x' h1 h2=>.inl (by rw[h1] at h2;cases h2;rfl)⟩
theorem fT.snoc{Hf:Hp}{cs:List AV}{x x':AV}(h:Snap Hf x x'):fT Hf (cs++[x]) (cs++[x']):=by
 refine⟨by simp,λi y y' h1 h2=>?_⟩;by_cases hi:i<cs.length
 ·rw[hU hi] at h1 h2;rw[h1] at h2;cases h2;exact .inl rfl
 ·rw[je (by omega)] at h1 h2;cases hj:i-cs.length with
  |zero=>rw[hj] at h1 h2;simp at h1 h2;subst h1 h2;exact .inr h
  |succ j=>rw[hj] at h1;simp at h1
structure Fz(Hf H H':Hp):Prop where
 sub:∀b cs,Hf b=some cs->H b=some cs
 to:∀b cs',H' b=some cs'->∃cs,H b=some cs/\Hf b=none/\fT Hf cs cs'
def Bd(Hf:Hp)(T:Tm):List (Nat×AV)->Prop
 |[]=>True
 |(d,v)::l=>(T d=v\/Snap Hf (T d) v)/\Bd Hf T l
theorem CC{Hf:Hp}{T:Tm}:∀{l:List (Nat×AV)},Bd Hf T l->∀t,tl l t=.undef\/tl l t=T t\/Snap Hf (T t) (tl l t)
 |[],_,t=>.inl rfl
 |(d,v)::l,h,t=>by
  simp only[tl];split
  ·rename_i e;subst e;rcases h.1 with h1|h1
   ·exact .inr (.inl h1.symm)
   ·exact .inr (.inr h1)
  ·exact CC h.2 t
theorem Fz.gh{Hf H H':Hp}{T:Tm}{l:List (Nat×AV)}{nx:Nat}(h:Fz Hf H H')(ha:Bd Hf T l):Gh T H nx (tl l) H' nx Hf:=
 ⟨h.sub,aP _,fun b cs' hb=>by
  obtain⟨cs,h1,h2,h3,h4⟩:=h.to b cs' hb;exact .inl ⟨cs,h1,h2,h3,λi x x' hx hx'=>(h4 i x x' hx hx').imp id .inl⟩,λt=>by
  rcases CC ha t with h1|h1|h1
  ·exact .inl h1
  ·exact .inr (.inl h1)
  ·exact .inr (.inr (.inl h1))⟩
def only(b:Nat)(cs:List AV):Hp:=λx=>if x=b then some cs else none
theorem gX{b:Nat}{cs:List AV}:only b cs b=some cs:=by simp[only]
theorem qh{P:Program}{T:Tm}{H:Hp}{nx:Nat}{K:CP}{l:List Op2}(Hf H':Hp)(L:List (Nat×AV))(hf:Fz Hf H H')(ha:Bd Hf T L)(h:an P .text l (tl L) H' nx λT H nx=>K .normal T H nx):aK P (.ops 0 l) T H nx K:=⟨_,H',nx,Hf,hf.gh ha,h⟩
theorem Fz.one{H:Hp}{b:Nat}{cs:List AV}(hb:H b=some cs):Fz (only b cs) H (dp H b):=
 ⟨fun x c h=>by unfold only at h; split at h <;> cases h; subst_vars; exact hb,fun x c h=>by
  have:=qP h;exact⟨c,this.2,by simp[only,this.1],fT.refl _ _⟩⟩
theorem Fz.all{H:Hp}:Fz H H bN:=⟨λ_ _ h=>h,λ_ _ h=>(by cases h)⟩
theorem gK{T:Tm}{Hf:Hp}:∀{l:List (Nat×AV)},agr T l->Bd Hf T l
 |[],_=>trivial
 |(_,_)::_,h=>⟨.inl h.1,gK h.2⟩
theorem uo{P:Program}{b:C2}{T:Tm}{H:Hp}{nx:Nat}{K:CP}{X:Type}(L:X->List (Nat×AV))(I:X->Hp->Nat->Prop)(μ:X->Nat)(x0:X)(h0:∃Hf H',Fz Hf H H'/\I x0 H' nx/\Bd Hf T (L x0))
    (step:∀x H nx,I x H nx->aK P b (tl (L x)) H nx λe T H' nx'=>aR e (∃y,μ y<μ x/\∃Hf H'',Fz Hf H' H''/\I y H'' nx'/\Bd Hf T (L y)) (K e T H' nx')):a5 (aK P b) T H nx K:=by
 obtain⟨Hf,H0,hf,hI,ha⟩:=h0;refine FB (X:=X×Hp×Nat) (λx=>tl (L x.1)) (λx=>x.2.1) (λx=>x.2.2) (λx=>I x.1 x.2.1 x.2.2) (λx=>μ x.1) ⟨(x0,H0,nx),hI,_,hf.gh ha⟩ (λx hx=>ea b (step x.1 x.2.1 x.2.2 hx) (λe T H' nx' h=>?_));cases e with
 |normal=>
  obtain⟨y,h1,Hf,H'',h2,h3,h4⟩:=h;exact⟨(y,H'',nx'),h3,h1,_,h2.gh h4⟩
 |exit i=>exact h
 |ret=>exact h
theorem Fz.none{H:Hp}:Fz bN H H:=⟨λ_ _ h=>(by cases h),λb cs h=>⟨cs,h,rfl,fT.refl _ _⟩⟩
theorem nN{α:Type}[DecidableEq α](k:MK)(enc:α->AV)(h:∀a b,pR k (enc a) (enc b)=some (decide (a=b)))(v:α):∀ks:List α,dw k (enc v) (ks.map enc)=some (if v∈ks then some (ks.idxOf v) else none)
 |[]=>rfl
 |x::l=>by
  simp only[fF,dw,h];by_cases e:v=x
  ·subst e;simp
  ·have e':x≠v:=λh=>e h.symm;simp only[e,decide_false,nN k enc h v l,mN,dt,false_or];by_cases hm:v∈l
   ·simp only[hm,if_true,mN];simp[List.idxOf_cons,beq_eq_false_iff_ne.2 e']
   ·simp[hm]
theorem qM{α:Type}{l:List α}{n k:Nat}{d:α}(h:k<n):(l.take n).getD k d=l.getD k d:=by
 simp only[List.getD,jy,if_pos h]
theorem B5{α:Type}[Inhabited α]{l:List α}{k:Nat}(h:k<l.length):l.take (k+1)=l.take k++[l.getD k default]:=by
 rw[List.take_add_one];simp[List.getD,h]
theorem fK{α:Type}[Inhabited α]{l:List α}{k:Nat}(h:k<l.length):l.drop k=l.getD k default::l.drop (k+1):=by
 rw[List.drop_eq_getElem_cons h];simp[List.getD,h]
theorem ah{H:Hp}{b:Nat}{cs:List AV}:ay H b cs b=some cs:=if_pos rfl
theorem wB{H:Hp}{f:FuncId}{l m:List AV}(h:aL H l m):Snap H (.func f l) (.func f m):=.func f l m h.1 h.2
theorem zG{H:Hp}{b n off:Nat}{cs cs':List AV}(hb:H b=some cs)(hn:cs.length=n)(h:aL H cs cs'):Snap H (.ptr b n off) (.iptr cs' off):=.ptr b n off cs cs' hb hn (by rw[h.1,hn]) h.2
theorem Dat.iptr{cs:List AV}{off:Nat}(h:∀x∈cs,Dat x):Dat (.iptr cs off):=λH=>.iptr cs cs off rfl (λi a c ha hc=>by rw[ha] at hc;cases hc;exact h a (gJ ha) H)
theorem DatL.nil:∀x∈([]:List AV),Dat x:=by simp
theorem DatL.cons{x:AV}{l:List AV}(h:Dat x)(hl:∀y∈l,Dat y):∀y∈x::l,Dat y:=λy hy=>(dt.1 hy).elim (λe=>e▸h) (hl y)
theorem jP{H:Hp}{b n off len:Nat}{cs:List AV}{l:List AV}(hb:H b=some cs)(hn:cs.length=n)(hf:off+len<=n)(hl:l.length=len)(hc:∀y∈l,y.cells=[y])(h:∀(i:Nat)(a c:AV),cs[off+i]?=some a->l[i]?=some c->Snap H a c):Snap H (.msl b n 1 off len) (.sl 1 l):=by
 refine .msl b n 1 off len cs l hb hn (by omega) hl (λy hy=>by rw[hc y hy];rfl) (λi j y a c hy hc' ha=>?_);rw[hc y (gJ hy)] at hc';cases j with
 |zero=>simp at hc';subst hc';exact h i a y (by simpa using ha) hy
 |succ j=>simp at hc'
theorem ew{H:Hp}{b n len:Nat}{l:List Int}(hb:H b=some (l.map (AV.int .i64)))(hn:n=len)(hl:l.length=len):Snap H (.msl b n 1 0 len) (aD l):=by
 subst hn;refine jP hb (by simp[hl]) (by omega) (by simp[hl]) (λy hy=>by simp at hy;obtain⟨n,_,rfl⟩:=hy;rfl) (λi a c ha hc=>?_);rw[cq] at ha;rw[ha] at hc;cases hc;simp at ha;obtain⟨n,_,rfl⟩:=ha;exact .int _ _
theorem bq{H:Hp}:∀{l:List AV},(∀x∈l,Dat x)->aL H l l
 |[],_=>aL.nil
 |x::l,h=>aL.cons (h x (by simp) H) (bq (λy hy=>h y (by simp[hy])))
theorem bc{α:Type}[Inhabited α]{l:List α}{k:Nat}(h:k<l.length):l.getD k default∈l:=by
 have:l.getD k default=l[k]:=by simp[List.getD,h]
 rw[this];exact n7 h
theorem gD{H:Hp}{l:List Int}:gI 1 H (aD l)=some (l.length,l.map (AV.int .i64)):=by
 unfold aD;rw[kr]
 congr 2
 ·simp
 ·induction l with
  |nil=>rfl
  |cons a l ih=>simp only[fF,vj,ih];rfl
theorem iW{l:List Int}:AV.ones (l.map (AV.int .i64))=true:=by
 simp[AV.ones,AV.one]
theorem jB{l:List (List Int)}:AV.ones (l.map aD)=true:=by
 simp[AV.ones,aD,AV.one]
theorem io{H:Hp}{l:List (List Int)}:gI 1 H (br l)=some (l.length,l.map aD):=by
 unfold br;rw[kr]
 congr 2
 ·simp
 ·induction l with
  |nil=>rfl
  |cons a l ih=>simp only[fF,vj,ih];rfl
theorem Bz{l:List Int}:fW (aD l)=some l.length:=by simp[fW,aD]
theorem zq{l:List (List Int)}:fW (br l)=some l.length:=by simp[fW,br]
theorem eW{l:List Int}:(aD l).one=true:=rfl
theorem eb{l:List (List Int)}:(br l).one=true:=rfl
theorem qu{H:Hp}{b n len:Nat}{l:List AV}(hb:H b=some l)(hn:n=len)(hl:l.length=len)(hc:∀y∈l,y.cells=[y]/\Dat y):Snap H (.msl b n 1 0 len) (.sl 1 l):=by
 subst hn;refine jP hb hl (by omega) hl (λy hy=>(hc y hy).1) (λi a c ha hc'=>?_);rw[cq] at ha;rw[ha] at hc';cases hc';exact(hc a (gJ ha)).2 H
theorem Dx{H:Hp}{b n len:Nat}{l:List (List Int)}(hb:H b=some (l.map aD))(hn:n=len)(hl:l.length=len):Snap H (.msl b n 1 0 len) (br l):=
 qu hb hn (by simp[hl]) (λy hy=>by simp at hy;obtain⟨n,_,rfl⟩:=hy;exact⟨rfl,cJ n⟩)
theorem r_0{T:Tm}{H:Hp}{K:AV->Prop}(h:K (.tup [])):bu T H K []:=h
theorem getElem?_map_lt{α:Type}[Inhabited α]{f:α->AV}{l:List α}{k:Nat}(h:k<l.length):(l.map f)[k]?=some (f (l.getD k default)):=by
 simp[List.getD,h]
theorem GV{sz b m off len:Nat}{k:IntKind}{n:Int}:eF sz (.msl b m sz off len) (.int k n)=if 0<=n/\n<len then some (.ptr b m (off+n.toNat*sz)) else none:=by simp[eF]
theorem nQ{P:Program}{T:Tm}{H:Hp}{nx:Nat}{K:CP}{g:Opd}{ps:List Nat}{a b:C2}{f:FuncId}{caps:List AV}(y y1:Nat)(hy:nx=y)(hy1:y+1=y1)(hg:ov T g=.func f caps)
    (h:∀ (c0:AV) (cj:AEx→AV),(∀ (args:List AV) (H':Hp) (nx':Nat) (K':AV→Hp→Nat→Prop),H' y=some [c0]→args.length=ps.length →
        aK P a (lA T ps args) H' nx' (λe T2 H2 nx2=>aR e (H2 y=some [c0]/\aK P b T2 (dp H2 y) nx2 λe T3 H3 nx3=>aR e (K' (.bool true) (ay H3 y [c0]) nx3) (K' (.bool false) (ay H3 y [cj e]) nx3)) False)->
        Yl P y args H' nx' K')->
     Fn P f (.yld y::caps) (ay H y [c0]) y1 λ_ H' nx'=>(H' y=some [c0]/\K .normal T (dp H' y) nx')\/ ∃e,e≠.normal/\H' y=some [cj e]/\K e T (dp H' y) nx'):aK P (.rangeF g ps a b) T H nx K:=by
 subst hy hy1;exact He hg h
theorem w6{H:Hp}{b n len:Nat}{l:List Int}(hb:H b=some (l.map (AV.int .i64)))(hn:n=len)(hl:l.length=len):SnapF H (.msl b n 1 0 len) (aD l):=by
 subst hn;refine .msl b n 1 0 n _ _ hb (by simp[hl]) (by omega) (by simp[hl]) (λy hy=>by simp at hy;obtain⟨n,_,rfl⟩:=hy;rfl) (λi j y a c hy hc ha=>?_);rw[ms] at hy;cases hi:l[i]? with
 |none=>rw[hi] at hy;cases hy
 |some q=>
  rw[hi] at hy;cases hy;cases j with
  |zero=>
   simp only[AV.cells,yB,vw] at hc;subst hc;simp[hi] at ha;subst ha;exact .int _ _
  |succ j=>simp[AV.cells] at hc
theorem DD{H:Hp}{l:List Int}(h:l.length=0):SnapF H .esl (aD l):=by
 have:l=[]:=fo.1 h;subst this;exact .eslsl 1
end Go.Abs
namespace Go.Abs
inductive Row(H:Hp)(sz:Nat):AV->List AV->Prop
 |nil:Row H sz .esl []
 |box (b len:Nat) (cs:List AV) (hb:H b=some cs) (hl:cs.length=len*sz):Row H sz (.msl b (len*sz) sz 0 len) cs
def bz:AV->Option Nat
 |.msl b _ _ _ _=>some b
 |_=>none
theorem Row.len{H:Hp}{sz:Nat}{s:AV}{cs:List AV}(h:Row H sz s cs):∃n:Nat,dz s=some (.int .i64 n)/\cs.length=n*sz:=by
 cases h with
 |nil=>exact⟨0,rfl,by simp⟩
 |box b len cs hb hl=>exact⟨len,rfl,hl⟩
theorem Row.lenS{H:Hp}{sz n:Nat}{s:AV}{cs:List AV}(h:Row H sz s cs)(hl:cs.length=n*sz)(hz:0<sz):dz s=some (.int .i64 n):=by
 obtain⟨m,h1,h2⟩:=h.len;have:m=n:=Nat.eq_of_mul_eq_mul_right hz (by omega);subst this;exact h1
theorem Row.same{H H':Hp}{sz:Nat}{s:AV}{cs:List AV}(h:Row H sz s cs)(hs:∀b,bz s=some b->H' b=H b):Row H' sz s cs:=by
 cases h with
 |nil=>exact .nil
 |box b len cs hb hl=>exact .box b len cs ((hs b rfl).trans hb) hl
theorem Row.one{H:Hp}{sz:Nat}{s:AV}{cs:List AV}(h:Row H sz s cs):s.one=true/\s.cells=[s]:=by
 cases h<;>exact⟨rfl,rfl⟩
theorem ac{H:Hp}{b x:Nat}{cs:List AV}(h:x≠b):ay H b cs x=H x:=if_neg h
theorem cw{H:Hp}{b x:Nat}(h:x≠b):dp H b x=H x:=if_neg h
variable{P:Program}{T:Tm}{H:Hp}{nx:Nat}
theorem hZ{dm:DM}{K:SP}{l:List Op2}{d:Option Nat}{sz bytes k:Nat}{s x:Opd}{sv xv:AV}{cs new:List AV}(hd:dm2 dm T (.app sz bytes s x)=true)(hs:ov T s=sv)(hrow:Row H sz sv cs)(hx:ov T x=xv)(hsrc:gI sz H xv=some (k,new))(ho:AV.ones new=true)(hk:new.length=k*sz)
    (hz:0<sz) (h1:(cs.length+k)*bytes<=140737488355328) (h2:cs.length+k<=9223372036854775807)
    (next:∀(sv':AV)(H':Hp)(nx':Nat),Row H' sz sv' (cs++new)->nx<=nx'->nx'<=nx+1->(∀i,i<nx->bz sv≠some i->H' i=H i)->(∀b,bz sv'=some b->bz sv=some b\/b=nx/\nx'=nx+1)->an P dm l (aO T d sv') H' nx' K):
    an P dm (⟨d,none,.app sz bytes s x⟩::l) T H nx K:=by
 cases hrow with
 |nil=>
  refine jd hd hs hx hsrc ho (by simpa using h1) (by simpa using h2) ?_;exact next _ _ _ (.box nx k new ah hk) (Nat.le_succ _) (aP _) (λi hi _=>ac (by omega)) (λb hb=>by cases hb;exact .inr ⟨rfl,rfl⟩)
 |box b len cs hb hl=>
  have hle:len<=cs.length:=by rw[hl];exact Nat.le_mul_of_pos_right _ hz
  have hb1:(len+k)*bytes<=140737488355328:=fm (lY _ (by omega)) h1;refine AO hd hs hb hx hsrc ho hl rfl hb1 (by omega) ?_;exact next _ _ _ (.box b (len+k) (cs++new) ah (by rw[da,hl,hk,fX])) (aP _) (Nat.le_succ _) (λi hi hne=>ac (λe=>hne (by rw[e];rfl))) (λb' hb'=>by cases hb';exact .inl rfl)
theorem Row.snap{H:Hp}{sz:Nat}{s:AV}{elems:List AV}(h:Row H sz s (elems.flatMap AV.cells))(hc:∀y∈elems,y.cells.length=sz)(hz:0<sz)(hd:∀y∈elems,∀c∈y.cells,Dat c):Snap H s (.sl sz elems):=by
 obtain⟨f1,f2⟩:=fh elems hc;generalize he:elems.flatMap AV.cells=cs at h;cases h with
 |nil=>
  have:elems.length*sz=0:=by rw[<-f1,he];rfl
  have:elems=[]:=fo.1 (by
   rcases Nat.mul_eq_zero.1 this with h|h
   ·exact h
   ·omega)
  subst this;exact .eslsl sz
 |box b len cs hb hl=>
  have hlen:elems.length=len:=Nat.eq_of_mul_eq_mul_right hz (by rw[<-f1,he,hl]);refine .msl b (len*sz) sz 0 len cs elems hb hl (by omega) hlen hc (λi j y a c hy hc' ha=>?_);have hj:j<sz:=by rw[<-hc y (gJ hy)];exact(bL.1 hc').1
  have key:∀(l:List AV)(i j:Nat)(y c:AV),(∀z∈l,z.cells.length=sz)->l[i]?=some y->y.cells[j]?=some c->j<sz->(l.flatMap AV.cells)[i*sz+j]?=some c:=by
   intro l
   induction l with
   |nil=>intro i j y c _ h;simp at h
   |cons x l ih=>
    intro i j y c hl hy hc hj;rw[vj];cases i with
    |zero=>
     simp at hy;subst hy;rw[yJ,cq,hU (by rw[hl x (by simp)];exact hj)];exact hc
    |succ i=>
     rw[je (by rw[hl x (by simp),fX];omega),hl x (by simp)];have:=ih i j y c (λz hz=>hl z (by simp[hz])) (by simpa using hy) hc hj;rw[<-this];congr 1;rw[fX];omega
  have:=key elems i j y c hc hy hc' hj;rw[he,<-cq (i*sz)] at this;rw[this] at ha;cases ha;exact hd y (gJ hy) a (gJ hc') H
theorem kJ{α:Type}{f:α->AV}(h:∀x,(f x).cells=[f x])(l:List α):(l.map f).flatMap AV.cells=l.map f:=by
 induction l with
 |nil=>rfl
 |cons a l ih=>rw[fF,vj,ih,h];rfl
theorem Row.snapV{H:Hp}{s:AV}{l:List (List Int)}(h:Row H 1 s (l.map aD)):Snap H s (br l):=by
 refine Row.snap (elems:=l.map aD) (by rw[kJ (λ_=>rfl)];exact h) (λy hy=>?_) ke (λy hy c hc=>?_)
 ·simp at hy;obtain⟨n,_,rfl⟩:=hy;rfl
 ·simp at hy;obtain⟨n,_,rfl⟩:=hy;simp only[BV,dg] at hc;subst hc;exact cJ n
theorem Row.snapI{H:Hp}{s:AV}{l:List Int}(h:Row H 1 s (l.map (AV.int .i64))):Snap H s (aD l):=by
 refine Row.snap (elems:=l.map (AV.int .i64)) (by rw[kJ (λ_=>rfl)];exact h) (λy hy=>?_) ke (λy hy c hc=>?_)
 ·simp at hy;obtain⟨n,_,rfl⟩:=hy;rfl
 ·simp at hy;obtain⟨n,_,rfl⟩:=hy;simp only[EF,dg] at hc;subst hc;exact .int
theorem cH{K:CP}{x y:C2}(M:SP)(h1:aK P x T H nx λe T H nx=>aR e (M T H nx) (K e T H nx))(h2:∀T H nx,M T H nx->aK P y T H nx K):aK P (.seq x y) T H nx K:=by
 refine dQ (ea x h1 (λe T H nx h=>?_));cases e with
 |normal=>exact h2 T H nx h
 |exit i=>exact h
 |ret=>exact h
end Go.Abs
namespace Go.Abs
theorem Ob:(∀l:List Int,(aD l).cells=[aD l])/\(∀l:List (List Int),(br l).cells=[br l])/\(∀x:Nat,bN x=none)/\
    (∀(α β:Type)(f:α->β)(a:α)(l:List α),(a::l).map f=f a::l.map f)/\(∀(α β:Type)(f:α->β),([]:List α).map f=[])/\(∀(α β:Type)(f:α->β)(a:α),(some a).map f=some (f a))/\(∀(α β:Type)(f:α->β),(none:Option α).map f=none)/\
    (∀n:Nat,0+n=n)/\(∀n:Nat,n+0=n)/\(∀p:Prop,(p/\p)=p)/\(∀p:Prop,(p/\True)=p)/\(∀p:Prop,(True/\p)=p)/\((!true)=false)/\((!false)=true)/\
    (∀(α:Type)(a:α)(l m:List α),(a::l)++m=a::(l++m))/\(∀(α:Type)(l:List α),[]++l=l)/\(∀(α:Type)(l:List α),l++[]=l):=
 ⟨λ_=>rfl,λ_=>rfl,λ_=>rfl,λ_ _ _ _ _=>rfl,λ_ _ _=>rfl,λ_ _ _ _=>rfl,λ_ _ _=>rfl,cq,p6,and_self,and_true,true_and,rfl,rfl,λ_ _ _ _=>rfl,λ_ _=>rfl,λ_ l=>fR l⟩
theorem zz(p:Prop):(p/\p)=p:=and_self p
theorem ce:(∀(H:Hp)(b x:Nat)(cs:List AV),ay H b cs x=if x=b then some cs else H x)/\(∀(H:Hp)(b x:Nat),dp H b x=if x=b then none else H x):=⟨λ_ _ _ _=>rfl,λ_ _ _=>rfl⟩
theorem cK:(∀(H:Hp)(b:Nat)(cs:List AV),ay H b cs b=some cs)/\(∀(H:Hp)(b x:Nat)(cs:List AV),x≠b->ay H b cs x=H x)/\(∀(H:Hp)(b:Nat),dp H b b=none)/\(∀(H:Hp)(b x:Nat),x≠b->dp H b x=H x)/\(∀a b c:Nat,a+b+c=a+(b+c)):=
 ⟨λ_ _ _=>ah,λ_ _ _ _ h=>ac h,λ_ _=>iH,λ_ _ _ h=>cw h,p8⟩
theorem ZA:((∀ l:List Int,(aD l).cells=[aD l])∧(∀ l:List (List Int),(br l).cells=[br l])∧(∀ x:Nat,bN x=none) ∧
    (∀(α β:Type)(f:α->β)(a:α)(l:List α),(a::l).map f=f a::l.map f)/\(∀(α β:Type)(f:α->β),([]:List α).map f=[])/\(∀(α β:Type)(f:α->β)(a:α),(some a).map f=some (f a))/\(∀(α β:Type)(f:α->β),(none:Option α).map f=none)/\
    (∀n:Nat,0+n=n)/\(∀n:Nat,n+0=n)/\(∀p:Prop,(p/\p)=p)/\(∀p:Prop,(p/\True)=p)/\(∀p:Prop,(True/\p)=p)/\((!true)=false)/\((!false)=true)/\
    (∀(α:Type)(a:α)(l m:List α),(a::l)++m=a::(l++m))/\(∀(α:Type)(l:List α),[]++l=l)/\(∀(α:Type)(l:List α),l++[]=l))/\
    ((∀ (T:Tm) (n:Nat),ov T (.t n)=T n)∧(∀ (T:Tm) (v:AV),ov T (.c v)=v)∧(∀ (T:Tm) (d t:Nat) (v:AV),upd T d v t=if t=d then v else T t)∧(∀ (T:Tm) (d:Nat) (v:AV),aO T (some d) v=upd T d v) ∧
    (∀(T:Tm)(v:AV),aO T none v=T)/\(∀(x:AV)(l:List AV),T0 (x::l) 0=x)/\(∀(x:AV)(l:List AV)(n:Nat),T0 (x::l) (n+1)=T0 l n)/\(∀n:Nat,T0 [] n=.undef)/\
    (∀(d t:Nat)(v:AV)(l:List (Nat×AV)),tl ((d,v)::l) t=if t=d then v else tl l t)/\(∀t:Nat,tl [] t=.undef)/\
    (∀(T:Tm)(t:Nat)(ts:List Nat)(x:AV)(xs:List AV),lA T (t::ts) (x::xs)=lA (upd T t x) ts xs)/\(∀(T:Tm)(xs:List AV),lA T [] xs=T))/\
    ((∀ (T:Tm) (H:Hp) (x:Opd),b9 T H (.mov x)=some (ov T x)) ∧
    (∀(T:Tm)(H:Hp)(c a b:Opd),b9 T H (.pick c a b)=match ov T c with|.bool t=>some (if t=true then ov T a else ov T b)|_=>none)/\
    (∀(T:Tm)(H:Hp)(a:Opd),b9 T H (.ld1 a)=rd1 H (ov T a))/\(∀(T:Tm)(H:Hp)(k:Nat)(a:Opd),b9 T H (.ldn k a)=(rd H k (ov T a)).map .agg)/\
    (∀(T:Tm)(H:Hp)(op:BinOp)(tb tf:Bool)(x y:Opd),b9 T H (.bin op tb tf x y)=bw op tb tf (ov T x) (ov T y))/\
    (∀(T:Tm)(H:Hp)(op:UnOp)(x:Opd),b9 T H (.un op x)=aun op (ov T x))/\
    (∀(T:Tm)(H:Hp)(f:FuncId)(caps:List Opd),b9 T H (.mkfn f caps)=some (.func f (caps.map (ov T))))/\
    (∀(T:Tm)(H:Hp)(k:Nat)(p:Opd),b9 T H (.fa k p)=mc k (ov T p))/\
    (∀(T:Tm)(H:Hp)(sz:Nat)(x i:Opd),b9 T H (.ixaS sz x i)=eF sz (ov T x) (ov T i))/\
    (∀(T:Tm)(H:Hp)(x:Opd)(i:Nat),b9 T H (.ext x i)=iZ (ov T x) i)/\
    (∀(T:Tm)(H:Hp)(x:Opd),b9 T H (.lenS x)=dz (ov T x))/\
    (∀(T:Tm)(H:Hp)(z:List AV)(parts:List (Nat×Nat×Opd)),b9 T H (.bld z parts)=(eB z (parts.map λp=>(p.1,p.2.1,ov T p.2.2))).map .agg)/\
    (∀(T:Tm)(H:Hp)(x:Opd)(l:List Opd),b9 T H (.mx x l)=iM pS (ov T x) (l.map (ov T)))/\
    (∀(T:Tm)(H:Hp)(x:Opd)(l:List Opd),b9 T H (.mn x l)=iM pP (ov T x) (l.map (ov T)))/\
    (∀(T:Tm)(H:Hp)(k:IntKind)(x:Opd),b9 T H (.conv k x)=vC (ov T x) λn=>some (.int k (k.wrap n)))/\
    (∀(T:Tm)(H:Hp)(sz:Nat)(x:Opd)(lo hi mx:Option Opd),b9 T H (.sls sz x lo hi mx)=kI sz (ov T x) (lo.map (ov T)) (hi.map (ov T)) (mx.map (ov T)))/\
    (∀(T:Tm)(H:Hp)(off:Nat)(x:Opd),b9 T H (.part1 off x)=ib (ov T x) λcs=>cs[off]?)/\
    (∀(T:Tm)(H:Hp)(op:BinOp)(ks:List TK)(x y:Opd),b9 T H (.binS op ks x y)=ib (ov T x) λxs=>ib (ov T y) λys=>pe op ks xs ys))/\
    ((∀ (T:Tm) (H:Hp) (x i:Opd),b9 T H (.ixStr x i)=oH (ov T x) (ov T i)) ∧
    (∀(s:ByteArray)(k:IntKind)(n:Int),oH (.str s) (.int k n)=if 0<=n/\n<s.size then some (.int .u8 (s[n.toNat]?.getD 0).toNat) else none))/\
    ((∀ (k:IntKind) (a b:Int) (tb tf:Bool),bw .lss tb tf (.int k a) (.int k b)=some (.bool (decide (a < b))))∧(∀ (k:IntKind) (a b:Int) (tb tf:Bool),bw .leq tb tf (.int k a) (.int k b)=some (.bool (decide (a ≤ b)))) ∧
    (∀(k:IntKind)(a b:Int)(tb tf:Bool),bw .gtr tb tf (.int k a) (.int k b)=some (.bool (decide (b<a))))/\(∀(k:IntKind)(a b:Int)(tb tf:Bool),bw .geq tb tf (.int k a) (.int k b)=some (.bool (decide (b<=a))))/\
    (∀(k:IntKind)(a b:Int)(tb tf:Bool),bw .eql tb tf (.int k a) (.int k b)=some (.bool (decide (a=b))))/\(∀(k:IntKind)(a b:Int)(tb tf:Bool),bw .neq tb tf (.int k a) (.int k b)=some (.bool (decide (a≠b))))/\
    (∀(k:IntKind)(a b:Int)(tb tf:Bool),bw .add tb tf (.int k a) (.int k b)=some (.int k (k.wrap (a+b))))/\(∀(k:IntKind)(a b:Int)(tb tf:Bool),bw .sub tb tf (.int k a) (.int k b)=some (.int k (k.wrap (a-b))))/\
    (∀(k:IntKind)(a b:Int)(tb tf:Bool),bw .mul tb tf (.int k a) (.int k b)=some (.int k (k.wrap (a*b))))/\
    (∀(a b:Bool)(tf:Bool),bw .eql true tf (.bool a) (.bool b)=some (.bool (a==b)))/\(∀(a b:Bool)(tf:Bool),bw .neq true tf (.bool a) (.bool b)=some (.bool (!(a==b))))/\
    (∀tb:Bool,bw .eql tb true .nilf .nilf=some (.bool true))/\(∀tb:Bool,bw .neq tb true .nilf .nilf=some (.bool false))/\
    (∀(tb:Bool)(f:FuncId)(c:List AV),bw .eql tb true (.func f c) .nilf=some (.bool false))/\(∀(tb:Bool)(f:FuncId)(c:List AV),bw .neq tb true (.func f c) .nilf=some (.bool true))/\
    (∀b:Bool,aun .not (.bool b)=some (.bool (!b)))/\
    (∀(k:IntKind)(a b:Int),pS (.int k a) (.int k b)=some (.int k (max a b)))/\(∀(k:IntKind)(a b:Int),pP (.int k a) (.int k b)=some (.int k (min a b)))/\
    (∀(f:AV->AV->Option AV)(x:AV),iM f x []=some x)/\(∀(f:AV->AV->Option AV)(x y:AV)(l:List AV),iM f x (y::l)=match f x y with|some z=>iM f z l|none=>none)/\
    (∀(k:Nat)(b n off:Nat),mc k (.ptr b n off)=some (.ptr b n (off+k)))/\(∀(k:Nat)(cs:List AV)(off:Nat),mc k (.iptr cs off)=some (.iptr cs (off+k)))/\
    (∀(cs:List AV)(off:Nat),rd1 bN (.iptr cs off)=cs[off]?))/\
    ((∀ (H:Hp) (b n off:Nat),rd1 H (.ptr b n off)=match H b with | some cs=>if cs.length=n then cs[off]? else none | none=>none) ∧
    (∀(H:Hp)(k b n off:Nat),rd H k (.ptr b n off)=match H b with|some cs=>if cs.length=n/\off+k<=n then some ((cs.drop off).take k) else none|none=>none)/\
    (∀(H:Hp)(cs:List AV)(off:Nat),rd1 H (.iptr cs off)=cs[off]?)/\(∀(H:Hp)(cs:List AV)(off k:Nat),rd H k (.iptr cs off)=if off+k<=cs.length then some ((cs.drop off).take k) else none)/\
    (∀(l:List AV)(i:Nat),iZ (.tup l) i=l[i]?)/\(∀(l:List AV)(f:List AV->Option AV),ib (.agg l) f=f l)/\(∀(k:IntKind)(n:Int)(f:Int->Option AV),vC (.int k n) f=f n)/\
    (∀(cs:List AV),eB cs []=some cs)/\
    (∀(cs:List AV)(off sz:Nat)(x:AV)(r:List (Nat×Nat×AV)),eB cs ((off,sz,x)::r)=if AV.ones x.cells=true/\x.cells.length=sz/\off+sz<=cs.length then eB (bJ cs off x.cells) r else none)/\
    (∀(b n sz off len:Nat),dz (.msl b n sz off len)=some (.int .i64 len))/\(dz .esl=some (.int .i64 0))/\(∀(sz:Nat)(l:List AV),dz (.sl sz l)=some (.int .i64 l.length))/\
    (∀(z:AV),bD z 0=[])/\(∀(z:AV)(n:Nat),bD z (n+1)=z.cells++bD z n))/\
    ((∀ (a:AV) (l:List AV),(a :: l)[0]?=some a)∧(∀ (a:AV) (l:List AV) (n:Nat),(a :: l)[n + 1]?=l[n]?)∧(∀ (l:List AV),l.drop 0=l)∧(∀ (a:AV) (l:List AV) (n:Nat),(a :: l).drop (n + 1)=l.drop n)∧(∀ n:Nat,([]:List AV).drop n=[]) ∧
    (∀(l:List AV),l.take 0=[])/\(∀(a:AV)(l:List AV)(n:Nat),(a::l).take (n+1)=a::l.take n)/\(∀n:Nat,([]:List AV).take n=[])/\(∀(l:List AV),[]++l=l)/\(∀(l:List AV),l++[]=l)/\(∀(a:AV)(l m:List AV),(a::l)++m=a::(l++m))/\
    (∀(cs:List AV)(off:Nat)(new:List AV),bJ cs off new=cs.take off++new++cs.drop (off+new.length))/\(([]:List AV).length=0)/\(∀(a:AV)(l:List AV),(a::l).length=l.length+1)/\
    (∀(k:IntKind)(n:Int),(AV.int k n).cells=[.int k n])/\(∀b:Bool,(AV.bool b).cells=[.bool b])/\(∀s:ByteArray,(AV.str s).cells=[.str s])/\(∀(k:Nat)(l:List AV),(AV.sl k l).cells=[.sl k l])/\(∀l:List AV,(AV.agg l).cells=l)/\(AV.esl.cells=[.esl])/\(AV.nilf.cells=[.nilf])/\
    (∀(f:FuncId)(c:List AV),(AV.func f c).cells=[.func f c])/\(∀(b n off:Nat),(AV.ptr b n off).cells=[.ptr b n off])/\(∀(c:List AV)(off:Nat),(AV.iptr c off).cells=[.iptr c off])/\(∀(b n sz off len:Nat),(AV.msl b n sz off len).cells=[.msl b n sz off len])/\(∀b:Nat,(AV.yld b).cells=[.yld b])/\(∀b:Nat,(AV.mp b).cells=[.mp b])/\(AV.nilp.cells=[.nilp])/\(∀(f:FuncId)(c:List AV),(AV.bfn f c).cells=[.bfn f c]))/\
    ((∀(b:Bool)(x y:AV),(match (AV.bool b:AV) with|.bool t=>some (if t=true then x else y)|_=>none)=some (if b=true then x else y))):=
 ⟨Ob,SA,SV,SV2,SN,SR,SL,λ_ _ _=>rfl⟩
theorem ZV:((AV.ones []=true)∧(∀ (a:AV) (l:List AV),AV.ones (a :: l)=(a.one && AV.ones l))∧(∀ (k:IntKind) (n:Int),(AV.int k n).one=true)∧(∀ b:Bool,(AV.bool b).one=true)∧(∀ s:ByteArray,(AV.str s).one=true)∧(∀ (k:Nat) (l:List AV),(AV.sl k l).one=true)∧(AV.esl.one=true)∧(AV.nilf.one=true) ∧
    (∀(f:FuncId)(c:List AV),(AV.func f c).one=true)/\(∀(b n off:Nat),(AV.ptr b n off).one=true)/\(∀(c:List AV)(off:Nat),(AV.iptr c off).one=true)/\(∀(b n sz off len:Nat),(AV.msl b n sz off len).one=true)/\(∀b:Nat,(AV.yld b).one=true)/\(∀b:Nat,(AV.mp b).one=true)/\(AV.nilp.one=true)/\(∀l:List AV,l.all AV.one=AV.ones l))/\(∀l:List Int,(aD l).one=true)/\(∀l:List (List Int),(br l).one=true)/\(∀b:Bool,(b&&b)=b)/\((false=true)=False)/\(∀a:Int,-9223372036854775808<=a->a<=9223372036854775807->IntKind.wrap .i64 a=a)/\
    (∀(l:List Int)(k:IntKind)(n:Int),eF 1 (aD l) (.int k n)=if 0<=n/\n<l.length then some (.iptr [.int .i64 (l.getD n.toNat default)] 0) else none)/\(∀(l:List (List Int))(k:IntKind)(n:Int),eF 1 (br l) (.int k n)=if 0<=n/\n<l.length then some (.iptr [aD (l.getD n.toNat default)] 0) else none)/\
    (∀l:List Int,dz (aD l)=some (.int .i64 l.length))/\(∀l:List (List Int),dz (br l)=some (.int .i64 l.length))/\(∀n:Nat,(n:Int).toNat=n)/\(∀(α β:Type)(f:α->β)(l:List α),(l.map f).length=l.length)/\
    (∀(sz b m off len:Nat)(k:IntKind)(n:Int),eF sz (.msl b m sz off len) (.int k n)=if 0<=n/\n<len then some (.ptr b m (off+n.toNat*sz)) else none)/\(∀(α:Type)(_:Inhabited α)(f:α->AV)(l:List α)(k:Nat),k<l.length->(l.map f)[k]?=some (f (l.getD k default)))/\(∀n:Nat,n*1=n):=
 ⟨SO,λ_=>rfl,λ_=>rfl,Bool.and_self,kj,λ_=>yp,λ_ _ _=>nz,λ_ _ _=>oU,λ_=>uV,λ_=>rA,cE,λ_ _ _ _=>bo _,λ_ _ _ _ _ _ _=>GV,λ_ _ _ _ _ h=>getElem?_map_lt h,Nat.mul_one⟩
theorem ZG:((∀ (T:Tm) (n:Nat),ov T (.t n)=T n)∧(∀ (T:Tm) (v:AV),ov T (.c v)=v)∧(∀ (T:Tm) (d t:Nat) (v:AV),upd T d v t=if t=d then v else T t)∧(∀ (T:Tm) (d:Nat) (v:AV),aO T (some d) v=upd T d v) ∧
    (∀(T:Tm)(v:AV),aO T none v=T)/\(∀(x:AV)(l:List AV),T0 (x::l) 0=x)/\(∀(x:AV)(l:List AV)(n:Nat),T0 (x::l) (n+1)=T0 l n)/\(∀n:Nat,T0 [] n=.undef)/\
    (∀(d t:Nat)(v:AV)(l:List (Nat×AV)),tl ((d,v)::l) t=if t=d then v else tl l t)/\(∀t:Nat,tl [] t=.undef)/\
    (∀(T:Tm)(t:Nat)(ts:List Nat)(x:AV)(xs:List AV),lA T (t::ts) (x::xs)=lA (upd T t x) ts xs)/\(∀(T:Tm)(xs:List AV),lA T [] xs=T))/\(∀a:Int,-9223372036854775808<=a->a<=9223372036854775807->IntKind.wrap .i64 a=a)/\(∀a b:Nat,((a+b:Nat):Int)=(a:Int)+(b:Int))/\(((1:Nat):Int)=1)/\(((0:Nat):Int)=0)/\(∀p:Prop,(p/\True)=p)/\(∀p:Prop,(p/\p)=p):=
 ⟨SA,λ_=>yp,Int.natCast_add,rfl,rfl,and_true,and_self⟩
theorem C7{P:Program}{b:C2}{T:Tm}{H:Hp}{nx:Nat}{K:CP}(L:Nat->List (Nat×AV))(n:Nat)(p:Nat->Prop)(hT:agr T (L 0))
    (step:∀k,k<=n->(∀i,i<k->p i)->aK P b (tl (L k)) H nx λe T H' nx'=>aR e (k<n/\p k/\agr T (L (k+1))/\H'=H/\nx'=nx) (K e T H' nx')):a5 (aK P b) T H nx K:=by
 refine kE (X:=Nat) L (λk=>k<=n/\∀i,i<k->p i) (λk=>n-k) 0 ⟨bC _,λi h=>(by omega)⟩ hT ?_;rintro k ⟨h1,h2⟩;refine ea b (step k h1 h2) (λe T H' nx' h=>?_);cases e with
 |normal=>
  obtain⟨g1,g2,g3,g4,g5⟩:=h;refine⟨k+1,⟨by omega,λi hi=>?_⟩,by omega,g3,g4,g5⟩;rcases ij.1 hi with h|rfl
  ·exact h2 i h
  ·exact g2
 |exit i=>exact h
 |ret=>exact h
theorem iU{α:Type}[Inhabited α]{l:List α}{p:α->Bool}(h:∀i,i<l.length->p (l.getD i default)=true):l.all p=true:=by
 rw[ey];intro x hx;obtain⟨i,hi,e⟩:=jO hx;have:=h i hi
 rwa [show l.getD i default=x by simp[List.getD,hi,e]] at this
theorem il{α:Type}[Inhabited α]{l:List α}{p:α->Bool}{k:Nat}(hk:k<l.length)(h:p (l.getD k default)=false):l.all p=false:=by
 rw[Bool.eq_false_iff,ne_eq,ey];intro hh;have:=hh _ (bc hk);rw[h] at this;cases this
theorem FX{α:Type}[Inhabited α]{l:List α}{p:α->Bool}{k:Nat}(hk:k<l.length)(h:p (l.getD k default)=true):l.any p=true:=pW.2 ⟨_,bc hk,h⟩
theorem nW{α:Type}[Inhabited α]{l:List α}{p:α->Bool}(h:∀i,i<l.length->p (l.getD i default)=false):l.any p=false:=by
 rw[List.any_eq_false];intro x hx;obtain⟨i,hi,e⟩:=jO hx;have:=h i hi;rw[show l.getD i default=x by simp[List.getD,hi,e]] at this;simp[this]
theorem FS{α:Type}[Inhabited α][DecidableEq α]{l:List α}{v:α}{k:Nat}(hk:k<l.length)(h:l.getD k default=v):decide (v∈l)=true:=by
 rw[yn,<-h];exact bc hk
theorem D2{α:Type}[Inhabited α][DecidableEq α]{l:List α}{v:α}(h:∀i,i<l.length->l.getD i default≠v):decide (v∈l)=false:=by
 rw[decide_eq_false_iff_not];intro hm;obtain⟨i,hi,e⟩:=jO hm;exact h i hi (by simp[List.getD,hi,e])
def jx{α:Type}(sz:Nat)(f:α->AV)(l:List α):AV:=.sl sz (l.map f)
theorem Ii(l:List (List Int)):br l=jx 1 aD l:=rfl
section
variable{α:Type}{sz:Nat}{f:α->AV}{l:List α}
theorem sS (h:∀ x ∈ l,∀ c ∈ (f x).cells,Dat c):Dat (jx sz f l):=Dat.sl (fun x hx c hc=>by
 obtain⟨y,hy,rfl⟩:=bE.1 hx;exact h y hy c hc)
theorem EG (hc:∀ x,(f x).cells=[f x]) (h:∀ x,Dat (f x)):Dat (jx sz f l):=sS (fun x _ c hx=>by
 rw[hc,dg] at hx;subst hx;exact h x)
theorem nu[Inhabited α]{k:IntKind}{n:Int}:eF sz (jx sz f l) (.int k n)=if 0<=n/\n<l.length then some (.iptr (f (l.getD n.toNat default)).cells 0) else none:=s9
theorem lR:dz (jx sz f l)=some (.int .i64 l.length):=qQ
theorem yl{k:Nat}(h:k<=l.length):kI sz (jx sz f l) none (some (.int .i64 k)) none=some (jx sz f (l.take k)):=by
 simp[kI,bP,jx,h]
theorem lC{k:Nat}(h:k<=l.length):kI sz (jx sz f l) (some (.int .i64 k)) none none=some (jx sz f (l.drop k)):=by
 simp[kI,bP,jx,h];rw[fP (by simp)]
theorem Row.snapL'{H:Hp}{s:AV}(h:Row H 1 s (l.map f))(hc:∀x,(f x).cells=[f x])(hd:∀x∈l,Dat (f x)):Snap H s (jx 1 f l):=by
 refine Row.snap (elems:=l.map f) (by rw[kJ hc];exact h) (λy hy=>?_) ke (λy hy c hx=>?_)
 ·obtain⟨n,_,rfl⟩:=bE.1 hy;rw[hc];rfl
 ·obtain⟨n,hn,rfl⟩:=bE.1 hy;rw[hc,dg] at hx;subst hx;exact hd n hn
end
theorem gN{a:Int}(h1:0<=a)(h2:a<18446744073709551616):IntKind.wrap .u64 a=a:=by
 simp only[IntKind.wrap,IntKind.bits,IntKind.signed];simp;omega
theorem uB{a:Int}:IntKind.wrap .u8 a=a%256:=by
 simp only[IntKind.wrap,IntKind.bits,IntKind.signed];simp
theorem xH{k:IntKind}{a b:Nat}{tb tf:Bool}{k':IntKind}(hb:b<=k.bits):bw .shr tb tf (.int k a) (.int k' b)=some (.int k ((a/2^b:Nat):Int)):=by
 have h:¬((b:Int)<0):=by omega
 simp only[bw,qH,h,if_false,or_true,if_true,cE,Nat.min_eq_left hb]
 congr 2
 rw[Int.fdiv_eq_ediv_of_nonneg _ (Int.le_of_lt (Int.pow_pos (by omega)))];simp
theorem CA{k:IntKind}{a b:Nat}{tb tf:Bool}{k':IntKind}(hb:b<=k.bits)(h:a*2^b<2^(k.bits-1)):bw .shl tb tf (.int k a) (.int k' b)=some (.int k ((a*2^b:Nat):Int)):=by
 have h0:¬((b:Int)<0):=by omega
 simp only[bw,qH,h0,if_false,true_or,if_true,cE,Nat.min_eq_left hb]
 congr 2
 have e:(a:Int)*2^b=((a*2^b:Nat):Int):=by simp
 rw[e];generalize a*2^b=c at h;cases k<;>(simp only[IntKind.bits,IntKind.wrap,IntKind.signed] at h |-;simp at h |-;omega)
theorem xU{k:IntKind}{a b:Int}{tb tf:Bool}(ha:0<=a)(hb:0<b):bw .rem tb tf (.int k a) (.int k b)=some (.int k (a%b)):=by
 show(if (k=k) then ff .rem k a b else none)=_;rw[if_pos rfl];simp only[ff,if_neg (show ¬b=0 by omega),Int.tmod_eq_emod_of_nonneg ha]
theorem pC{a b:Int}{tb tf:Bool}(ha:0<=a)(h2:a<=9223372036854775807)(hb:0<b):bw .quo tb tf (.int .i64 a) (.int .i64 b)=some (.int .i64 (a/b)):=by
 show(if (IntKind.i64=IntKind.i64) then ff .quo .i64 a b else none)=_;rw[if_pos rfl];have h3:0<=a/b:=Int.ediv_nonneg ha (by omega);have h4:a/b<=a:=Int.ediv_le_self _ ha;simp only[ff,if_neg (show ¬b=0 by omega),Int.tdiv_eq_ediv_of_nonneg ha];rw[yp (by omega) (by omega)]
theorem bh{P:Program}{T:Tm}{H:Hp}{nx:Nat}{K:SP}{l:List Op2}{d:Option Nat}{f:Opd}{args:List Opd}{g:FuncId}{caps xs:List AV}{R:AV->Hp->Nat->Prop}(hf:ov T f=.func g caps)(ha:args.map (ov T)++caps=xs)(hc:Fn P g xs H nx R)
    (k:∀r H' nx',R r H' nx'->an P .text l (aO T d r) H' nx' K):an P .text (⟨d,none,.call f args⟩::l) T H nx K:=by
 subst ha;exact BU hf (Fn.mono hc k)
def LQ(l:List UInt8):AV:=.str ⟨l.toArray⟩
theorem GB(l:List UInt8):Dat (LQ l):=.str
instance datI_encS{l:List UInt8}:DatI (LQ l):=⟨GB l⟩
end Go.Abs
namespace Go.Abs
open Go.RowKit
variable{P:Program}{T:Tm}{H:Hp}{nx:Nat}
theorem aI{a b:Prop}(x:a)(y:b):a/\b:=⟨x,y⟩
theorem ev0{α:Type}{a b:α}(h:a=b:=by(try simp only[ce,ZA,Nat.reduceEqDiff,↓reduceIte,Nat.reduceAdd,Nat.reduceLeDiff]);(try with_reducible rfl);first|done|fail):a=b:=h
theorem evZ{α:Type}{a b:α}(h:a=b:=by(try simp only[ce,ZA,Nat.reduceEqDiff,↓reduceIte,Nat.reduceAdd,Nat.reduceLeDiff,zz]);(try with_reducible rfl);first|done|fail):a=b:=h
theorem evY{α:Type}{a b:α}(h:a=b:=by(try simp (disch:=omega) only[cK,ZA,Nat.reduceEqDiff,↓reduceIte,Nat.reduceAdd,Nat.reduceLeDiff,zz]);(try with_reducible rfl);first|done|fail):a=b:=h
theorem ag0{T:Tm}{l:List (Nat×AV)}(h:agr T l:=by simp (disch:=omega) only[agr,ZG,Nat.reduceEqDiff,↓reduceIte];first|done|fail):agr T l:=h
theorem agZ{T:Tm}{l:List (Nat×AV)}(h:agr T l:=by simp (disch:=omega) only[agr,ZG,Nat.reduceEqDiff,↓reduceIte,zz];first|done|fail):agr T l:=h
theorem vZ{dm:DM}{K:SP}{l:List Op2}{d:Option Nat}{i:Ins}{r:AV}(k:an P dm l (aO T d r) H nx K)(hi:ic i=.val:=by rfl)(hd:dm2 dm T i=true:=by rfl)(h:b9 T H i=some r:=by(try simp (disch:=omega) only[ce,ZA,Nat.reduceEqDiff,↓reduceIte,Nat.reduceAdd,Nat.reduceLeDiff,ZV,reduceCtorEq,zz]);first|with_reducible rfl|(apply Cz;(focus omega);with_reducible rfl)):an P dm (⟨d,none,i⟩::l) T H nx K:=ou hi hd h k
theorem nvZ{S:Hp}{K:SP}{l:List (Op2×Nat)}{d:Option Nat}{i:Ins}{r:AV}(k:be P S l (aO T d r) H nx K)(h:b9 T S i=some r:=by(try simp (disch:=omega) only[ce,ZA,Nat.reduceEqDiff,↓reduceIte,Nat.reduceAdd,Nat.reduceLeDiff,ZV,reduceCtorEq,zz]);first|with_reducible rfl|(apply Cz;(focus omega);with_reducible rfl)):be P S ((⟨d,none,i⟩,0)::l) T H nx K:=Ji h k
theorem cZ{dm:DM}{K:SP}{l:List Op2}{d:Option Nat}{f:Opd}{args:List Opd}{g:FuncId}{caps xs:List AV}{r:AV}(k:an P dm l (aO T d r) H nx K)(hf:ov T f=.func g caps:=by(try simp only[ce,ZA,Nat.reduceEqDiff,↓reduceIte,Nat.reduceAdd,Nat.reduceLeDiff,zz]);(try with_reducible rfl);first|done|fail)(ha:args.map (ov T)++caps=xs:=by(try simp only[ce,ZA,Nat.reduceEqDiff,↓reduceIte,Nat.reduceAdd,Nat.reduceLeDiff,zz]);(try with_reducible rfl);first|done|fail)(hp:Pure P g xs r)(hs:az H xs xs r:=by(first|refine aG ?_ rfl|apply aW);(repeat' (first|exact ak|apply bv|(apply aX;(focus with_reducible assumption))));first|done|fail):an P dm (⟨d,none,.call f args⟩::l) T H nx K:=CZ hf ha hp hs k
theorem alZ{dm:DM}{K:SP}{l:List Op2}{d:Option Nat}{z:AV}{cs:List AV}(k:an P dm l (aO T d (.ptr nx cs.length 0)) (ay H nx cs) (nx+1) K)(hd:dm2 dm T (.alloc z)=true:=by rfl)(hc:z.cells=cs:=by(try simp only[ce,ZA,Nat.reduceEqDiff,↓reduceIte,Nat.reduceAdd,Nat.reduceLeDiff,zz]);(try with_reducible rfl);first|done|fail)(ho:AV.ones cs=true:=by simp only[SO,Bool.and_self,eW,eb,zz];first|done|fail):an P dm (⟨d,none,.alloc z⟩::l) T H nx K:=su hd hc ho k
theorem bxZ{dm:DM}{K:SP}{l:List Op2}{d:Option Nat}{x:Opd}{v:AV}{cs:List AV}(k:an P dm l (aO T d (.ptr nx cs.length 0)) (ay H nx cs) (nx+1) K)(hd:dm2 dm T (.box x)=true:=by rfl)(hx:ov T x=v:=by(try simp only[ce,ZA,Nat.reduceEqDiff,↓reduceIte,Nat.reduceAdd,Nat.reduceLeDiff,zz]);(try with_reducible rfl);first|done|fail)(hc:v.cells=cs:=by(try simp only[ce,ZA,Nat.reduceEqDiff,↓reduceIte,Nat.reduceAdd,Nat.reduceLeDiff,zz]);(try with_reducible rfl);first|done|fail)(ho:AV.ones cs=true:=by simp only[SO,Bool.and_self,eW,eb,zz];first|done|fail):an P dm (⟨d,none,.box x⟩::l) T H nx K:=Jg hd hx hc ho k
theorem stZ{dm:DM}{K:SP}{l:List Op2}{d:Option Nat}{sz:Nat}{p x:Opd}{b n off:Nat}{v:AV}{cs vs:List AV}(k:an P dm l (aO T d (.tup [])) (ay H b (bJ cs off vs)) nx K)(hd:dm2 dm T (.st sz p x)=true:=by rfl)(hp:ov T p=.ptr b n off:=by(try simp only[ce,ZA,Nat.reduceEqDiff,↓reduceIte,Nat.reduceAdd,Nat.reduceLeDiff,zz]);(try with_reducible rfl);first|done|fail)(hx:ov T x=v:=by(try simp only[ce,ZA,Nat.reduceEqDiff,↓reduceIte,Nat.reduceAdd,Nat.reduceLeDiff,zz]);(try with_reducible rfl);first|done|fail)(hb:H b=some cs:=by(try simp only[ce,ZA,Nat.reduceEqDiff,↓reduceIte,Nat.reduceAdd,Nat.reduceLeDiff,zz]);(try with_reducible rfl);first|done|fail)(hc:v.cells=vs:=by(try simp only[ce,ZA,Nat.reduceEqDiff,↓reduceIte,Nat.reduceAdd,Nat.reduceLeDiff,zz]);(try with_reducible rfl);first|done|fail)(ho:AV.ones vs=true:=by simp only[SO,Bool.and_self,eW,eb,zz];first|done|fail)(hn:cs.length=n:=by(try simp only[SL,Nat.reduceAdd,Nat.reduceMul,bo]);first|done|omega)(hl:vs.length=sz:=by(try simp only[SL,Nat.reduceAdd,Nat.reduceMul,bo]);first|done|omega)(hf:off+sz<=n:=by(try simp only[SL,Nat.reduceAdd,Nat.reduceMul,bo]);first|done|omega):an P dm (⟨d,none,.st sz p x⟩::l) T H nx K:=Kp hd hp hx hb hc ho hn hl hf k
theorem blZ{dm:DM}{K:SP}{l:List Op2}{d:Option Nat}{sz len:Nat}{z:List AV}{parts:List (Nat×Nat×Opd)}{pv:List (Nat×Nat×AV)}{cs:List AV}(k:an P dm l (aO T d (.msl nx cs.length sz 0 len)) (ay H nx cs) (nx+1) K)(hd:dm2 dm T (.bldS sz len z parts)=true:=by rfl)(hl:len≠0:=by exact Nat.succ_ne_zero _)(hp:parts.map (λp=>(p.1,p.2.1,ov T p.2.2))=pv:=by(try simp only[ce,ZA,Nat.reduceEqDiff,↓reduceIte,Nat.reduceAdd,Nat.reduceLeDiff,zz]);(try with_reducible rfl);first|done|fail)(hc:eB (bD (.agg z) len) pv=some cs:=by(try simp only[ce,ZA,Nat.reduceEqDiff,↓reduceIte,Nat.reduceAdd,Nat.reduceLeDiff,SO,Bool.and_self,eW,eb,zz]);(try with_reducible rfl);first|done|fail):an P dm (⟨d,none,.bldS sz len z parts⟩::l) T H nx K:=Ja hd hl hp hc k
theorem b0Z{dm:DM}{K:SP}{l:List Op2}{d:Option Nat}{sz:Nat}{z:List AV}(k:an P dm l (aO T d .esl) H nx K)(hd:dm2 dm T (.bldS sz 0 z [])=true:=by rfl):an P dm (⟨d,none,.bldS sz 0 z []⟩::l) T H nx K:=FC hd k
theorem a0Z{dm:DM}{K:SP}{l:List Op2}{d:Option Nat}{sz bytes n:Nat}{s x:Opd}{v:AV}{new:List AV}(k:an P dm l (aO T d (.msl nx (n*sz) sz 0 n)) (ay H nx new) (nx+1) K)(hd:dm2 dm T (.app sz bytes s x)=true:=by rfl)(hs:ov T s=.esl:=by(try simp only[ce,ZA,Nat.reduceEqDiff,↓reduceIte,Nat.reduceAdd,Nat.reduceLeDiff,zz]);(try with_reducible rfl);first|done|fail)(hx:ov T x=v:=by(try simp only[ce,ZA,Nat.reduceEqDiff,↓reduceIte,Nat.reduceAdd,Nat.reduceLeDiff,zz]);(try with_reducible rfl);first|done|fail)(hsrc:gI sz H v=some (n,new):=by first|exact gD|exact io|exact pq|(apply fE;(focus ((try simp only[ce,ZA,Nat.reduceEqDiff,↓reduceIte,Nat.reduceAdd,Nat.reduceLeDiff,zz]);(try with_reducible rfl);first|done|fail));(iterate 2 (focus ((try simp only[SL,Nat.reduceAdd,Nat.reduceMul,bo]);first|done|omega))))|exact kr)(ho:AV.ones new=true:=by first|exact iW|exact jB|(simp only[SO,Bool.and_self,eW,eb,zz];first|done|fail))(h1:n*bytes<=140737488355328:=by(try simp only[SL,Nat.reduceAdd,Nat.reduceMul,bo]);first|done|omega)(h2:n<=9223372036854775807:=by(try simp only[SL,Nat.reduceAdd,Nat.reduceMul,bo]);first|done|omega):an P dm (⟨d,none,.app sz bytes s x⟩::l) T H nx K:=jd hd hs hx hsrc ho h1 h2 k
theorem apZ{dm:DM}{K:SP}{l:List Op2}{d:Option Nat}{sz bytes n:Nat}{s x:Opd}{v:AV}{new cs:List AV}{b m len:Nat}(k:an P dm l (aO T d (.msl b ((len+n)*sz) sz 0 (len+n))) (ay H b (cs++new)) nx K)(hd:dm2 dm T (.app sz bytes s x)=true:=by rfl)(hs:ov T s=.msl b m sz 0 len:=by(try simp only[ce,ZA,Nat.reduceEqDiff,↓reduceIte,Nat.reduceAdd,Nat.reduceLeDiff,zz]);(try with_reducible rfl);first|done|fail)(hb:H b=some cs:=by(try simp only[ce,ZA,Nat.reduceEqDiff,↓reduceIte,Nat.reduceAdd,Nat.reduceLeDiff,zz]);(try with_reducible rfl);first|done|fail)(hx:ov T x=v:=by(try simp only[ce,ZA,Nat.reduceEqDiff,↓reduceIte,Nat.reduceAdd,Nat.reduceLeDiff,zz]);(try with_reducible rfl);first|done|fail)(hsrc:gI sz H v=some (n,new):=by first|exact gD|exact io|exact pq|(apply fE;(focus ((try simp only[ce,ZA,Nat.reduceEqDiff,↓reduceIte,Nat.reduceAdd,Nat.reduceLeDiff,zz]);(try with_reducible rfl);first|done|fail));(iterate 2 (focus ((try simp only[SL,Nat.reduceAdd,Nat.reduceMul,bo]);first|done|omega))))|exact kr)(ho:AV.ones new=true:=by first|exact iW|exact jB|(simp only[SO,Bool.and_self,eW,eb,zz];first|done|fail))(hm:cs.length=m:=by(try simp only[SL,Nat.reduceAdd,Nat.reduceMul,bo]);first|done|omega)(hl:m=len*sz:=by(try simp only[SL,Nat.reduceAdd,Nat.reduceMul,bo]);first|done|omega)(h1:(len+n)*bytes<=140737488355328:=by(try simp only[SL,Nat.reduceAdd,Nat.reduceMul,bo]);first|done|omega)(h2:len+n<=9223372036854775807:=by(try simp only[SL,Nat.reduceAdd,Nat.reduceMul,bo]);first|done|omega):an P dm (⟨d,none,.app sz bytes s x⟩::l) T H nx K:=AO hd hs hb hx hsrc ho hm hl h1 h2 k
theorem gTZ{dm:DM}{K:SP}{l:List Op2}{d:Option Nat}{i:Ins}{t:Nat}{w:Bool}(k:an P dm (⟨d,none,i⟩::l) T H nx K)(h:T t=.bool w:=by simp only[ce,ZA,Nat.reduceEqDiff,↓reduceIte,Nat.reduceAdd,Nat.reduceLeDiff,zz];first|done|fail):an P dm (⟨d,some (t,w),i⟩::l) T H nx K:=Ko h k
theorem gFZ{dm:DM}{K:SP}{l:List Op2}{d:Option Nat}{i:Ins}{t:Nat}{w:Bool}(k:an P dm l (aO T d (.tup [])) H nx K)(h:T t=.bool (!w)\/T t=.tup []:=by simp only[ce,ZA,Nat.reduceEqDiff,↓reduceIte,Nat.reduceAdd,Nat.reduceLeDiff,or_true,true_or,zz];first|done|fail):an P dm (⟨d,some (t,w),i⟩::l) T H nx K:=KW h k
theorem cTZ{K:CP}{c:Opd}{x y:C2}(h1:aK P x T H nx K)(hc:ov T c=.bool true:=by simp only[ce,ZA,Nat.reduceEqDiff,↓reduceIte,Nat.reduceAdd,Nat.reduceLeDiff,zz];first|done|fail):aK P (.cond c x y) T H nx K:=CD hc h1
theorem cFZ{K:CP}{c:Opd}{x y:C2}(h2:aK P y T H nx K)(hc:ov T c=.bool false:=by simp only[ce,ZA,Nat.reduceEqDiff,↓reduceIte,Nat.reduceAdd,Nat.reduceLeDiff,zz];first|done|fail):aK P (.cond c x y) T H nx K:=C0 hc h2
theorem r1Z{K:AV->Prop}{a:RV}{x:AV}(h:K x)(ha:rv T H a=some x:=by simp only[rv,ce,ZA,Nat.reduceEqDiff,↓reduceIte,Nat.reduceAdd,Nat.reduceLeDiff,zz];with_reducible rfl):bu T H K [a]:=r_1 ha h
theorem r2Z{K:AV->Prop}{a b:RV}{x y:AV}(h:K (.tup [x,y]))(ha:rv T H a=some x:=by simp only[rv,ce,ZA,Nat.reduceEqDiff,↓reduceIte,Nat.reduceAdd,Nat.reduceLeDiff,zz];with_reducible rfl)(hb:rv T H b=some y:=by simp only[rv,ce,ZA,Nat.reduceEqDiff,↓reduceIte,Nat.reduceAdd,Nat.reduceLeDiff,zz];with_reducible rfl):bu T H K [a,b]:=r_2 ha hb h
theorem r3Z{K:AV->Prop}{a b c:RV}{x y z:AV}(h:K (.tup [x,y,z]))(ha:rv T H a=some x:=by simp only[rv,ce,ZA,Nat.reduceEqDiff,↓reduceIte,Nat.reduceAdd,Nat.reduceLeDiff,zz];with_reducible rfl)(hb:rv T H b=some y:=by simp only[rv,ce,ZA,Nat.reduceEqDiff,↓reduceIte,Nat.reduceAdd,Nat.reduceLeDiff,zz];with_reducible rfl)(hc:rv T H c=some z:=by simp only[rv,ce,ZA,Nat.reduceEqDiff,↓reduceIte,Nat.reduceAdd,Nat.reduceLeDiff,zz];with_reducible rfl):bu T H K [a,b,c]:=r_3 ha hb hc h
theorem r5Z{K:AV->Prop}{a b c d e:RV}{x y z u v:AV}(h:K (.tup [x,y,z,u,v]))(ha:rv T H a=some x:=by simp only[rv,ce,ZA,Nat.reduceEqDiff,↓reduceIte,Nat.reduceAdd,Nat.reduceLeDiff,zz];with_reducible rfl)(hb:rv T H b=some y:=by simp only[rv,ce,ZA,Nat.reduceEqDiff,↓reduceIte,Nat.reduceAdd,Nat.reduceLeDiff,zz];with_reducible rfl)(hc:rv T H c=some z:=by simp only[rv,ce,ZA,Nat.reduceEqDiff,↓reduceIte,Nat.reduceAdd,Nat.reduceLeDiff,zz];with_reducible rfl)(hd:rv T H d=some u:=by simp only[rv,ce,ZA,Nat.reduceEqDiff,↓reduceIte,Nat.reduceAdd,Nat.reduceLeDiff,zz];with_reducible rfl)(he:rv T H e=some v:=by simp only[rv,ce,ZA,Nat.reduceEqDiff,↓reduceIte,Nat.reduceAdd,Nat.reduceLeDiff,zz];with_reducible rfl):bu T H K [a,b,c,d,e]:=r_5 ha hb hc hd he h
theorem vY{dm:DM}{K:SP}{l:List Op2}{d:Option Nat}{i:Ins}{r:AV}(k:an P dm l (aO T d r) H nx K)(hi:ic i=.val:=by rfl)(hd:dm2 dm T i=true:=by first|rfl|(simp (disch:=omega) only[dm2,sf,vu,cK,ZA,Nat.reduceEqDiff,↓reduceIte,Nat.reduceAdd,Nat.reduceLeDiff,zz,f9];first|done|omega))(h:b9 T H i=some r:=by(try simp (disch:=omega) only[cK,ZA,Nat.reduceEqDiff,↓reduceIte,Nat.reduceAdd,Nat.reduceLeDiff,ZV,reduceCtorEq,zz]);first|with_reducible rfl|(apply Cz;(focus omega);with_reducible rfl)):an P dm (⟨d,none,i⟩::l) T H nx K:=ou hi hd h k
theorem nvY{S:Hp}{K:SP}{l:List (Op2×Nat)}{d:Option Nat}{i:Ins}{r:AV}(k:be P S l (aO T d r) H nx K)(h:b9 T S i=some r:=by(try simp (disch:=omega) only[cK,ZA,Nat.reduceEqDiff,↓reduceIte,Nat.reduceAdd,Nat.reduceLeDiff,ZV,reduceCtorEq,zz]);first|with_reducible rfl|(apply Cz;(focus omega);with_reducible rfl)):be P S ((⟨d,none,i⟩,0)::l) T H nx K:=Ji h k
theorem cY{dm:DM}{K:SP}{l:List Op2}{d:Option Nat}{f:Opd}{args:List Opd}{g:FuncId}{caps xs:List AV}{r:AV}(k:an P dm l (aO T d r) H nx K)(hf:ov T f=.func g caps:=by(try simp (disch:=omega) only[cK,ZA,Nat.reduceEqDiff,↓reduceIte,Nat.reduceAdd,Nat.reduceLeDiff,zz]);(try with_reducible rfl);first|done|fail)(ha:args.map (ov T)++caps=xs:=by(try simp (disch:=omega) only[cK,ZA,Nat.reduceEqDiff,↓reduceIte,Nat.reduceAdd,Nat.reduceLeDiff,zz]);(try with_reducible rfl);first|done|fail)(hp:Pure P g xs r)(hs:az H xs xs r:=by(first|refine aG ?_ rfl|apply aW);(repeat' (first|exact ak|apply bv|(apply aX;(focus with_reducible assumption))));first|done|fail):an P dm (⟨d,none,.call f args⟩::l) T H nx K:=CZ hf ha hp hs k
theorem alY{dm:DM}{K:SP}{l:List Op2}{d:Option Nat}{z:AV}{cs:List AV}(k:an P dm l (aO T d (.ptr nx cs.length 0)) (ay H nx cs) (nx+1) K)(hd:dm2 dm T (.alloc z)=true:=by first|rfl|(simp (disch:=omega) only[dm2,sf,vu,cK,ZA,Nat.reduceEqDiff,↓reduceIte,Nat.reduceAdd,Nat.reduceLeDiff,zz,f9];first|done|omega))(hc:z.cells=cs:=by(try simp (disch:=omega) only[cK,ZA,Nat.reduceEqDiff,↓reduceIte,Nat.reduceAdd,Nat.reduceLeDiff,zz]);(try with_reducible rfl);first|done|fail)(ho:AV.ones cs=true:=by simp (disch:=omega) only[SO,Bool.and_self,eW,eb,zz];first|done|fail):an P dm (⟨d,none,.alloc z⟩::l) T H nx K:=su hd hc ho k
theorem bxY{dm:DM}{K:SP}{l:List Op2}{d:Option Nat}{x:Opd}{v:AV}{cs:List AV}(k:an P dm l (aO T d (.ptr nx cs.length 0)) (ay H nx cs) (nx+1) K)(hd:dm2 dm T (.box x)=true:=by first|rfl|(simp (disch:=omega) only[dm2,sf,vu,cK,ZA,Nat.reduceEqDiff,↓reduceIte,Nat.reduceAdd,Nat.reduceLeDiff,zz,f9];first|done|omega))(hx:ov T x=v:=by(try simp (disch:=omega) only[cK,ZA,Nat.reduceEqDiff,↓reduceIte,Nat.reduceAdd,Nat.reduceLeDiff,zz]);(try with_reducible rfl);first|done|fail)(hc:v.cells=cs:=by(try simp (disch:=omega) only[cK,ZA,Nat.reduceEqDiff,↓reduceIte,Nat.reduceAdd,Nat.reduceLeDiff,zz]);(try with_reducible rfl);first|done|fail)(ho:AV.ones cs=true:=by simp (disch:=omega) only[SO,Bool.and_self,eW,eb,zz];first|done|fail):an P dm (⟨d,none,.box x⟩::l) T H nx K:=Jg hd hx hc ho k
theorem stY{dm:DM}{K:SP}{l:List Op2}{d:Option Nat}{sz:Nat}{p x:Opd}{b n off:Nat}{v:AV}{cs vs:List AV}(k:an P dm l (aO T d (.tup [])) (ay H b (bJ cs off vs)) nx K)(hd:dm2 dm T (.st sz p x)=true:=by first|rfl|(simp (disch:=omega) only[dm2,sf,vu,cK,ZA,Nat.reduceEqDiff,↓reduceIte,Nat.reduceAdd,Nat.reduceLeDiff,zz,f9];first|done|omega))(hp:ov T p=.ptr b n off:=by(try simp (disch:=omega) only[cK,ZA,Nat.reduceEqDiff,↓reduceIte,Nat.reduceAdd,Nat.reduceLeDiff,zz]);(try with_reducible rfl);first|done|fail)(hx:ov T x=v:=by(try simp (disch:=omega) only[cK,ZA,Nat.reduceEqDiff,↓reduceIte,Nat.reduceAdd,Nat.reduceLeDiff,zz]);(try with_reducible rfl);first|done|fail)(hb:H b=some cs:=by(try simp (disch:=omega) only[cK,ZA,Nat.reduceEqDiff,↓reduceIte,Nat.reduceAdd,Nat.reduceLeDiff,zz]);(try with_reducible rfl);first|done|fail)(hc:v.cells=vs:=by(try simp (disch:=omega) only[cK,ZA,Nat.reduceEqDiff,↓reduceIte,Nat.reduceAdd,Nat.reduceLeDiff,zz]);(try with_reducible rfl);first|done|fail)(ho:AV.ones vs=true:=by simp (disch:=omega) only[SO,Bool.and_self,eW,eb,zz];first|done|fail)(hn:cs.length=n:=by(try simp only[SL,Nat.reduceAdd,Nat.reduceMul,bo]);first|done|omega)(hl:vs.length=sz:=by(try simp only[SL,Nat.reduceAdd,Nat.reduceMul,bo]);first|done|omega)(hf:off+sz<=n:=by(try simp only[SL,Nat.reduceAdd,Nat.reduceMul,bo]);first|done|omega):an P dm (⟨d,none,.st sz p x⟩::l) T H nx K:=Kp hd hp hx hb hc ho hn hl hf k
theorem blY{dm:DM}{K:SP}{l:List Op2}{d:Option Nat}{sz len:Nat}{z:List AV}{parts:List (Nat×Nat×Opd)}{pv:List (Nat×Nat×AV)}{cs:List AV}(k:an P dm l (aO T d (.msl nx cs.length sz 0 len)) (ay H nx cs) (nx+1) K)(hd:dm2 dm T (.bldS sz len z parts)=true:=by first|rfl|(simp (disch:=omega) only[dm2,sf,vu,cK,ZA,Nat.reduceEqDiff,↓reduceIte,Nat.reduceAdd,Nat.reduceLeDiff,zz,f9];first|done|omega))(hl:len≠0:=by exact Nat.succ_ne_zero _)(hp:parts.map (λp=>(p.1,p.2.1,ov T p.2.2))=pv:=by(try simp (disch:=omega) only[cK,ZA,Nat.reduceEqDiff,↓reduceIte,Nat.reduceAdd,Nat.reduceLeDiff,zz]);(try with_reducible rfl);first|done|fail)(hc:eB (bD (.agg z) len) pv=some cs:=by(try simp (disch:=omega) only[cK,ZA,Nat.reduceEqDiff,↓reduceIte,Nat.reduceAdd,Nat.reduceLeDiff,SO,Bool.and_self,eW,eb,zz]);(try with_reducible rfl);first|done|fail):an P dm (⟨d,none,.bldS sz len z parts⟩::l) T H nx K:=Ja hd hl hp hc k
theorem b0Y{dm:DM}{K:SP}{l:List Op2}{d:Option Nat}{sz:Nat}{z:List AV}(k:an P dm l (aO T d .esl) H nx K)(hd:dm2 dm T (.bldS sz 0 z [])=true:=by first|rfl|(simp (disch:=omega) only[dm2,sf,vu,cK,ZA,Nat.reduceEqDiff,↓reduceIte,Nat.reduceAdd,Nat.reduceLeDiff,zz,f9];first|done|omega)):an P dm (⟨d,none,.bldS sz 0 z []⟩::l) T H nx K:=FC hd k
theorem a0Y{dm:DM}{K:SP}{l:List Op2}{d:Option Nat}{sz bytes n:Nat}{s x:Opd}{v:AV}{new:List AV}(k:an P dm l (aO T d (.msl nx (n*sz) sz 0 n)) (ay H nx new) (nx+1) K)(hd:dm2 dm T (.app sz bytes s x)=true:=by first|rfl|(simp (disch:=omega) only[dm2,sf,vu,cK,ZA,Nat.reduceEqDiff,↓reduceIte,Nat.reduceAdd,Nat.reduceLeDiff,zz,f9];first|done|omega))(hs:ov T s=.esl:=by(try simp (disch:=omega) only[cK,ZA,Nat.reduceEqDiff,↓reduceIte,Nat.reduceAdd,Nat.reduceLeDiff,zz]);(try with_reducible rfl);first|done|fail)(hx:ov T x=v:=by(try simp (disch:=omega) only[cK,ZA,Nat.reduceEqDiff,↓reduceIte,Nat.reduceAdd,Nat.reduceLeDiff,zz]);(try with_reducible rfl);first|done|fail)(hsrc:gI sz H v=some (n,new):=by first|exact gD|exact io|exact pq|(apply fE;(focus ((try simp (disch:=omega) only[cK,ZA,Nat.reduceEqDiff,↓reduceIte,Nat.reduceAdd,Nat.reduceLeDiff,zz]);(try with_reducible rfl);first|done|fail));(iterate 2 (focus ((try simp only[SL,Nat.reduceAdd,Nat.reduceMul,bo]);first|done|omega))))|exact kr)(ho:AV.ones new=true:=by first|exact iW|exact jB|(simp only[SO,Bool.and_self,eW,eb,zz];first|done|fail))(h1:n*bytes<=140737488355328:=by(try simp only[SL,Nat.reduceAdd,Nat.reduceMul,bo]);first|done|omega)(h2:n<=9223372036854775807:=by(try simp only[SL,Nat.reduceAdd,Nat.reduceMul,bo]);first|done|omega):an P dm (⟨d,none,.app sz bytes s x⟩::l) T H nx K:=jd hd hs hx hsrc ho h1 h2 k
theorem apY{dm:DM}{K:SP}{l:List Op2}{d:Option Nat}{sz bytes n:Nat}{s x:Opd}{v:AV}{new cs:List AV}{b m len:Nat}(k:an P dm l (aO T d (.msl b ((len+n)*sz) sz 0 (len+n))) (ay H b (cs++new)) nx K)(hd:dm2 dm T (.app sz bytes s x)=true:=by first|rfl|(simp (disch:=omega) only[dm2,sf,vu,cK,ZA,Nat.reduceEqDiff,↓reduceIte,Nat.reduceAdd,Nat.reduceLeDiff,zz,f9];first|done|omega))(hs:ov T s=.msl b m sz 0 len:=by(try simp (disch:=omega) only[cK,ZA,Nat.reduceEqDiff,↓reduceIte,Nat.reduceAdd,Nat.reduceLeDiff,zz]);(try with_reducible rfl);first|done|fail)(hb:H b=some cs:=by(try simp (disch:=omega) only[cK,ZA,Nat.reduceEqDiff,↓reduceIte,Nat.reduceAdd,Nat.reduceLeDiff,zz]);(try with_reducible rfl);first|done|fail)(hx:ov T x=v:=by(try simp (disch:=omega) only[cK,ZA,Nat.reduceEqDiff,↓reduceIte,Nat.reduceAdd,Nat.reduceLeDiff,zz]);(try with_reducible rfl);first|done|fail)(hsrc:gI sz H v=some (n,new):=by first|exact gD|exact io|exact pq|(apply fE;(focus ((try simp (disch:=omega) only[cK,ZA,Nat.reduceEqDiff,↓reduceIte,Nat.reduceAdd,Nat.reduceLeDiff,zz]);(try with_reducible rfl);first|done|fail));(iterate 2 (focus ((try simp only[SL,Nat.reduceAdd,Nat.reduceMul,bo]);first|done|omega))))|exact kr)(ho:AV.ones new=true:=by first|exact iW|exact jB|(simp only[SO,Bool.and_self,eW,eb,zz];first|done|fail))(hm:cs.length=m:=by(try simp only[SL,Nat.reduceAdd,Nat.reduceMul,bo]);first|done|omega)(hl:m=len*sz:=by(try simp only[SL,Nat.reduceAdd,Nat.reduceMul,bo]);first|done|omega)(h1:(len+n)*bytes<=140737488355328:=by(try simp only[SL,Nat.reduceAdd,Nat.reduceMul,bo]);first|done|omega)(h2:len+n<=9223372036854775807:=by(try simp only[SL,Nat.reduceAdd,Nat.reduceMul,bo]);first|done|omega):an P dm (⟨d,none,.app sz bytes s x⟩::l) T H nx K:=AO hd hs hb hx hsrc ho hm hl h1 h2 k
theorem gTY{dm:DM}{K:SP}{l:List Op2}{d:Option Nat}{i:Ins}{t:Nat}{w:Bool}(k:an P dm (⟨d,none,i⟩::l) T H nx K)(h:T t=.bool w:=by simp (disch:=omega) only[cK,ZA,Nat.reduceEqDiff,↓reduceIte,Nat.reduceAdd,Nat.reduceLeDiff,zz];first|done|fail):an P dm (⟨d,some (t,w),i⟩::l) T H nx K:=Ko h k
theorem gFY{dm:DM}{K:SP}{l:List Op2}{d:Option Nat}{i:Ins}{t:Nat}{w:Bool}(k:an P dm l (aO T d (.tup [])) H nx K)(h:T t=.bool (!w)\/T t=.tup []:=by simp (disch:=omega) only[cK,ZA,Nat.reduceEqDiff,↓reduceIte,Nat.reduceAdd,Nat.reduceLeDiff,or_true,true_or,zz];first|done|fail):an P dm (⟨d,some (t,w),i⟩::l) T H nx K:=KW h k
theorem cTY{K:CP}{c:Opd}{x y:C2}(h1:aK P x T H nx K)(hc:ov T c=.bool true:=by simp (disch:=omega) only[cK,ZA,Nat.reduceEqDiff,↓reduceIte,Nat.reduceAdd,Nat.reduceLeDiff,zz];first|done|fail):aK P (.cond c x y) T H nx K:=CD hc h1
theorem cFY{K:CP}{c:Opd}{x y:C2}(h2:aK P y T H nx K)(hc:ov T c=.bool false:=by simp (disch:=omega) only[cK,ZA,Nat.reduceEqDiff,↓reduceIte,Nat.reduceAdd,Nat.reduceLeDiff,zz];first|done|fail):aK P (.cond c x y) T H nx K:=C0 hc h2
theorem r1Y{K:AV->Prop}{a:RV}{x:AV}(h:K x)(ha:rv T H a=some x:=by simp (disch:=omega) only[rv,cK,ZA,Nat.reduceEqDiff,↓reduceIte,Nat.reduceAdd,Nat.reduceLeDiff,zz];with_reducible rfl):bu T H K [a]:=r_1 ha h
theorem r2Y{K:AV->Prop}{a b:RV}{x y:AV}(h:K (.tup [x,y]))(ha:rv T H a=some x:=by simp (disch:=omega) only[rv,cK,ZA,Nat.reduceEqDiff,↓reduceIte,Nat.reduceAdd,Nat.reduceLeDiff,zz];with_reducible rfl)(hb:rv T H b=some y:=by simp (disch:=omega) only[rv,cK,ZA,Nat.reduceEqDiff,↓reduceIte,Nat.reduceAdd,Nat.reduceLeDiff,zz];with_reducible rfl):bu T H K [a,b]:=r_2 ha hb h
theorem r3Y{K:AV->Prop}{a b c:RV}{x y z:AV}(h:K (.tup [x,y,z]))(ha:rv T H a=some x:=by simp (disch:=omega) only[rv,cK,ZA,Nat.reduceEqDiff,↓reduceIte,Nat.reduceAdd,Nat.reduceLeDiff,zz];with_reducible rfl)(hb:rv T H b=some y:=by simp (disch:=omega) only[rv,cK,ZA,Nat.reduceEqDiff,↓reduceIte,Nat.reduceAdd,Nat.reduceLeDiff,zz];with_reducible rfl)(hc:rv T H c=some z:=by simp (disch:=omega) only[rv,cK,ZA,Nat.reduceEqDiff,↓reduceIte,Nat.reduceAdd,Nat.reduceLeDiff,zz];with_reducible rfl):bu T H K [a,b,c]:=r_3 ha hb hc h
theorem r5Y{K:AV->Prop}{a b c d e:RV}{x y z u v:AV}(h:K (.tup [x,y,z,u,v]))(ha:rv T H a=some x:=by simp (disch:=omega) only[rv,cK,ZA,Nat.reduceEqDiff,↓reduceIte,Nat.reduceAdd,Nat.reduceLeDiff,zz];with_reducible rfl)(hb:rv T H b=some y:=by simp (disch:=omega) only[rv,cK,ZA,Nat.reduceEqDiff,↓reduceIte,Nat.reduceAdd,Nat.reduceLeDiff,zz];with_reducible rfl)(hc:rv T H c=some z:=by simp (disch:=omega) only[rv,cK,ZA,Nat.reduceEqDiff,↓reduceIte,Nat.reduceAdd,Nat.reduceLeDiff,zz];with_reducible rfl)(hd:rv T H d=some u:=by simp (disch:=omega) only[rv,cK,ZA,Nat.reduceEqDiff,↓reduceIte,Nat.reduceAdd,Nat.reduceLeDiff,zz];with_reducible rfl)(he:rv T H e=some v:=by simp (disch:=omega) only[rv,cK,ZA,Nat.reduceEqDiff,↓reduceIte,Nat.reduceAdd,Nat.reduceLeDiff,zz];with_reducible rfl):bu T H K [a,b,c,d,e]:=r_5 ha hb hc hd he h
class StW(A:Prop)(B:outParam Prop):Prop where st:B->A
class StO(A:Prop)(B:outParam Prop):Prop where st:B->A
class StM(A:Prop)(B:outParam Prop):Prop where st:B->A
theorem zW{A B:Prop}[i:StW A B](h:B):A:=i.st h
theorem zO{A B:Prop}[i:StO A B](h:B):A:=i.st h
theorem zM{A B:Prop}[i:StM A B](h:B):A:=i.st h
instance{K:CP}{x y:C2}:StW (aK P (.seq x y) T H nx K) (aK P x T H nx λe T H nx=>aR e (aK P y T H nx K) (K e T H nx)):=⟨dQ⟩
instance{K:CP}{i:Nat}{b:C2}:StW (aK P (.block i b) T H nx K) (aK P b T H nx λe T H nx=>K (qL i e) T H nx):=⟨lS⟩
instance{K:CP}{b:C2}:StW (aK P (.loop b) T H nx K) (a5 (aK P b) T H nx K):=⟨J7⟩
instance{K:CP}:StO (aK P .skip T H nx K) (K .normal T H nx):=⟨J6⟩
instance{K:CP}{i:Nat}:StO (aK P (.exit i) T H nx K) (K (.exit i) T H nx):=⟨Kj⟩
instance{K:CP}:StO (aK P .ret T H nx K) (K .ret T H nx):=⟨Nj⟩
instance{K:CP}{l:List Op2}:StO (aK P (.ops 0 l) T H nx K) (an P .text l T H nx λT H nx=>K .normal T H nx):=⟨J2⟩
instance{K:CP}{l:List Op2}:StO (aK P (.ops 1 l) T H nx K) (an P .draw l T H nx λT H nx=>K .normal T H nx):=⟨KH⟩
instance{K:CP}{l:List Op2}:StO (aK P (.ops 2 l) T H nx K) (an P (.fresh nx) l T H nx λT H nx=>K .normal T H nx):=⟨JT⟩
instance{K:CP}{l:List Op2}{C:List Nat}:StO (aK P (.mix 1 l C) T H nx K) (an P .draw l T H nx λT H nx=>K .normal T H nx):=⟨w_mix1⟩
instance{K:CP}{l:List Op2}{C:List Nat}:StO (aK P (.mix 2 l C) T H nx K) (an P (.fresh nx) l T H nx λT H nx=>K .normal T H nx):=⟨qr⟩
instance{dm:DM}{K:SP}:StO (an P dm [] T H nx K) (K T H nx):=⟨kB⟩
instance{S:Hp}{K:SP}:StO (be P S [] T H nx K) (K T H nx):=⟨vV⟩
instance{S:Hp}{K:SP}{l:List (Op2×Nat)}{d:Option Nat}{i:Ins}:StO (be P S ((⟨d,none,i⟩,2)::l) T H nx K) (an P .text [⟨d,none,i⟩] T H nx λT H nx=>be P S l T H nx K):=⟨jH⟩
instance{K:AV->Prop}:StO (bu T H K []) (K (.tup [])):=⟨r_0⟩
instance{K:CP}{l:List Op2}{C:List (Nat×Nat)}:StM (aK P (.mixS 1 l C) T H nx K) (an P .draw l T H nx λT H nx=>K .normal T H nx):=⟨HY⟩
instance{K:CP}{l:List Op2}{C:List (Nat×Nat)}:StM (aK P (.mixS 2 l C) T H nx K) (an P (.fresh nx) l T H nx λT H nx=>K .normal T H nx):=⟨Hx⟩
class NZ(b w:Bool)(p q:outParam Prop):Prop where
 t:b=w->p
 f:b=!w->q
instance(priority:=10){b:Bool}:NZ b true (b=true) (b=false):=⟨id,id⟩
instance(priority:=10){b:Bool}:NZ b false (b=false) (b=true):=⟨id,id⟩
instance{p:Prop}{i:Decidable p}:NZ (decide p) true p (¬p):=⟨n5,of_decide_eq_false⟩
instance{p:Prop}{i:Decidable p}:NZ (decide p) false (¬p) p:=⟨of_decide_eq_false,n5⟩
instance(priority:=2000):NZ true true True False:=⟨λ_=>trivial,λh=>by cases h⟩
instance(priority:=2000):NZ true false False True:=⟨λh=>(by cases h),λ_=>trivial⟩
instance(priority:=2000):NZ false true False True:=⟨λh=>(by cases h),λ_=>trivial⟩
instance(priority:=2000):NZ false false True False:=⟨λ_=>trivial,λh=>by cases h⟩
instance(priority:=2000){i:Decidable True}:NZ (decide True) true True False:=⟨λ_=>trivial,λh=>of_decide_eq_false h trivial⟩
instance(priority:=2000){i:Decidable True}:NZ (decide True) false False True:=⟨λh=>of_decide_eq_false h trivial,λ_=>trivial⟩
instance(priority:=2000){i:Decidable False}:NZ (decide False) true False True:=⟨n5,λ_=>trivial⟩
instance(priority:=2000){i:Decidable False}:NZ (decide False) false True False:=⟨λ_=>trivial,n5⟩
instance{b w:Bool}{p q:Prop}[i:NZ b w p q]:NZ (!b) w q p:=⟨λh=>i.f (by cases b<;>cases w<;>simp_all),λh=>i.t (by cases b<;>cases w<;>simp_all)⟩
class StG(A:Prop)(v:outParam AV)(w:outParam Bool)(B C:outParam Prop):Prop where
 st:∀b:Bool,v=.bool b->(b=w->B)->(b=!w->C)->A
instance{K:CP}{c:Opd}{x y:C2}:StG (aK P (.cond c x y) T H nx K) (ov T c) true (aK P x T H nx K) (aK P y T H nx K):=⟨λ_ h k1 k2=>Bg h k1 k2⟩
instance{dm:DM}{K:SP}{l:List Op2}{d:Option Nat}{i:Ins}{t:Nat}:StG (an P dm (⟨d,some (t,true),i⟩::l) T H nx K) (T t) true (an P dm (⟨d,none,i⟩::l) (upd T t (.bool true)) H nx K) (an P dm l (aO (upd T t (.bool false)) d (.tup [])) H nx K):=⟨λ_ h k1 k2=>Ni h k1 k2⟩
instance{dm:DM}{K:SP}{l:List Op2}{d:Option Nat}{i:Ins}{t:Nat}:StG (an P dm (⟨d,some (t,false),i⟩::l) T H nx K) (T t) false (an P dm (⟨d,none,i⟩::l) (upd T t (.bool false)) H nx K) (an P dm l (aO (upd T t (.bool true)) d (.tup [])) H nx K):=⟨λ_ h k1 k2=>Ni h k1 k2⟩
theorem zGZ{A:Prop}{v:AV}{w b:Bool}{B C p q:Prop}[i:StG A v w B C][n:NZ b w p q](k1:p->B)(k2:q->C)(h:v=.bool b:=by(try simp only[ce,ZA,Nat.reduceEqDiff,↓reduceIte,Nat.reduceAdd,Nat.reduceLeDiff,zz]);(try with_reducible rfl);first|done|fail):A:=i.st b h (λh=>k1 (n.t h)) (λh=>k2 (n.f h))
theorem zGY{A:Prop}{v:AV}{w b:Bool}{B C p q:Prop}[i:StG A v w B C][n:NZ b w p q](k1:p->B)(k2:q->C)(h:v=.bool b:=by(try simp (disch:=omega) only[cK,ZA,Nat.reduceEqDiff,↓reduceIte,Nat.reduceAdd,Nat.reduceLeDiff,zz]);(try with_reducible rfl);first|done|fail):A:=i.st b h (λh=>k1 (n.t h)) (λh=>k2 (n.f h))
structure WkQ(B:Prop):Prop where
 q:B
class DatLI(l:List AV):Prop where
 d:∀x∈l,Dat x
instance:DatLI []:=⟨λ_ h=>(by cases h)⟩
instance{x:AV}{l:List AV}[h:DatI x][k:DatLI l]:DatLI (x::l):=⟨DatL.cons h.d k.d⟩
instance{l:List AV}[k:DatLI l]:DatI (.agg l):=⟨Dat.agg k.d⟩
instance{f:FuncId}{l:List AV}[k:DatLI l]:DatI (.func f l):=⟨Dat.func k.d⟩
instance{l:List AV}{n:Nat}[k:DatLI l]:DatI (.iptr l n):=⟨Dat.iptr k.d⟩
theorem wkZ{A B F:Prop}(zz:F)(k:B)(h:F->WkQ B->A:=by intro zz _q;(repeat' (first|refine zW ?_|refine zM ?_|apply a_n|apply a_x|apply a_r|refine zO ?_|refine vZ ?_|refine nvZ ?_|refine cZ ?_ (hp:=by assumption)|refine bxZ ?_|refine alZ ?_|refine blZ ?_|refine b0Z ?_|refine a0Z ?_|refine apZ ?_|refine stZ ?_|refine gTZ ?_|refine gFZ ?_|refine cTZ ?_|refine cFZ ?_|(refine zGZ ?_ ?_<;>(intro _hg;try (exfalso;omega)))|refine b6 rfl ?_|refine r1Z ?_|refine r2Z ?_|refine r3Z ?_|refine r5Z ?_|refine xN rfl ?_|fail));first|(exact _q.q;done)|fail):A:=h zz ⟨k⟩
theorem wnZ{A B F:Prop}(zz:F)(k:B)(h:F->WkQ B->A:=by intro zz _q;(repeat' (first|refine zW ?_|apply a_n|apply a_x|apply a_r|refine zO ?_|refine vZ ?_|refine nvZ ?_|refine cZ ?_ (hp:=by assumption)|refine bxZ ?_|refine alZ ?_|refine blZ ?_|refine b0Z ?_|refine a0Z ?_|refine apZ ?_|refine stZ ?_|refine gTZ ?_|refine gFZ ?_|refine cTZ ?_|refine cFZ ?_|(refine zGZ ?_ ?_<;>(intro _hg;try (exfalso;omega)))|refine b6 rfl ?_|refine r1Z ?_|refine r2Z ?_|refine r3Z ?_|refine r5Z ?_|refine xN rfl ?_|fail));first|(exact _q.q;done)|fail):A:=h zz ⟨k⟩
theorem wkY{A B F:Prop}(zz:F)(k:B)(h:F->WkQ B->A:=by intro zz _q;(repeat' (first|refine zW ?_|refine zM ?_|apply a_n|apply a_x|apply a_r|refine zO ?_|refine vY ?_|refine nvY ?_|refine cY ?_ (hp:=by assumption)|refine bxY ?_|refine alY ?_|refine blY ?_|refine b0Y ?_|refine a0Y ?_|refine apY ?_|refine stY ?_|refine gTY ?_|refine gFY ?_|refine cTY ?_|refine cFY ?_|(refine zGY ?_ ?_<;>(intro _hg;try (exfalso;omega)))|refine b6 rfl ?_|refine r1Y ?_|refine r2Y ?_|refine r3Y ?_|refine r5Y ?_|refine xN rfl ?_|fail));first|(exact _q.q;done)|fail):A:=h zz ⟨k⟩
theorem wnY{A B F:Prop}(zz:F)(k:B)(h:F->WkQ B->A:=by intro zz _q;(repeat' (first|refine zW ?_|apply a_n|apply a_x|apply a_r|refine zO ?_|refine vY ?_|refine nvY ?_|refine cY ?_ (hp:=by assumption)|refine bxY ?_|refine alY ?_|refine blY ?_|refine b0Y ?_|refine a0Y ?_|refine apY ?_|refine stY ?_|refine gTY ?_|refine gFY ?_|refine cTY ?_|refine cFY ?_|(refine zGY ?_ ?_<;>(intro _hg;try (exfalso;omega)))|refine b6 rfl ?_|refine r1Y ?_|refine r2Y ?_|refine r3Y ?_|refine r5Y ?_|refine xN rfl ?_|fail));first|(exact _q.q;done)|fail):A:=h zz ⟨k⟩
theorem zI3{a b c:Prop}(xa:a)(xb:b)(xc:c):a/\b/\c:=⟨xa,xb,xc⟩
theorem zI4{a b c d:Prop}(xa:a)(xb:b)(xc:c)(xd:d):a/\b/\c/\d:=⟨xa,xb,xc,xd⟩
theorem zI5{a b c d e:Prop}(xa:a)(xb:b)(xc:c)(xd:d)(xe:e):a/\b/\c/\d/\e:=⟨xa,xb,xc,xd,xe⟩
theorem zI6{a b c d e f:Prop}(xa:a)(xb:b)(xc:c)(xd:d)(xe:e)(xf:f):a/\b/\c/\d/\e/\f:=⟨xa,xb,xc,xd,xe,xf⟩
theorem zI7{a b c d e f g:Prop}(xa:a)(xb:b)(xc:c)(xd:d)(xe:e)(xf:f)(xg:g):a/\b/\c/\d/\e/\f/\g:=⟨xa,xb,xc,xd,xe,xf,xg⟩
theorem zI8{a b c d e f g h:Prop}(xa:a)(xb:b)(xc:c)(xd:d)(xe:e)(xf:f)(xg:g)(xh:h):a/\b/\c/\d/\e/\f/\g/\h:=⟨xa,xb,xc,xd,xe,xf,xg,xh⟩
theorem zI9{a b c d e f g h i:Prop}(xa:a)(xb:b)(xc:c)(xd:d)(xe:e)(xf:f)(xg:g)(xh:h)(xi:i):a/\b/\c/\d/\e/\f/\g/\h/\i:=⟨xa,xb,xc,xd,xe,xf,xg,xh,xi⟩
theorem jT{a b c d e f g h i j:Prop}(xa:a)(xb:b)(xc:c)(xd:d)(xe:e)(xf:f)(xg:g)(xh:h)(xi:i)(xj:j):a/\b/\c/\d/\e/\f/\g/\h/\i/\j:=⟨xa,xb,xc,xd,xe,xf,xg,xh,xi,xj⟩
theorem lpI{b:C2}{K:CP}{X:Type}(L:X->List (Nat×AV))(I:X->Hp->Nat->Prop)(μ:X->Nat)(x0:X)(h0:I x0 H nx)
    (step:∀x H nx,I x H nx->aK P b (tl (L x)) H nx λe T H' nx'=>aR e (∃y,μ y<μ x/\I y H' nx'/\agr T (L y)) (K e T H' nx')) (hT:agr T (L x0):=by(repeat' (first|exact trivial|refine And.intro rfl ?_));first|done|fail):a5 (aK P b) T H nx K:=bZ L I μ x0 h0 hT step
theorem eR{dm:DM}{K:SP}{l:List Op2}{d:Option Nat}{sz bytes k:Nat}{s x:Opd}{sv xv:AV}{cs new:List AV}(hrow:Row H sz sv cs)(next:∀(sv':AV)(H':Hp)(nx':Nat),Row H' sz sv' (cs++new)->nx<=nx'->nx'<=nx+1->(∀i,i<nx->bz sv≠some i->H' i=H i)->(∀b,bz sv'=some b->bz sv=some b\/b=nx/\nx'=nx+1)->an P dm l (aO T d sv') H' nx' K)(hd:dm2 dm T (.app sz bytes s x)=true:=by rfl)(hs:ov T s=sv:=by(try simp only[ce,ZA,Nat.reduceEqDiff,↓reduceIte,Nat.reduceAdd,Nat.reduceLeDiff]);(try with_reducible rfl);first|done|fail)(hx:ov T x=xv:=by(try simp only[ce,ZA,Nat.reduceEqDiff,↓reduceIte,Nat.reduceAdd,Nat.reduceLeDiff]);(try with_reducible rfl);first|done|fail)(hsrc:gI sz H xv=some (k,new):=by first|exact ed|exact qW|fail)(ho:AV.ones new=true:=by rfl)(hk:new.length=k*sz:=by rfl)(hz:0<sz:=by first|exact ke|omega|fail)(h1:(cs.length+k)*bytes<=140737488355328:=by first|(rw[bo];omega)|omega|fail)(h2:cs.length+k<=9223372036854775807:=by first|(rw[bo];omega)|omega|fail):an P dm (⟨d,none,.app sz bytes s x⟩::l) T H nx K:=hZ hd hs hrow hx hsrc ho hk hz h1 h2 next
end Go.Abs
namespace Go.Abs
open Go.RowKit
theorem Snap.self{H H':Hp}{x y:AV}(h:Snap H x y):Snap H' y y:=by
 induction h with
 |bool b=>exact .bool _
 |int k n=>exact .int _ _
 |str s=>exact .str _
 |nilp=>exact .nilp
 |nilf=>exact .nilf
 |nilm=>exact .nilm
 |esl=>exact .esl
 |eslsl sz=>exact .slnil _ _
 |sl sz l l' hl hc h ih=>
  refine .sl sz l' l' rfl (λi x y hx hy=>by rw[hx] at hy;cases hy;rfl) (λi j x y a b hx hy ha hb=>?_);rw[hx] at hy;cases hy;rw[ha] at hb;cases hb;have hlt:i<l.length:=by rw[hl];exact(bL.1 hx).1
  have hz:l[i]?=some l[i]:=by simp[hlt]
  have hcl:=hc i _ _ hz hx;have hj:j<l[i].cells.length:=by rw[<-hcl];exact(bL.1 ha).1
  exact ih i j l[i] x l[i].cells[j] a hz hx (by simp[hj]) ha
 |slnil sz sz'=>exact .slnil _ _
 |msl b n sz off len cs l' hb hn hfit hl hc h ih=>
  refine .sl sz l' l' rfl (λi x y hx hy=>by rw[hx] at hy;cases hy;rfl) (λi j x y a c hx hy ha hc'=>?_);rw[hx] at hy;cases hy;rw[ha] at hc';cases hc';have hi:i<len:=by rw[<-hl];exact(bL.1 hx).1
  have hj:j<sz:=by rw[<-hc x (gJ hx)];exact(bL.1 ha).1
  have hlt:off+i*sz+j<cs.length:=by
   have:(i+1)*sz<=len*sz:=lY _ hi;rw[fX] at this;omega
  exact ih i j x cs[off+i*sz+j] a hx ha (by simp[hlt])
 |mslnil b n sz off sz'=>exact .slnil _ _
 |ptr b n off cs cs' hb hn hl h ih=>
  refine .iptr cs' cs' off rfl (λi a c ha hc=>?_);rw[ha] at hc;cases hc;have hlt:i<cs.length:=by rw[hn,<-hl];exact(bL.1 ha).1
  exact ih i cs[i] a (by simp[hlt]) ha
 |iptr cs cs' off hl h ih=>
  refine .iptr cs' cs' off rfl (λi a c ha hc=>?_);rw[ha] at hc;cases hc;have hlt:i<cs.length:=by rw[<-hl];exact(bL.1 ha).1
  exact ih i cs[i] a (by simp[hlt]) ha
 |func f cs cs' hl h ih=>
  refine .func f cs' cs' rfl (λi a c ha hc=>?_);rw[ha] at hc;cases hc;have hlt:i<cs.length:=by rw[<-hl];exact(bL.1 ha).1
  exact ih i cs[i] a (by simp[hlt]) ha
 |agg cs cs' hl h ih=>
  refine .agg cs' cs' rfl (λi a c ha hc=>?_);rw[ha] at hc;cases hc;have hlt:i<cs.length:=by rw[<-hl];exact(bL.1 ha).1
  exact ih i cs[i] a (by simp[hlt]) ha
 |tup cs cs' hl h ih=>
  refine .tup cs' cs' rfl (λi a c ha hc=>?_);rw[ha] at hc;cases hc;have hlt:i<cs.length:=by rw[<-hl];exact(bL.1 ha).1
  exact ih i cs[i] a (by simp[hlt]) ha
theorem Fn.of_pureZ{P:Program}{f:FuncId}{args args':List AV}{r:AV}(hp:Pure P f args' r){H Hf H':Hp}{nx:Nat}(hsub:∀b cs,Hf b=some cs->H b=some cs)(hH:∀b cs,H' b=some cs->H b=some cs/\Hf b=none)(hs:aL Hf args args')
    {R:AV->Hp->Nat->Prop} (hR:R r H' nx):Fn P f args H nx R:=by
 refine⟨hp.1,λE w vs hE hh hfr hv=>?_⟩
 have hsim:Sim E {n:=vs.length} ⟨T0 args,H,nx⟩ {tmps:=vs.toArray,defers:=[]} w:=by
  refine⟨hE,hh,hfr,λl hl=>(by cases hl),bC _,by simp,λt=>?_,⟨od,λd hd=>(by cases hd)⟩⟩;show Rel E w (T0 args t) (vs.toArray.getD t Go.undef);by_cases ht:t<args.length
  ·have h1:args[t]?=some args[t]:=by simp[ht]
   have h2:vs[t]?=some (vs[t]'(by rw[hv.1];exact ht)):=by simp[hv.1,ht]
   have:=hv.2 t _ _ h1 h2;have e1:T0 args t=args[t]:=by simp[T0,List.getD,ht]
   have e2:vs.toArray.getD t Go.undef=vs[t]'(by rw[hv.1];exact ht):=by simp[Array.getD,hv.1,ht]
   rw[e1,e2];exact this
  ·have e1:T0 args t=.undef:=by simp[T0,List.getD,ht]
   rw[e1];exact .undef _
 have hg:Gh (T0 args) H nx (T0 args') H' nx Hf:=by
  refine⟨hsub,aP _,λb cs' hb=>?_,λt=>?_⟩
  ·obtain⟨h1,h2⟩:=hH b cs' hb;exact .inl ⟨cs',h1,h2,rfl,λi x x' hx hx'=>.inl (by rw[hx] at hx';cases hx';rfl)⟩
  ·by_cases ht:t<args.length
   ·have h1:args[t]?=some args[t]:=by simp[ht]
    have h2:args'[t]?=some (args'[t]'(by rw[hs.1];exact ht)):=by simp[hs.1,ht]
    have:=hs.2 t _ _ h1 h2;have e1:T0 args t=args[t]:=by simp[T0,List.getD,ht]
    have e2:T0 args' t=args'[t]'(by rw[hs.1];exact ht):=by simp[T0,List.getD,hs.1,ht]
    right;right;left;rw[e1,e2];exact this
   ·left;simp[T0,List.getD,hs.1,ht]
 obtain⟨E',he,hsim'⟩:=hsim.ghost hg
 have hself:aL bN args' args':=⟨rfl,fun i x y hx hy=>by
  rw[hx] at hy;cases hy;have hlt:i<args.length:=by rw[<-hs.1];exact(bL.1 hx).1
  exact(hs.2 i args[i] x (by simp[hlt]) hx).self⟩
 have hv':dJ E' w args' vs:=by
  refine⟨by rw[hv.1,hs.1],λi x v hx hvi=>?_⟩;have hlt:i<vs.length:=(bL.1 hvi).1;have hla:i<args'.length:=(bL.1 hx).1;have:=hsim'.tmps i
  have e1:T0 args' i=x:=by
   have:=(bL.1 hx).2;simp[T0,List.getD,hx]
  have e2:vs.toArray.getD i Go.undef=v:=by
   have:=(bL.1 hvi).2;simp[Array.getD,hlt,this]
  simp only at this;rw[e1,e2] at this;exact this
 refine((Fn.of_pure hp (.inl hself) (H:=H') (nx:=nx) (R:=R) hR).2 E' w vs hsim'.env hsim'.heap hsim'.fresh hv').mono ?_;rintro e w' ⟨v,E2,r2,H2,nx2,k1,k2,k3,k4,k5,k6,k7⟩;exact⟨v,E2,r2,H2,nx2,k1,he.trans k2,k3,k4,k5,k6,k7⟩
end Go.Abs
namespace Go.Abs
open Go Go.RowKit
def vB(W:World):Nat->Prop:=λb=>b<W.heap.size
theorem D5{W:World}{a:Addr}{v:Value}(h:W.cell? a=some v):vB W a.block/\a.spot=none:=by
 unfold World.cell? at h;unfold vB;cases hb:W.heap[a.block]? with
 |none=>simp[hb] at h
 |some o=>
  refine⟨(jz.1 hb).1,?_⟩;cases hs:a.spot with
  |none=>rfl
  |some s=>cases o<;>simp[hb,hs] at h
section
variable{H:Type}{enc:TypeId×Value->H}{P:Program}{W:World}
def fv(enc:TypeId×Value->H)(P:Program)(W:World)(t:TypeId){α:Type}(f:α->AV)(good:α->Prop):Prop:=
 ∀(n:Nat)(cs:List Value)(x:DataW H×List MemPlace),DataW.trod enc P W 0 (λ_=>true) true n t cs=some x->(∀k∈x.1.weights P t,k<=reachBytes)->∃a:α,good a/\dJ (E0 (vB W)) W (f a).cells cs
theorem fv.mono{t:TypeId}{α:Type}{f:α->AV}{good good':α->Prop}(h:fv enc P W t f good)(hg:∀a,good a->good' a):fv enc P W t f good':=
 λn cs x hx hw=>let ⟨a,h1,h2⟩:=h n cs x hx hw;⟨a,hg a h1,h2⟩
theorem sQ {E:Env} {w:World} {x:AV} {y:Value} (h:Rel E w x y):dJ E w [x] [y]:=⟨rfl,fun i a b ha hb=>by
 cases i with
 |zero=>simp at ha hb;subst ha hb;exact h
 |succ i=>simp at ha⟩
theorem dJ.app{E:Env}{w:World}{xs xs':List AV}{ys ys':List Value}(h:dJ E w xs ys)(h':dJ E w xs' ys'):dJ E w (xs++xs') (ys++ys'):=by
 have hl:xs.length=ys.length:=h.1.symm;refine⟨by simp[h.1,h'.1],λi a b ha hb=>?_⟩;by_cases hi:i<xs.length
 ·rw[hU hi] at ha;rw[hU (by omega)] at hb;exact h.2 i a b ha hb
 ·rw[je (by omega)] at ha;rw[je (by omega)] at hb;rw[hl] at ha;exact h'.2 _ a b ha hb
theorem EE{t:TypeId}{k:IntKind}(ht:P.underlying t=some (.int k)):fv enc P W t (AV.int k) (λn=>(Lit.int k n).wf=true):=λn cs x hx _=>by
 obtain⟨a,rfl,rfl,hw⟩:=DataW.trod_int ht hx;exact⟨a,hw,sQ (.int _ _)⟩
theorem uD{e:TypeId}{l:List (DataW H)}{d:DataW H}(h:d∈l){k:Nat}(hk:k∈d.weights P e):k∈DataW.weightsAll P e l:=by
 induction l with
 |nil=>cases h
 |cons a l ih=>
  unfold DataW.weightsAll;rcases dt.1 h with rfl|h
  ·exact n8 _ hk
  ·exact nX _ (ih h)
theorem zU{α:Type}{len:Nat}{Q:Nat->α->Prop}(h:∀i,i<len->∃a,Q i a):∃l:List α,l.length=len/\∀i a,l[i]?=some a->Q i a:=by
 induction len with
 |zero=>exact⟨[],rfl,λi a h=>by simp at h⟩
 |succ n ih=>
  obtain⟨l,h1,h2⟩:=ih (λi hi=>h i (by omega));obtain⟨a,ha⟩:=h n (by omega);refine⟨l++[a],by simp[h1],λi b hb=>?_⟩;by_cases hi:i<l.length
  ·rw[hU hi] at hb;exact h2 i b hb
  ·rw[je (by omega)] at hb
   have:i-l.length=0:=by
    by_cases h0:i-l.length=0
    ·exact h0
    ·rw[List.getElem?_eq_none (by simp;omega)] at hb;cases hb
   rw[this] at hb;simp at hb;subst hb;have:i=n:=by omega
   subst this;exact ha
theorem rL{t e:TypeId}{sz by_:Nat}{α:Type}{f:α->AV}{good:α->Prop}(ht:P.underlying t=some (.slice e))(hsz:P.cellsOf e=sz)(hby:P.bytesOf e=by_)(hpos:0<sz)(hc:∀a,(f a).cells.length=sz)
    (he:fv enc P W e f good):fv enc P W t (jx sz f) (λl=>(∀a∈l,good a)/\l.length<=9223372036854775807/\l.length*by_<=140737488351232):=λn cs x hx hw=>by
 rcases Go.Deep.open_slice ht hx with⟨rfl,rfl⟩|⟨a,len,cap,m,n',D,Pl,rfl,hb,hlc,hcm,hm,hxe,hel⟩
 ·exact⟨[],⟨λ_ h=>(by cases h),by simp,by simp⟩,sQ (.slnil _)⟩
 simp only[if_true] at hm;subst hxe;subst hm;have hw':∀k∈((DataW.slice (H:=H) ((List.range len).map D) ((List.range (m-len)).map λj=>D (len+j))).weights P t),k<=reachBytes:=hw;simp only[DataW.weights,ht] at hw';have hlen:(((List.range len).map D).length+((List.range (m-len)).map λj=>D (len+j)).length)*P.bytesOf e<=reachBytes:=hw' _ (de ..)
 have hbd:len*by_<=140737488351232:=by
  rw[hby] at hlen;simp only[bo,List.length_range] at hlen;have h1:len*by_<=(len+(m-len))*by_:=lY _ (by omega);have h2:reachBytes=140737488351232:=rfl;omega
 have hlm:len<=9223372036854775807:=fm hlc hcm
 have key:∀i,i<len->∃a':α,good a'/\∃cs',W.cells? 0 (a.add (i*sz)) sz=some cs'/\dJ (E0 (vB W)) W (f a').cells cs':=λi hi=>by
  obtain⟨cs',h1,h2⟩:=hel i (by omega);rw[hsz] at h1;obtain⟨a',g1,g2⟩:=he n' cs' _ h2 (λk hk=>hw' k (dU _ (n8 _ (uD (bE.2 ⟨i,dZ.2 hi,rfl⟩) hk))));exact⟨a',g1,cs',h1,g2⟩
 obtain⟨l,hl,hq⟩:=zU key;refine⟨l,⟨λx hx=>?_,by omega,by rw[hl];exact hbd⟩,sQ ?_⟩
 ·obtain⟨i,hi⟩:=A9 hx;exact(hq i x hi).1
 by_cases h0:len=0
 ·subst h0;have:l=[]:=fo.1 hl;subst this;exact .slempty _ _ _
 have hcell:∀i j,i<len->j<sz->∃v,W.cell? ((a.add (i*sz)).add j)=some v:=λi j hi hj=>by
  obtain⟨a',_,cs',h1,h2⟩:=key i hi;unfold World.cells? at h1;rw[if_pos (bC _)] at h1;have h3:=mapM_some_get h1 j j (by simp[hj])
  have h4:j<cs'.length:=by
   have:=mapM_some_length h1;simp at this;omega
  exact⟨cs'[j],by rw[h3];simp[h4]⟩
 obtain⟨v0,hv0⟩:=hcell 0 0 (by omega) hpos;have ho:=D5 hv0;simp only[yJ,Addr.add,if_true] at ho;obtain⟨blk,off,sp⟩:=a;obtain⟨ho,hsp⟩:=ho;simp only at hsp ho;subst hsp
 have hadd:∀i j,((⟨blk,off,none⟩:Addr).add (i*sz)).add j=⟨blk,off+(i*sz+j),none⟩:=λi j=>by
  rw[cS,cS,p8]
 have hcell':∀k,k<len*sz->∃v,W.cell? ⟨blk,off+k,none⟩=some v:=λk hk=>by
  have h1:k/sz<len:=Nat.div_lt_of_lt_mul (by rw[Nat.mul_comm];exact hk);have h2:k%sz<sz:=Nat.mod_lt _ hpos;obtain⟨v,hv⟩:=hcell (k/sz) (k%sz) h1 h2;rw[hadd,Nat.div_add_mod'] at hv;exact⟨v,hv⟩
 have hlen2:(l.map f).length=len:=by simp[hl]
 have:=Rel.sl (E:=E0 (vB W)) (w:=W) sz (l.map f) blk off m (λk=>(W.cell? ⟨blk,off+k,none⟩).getD Go.undef) ho (by rw[hlen2];exact hlc)
  (λx hx=>by obtain⟨b,_,rfl⟩:=bE.1 hx;exact hc b)
  (fun k hk=>by
   rw[hlen2] at hk;obtain⟨v,hv⟩:=hcell' k hk;simp only[hv,u6])
  (fun i j x y hx hy=>by
   rw[ms,Option.map_eq_some_iff] at hx;obtain⟨a',ha',rfl⟩:=hx;obtain⟨_,cs',h1,h2⟩:=hq i a' ha'
   have hj:j<sz:=by
    have:=(bL.1 hy).1
    rwa [hc] at this
   have hi:i<len:=by
    have:=(bL.1 ha').1;omega
   unfold World.cells? at h1;rw[if_pos (bC _)] at h1;have h3:=mapM_some_get h1 j j (by simp[hj])
   have h4:j<cs'.length:=by
    have:=mapM_some_length h1;simp at this;omega
   rw[hadd] at h3;have h5:cs'[j]?=some cs'[j]:=by simp[h4]
   rw[h5] at h3;simp only[h3,u6];exact h2.2 j y _ hy h5)
 rw[hlen2] at this;exact this
def xX(enc:TypeId×Value->H)(P:Program)(W:World)(fs:List Field)(off:Nat){α:Type}(g:α->List AV)(good:α->Prop):Prop:=
 ∀(n tot:Nat)(cs:List Value)(ys:List (DataW H×List MemPlace)),ys.length=fs.length->(∀(i:Nat)(f:Field),fs[i]?=some f->DataW.trod enc P W 0 (λ_=>true) true n f.type ((cs.drop f.offset).take (P.cellsOf f.type))=ys[i]?)->
  (∀k∈DataW.weightsEach P (fs.map λf:Field=>f.type) (ys.map (·.1)),k<=reachBytes)->cs.length=tot->tot=off+(fs.map λf:Field=>P.cellsOf f.type).sum->∃a:α,good a/\dJ (E0 (vB W)) W (g a) (cs.drop off)
theorem uX{off:Nat}:xX enc P W [] off (λ_:Unit=>[]) (λ_=>True):=λn tot cs ys _ _ _ h1 h2=>by
 refine⟨(),trivial,?_⟩;rw[F1 (by simp at h2;omega)];exact⟨rfl,λi a b h=>by simp at h⟩
theorem np{fd:Field}{fs:List Field}{off off':Nat}{α β:Type}{f:α->AV}{g:β->List AV}{good:α->Prop}{good':β->Prop}(ho:fd.offset=off)(ho':off+P.cellsOf fd.type=off')
    (h:fv enc P W fd.type f good) (h':xX enc P W fs off' g good'):xX enc P W (fd::fs) off (λa:α×β=>(f a.1).cells++g a.2) (λa=>good a.1/\good' a.2):=λn tot cs ys hl hy hw h1 h2=>by
 obtain⟨y,ys,rfl⟩:∃y ys',ys=y::ys':=by
  cases ys with
  |nil=>simp at hl
  |cons y ys=>exact⟨y,ys,rfl⟩
 have hy0:=hy 0 fd rfl;simp only[yB] at hy0;rw[ho] at hy0;simp only[fF,DataW.weightsEach] at hw;obtain⟨a,g1,g2⟩:=h n _ y hy0 (λk hk=>hw k (n8 _ hk));simp only[fF,List.sum_cons] at h2
 obtain ⟨b,g3,g4⟩:=h' n tot cs ys (by simpa using hl) (fun i f hf=>by
  have:=hy (i+1) f (by simpa using hf);simpa using this) (λk hk=>hw k (nX _ hk)) h1 (by omega)
 refine⟨(a,b),⟨g1,g3⟩,?_⟩
 have e:cs.drop off=(cs.drop off).take (P.cellsOf fd.type)++cs.drop off':=by
  rw[<-ho',<-List.drop_drop,G5]
 rw[e];exact dJ.app g2 g4
theorem pd{t:TypeId}{fs:Array Field}{α:Type}{g:α->List AV}{good:α->Prop}(ht:P.underlying t=some (.struct fs))(hsum:P.cellsOf t=(fs.toList.map λf:Field=>P.cellsOf f.type).sum)
    (h:xX enc P W fs.toList 0 g good):fv enc P W t (λa=>.agg (g a)) good:=λn cs x hx hw=>by
 obtain⟨ys,n',rfl,rfl,hl,hs,hy⟩:=DataW.trod_struct ht hx
 obtain ⟨a,g1,g2⟩:=h n' _ cs ys (by rw [hs]; simp) (fun i f hf=>hy i f (by simpa using hf)) (fun k hk=>hw k (by
  simp only[DataW.weights,ht];exact hk)) hl (by rw[cq,hsum])
 exact⟨a,g1,by rw[List.drop_zero] at g2;exact g2⟩
theorem fv.map{t:TypeId}{α β:Type}{f:α->AV}{good:α->Prop}{f':β->AV}{good':β->Prop}(h:fv enc P W t f good)(φ:α->β)(hg:∀a,good a->good' (φ a))(hf:∀a,good a->(f' (φ a)).cells=(f a).cells):fv enc P W t f' good':=λn cs x hx hw=>by
 obtain⟨a,h1,h2⟩:=h n cs x hx hw;exact⟨φ a,hg a h1,by rw[hf a h1];exact h2⟩
theorem fv.at{t u:TypeId}{α:Type}{f:α->AV}{good:α->Prop}(e:t=u)(h:fv enc P W u f good):fv enc P W t f good:=e▸h
theorem fv.argA{t:TypeId}{α:Type}{f:α->AV}{good:α->Prop}(h:fv enc P W t f good){r:Reach}{base:Nat}{v:Value}{d:DataW H}{ps:List MemPlace}(ht:qX P t=true)(hf:∀a,∃cs,f a=.agg cs)
    (hval:Value.okWide P W r base t v) (hd:DataW.Trod enc P W 0 (λ_=>true) true t v d ps) (hw:∀k∈d.weights P t,k<=reachBytes):∃a,good a/\Rel (E0 (vB W)) W (f a) v:=by
 obtain⟨n,hn⟩:=hd;obtain⟨a,h1,h2⟩:=h n _ _ hn hw;refine⟨a,h1,?_⟩
 obtain⟨cs,hcs,_⟩:∃cs,v=.agg cs/\True:=by
  unfold Value.okWide at hval;unfold qX at ht;split at hval
  ·obtain⟨cs,h,_⟩:=hval;exact⟨cs,h,trivial⟩
  ·obtain⟨cs,h,_⟩:=hval;exact⟨cs,h,trivial⟩
  ·rename_i k1 k2;revert ht;cases hu:P.underlying t with
   |none=>simp
   |some u=>
    cases u with
    |struct fs=>exact absurd hu (k1 fs)
    |array m e=>exact absurd hu (k2 m e)
    |_=>simp
 subst hcs;obtain⟨xs,hx⟩:=hf a;rw[hx] at h2 |-;exact .agg xs cs.toList h2.1 h2.2
theorem fv.arg1{t:TypeId}{α:Type}{f:α->AV}{good:α->Prop}(h:fv enc P W t f good){v:Value}{d:DataW H}{ps:List MemPlace}(hf:∀a,(f a).cells=[f a])(hv:v.cells=#[v])
    (hd:DataW.Trod enc P W 0 (λ_=>true) true t v d ps) (hw:∀k∈d.weights P t,k<=reachBytes):∃a,good a/\Rel (E0 (vB W)) W (f a) v:=by
 obtain⟨n,hn⟩:=hd;obtain⟨a,h1,h2⟩:=h n _ _ hn hw;rw[hf,hv] at h2;exact⟨a,h1,h2.2 0 _ _ rfl rfl⟩
theorem D9{t:TypeId}{r:Reach}{base:Nat}{v:Value}(ht:qX P t=false)(hval:Value.okWide P W r base t v):v.cells=#[v]:=by
 cases v<;>try rfl
 rename_i cs;exfalso;unfold Value.okWide at hval;unfold qX at ht;cases hu:P.underlying t with
 |none=>simp only[hu,Cell.okWide,Cell.ok] at hval
 |some u=>
  rw[hu] at ht;cases u<;>simp only[hu,Cell.okWide,Cell.ok] at hval<;>simp at ht
theorem oA(hl:laidOutB P=true){W':World}(hb:Below W.heap.size W W'){sp:Nat->Bool}:∀{ts:List TypeId}{vs:List Value}{ds:List (DataW H)}{ps:List MemPlace},(∀t∈ts,P.readableRec t=true/\t<P.types.size)->
    DataW.TrodAll enc P W 0 (λ_=>true) true ts vs ds ps->(∀p∈ps,p.block<W.heap.size)->(∀p∈ps,sp p.block=true)->DataW.TrodAll enc P W' 0 sp true ts vs ds ps
 |[],[],[],ps,_,h,_,_=>h
 |t::ts,v::vs,d::ds,ps,hr,⟨p,q,h1,h2,e⟩,hlt,hsp=>by
  subst e
  exact ⟨p,q,WideElems.Trod_stays hl (hr t (de ..)).1 (hr t (de ..)).2 h1 (fun x hx=>hb.same (hlt x (n8 _ hx))) (fun x hx=>hsp x (n8 _ hx)),
   oA hl hb (λt ht=>hr t (dU _ ht)) h2 (λx hx=>hlt x (nX _ hx)) (λx hx=>hsp x (nX _ hx)),rfl⟩
 |[],_::_,_,_,_,h,_,_=>h.elim
 |[],[],_::_,_,_,h,_,_=>h.elim
 |_::_,[],_,_,_,h,_,_=>h.elim
 |_::_,_::_,[],_,_,h,_,_=>h.elim
theorem ns:∀{ts:List TypeId}{ds:List (DataW H)}{i:Nat}{t:TypeId}{d:DataW H},ts[i]?=some t->ds[i]?=some d->∀k∈d.weights P t,k∈DataW.weightsEach P ts ds
 |t::ts,d::ds,0,_,_,h1,h2,k,hk=>by
  simp at h1 h2;subst h1 h2;unfold DataW.weightsEach;exact n8 _ hk
 |t::ts,d::ds,i+1,_,_,h1,h2,k,hk=>by
  unfold DataW.weightsEach;exact nX _ (ns (ts:=ts) (ds:=ds) (by simpa using h1) (by simpa using h2) k hk)
 |[],_,i,_,_,h1,_,_,_=>by simp at h1
 |_::_,[],i,_,_,_,h2,_,_=>by simp at h2
end
end Go.Abs
namespace Go.Proofs.YtekdaafnjdlenaaGreat
open Go Go.Abs Go.Abs.C2 Go.Abs.Ins Go.Abs.Opd Go.Abs.TK Go.Abs.MK
def cO(d:Nat)(i:Ins):Op2:=Op2.mk (some d) none i
def cG(d g:Nat)(b:Bool)(i:Ins):Op2:=Op2.mk (some d) (some (g,b)) i
def cN(k:Int):Opd:=Opd.c (AV.int IntKind.i64 k)
def cM(n:Nat):Ins:=Ins.mov (Opd.t n)
def cD(n:Nat):Ins:=Ins.ld1 (Opd.t n)
def cF(n:Nat):Opd:=Opd.c (AV.func n [])
def cB(o:BinOp)(x y:Opd):Ins:=Ins.bin o false false x y
def bb:Opd:=Opd.c (AV.bool false)
def cP:Opd:=Opd.c (AV.bool true)
def aa(d s:Nat):Op2:=Op2.mk (some d) none (Ins.mov (Opd.t s))
def aC(d s:Nat):Op2:=Op2.mk (some d) none (Ins.ld1 (Opd.t s))
def bn(d n s:Nat):Op2:=Op2.mk (some d) none (Ins.ldn n (Opd.t s))
def a6(d s:Nat):Op2:=Op2.mk (some d) none (Ins.lenS (Opd.t s))
def bG(d n s:Nat):Op2:=Op2.mk (some d) none (Ins.fa n (Opd.t s))
def aS(d s n:Nat):Op2:=Op2.mk (some d) none (Ins.ext (Opd.t s) n)
def aE(d f:Nat)(l:List Opd):Op2:=Op2.mk (some d) none (Ins.call (Opd.c (AV.func f [])) l)
def aN(d:Nat)(o:BinOp)(x y:Nat):Op2:=Op2.mk (some d) none (Ins.bin o false false (Opd.t x) (Opd.t y))
def aq(d:Nat)(o:BinOp)(x:Nat)(y:Int):Op2:=Op2.mk (some d) none (Ins.bin o false false (Opd.t x) (Opd.c (AV.int IntKind.i64 y)))
def bB(n p v:Nat):Op2:=Op2.mk none none (Ins.st n (Opd.t p) (Opd.t v))
def bf(d g:Nat)(i:Ins):Op2:=Op2.mk (some d) (some (g,false)) i
def ao(d g:Nat)(i:Ins):Op2:=Op2.mk (some d) (some (g,true)) i
def au(n:Nat)(x y:C2):C2:=C2.cond (Opd.t n) x y
def ab(l:List Op2)(x:C2):C2:=C2.seq (C2.ops 0 l) x
def ba:AV:=AV.int IntKind.i64 0
theorem aH:(∀(d:Nat)(i:Ins),cO d i=Op2.mk (some d) none i)/\(∀(d g:Nat)(b:Bool)(i:Ins),cG d g b i=Op2.mk (some d) (some (g,b)) i)/\(∀(k:Int),cN k=Opd.c (AV.int IntKind.i64 k))/\(∀(n:Nat),cM n=Ins.mov (Opd.t n))/\(∀(n:Nat),cD n=Ins.ld1 (Opd.t n))/\(∀(n:Nat),cF n=Opd.c (AV.func n []))/\(∀(o:BinOp)(x y:Opd),cB o x y=Ins.bin o false false x y)/\(bb=Opd.c (AV.bool false))/\(cP=Opd.c (AV.bool true))/\(∀(d s:Nat),aa d s=Op2.mk (some d) none (Ins.mov (Opd.t s)))/\(∀(d s:Nat),aC d s=Op2.mk (some d) none (Ins.ld1 (Opd.t s)))/\(∀(d n s:Nat),bn d n s=Op2.mk (some d) none (Ins.ldn n (Opd.t s)))/\(∀(d s:Nat),a6 d s=Op2.mk (some d) none (Ins.lenS (Opd.t s)))/\(∀(d n s:Nat),bG d n s=Op2.mk (some d) none (Ins.fa n (Opd.t s)))/\(∀(d s n:Nat),aS d s n=Op2.mk (some d) none (Ins.ext (Opd.t s) n))/\(∀(d f:Nat)(l:List Opd),aE d f l=Op2.mk (some d) none (Ins.call (Opd.c (AV.func f [])) l))/\(∀(d:Nat)(o:BinOp)(x y:Nat),aN d o x y=Op2.mk (some d) none (Ins.bin o false false (Opd.t x) (Opd.t y)))/\(∀(d:Nat)(o:BinOp)(x:Nat)(y:Int),aq d o x y=Op2.mk (some d) none (Ins.bin o false false (Opd.t x) (Opd.c (AV.int IntKind.i64 y))))/\(∀(n p v:Nat),bB n p v=Op2.mk none none (Ins.st n (Opd.t p) (Opd.t v)))/\(∀(d g:Nat)(i:Ins),bf d g i=Op2.mk (some d) (some (g,false)) i)/\(∀(d g:Nat)(i:Ins),ao d g i=Op2.mk (some d) (some (g,true)) i)/\(∀(n:Nat)(x y:C2),au n x y=C2.cond (Opd.t n) x y)/\(∀(l:List Op2)(x:C2),ab l x=C2.seq (C2.ops 0 l) x)/\(ba=AV.int IntKind.i64 0):=⟨λ_ _=>rfl,λ_ _ _ _=>rfl,λ_=>rfl,λ_=>rfl,λ_=>rfl,λ_=>rfl,λ_ _ _=>rfl,rfl,rfl,λ_ _=>rfl,λ_ _=>rfl,λ_ _ _=>rfl,λ_ _=>rfl,λ_ _ _=>rfl,λ_ _ _=>rfl,λ_ _ _=>rfl,λ_ _ _ _=>rfl,λ_ _ _ _=>rfl,λ_ _ _=>rfl,λ_ _ _=>rfl,λ_ _ _=>rfl,λ_ _ _=>rfl,λ_ _=>rfl,rfl⟩
theorem mkI{P:Program}{f:FuncId}{F:F2}{fn:Func}(h1:P.funcs[f]?=some fn)(h2:yV P fn=some F:=by kernel_rfl):Is P f F:=Is.mk' h1 h2
theorem follows:Tryz.prog.follows .mixedOrders=true:=by rfl
abbrev pU:=@Go.Abs.Pure Tryz.prog
theorem pO{f:FuncId}{F:F2}{args:List AV}{r:AV}(hf:Is Tryz.prog f F)(hb:aK Tryz.prog F.body (T0 args) bN 0 λe T H nx=>aU e.ends (bu T H (λx=>Snap H x r) F.res))(hl:args.length<=F.n:=by exact Nat.le_of_ble_eq_true rfl):Go.Abs.Pure Tryz.prog f args r:=Go.Abs.Pure.of_c2 follows hf hl hb
theorem fO{f:FuncId}{F:F2}{args:List AV}{H:Hp}{nx:Nat}{K:AV->Hp->Nat->Prop}(hf:Is Tryz.prog f F)(hb:aK Tryz.prog F.body (T0 args) H nx λe T H nx=>aU e.ends (bu T H (λx=>K x H nx) F.res))(hl:args.length<=F.n:=by exact Nat.le_of_ble_eq_true rfl):Go.Abs.Fn Tryz.prog f args H nx K:=Go.Abs.Fn.of_c2 follows hf hl hb
theorem qO{f:FuncId}{F:F2}{args:List AV}{r:AV}(hf:Is Tryz.prog f F)(hb:aK Tryz.prog F.body (T0 args) bN 0 λe T H nx=>aU e.ends (bu T H (λx=>SnapF H x r) F.res))(hl:args.length<=F.n:=by exact Nat.le_of_ble_eq_true rfl):Go.Abs.PureF Tryz.prog f args r:=Go.Abs.PureF.of_c2 follows hf hl hb
def b3:F2:=(F2.mk 60 [RV.t 4] (ab [cO 2 (box (t 0)),cO 4 (mov bb)] ((ab [bn 13 1 2,aE 14 11 [t 13,c AV.esl],cO 15 (un UnOp.not (t 14))] (au 15 (ab [aE 16 12 [],aa 4 16] ret) skip)).seq (ab [bn 18 1 2,aE 19 13 [t 18],aa 17 19,aS 20 17 0,aS 21 17 1,aa 5 20,aa 6 21] (ab [bn 23 1 2,aE 24 14 [t 23],aa 22 24,aS 25 22 0,aS 26 22 1,aa 7 25,aa 8 26] (ab [bn 28 1 2,aa 29 1,aE 30 15 [t 28,t 29],aa 27 30,aS 31 27 0,aS 32 27 1,aa 9 31,aa 10 32] (ab [bn 34 1 2,aa 35 1,aE 36 16 [t 34,t 35],aa 33 36,aS 37 33 0,aS 38 33 1,aa 11 37,aa 12 38] (ab [aE 39 12 [],aa 40 39,ao 41 40 (cM 5),ao 42 40 (cM 7),ao 43 40 (call (cF 17) [t 41,t 42]),cO 44 (pick (t 40) (t 43) bb),aa 45 44,ao 46 45 (cM 6),ao 47 45 (cM 8),ao 48 45 (cB .eql (t 46) (t 47)),cO 49 (pick (t 45) (t 48) bb),aa 50 49,ao 51 50 (cM 9),ao 52 50 (cM 11),ao 53 50 (bin BinOp.eql true false (t 51) (t 52)),cO 54 (pick (t 50) (t 53) bb),aa 55 54,ao 56 55 (cM 10),ao 57 55 (cM 12),ao 58 55 (cB .eql (t 56) (t 57)),cO 59 (pick (t 55) (t 58) bb),aa 4 59] ret))))))))
def b5:F2:=(F2.mk 66 [RV.t 4] (ab [cO 2 (box (t 0)),cO 4 (mov bb)] ((ab [bn 12 1 2,aa 13 1,cO 14 (bldS 1 1 [AV.esl] [(0,1,t 13)]),aE 15 11 [t 12,t 14],cO 16 (un UnOp.not (t 15))] (au 16 (ab [aE 17 12 [],aa 4 17] ret) skip)).seq (ab [bn 19 1 2,aa 20 1,aE 21 21 [t 19,t 20],aa 18 21,aS 22 18 0,aS 23 18 1,aS 24 18 2,aS 25 18 3,aa 5 22,aa 6 23,aa 7 24,aa 8 25] (ab [bn 27 1 2,aa 28 1,aE 29 22 [t 27,t 28],aa 26 29,aS 30 26 0,aS 31 26 1,aS 32 26 2,aa 9 30,aa 10 31,aa 11 32] ((ab [aa 33 8,aa 34 11,aN 35 .neq 33 34,aa 36 35,bf 37 36 (cM 7),bf 38 36 (cM 10),bf 39 36 (bin BinOp.neq true false (t 37) (t 38)),cO 40 (pick (t 36) cP (t 39)),aa 41 40,bf 42 41 (cM 5),bf 43 41 (cM 9),bf 44 41 (call (cF 23) [t 42,t 43]),bf 45 41 (un UnOp.not (t 44)),cO 46 (pick (t 41) cP (t 45))] (au 46 (ab [cO 4 (mov bb)] ret) skip)).seq ((ab [aa 47 8,aq 48 .neq 47 0,aa 49 48,bf 50 49 (cM 7),cO 51 (pick (t 49) cP (t 50))] (au 51 (ab [aa 52 6,a6 53 52,aq 54 .eql 53 0,aa 55 54,ao 56 55 (call (cF 12) []),cO 57 (pick (t 55) (t 56) bb),aa 4 57] ret) skip)).seq (ab [bn 58 1 2,aa 59 1,aa 60 6,aE 61 24 [t 58,t 59,t 60],aq 62 .eql 61 0,aa 63 62,ao 64 63 (call (cF 12) []),cO 65 (pick (t 63) (t 64) bb),aa 4 65] ret))))))))
theorem is5:Is Tryz.prog 5 b5:=mkI Tryz.func5
def b11:F2:=(F2.mk 40 [RV.t 4] (ab [cO 2 (box (t 0)),cO 4 (mov bb)] ((ab [aa 10 1,a6 11 10,cO 12 (mov (cN 0))] (block 0 (ab [aN 13 .lss 12 11] ((au 13 skip (exit 0)).seq ((block 1 (ab [cO 14 (ixaS 1 (t 10) (t 12)),aC 15 14,aa 6 15] (ab [aa 16 6,aE 17 40 [t 16],cO 18 (un UnOp.not (t 17))] (au 18 (ab [cO 4 (mov bb)] ret) skip)))).seq (ops 0 [aq 19 .add 12 1,aa 12 19])))).loop)).seq (ab [cO 7 (mov (cN 0))] ((ab [bG 20 0 2,aC 21 20,a6 22 21,cO 23 (mov (cN 0))] (block 2 (ab [aN 24 .lss 23 22] ((au 24 skip (exit 2)).seq ((block 3 (ab [cO 25 (ixaS 1 (t 21) (t 23)),aC 26 25,aa 9 26] (ops 0 [aa 27 7,aa 28 9,a6 29 28,cO 30 (mn (t 29) [cN ((10))]),cO 31 (cB .shl (cN 1) (t 30)),aN 32 .add 27 31,aa 7 32]))).seq (ops 0 [aq 33 .add 23 1,aa 23 33])))).loop)).seq (ab [bn 34 1 2,aE 35 41 [t 34],aa 36 35,ao 37 36 (cM 7),ao 38 36 (cB .leq (t 37) (cN 400)),cO 39 (pick (t 36) (t 38) bb),aa 4 39] ret))))))
theorem O0:Is Tryz.prog 11 b11:=mkI Tryz.func11
def b12:F2:=(F2.mk 193 [RV.t 0] (ab [cO 0 (mov bb)] (ab [cO 21 (bldS 1 2 [ba] [(0,1,cN ((0))),(1,1,cN ((1)))]),aE 22 42 [t 21],cO 23 (bldS 1 2 [ba] [(0,1,cN ((0))),(1,1,cN ((2)))]),aE 24 42 [t 23],cO 25 (bldS 1 2 [ba] [(0,1,cN ((1))),(1,1,cN ((2)))]),aE 26 42 [t 25],cO 27 (bldS 1 3 [AV.esl] [(0,1,t 22),(1,1,t 24),(2,1,t 26)]),aa 1 27] (ab [aa 28 1,cO 29 (bld [AV.esl] [(0,1,t 28)]),cO 30 (bldS 1 3 [ba] [(0,1,cN ((0))),(1,1,cN ((1))),(2,1,cN ((2)))]),aE 31 42 [t 30],cO 32 (bldS 1 1 [AV.esl] [(0,1,t 31)]),cO 33 (bld [AV.esl] [(0,1,t 32)]),cO 2 (alloc (AV.agg [AV.esl])),cO 3 (alloc (AV.agg [AV.esl])),bB 1 2 29,bB 1 3 33] (ab [cO 34 (bldS 1 3 [ba] [(0,1,cN ((0))),(1,1,cN ((1))),(2,1,cN ((2)))]),aE 35 42 [t 34],cO 36 (bldS 1 3 [ba] [(0,1,cN ((0))),(1,1,cN ((1))),(2,1,cN ((3)))]),aE 37 42 [t 36],cO 38 (bldS 1 3 [ba] [(0,1,cN ((0))),(1,1,cN ((2))),(2,1,cN ((3)))]),aE 39 42 [t 38],cO 40 (bldS 1 3 [ba] [(0,1,cN ((1))),(1,1,cN ((2))),(2,1,cN ((3)))]),aE 41 42 [t 40],cO 42 (bldS 1 4 [AV.esl] [(0,1,t 35),(1,1,t 37),(2,1,t 39),(3,1,t 41)]),cO 43 (bld [AV.esl] [(0,1,t 42)]),cO 4 (alloc (AV.agg [AV.esl])),bB 1 4 43] (ab [bn 45 1 2,aE 46 13 [t 45],aa 44 46,aS 47 44 0,aS 48 44 1,aa 5 47,aa 6 48] (ab [bn 50 1 3,aE 51 13 [t 50],aa 49 51,aS 52 49 0,aS 53 49 1,aa 7 52,aa 8 53] (ab [bn 55 1 4,aE 56 13 [t 55],aa 54 56,aS 57 54 0,aS 58 54 1,aa 9 57,aa 10 58] (ab [bn 60 1 2,aE 61 18 ([t 60,cN ((1))]),aa 59 61,aS 62 59 0,aS 63 59 1,aa 11 62,aa 12 63] ((ab [aa 64 6,aa 65 8,aN 66 .add 64 65,aa 67 10,aN 68 .add 66 67,aa 69 12,aN 70 .add 68 69,aq 71 .neq 70 0,aa 72 71,bf 73 72 (cM 5),bf 74 72 (bldS 1 2 [ba] [(0,1,cN ((1))),(1,1,cN ((1)))]),bf 75 72 (call (cF 17) [t 73,t 74]),bf 76 72 (un UnOp.not (t 75)),cO 77 (pick (t 72) cP (t 76)),aa 78 77,bf 79 78 (cM 7),bf 80 78 (bldS 1 3 [ba] [(0,1,cN ((1))),(1,1,cN ((0))),(2,1,cN ((0)))]),bf 81 78 (call (cF 17) [t 79,t 80]),bf 82 78 (un UnOp.not (t 81)),cO 83 (pick (t 78) cP (t 82)),aa 84 83,bf 85 84 (cM 9),bf 86 84 (bldS 1 3 [ba] [(0,1,cN ((1))),(1,1,cN ((0))),(2,1,cN ((1)))]),bf 87 84 (call (cF 17) [t 85,t 86]),bf 88 84 (un UnOp.not (t 87)),cO 89 (pick (t 84) cP (t 88)),aa 90 89,bf 91 90 (cM 11),bf 92 90 (lenS (t 91)),bf 93 90 (cB .neq (t 92) (cN 1)),cO 94 (pick (t 90) cP (t 93)),aa 95 94,bf 96 95 (cM 11),bf 97 95 (ixaS 1 (t 96) (cN 0)),bf 98 95 (cD 97),bf 99 95 (cM 1),bf 100 95 (call (cF 23) [t 98,t 99]),bf 101 95 (un UnOp.not (t 100)),cO 102 (pick (t 95) cP (t 101))] (au 102 (ab [cO 0 (mov bb)] ret) skip)).seq (ab [bn 104 1 2,aa 105 1,aE 106 21 [t 104,t 105],aa 103 106,aS 107 103 0,aS 108 103 1,aS 109 103 2,aS 110 103 3,aa 13 107,aa 14 108,aa 15 109,aa 6 110] (ab [bn 112 1 3,aa 113 1,aE 114 21 [t 112,t 113],aa 111 114,aS 115 111 0,aS 116 111 1,aS 117 111 2,aS 118 111 3,aa 16 115,aa 17 116,aa 18 117,aa 8 118] (ab [bn 120 1 4,aE 121 15 ([t 120,cN ((1))]),aa 119 121,aS 122 119 0,aS 123 119 1,aa 19 122,aa 10 123] (ab [bn 125 1 4,aE 126 15 ([t 125,cN ((2))]),aa 124 126,aS 127 124 0,aS 128 124 1,aa 20 127,aa 12 128] ((ab [aa 129 6,aa 130 8,aN 131 .add 129 130,aa 132 10,aN 133 .add 131 132,aa 134 12,aN 135 .add 133 134,aq 136 .neq 135 0,aa 137 136,bf 138 137 (cM 15),cO 139 (pick (t 137) cP (t 138)),aa 140 139,bf 141 140 (cM 18),bf 142 140 (un UnOp.not (t 141)),cO 143 (pick (t 140) cP (t 142)),aa 144 143,bf 145 144 (cM 19),bf 146 144 (un UnOp.not (t 145)),cO 147 (pick (t 144) cP (t 146)),aa 148 147,bf 149 148 (cM 20),cO 150 (pick (t 148) cP (t 149)),aa 151 150,bf 152 151 (cM 16),bf 153 151 (bldS 1 3 [ba] [(0,1,cN ((0))),(1,1,cN ((1))),(2,1,cN ((2)))]),bf 154 151 (call (cF 42) [t 153]),bf 155 151 (bldS 1 1 [AV.esl] [(0,1,t 154)]),bf 156 151 (call (cF 23) [t 152,t 155]),bf 157 151 (un UnOp.not (t 156)),cO 158 (pick (t 151) cP (t 157))] (au 158 (ab [cO 0 (mov bb)] ret) skip)).seq ((mix 1 [bn 159 1 2,aa 160 1,aa 161 14,aE 162 27 [t 159,t 160,t 161],aq 163 .eql 162 0,aa 164 163,ao 165 164 (ldn 1 (t 2)),ao 166 164 (cM 1),ao 167 164 (cM 1),ao 168 164 (sls 1 (t 167) (some (cN 2)) none none),ao 169 164 (call (cF 27) [t 165,t 166,t 168]),ao 170 164 (cB .eql (t 169) (cN 0)),cO 171 (pick (t 164) (t 170) bb),aa 172 171,ao 173 172 (ldn 1 (t 3)),ao 174 172 (cM 1),ao 175 172 (cM 1),ao 176 172 (sls 1 (t 175) (some (cN 2)) none none),ao 177 172 (call (cF 27) [t 173,t 174,t 176]),ao 178 172 (cB .eql (t 177) (cN 18)),cO 179 (pick (t 172) (t 178) bb),aa 180 179,ao 181 180 (ldn 1 (t 3)),ao 182 180 (cM 1),ao 183 180 (cM 16),ao 184 180 (call (cF 25) [t 181,t 182,t 183]),ao 185 180 (cB .eql (t 184) (cN 0)),cO 186 (pick (t 180) (t 185) bb),aa 187 186,ao 188 187 (ldn 1 (t 2)),ao 189 187 (cM 1),ao 190 187 (call (cF 25) [t 188,t 189,c AV.esl]),ao 191 187 (cB .eql (t 190) (cN 18)),cO 192 (pick (t 187) (t 191) bb),aa 0 192] [1,2,0,3,4,5,7,8,9,6,10,11,12,13,15,16,17,14,18,19,20,21,23,24,22,25,26,27,28,30,29,31,32,33,34]).seq ret))))))))))))))))
theorem Pp:Is Tryz.prog 12 b12:=mkI Tryz.func12
def b13:F2:=(F2.mk 14 [RV.t 2,RV.t 3] (ab [cO 1 (box (t 0)),cO 2 (mov (c AV.esl)),cO 3 (mov (cN 0))] ((ab [bn 5 1 1,aE 6 43 [t 5],aa 4 6] (ab [aa 7 4,aq 8 .neq 7 0] (au 8 (ab [aa 9 4,cO 2 (mov (c AV.esl)),aa 3 9] ret) skip))).seq (ab [bn 10 1 1,aE 11 44 [t 10],aS 12 11 0,aS 13 11 1,aa 2 12,aa 3 13] ret))))
theorem OX:Is Tryz.prog 13 b13:=mkI Tryz.func13
def b15:F2:=(F2.mk 47 [RV.t 4,RV.t 5] (ab [cO 2 (box (t 0)),cO 4 (mov bb),cO 5 (mov (cN 0))] ((ab [bn 9 1 2,aE 10 43 [t 9],aa 6 10] (ab [aa 11 6,aq 12 .neq 11 0] (au 12 (ab [aa 13 6,cO 4 (mov bb),aa 5 13] ret) skip))).seq ((ab [aa 14 1,cO 15 (cB .lss (t 14) (cN ((-1)))),aa 16 15,bf 17 16 (cM 1),bf 18 16 (cB .geq (t 17) (cN 8)),cO 19 (pick (t 16) cP (t 18))] (au 19 (ab [cO 4 (mov bb),cO 5 (mov (cN 2))] ret) skip)).seq (ab [bn 21 1 2,aE 22 44 [t 21],aa 20 22,aS 23 20 0,aS 24 20 1,aa 7 23,aa 8 24] ((ab [aa 25 8,aq 26 .neq 25 0,aa 27 26,bf 28 27 (cM 7),bf 29 27 (lenS (t 28)),bf 30 27 (cB .eql (t 29) (cN 0)),cO 31 (pick (t 27) cP (t 30))] (au 31 (ab [aa 32 8,cO 4 (mov bb),aa 5 32] ret) skip)).seq (ab [aa 33 7,cO 34 (ixaS 1 (t 33) (cN 0)),aC 35 34,aq 36 .sub 35 1,cO 37 (ixaS 1 (t 33) (cN 0)),bB 1 37 36] (ab [aa 38 7,aa 39 1,aq 40 .add 39 1,aa 41 7,a6 42 41,cO 43 (mn (t 40) [t 42]),cO 44 (sls 1 (t 38) none (some (t 43)) none),aE 45 48 ([t 44,c (AV.func 49 [])]),cO 46 (un UnOp.not (t 45)),aa 4 46,cO 5 (mov (cN 0))] ret))))))))
theorem OW:Is Tryz.prog 15 b15:=mkI Tryz.func15
def b17:F2:=(F2.mk 26 [RV.t 4] (ab [cO 4 (mov bb)] ((ab [aa 6 0,a6 7 6,aa 8 1,a6 9 8,aN 10 .neq 7 9] (au 10 (ab [cO 4 (mov bb)] ret) skip)).seq ((ab [aa 11 0,a6 12 11,cO 13 (mov (cN 0))] (block 0 (ab [aN 14 .lss 13 12] ((au 14 skip (exit 0)).seq ((block 1 (ab [aa 15 13,aa 5 15] ((ops 1 [aa 16 0,aa 17 5,cO 18 (ixaS 1 (t 16) (t 17)),aC 19 18,aa 20 1,aa 21 5,cO 22 (ixaS 1 (t 20) (t 21)),aC 23 22,aN 24 .neq 19 23]).seq (au 24 (ab [cO 4 (mov bb)] ret) skip)))).seq (ops 0 [aq 25 .add 13 1,aa 13 25])))).loop)).seq (ab [cO 4 (mov cP)] ret)))))
theorem O4:Is Tryz.prog 17 b17:=mkI Tryz.func17
def b18:F2:=(F2.mk 46 [RV.c1 4,RV.c1 5] (ab [cO 2 (box (t 0)),cO 3 (box (t 1)),cO 4 (alloc AV.esl),cO 5 (alloc (ba))] ((ab [bn 12 1 2,aE 13 43 [t 12],aa 6 13] (ab [aa 14 6,aq 15 .neq 14 0] (au 15 (ab [aa 16 6,Op2.mk none none (Ins.st 1 (t 4) (c AV.esl)),bB 1 5 16] ret) skip))).seq ((ab [aC 17 3,aq 18 .lss 17 0,aa 19 18,bf 20 19 (cD 3),bf 21 19 (cB .geq (t 20) (cN 8)),cO 22 (pick (t 19) cP (t 21))] (au 22 (ab [Op2.mk none none (Ins.st 1 (t 4) (c AV.esl)),Op2.mk none none (Ins.st 1 (t 5) (cN 2))] ret) skip)).seq (ab [cO 7 (alloc AV.esl)] ((ab [bn 23 1 2,aC 24 3,aE 25 50 [t 23,t 24]] (block 0 (rangeF (t 25) [26,27] (ab [aa 8 26] (ops 0 [aa 9 27])) (block 1 ((ab [aa 28 9,aq 29 .neq 28 0] (au 29 (ab [aa 30 9,Op2.mk none none (Ins.st 1 (t 4) (c AV.esl)),bB 1 5 30] ret) skip)).seq (ab [bn 32 1 2,aC 33 3,aa 34 8,aE 35 34 [t 32,t 33,t 34],aa 31 35,aS 36 31 0,aS 37 31 1,aa 10 36,aa 11 37] ((ab [aa 38 11,aq 39 .neq 38 0] (au 39 (ab [aa 40 11,Op2.mk none none (Ins.st 1 (t 4) (c AV.esl)),bB 1 5 40] ret) skip)).seq (ops 0 [aC 41 7,aa 42 10,cO 43 (bldS 1 1 [AV.esl] [(0,1,t 42)]),cO 44 (app 1 24 (t 41) (t 43)),bB 1 7 44])))))))).seq (ab [aC 45 7,bB 1 4 45,Op2.mk none none (Ins.st 1 (t 5) (cN 0))] ret)))))))
theorem Px:Is Tryz.prog 18 b18:=mkI Tryz.func18
def b21:F2:=(F2.mk 84 [RV.t 4,RV.t 5,RV.t 6,RV.t 7] (ab [cO 2 (box (t 0)),cO 4 (mov (c AV.esl)),cO 5 (mov (c AV.esl)),cO 6 (mov bb),cO 7 (mov (cN 0))] ((ab [bn 19 1 2,aE 20 43 [t 19],aa 8 20] (ab [aa 21 8,aq 22 .neq 21 0] (au 22 (ab [aa 23 8,cO 4 (mov (c AV.esl)),cO 5 (mov (c AV.esl)),cO 6 (mov bb),aa 7 23] ret) skip))).seq (ab [bn 25 1 2,aa 26 1,aE 27 57 [t 25,t 26],aa 24 27,aS 28 24 0,aS 29 24 1,aa 9 28,aa 10 29] ((ab [aa 30 10,aq 31 .neq 30 0] (au 31 (ab [aa 32 10,cO 4 (mov (c AV.esl)),cO 5 (mov (c AV.esl)),cO 6 (mov bb),aa 7 32] ret) skip)).seq ((ab [aa 33 1,a6 34 33,aq 35 .eql 34 0] (au 35 (ab [cO 4 (mov (c AV.esl)),cO 5 (mov (c AV.esl)),cO 6 (mov cP),cO 7 (mov (cN 0))] ret) skip)).seq (ab [aa 36 1,cO 37 (ixaS 1 (t 36) (cN 0)),aC 38 37,a6 39 38,aq 40 .sub 39 1,aa 11 40] (ab [bn 42 1 2,aa 43 11,aq 44 .add 43 1,aE 45 58 [t 42,t 44],aa 41 45,aS 46 41 0,aS 47 41 1,cO 12 (alloc (AV.agg [ba,AV.esl])),bB 2 12 46,aa 10 47] ((ab [aa 48 10,aq 49 .neq 48 0] (au 49 (ab [aa 50 10,cO 4 (mov (c AV.esl)),cO 5 (mov (c AV.esl)),cO 6 (mov bb),aa 7 50] ret) skip)).seq (ab [bn 52 2 12,aa 53 9,aE 54 59 [t 52,t 53],aa 51 54,aS 55 51 0,aS 56 51 1,aS 57 51 2,aS 58 51 3,aa 13 55,aa 14 56,aa 15 57,aa 10 58] ((ab [aa 59 10,aq 60 .neq 59 0] (au 60 (ab [aa 61 10,cO 4 (mov (c AV.esl)),cO 5 (mov (c AV.esl)),cO 6 (mov bb),aa 7 61] ret) skip)).seq ((ab [aa 62 15] (au 62 (ab [bn 64 1 2,aa 65 11,aq 66 .add 65 1,aa 67 13,aE 68 34 [t 64,t 66,t 67],aa 63 68,aS 69 63 0,aS 70 63 1,aa 16 69,aa 17 70] (ab [aa 71 16,aa 72 17,aq 73 .eql 72 0,aa 74 17,aa 4 71,cO 5 (mov (c AV.esl)),aa 6 73,aa 7 74] ret)) skip)).seq (ab [bn 76 1 2,aa 77 11,aa 78 14,aE 79 34 [t 76,t 77,t 78],aa 75 79,aS 80 75 0,aS 81 75 1,aa 18 80,aa 10 81] (ab [aa 82 18,aa 83 10,cO 4 (mov (c AV.esl)),aa 5 82,cO 6 (mov bb),aa 7 83] ret))))))))))))))
theorem Oo:Is Tryz.prog 21 b21:=mkI Tryz.func21
def b22:F2:=(F2.mk 41 [RV.t 4,RV.t 5,RV.t 6] (ab [cO 2 (box (t 0)),cO 4 (mov (c AV.esl)),cO 5 (mov bb),cO 6 (mov (cN 0))] ((ab [bn 12 1 2,aE 13 45 [t 12],aa 7 13] (ab [aa 14 7,aq 15 .neq 14 0] (au 15 (ab [aa 16 7,cO 4 (mov (c AV.esl)),cO 5 (mov bb),aa 6 16] ret) skip))).seq ((ab [bn 18 1 2,aa 19 1,aE 20 60 [t 18,t 19],aa 17 20,aS 21 17 0,aS 22 17 1,aa 8 21,aa 9 22] (ab [aa 23 9,aq 24 .neq 23 0] (au 24 (ab [aa 25 9,cO 4 (mov (c AV.esl)),cO 5 (mov bb),aa 6 25] ret) skip))).seq ((ab [aa 26 1,aE 27 61 [t 26],a6 28 27,aq 29 .gtr 28 0] (au 29 (ab [cO 4 (mov (c AV.esl)),cO 5 (mov bb),cO 6 (mov (cN 3))] ret) skip)).seq ((ab [aa 30 1,a6 31 30,aq 32 .eql 31 0] (au 32 (ab [cO 4 (mov (c AV.esl)),cO 5 (mov cP),cO 6 (mov (cN 0))] ret) skip)).seq (ab [bn 34 1 2,aa 35 1,aE 36 62 [t 34,t 35],aa 33 36,aS 37 33 0,aS 38 33 1,aa 10 37,aa 11 38] (ab [aa 39 10,aa 40 11,aa 4 39,aa 5 40,cO 6 (mov (cN 0))] ret))))))))
theorem O9:Is Tryz.prog 22 b22:=mkI Tryz.func22
def b23:F2:=(F2.mk 27 [RV.t 4] (ab [cO 4 (mov bb)] ((ab [aa 6 0,a6 7 6,aa 8 1,a6 9 8,aN 10 .neq 7 9] (au 10 (ab [cO 4 (mov bb)] ret) skip)).seq ((ab [cO 5 (mov (cN 0))] (block 0 ((ab [aa 11 5,aa 12 0,a6 13 12,aN 14 .lss 11 13] (au 14 skip (exit 0))).seq ((block 1 ((mixS 1 [aa 17 0,aa 18 5,cO 19 (ixaS 1 (t 17) (t 18)),aC 20 19,aa 21 1,aa 22 5,cO 23 (ixaS 1 (t 21) (t 22)),aC 24 23,aE 25 63 [t 20,t 24],cO 26 (un UnOp.not (t 25))] [(0,0),(1,0),(2,0),(3,0),(4,0),(5,0),(6,0),(7,0),(8,2),(9,0)]).seq (au 26 (ab [cO 4 (mov bb)] ret) skip))).seq (ops 0 [aa 15 5,aq 16 .add 15 1,aa 5 16]))).loop)).seq (ab [cO 4 (mov cP)] ret)))))
theorem Pj:Is Tryz.prog 23 b23:=mkI Tryz.func23
def b24:F2:=(F2.mk 63 [RV.t 6] (ab [cO 3 (box (t 0)),cO 6 (mov (cN 0))] ((ab [bn 10 1 3,aa 11 1,aa 12 2,aE 13 64 [t 10,t 11,t 12],aa 7 13] (ab [aa 14 7,aq 15 .neq 14 0] (au 15 (ab [aa 16 7,aa 6 16] ret) skip))).seq (((ops 1 [aa 17 1,a6 18 17,aq 19 .gtr 18 0,aa 20 19,ao 21 20 (cM 2),ao 22 20 (lenS (t 21)),ao 23 20 (cB .gtr (t 22) (cN 0)),cO 24 (pick (t 20) (t 23) bb),aa 25 24,ao 26 25 (cM 2),ao 27 25 (ixaS 1 (t 26) (cN 0)),ao 28 25 (cD 27),ao 29 25 (lenS (t 28)),ao 30 25 (cM 1),ao 31 25 (ixaS 1 (t 30) (cN 0)),ao 32 25 (cD 31),ao 33 25 (lenS (t 32)),ao 34 25 (cB .neq (t 29) (t 33)),cO 35 (pick (t 25) (t 34) bb)]).seq (au 35 (ab [cO 6 (mov (cN 15))] ret) skip)).seq ((ab [aa 36 1,aa 37 2,aE 38 65 [t 36,t 37],aq 39 .rem 38 2,aq 40 .eql 39 0] (au 40 (ab [cO 6 (mov (cN 18))] ret) skip)).seq ((mixS 1 [bn 41 1 3,aa 42 2,cO 43 (ixaS 1 (t 42) (cN 0)),aC 44 43,a6 45 44,aq 46 .add 45 1,aE 47 51 [t 41,t 46],aa 8 47] [(0,0),(1,0),(2,0),(3,0),(4,0),(5,0),(6,2),(7,0)]).seq ((ab [cO 9 (mov (cN 0))] (block 0 ((ab [aa 48 9,aa 49 8,a6 50 49,aN 51 .lss 48 50] (au 51 skip (exit 0))).seq ((block 1 (ab [aa 54 8,aa 55 9,cO 56 (ixaS 1 (t 54) (t 55)),aC 57 56,aE 58 66 [t 57],aa 59 2,aE 60 65 [t 58,t 59],aq 61 .rem 60 2,aq 62 .eql 61 1] (au 62 (ab [cO 6 (mov (cN 18))] ret) skip))).seq (ops 0 [aa 52 9,aq 53 .add 52 1,aa 9 53]))).loop)).seq (ab [cO 6 (mov (cN 0))] ret))))))))
theorem PD:Is Tryz.prog 24 b24:=mkI Tryz.func24
def b25:F2:=(F2.mk 55 [RV.t 6] (ab [cO 3 (box (t 0)),cO 6 (mov (cN 0))] ((ab [bn 13 1 3,aa 14 1,aa 15 2,aE 16 67 [t 13,t 14,t 15],aa 12 16,aS 17 12 0,aS 18 12 1,aS 19 12 2,aa 7 17,aa 8 18,aa 9 19] (ab [aa 20 9,aq 21 .neq 20 0] (au 21 (ab [aa 22 9,aa 6 22] ret) skip))).seq (((ops 1 [aa 23 1,a6 24 23,aq 25 .gtr 24 0,aa 26 25,ao 27 26 (cM 2),ao 28 26 (lenS (t 27)),ao 29 26 (cB .gtr (t 28) (cN 0)),cO 30 (pick (t 26) (t 29) bb),aa 31 30,ao 32 31 (cM 2),ao 33 31 (ixaS 1 (t 32) (cN 0)),ao 34 31 (cD 33),ao 35 31 (lenS (t 34)),ao 36 31 (cM 1),ao 37 31 (ixaS 1 (t 36) (cN 0)),ao 38 31 (cD 37),ao 39 31 (lenS (t 38)),ao 40 31 (cB .add (t 39) (cN 1)),ao 41 31 (cB .neq (t 35) (t 40)),cO 42 (pick (t 31) (t 41) bb)]).seq (au 42 (ab [cO 6 (mov (cN 15))] ret) skip)).seq (ab [aa 44 2,aE 45 29 [t 44],aa 43 45,aS 46 43 0,aS 47 43 1,aa 10 46,aa 11 47] ((ab [aa 48 11,aq 49 .neq 48 0] (au 49 (ab [aa 50 11,aa 6 50] ret) skip)).seq ((ab [aa 51 10,aa 52 1,aE 53 68 ([t 51,t 52,c (AV.func 69 [])]),cO 54 (un UnOp.not (t 53))] (au 54 (ab [cO 6 (mov (cN 18))] ret) skip)).seq (ab [cO 6 (mov (cN 0))] ret))))))))
theorem O8:Is Tryz.prog 25 b25:=mkI Tryz.func25
def b27:F2:=(F2.mk 55 [RV.t 6] (ab [cO 3 (box (t 0)),cO 6 (mov (cN 0))] (ab [bn 12 1 3,aa 13 1,aa 14 2,aE 15 67 [t 12,t 13,t 14],aa 11 15,aS 16 11 0,aS 17 11 1,aS 18 11 2,aa 7 16,aa 8 17,aa 9 18] ((ab [aa 19 9,aq 20 .neq 19 0] (au 20 (ab [aa 21 9,aa 6 21] ret) skip)).seq ((ab [aa 22 1,a6 23 22,aq 24 .eql 23 0,aa 25 24,bf 26 25 (cM 2),bf 27 25 (lenS (t 26)),bf 28 25 (cB .eql (t 27) (cN 0)),cO 29 (pick (t 25) cP (t 28))] (au 29 (ab [cO 6 (mov (cN 18))] ret) skip)).seq (((ops 1 [aa 30 1,cO 31 (ixaS 1 (t 30) (cN 0)),aC 32 31,a6 33 32,aa 34 2,cO 35 (ixaS 1 (t 34) (cN 0)),aC 36 35,a6 37 36,aN 38 .neq 33 37]).seq (au 38 (ab [cO 6 (mov (cN 15))] ret) skip)).seq ((ops 1 [bn 40 1 3,aa 41 1,cO 42 (ixaS 1 (t 41) (cN 0)),aC 43 42,a6 44 43,aE 45 58 [t 40,t 44],aa 39 45,aS 46 39 0,aS 47 39 1,cO 10 (alloc (AV.agg [ba,AV.esl])),bB 2 10 46,aa 9 47]).seq ((ab [aa 48 9,aq 49 .neq 48 0] (au 49 (ab [aa 50 9,aa 6 50] ret) skip)).seq (ab [bn 51 2 10,aa 52 7,aa 53 8,aE 54 71 [t 51,t 52,t 53],aa 6 54] ret)))))))))
theorem Ot:Is Tryz.prog 27 b27:=mkI Tryz.func27
def b28:F2:=(F2.mk 68 [RV.t 2] (ab [cO 1 (box (t 0)),cO 2 (mov (cN 0))] (ab [bG 8 0 1,aC 9 8,aa 3 9] ((ab [aa 10 3,a6 11 10,aq 12 .gtr 11 4096] (au 12 (ab [cO 2 (mov (cN 5))] ret) skip)).seq ((ab [cO 4 (mov (cN 0))] (block 0 ((ab [aa 13 4,aa 14 3,a6 15 14,aN 16 .lss 13 15] (au 16 skip (exit 0))).seq ((block 1 ((ab [aa 19 3,aa 20 4,cO 21 (ixaS 1 (t 19) (t 20)),aC 22 21,aE 23 72 [t 22],aa 5 23] (ab [aa 24 5,aq 25 .neq 24 0] (au 25 (ab [aa 26 5,aa 2 26] ret) skip))).seq ((mixS 1 [aa 27 4,aq 28 .gtr 27 0,aa 29 28,ao 30 29 (cM 3),ao 31 29 (cM 4),ao 32 29 (cB .sub (t 31) (cN 1)),ao 33 29 (ixaS 1 (t 30) (t 32)),ao 34 29 (cD 33),ao 35 29 (cM 3),ao 36 29 (cM 4),ao 37 29 (ixaS 1 (t 35) (t 36)),ao 38 29 (cD 37),ao 39 29 (call (cF 73) [t 34,t 38]),ao 40 29 (cB .geq (t 39) (cN 0)),cO 41 (pick (t 29) (t 40) bb)] [(0,0),(1,0),(2,0),(3,0),(4,0),(5,0),(6,0),(7,0),(8,0),(9,0),(10,0),(11,0),(12,2),(13,0),(14,0)]).seq (au 41 (ab [cO 2 (mov (cN 14))] ret) skip)))).seq (ops 0 [aa 17 4,aq 18 .add 17 1,aa 4 18]))).loop)).seq ((ab [cO 6 (mov (cN 0))] (block 2 ((ab [aa 42 6,aa 43 3,a6 44 43,aN 45 .lss 42 44] (au 45 skip (exit 2))).seq ((block 3 (ab [cO 7 (mov (cN 0))] (block 4 ((ab [aa 48 7,aa 49 3,a6 50 49,aN 51 .lss 48 50] (au 51 skip (exit 4))).seq ((block 5 ((mixS 1 [aa 54 6,aa 55 7,aN 56 .neq 54 55,aa 57 56,ao 58 57 (cM 3),ao 59 57 (cM 6),ao 60 57 (ixaS 1 (t 58) (t 59)),ao 61 57 (cD 60),ao 62 57 (cM 3),ao 63 57 (cM 7),ao 64 57 (ixaS 1 (t 62) (t 63)),ao 65 57 (cD 64),ao 66 57 (call (cF 74) [t 61,t 65]),cO 67 (pick (t 57) (t 66) bb)] [(0,0),(1,0),(2,0),(3,0),(4,0),(5,0),(6,0),(7,0),(8,0),(9,0),(10,0),(11,0),(12,2),(13,0)]).seq (au 67 (ab [cO 2 (mov (cN 7))] ret) skip))).seq (ops 0 [aa 52 7,aq 53 .add 52 1,aa 7 53]))).loop))).seq (ops 0 [aa 46 6,aq 47 .add 46 1,aa 6 47]))).loop)).seq (ab [cO 2 (mov (cN 0))] ret)))))))
theorem Ol:Is Tryz.prog 28 b28:=mkI Tryz.func28
def b29:F2:=(F2.mk 15 [RV.t 2,RV.t 3] (ab [cO 2 (mov (c AV.esl)),cO 3 (mov (cN 0))] ((ab [aa 5 0,aE 6 75 [t 5],aa 4 6] (ab [aa 7 4,aq 8 .neq 7 0] (au 8 (ab [aa 9 4,cO 2 (mov (c AV.esl)),aa 3 9] ret) skip))).seq (ab [aa 10 0,aE 11 77 [t 10],aE 12 76 [t 11],aS 13 12 0,aS 14 12 1,aa 2 13,aa 3 14] ret))))
theorem OC:Is Tryz.prog 29 b29:=mkI Tryz.func29
def b30:F2:=(F2.mk 60 [RV.t 4,RV.t 5] (ab [cO 2 (box (t 0)),cO 4 (mov (c AV.esl)),cO 5 (mov (cN 0))] ((ab [bn 15 1 2,aE 16 78 [t 15],aa 6 16] (ab [aa 17 6,aq 18 .neq 17 0] (au 18 (ab [aa 19 6,cO 4 (mov (c AV.esl)),aa 5 19] ret) skip))).seq ((ab [aa 20 1,aE 21 75 [t 20],aa 7 21] (ab [aa 22 7,aq 23 .neq 22 0] (au 23 (ab [aa 24 7,cO 4 (mov (c AV.esl)),aa 5 24] ret) skip))).seq ((ab [aa 25 1,a6 26 25,aq 27 .eql 26 0] (au 27 (ab [cO 4 (mov (c AV.esl)),cO 5 (mov (cN 0))] ret) skip)).seq ((mixS 1 [bn 29 1 2,aa 30 1,cO 31 (ixaS 1 (t 30) (cN 0)),aC 32 31,a6 33 32,aE 34 79 [t 29,t 33],aa 28 34,aS 35 28 0,aS 36 28 1,aa 8 35,aa 9 36] [(0,0),(1,0),(2,0),(3,0),(4,0),(5,2),(6,0),(7,0),(8,0),(9,0),(10,0)]).seq ((ab [aa 37 9,aq 38 .neq 37 0] (au 38 (ab [aa 39 9,cO 4 (mov (c AV.esl)),aa 5 39] ret) skip)).seq (ab [cO 10 (mov (c AV.esl))] ((ab [aa 40 1,a6 41 40,cO 42 (mov (cN 0))] (block 0 (ab [aN 43 .lss 42 41] ((au 43 skip (exit 0)).seq ((block 1 (ab [cO 44 (ixaS 1 (t 40) (t 42)),aC 45 44,aa 12 45] (ab [aa 47 8,aa 48 12,aE 49 80 [t 47,t 48],aa 46 49,aS 50 46 0,aS 51 46 1,aa 13 50,aa 14 51] ((ab [aa 52 14,cO 53 (un UnOp.not (t 52))] (au 53 (ab [cO 4 (mov (c AV.esl)),cO 5 (mov (cN 6))] ret) skip)).seq (ops 0 [aa 54 10,aa 55 13,cO 56 (bldS 1 1 [ba] [(0,1,t 55)]),cO 57 (app 1 8 (t 54) (t 56)),aa 10 57]))))).seq (ops 0 [aq 58 .add 42 1,aa 42 58])))).loop)).seq (ab [aa 59 10,aa 4 59,cO 5 (mov (cN 0))] ret))))))))))
theorem Pd:Is Tryz.prog 30 b30:=mkI Tryz.func30
def b33:F2:=(F2.mk 14 [RV.t 2,RV.t 3] (ab [cO 2 (mov bb),cO 3 (mov (cN 0))] ((ab [aa 5 0,aE 6 75 [t 5],aa 4 6] (ab [aa 7 4,aq 8 .neq 7 0] (au 8 (ab [aa 9 4,cO 2 (mov bb),aa 3 9] ret) skip))).seq (ab [aa 10 0,aE 11 77 [t 10],a6 12 11,aq 13 .eql 12 0,aa 2 13,cO 3 (mov (cN 0))] ret))))
theorem Pz:Is Tryz.prog 33 b33:=mkI Tryz.func33
def b34:F2:=(F2.mk 72 [RV.t 6,RV.t 7] (ab [cO 3 (box (t 0)),cO 6 (mov (c AV.esl)),cO 7 (mov (cN 0))] ((ab [bn 14 1 3,aE 15 78 [t 14],aa 8 15] (ab [aa 16 8,aq 17 .neq 16 0] (au 17 (ab [aa 18 8,cO 6 (mov (c AV.esl)),aa 7 18] ret) skip))).seq ((ab [aa 19 1,aq 20 .lss 19 0,aa 21 20,bf 22 21 (cM 1),bf 23 21 (cB .geq (t 22) (cN 8)),cO 24 (pick (t 21) cP (t 23))] (au 24 (ab [cO 6 (mov (c AV.esl)),cO 7 (mov (cN 2))] ret) skip)).seq (ab [bn 26 1 3,aa 27 1,aE 28 83 [t 26,t 27],aa 25 28,aS 29 25 0,aS 30 25 1,aa 9 29,aa 10 30] ((ab [aa 31 10,aq 32 .neq 31 0] (au 32 (ab [aa 33 10,cO 6 (mov (c AV.esl)),aa 7 33] ret) skip)).seq (ab [cO 11 (mov (c AV.esl))] ((ab [aa 34 2,a6 35 34,cO 36 (mov (cN 0))] (block 0 (ab [aN 37 .lss 36 35] ((au 37 skip (exit 0)).seq ((block 1 (ab [aa 38 36,cO 39 (ixaS 1 (t 34) (t 36)),aC 40 39,aa 12 38,aa 13 40] ((block 2 (ab [aa 42 13,aq 43 .lss 42 0,aa 44 43,bf 45 44 (cM 13),bf 46 44 (cM 9),bf 47 44 (lenS (t 46)),bf 48 44 (cB .geq (t 45) (t 47)),cO 49 (pick (t 44) cP (t 48)),aa 41 49] (au 41 (ab [cO 6 (mov (c AV.esl)),cO 7 (mov (cN 2))] ret) (ab [aa 51 12,aq 52 .gtr 51 0,aa 53 52,ao 54 53 (cM 13),ao 55 53 (cM 2),ao 56 53 (cM 12),ao 57 53 (cB .sub (t 56) (cN 1)),ao 58 53 (ixaS 1 (t 55) (t 57)),ao 59 53 (cD 58),ao 60 53 (cB .leq (t 54) (t 59)),cO 61 (pick (t 53) (t 60) bb),aa 50 61] (au 50 (ab [cO 6 (mov (c AV.esl)),cO 7 (mov (cN 14))] ret) skip))))).seq (ops 0 [aa 62 11,aa 63 9,aa 64 13,cO 65 (ixaS 1 (t 63) (t 64)),aC 66 65,cO 67 (bldS 1 1 [AV.esl] [(0,1,t 66)]),cO 68 (app 1 24 (t 62) (t 67)),aa 11 68])))).seq (ops 0 [aq 69 .add 36 1,aa 36 69])))).loop)).seq (ab [aa 70 11,aE 71 84 [t 70],aa 6 71,cO 7 (mov (cN 0))] ret)))))))))
theorem OB:Is Tryz.prog 34 b34:=mkI Tryz.func34
def b37:F2:=(F2.mk 40 [RV.t 2,RV.t 3] (ab [cO 1 (box (t 0)),cO 2 (mov (cN 0)),cO 3 (mov (cN 0))] ((ab [bn 9 1 1,aE 10 78 [t 9],aa 4 10] (ab [aa 11 4,aq 12 .neq 11 0] (au 12 (ab [aa 13 4,cO 2 (mov (cN 0)),aa 3 13] ret) skip))).seq (ab [cO 5 (mov (cN 0))] ((ab [cO 6 (mov (cN 1))] (block 0 ((ab [aa 14 6,aq 15 .leq 14 8] (au 15 skip (exit 0))).seq ((block 1 (ab [bG 19 0 1,aC 20 19,aa 21 6,aE 22 87 [t 20,t 21],aa 18 22,aS 23 18 0,aS 24 18 1,aa 7 23,aa 8 24] ((ab [aa 25 8,aq 26 .neq 25 0] (au 26 (ab [aa 27 8,cO 2 (mov (cN 0)),aa 3 27] ret) skip)).seq (ab [aa 28 6,aq 29 .rem 28 2,aq 30 .eql 29 1] (au 30 (ops 0 [aa 31 5,aa 32 7,a6 33 32,aN 34 .add 31 33,aa 5 34]) (ops 0 [aa 35 5,aa 36 7,a6 37 36,aN 38 .sub 35 37,aa 5 38])))))).seq (ops 0 [aa 16 6,aq 17 .add 16 1,aa 6 17]))).loop)).seq (ab [aa 39 5,aa 2 39,cO 3 (mov (cN 0))] ret))))))
theorem L4:Is Tryz.prog 37 b37:=mkI Tryz.func37
def b40:F2:=(F2.mk 28 [RV.t 2] (ab [cO 2 (mov bb)] ((ab [cO 3 (mov (cN 0))] (block 0 ((ab [aa 4 3,aa 5 0,a6 6 5,aN 7 .lss 4 6,aa 8 7,ao 9 8 (cM 3),ao 10 8 (cB .lss (t 9) (cN 50)),cO 11 (pick (t 8) (t 10) bb)] (au 11 skip (exit 0))).seq ((block 1 (ab [aa 14 0,aa 15 3,cO 16 (ixaS 1 (t 14) (t 15)),aC 17 16,a6 18 17,aq 19 .gtr 18 10] (au 19 (ab [cO 2 (mov bb)] ret) skip))).seq (ops 0 [aa 12 3,aq 13 .add 12 1,aa 3 13]))).loop)).seq (ab [aa 20 0,a6 21 20,aq 22 .leq 21 40,aa 23 22,bf 24 23 (cM 0),bf 25 23 (lenS (t 24)),bf 26 23 (cB .gtr (t 25) (cN 4096)),cO 27 (pick (t 23) cP (t 26)),aa 2 27] ret))))
theorem OZ:Is Tryz.prog 40 b40:=mkI Tryz.func40
def b41:F2:=(F2.mk 6 [RV.t 2] (ab [cO 1 (box (t 0)),cO 2 (mov bb)] (ab [bG 3 0 1,aC 4 3,aE 5 95 [t 4],aa 2 5] ret)))
theorem Pk:Is Tryz.prog 41 b41:=mkI Tryz.func41
def b42:F2:=(F2.mk 19 [RV.t 2] (ab [cO 2 (mov (c AV.esl))] (ab [cO 3 (mov (c AV.esl))] ((ab [aa 6 0,a6 7 6,cO 8 (mov (cN 0))] (block 0 (ab [aN 9 .lss 8 7] ((au 9 skip (exit 0)).seq ((block 1 (ab [cO 10 (ixaS 1 (t 6) (t 8)),aC 11 10,aa 5 11] (ops 0 [aa 12 3,aa 13 5,cO 14 (bld [ba,ba] [(0,1,t 13)]),cO 15 (bldS 2 1 [ba,ba] [(0,2,t 14)]),cO 16 (app 2 16 (t 12) (t 15)),aa 3 16]))).seq (ops 0 [aq 17 .add 8 1,aa 8 17])))).loop)).seq (ab [aa 18 3,aa 2 18] ret)))))
theorem Pt:Is Tryz.prog 42 b42:=mkI Tryz.func42
def b43:F2:=(F2.mk 11 [RV.t 2] (ab [cO 1 (box (t 0)),cO 2 (mov (cN 0))] (ab [bn 6 1 1,aE 7 37 [t 6],aa 5 7,aS 8 5 0,aS 9 5 1,aa 3 8,aa 4 9] (ab [aa 10 4,aa 2 10] ret))))
theorem JU:Is Tryz.prog 43 b43:=mkI Tryz.func43
def b44:F2:=(F2.mk 79 [RV.t 2,RV.t 3] (ab [cO 1 (box (t 0)),cO 2 (mov (c AV.esl)),cO 3 (mov (cN 0))] (ab [bn 16 1 1,aE 17 96 [t 16],aa 15 17,aS 18 15 0,aS 19 15 1,aS 20 15 2,aa 4 18,aa 5 19,aa 6 20] ((ab [aa 21 6,aq 22 .neq 21 0] (au 22 (ab [aa 23 6,cO 2 (mov (c AV.esl)),aa 3 23] ret) skip)).seq (ab [cO 24 (mkm none),aa 7 24] ((ab [aa 25 4,aq 26 .add 25 2,cO 27 (mov (cN 0))] (block 0 (ab [aN 28 .lss 27 26] ((au 28 skip (exit 0)).seq ((block 1 (ab [aa 29 27,aa 8 29] (ab [bn 31 1 1,aa 32 8,aE 33 58 [t 31,t 32],aa 30 33,aS 34 30 0,aS 35 30 1,cO 9 (alloc (AV.agg [ba,AV.esl])),bB 2 9 34,aa 10 35] ((ab [aa 36 10,aq 37 .neq 36 0] (au 37 (ab [aa 38 10,cO 2 (mov (c AV.esl)),aa 3 38] ret) skip)).seq (ab [aa 40 7,aa 41 8,bn 42 2 9,aE 43 97 [t 42],aa 39 43,aS 44 39 0,aS 45 39 1,Op2.mk none none (mput (one int) (t 40) (t 41) (t 44)),aa 10 45] (ab [aa 46 10,aq 47 .neq 46 0] (au 47 (ab [aa 48 10,cO 2 (mov (c AV.esl)),aa 3 48] ret) skip))))))).seq (ops 0 [aq 49 .add 27 1,aa 27 49])))).loop)).seq (ab [cO 11 (mov (c AV.esl))] ((ab [aa 50 4,aq 51 .add 50 1,cO 52 (mov (cN 0))] (block 2 (ab [aN 53 .lss 52 51] ((au 53 skip (exit 2)).seq ((block 3 (ab [aa 54 52,aa 12 54] (ab [bn 56 1 1,aa 57 12,aE 58 98 [t 56,t 57],aa 55 58,aS 59 55 0,aS 60 55 1,aa 13 59,aa 14 60] ((ab [aa 61 14,aq 62 .neq 61 0] (au 62 (ab [aa 63 14,cO 2 (mov (c AV.esl)),aa 3 63] ret) skip)).seq (ops 0 [aa 64 11,aa 65 13,aa 66 7,aa 67 12,cO 68 (Ins.mget (one int) (ba) false (t 66) (t 67)),aN 69 .sub 65 68,aa 70 7,aa 71 12,aq 72 .add 71 1,cO 73 (Ins.mget (one int) (ba) false (t 70) (t 72)),aN 74 .sub 69 73,cO 75 (bldS 1 1 [ba] [(0,1,t 74)]),cO 76 (app 1 8 (t 64) (t 75)),aa 11 76]))))).seq (ops 0 [aq 77 .add 52 1,aa 52 77])))).loop)).seq (ab [aa 78 11,aa 2 78,cO 3 (mov (cN 0))] ret)))))))))
theorem LJ:Is Tryz.prog 44 b44:=mkI Tryz.func44
def b45:F2:=(F2.mk 25 [RV.t 2] (ab [cO 1 (box (t 0)),cO 2 (mov (cN 0))] ((ab [bn 7 1 1,aE 8 28 [t 7],aa 3 8] (ab [aa 9 3,aq 10 .neq 9 0] (au 10 (ab [aa 11 3,aa 2 11] ret) skip))).seq ((ab [cO 4 (mov (cN 1))] (block 0 ((ab [aa 12 4,aq 13 .leq 12 8] (au 13 skip (exit 0))).seq ((block 1 (ab [bn 17 1 1,aa 18 4,aE 19 99 [t 17,t 18],aa 16 19,aS 20 16 0,aS 21 16 1,aa 5 20,aa 6 21] (ab [aa 22 6,aq 23 .neq 22 0] (au 23 (ab [aa 24 6,aa 2 24] ret) skip)))).seq (ops 0 [aa 14 4,aq 15 .add 14 1,aa 4 15]))).loop)).seq (ab [cO 2 (mov (cN 0))] ret)))))
theorem Ov:Is Tryz.prog 45 b45:=mkI Tryz.func45
def b48:F2:=(F2.mk 9 [RV.t 4] (ab [cO 4 (mov bb)] (ab [aa 5 0,aa 6 1,aE 7 101 [t 5,t 6],aq 8 .geq 7 0,aa 4 8] ret)))
theorem PE:Is Tryz.prog 48 b48:=mkI Tryz.func48
def b49:F2:=(F2.mk 5 [RV.t 2] (ab [cO 2 (mov bb)] (ab [aa 3 0,aq 4 .neq 3 0,aa 2 4] ret)))
theorem Pn:Is Tryz.prog 49 b49:=mkI Tryz.func49
def b50:F2:=(F2.mk 6 [RV.t 4] (ab [cO 2 (box (t 0)),cO 3 (box (t 1)),cO 4 (mov (c AV.nilf))] (ab [cO 5 (mkfn 102 [t 2,t 3]),aa 4 5] ret)))
theorem O3:Is Tryz.prog 50 b50:=mkI Tryz.func50
def b51:F2:=(F2.mk 44 [RV.t 4] (ab [cO 2 (box (t 0)),cO 4 (mov (c AV.esl))] (ab [cO 5 (mov (c AV.esl))] ((ab [cO 6 (mov (cN 0))] (block 0 ((ab [aa 9 6,bG 10 0 2,aC 11 10,a6 12 11,aN 13 .lss 9 12] (au 13 skip (exit 0))).seq ((block 1 ((ab [aa 16 1,bG 17 0 2,aC 18 17,aa 19 6,cO 20 (ixaS 1 (t 18) (t 19)),aC 21 20,a6 22 21,aN 23 .gtr 16 22] (au 23 (exit 1) skip)).seq (ab [bG 24 0 2,aC 25 24,aa 26 6,cO 27 (ixaS 1 (t 25) (t 26)),aC 28 27,aa 29 1,aE 30 104 [t 28,t 29],aa 7 30] (ab [cO 8 (mov (cN 0))] (block 2 ((ab [aa 31 8,aa 32 7,a6 33 32,aN 34 .lss 31 33] (au 34 skip (exit 2))).seq ((block 3 (ops 0 [aa 37 5,aa 38 7,aa 39 8,cO 40 (ixaS 1 (t 38) (t 39)),aC 41 40,aE 42 105 [t 37,t 41],aa 5 42])).seq (ops 0 [aa 35 8,aq 36 .add 35 1,aa 8 36]))).loop))))).seq (ops 0 [aa 14 6,aq 15 .add 14 1,aa 6 15]))).loop)).seq (ab [aa 43 5,aa 4 43] ret)))))
theorem Oq:Is Tryz.prog 51 b51:=mkI Tryz.func51
def b53:F2:=(F2.mk 20 [RV.cn 4 2] (ab [cO 2 (box (t 0)),cO 4 (alloc (AV.agg [ba,AV.esl]))] (ab [bn 6 1 2,aa 7 1,aq 8 .add 7 1,aE 9 51 [t 6,t 8],aa 5 9] ((ab [aa 10 1,aq 11 .eql 10 0] (au 11 (ab [aa 12 5,a6 13 12,cO 14 (bld [ba,AV.esl] [(0,1,t 13)]),bB 2 4 14] ret) skip)).seq (ab [aa 15 5,bn 16 1 2,aa 17 1,aE 18 51 [t 16,t 17],aE 19 110 [t 15,t 18],bB 2 4 19] ret)))))
theorem Pr:Is Tryz.prog 53 b53:=mkI Tryz.func53
def b55:F2:=(F2.mk 24 [RV.t 4] (ab [cO 4 (mov (c AV.esl))] (ab [cO 5 (mov (c AV.esl))] ((ab [cO 6 (mov (cN 0))] (block 0 ((ab [aa 7 6,aa 8 1,a6 9 8,aN 10 .lss 7 9] (au 10 skip (exit 0))).seq ((block 1 (ops 0 [aa 13 5,aa 14 0,aa 15 1,aa 16 6,cO 17 (ixaS 1 (t 15) (t 16)),aC 18 17,cO 19 (ixaS 1 (t 14) (t 18)),aC 20 19,cO 21 (bldS 1 1 [AV.esl] [(0,1,t 20)]),cO 22 (app 1 24 (t 13) (t 21)),aa 5 22])).seq (ops 0 [aa 11 6,aq 12 .add 11 1,aa 6 12]))).loop)).seq (ab [aa 23 5,aa 4 23] ret)))))
theorem OM:Is Tryz.prog 55 b55:=mkI Tryz.func55
def b57:F2:=(F2.mk 31 [RV.t 4,RV.t 5] (ab [cO 2 (box (t 0)),cO 4 (mov (c AV.esl)),cO 5 (mov (cN 0))] (ab [bn 10 1 2,aa 11 1,aE 12 30 [t 10,t 11],aa 9 12,aS 13 9 0,aS 14 9 1,aa 6 13,aa 7 14] ((ab [aa 15 7,aq 16 .neq 15 0] (au 16 (ab [aa 17 7,cO 4 (mov (c AV.esl)),aa 5 17] ret) skip)).seq (ab [aa 19 1,aE 20 33 [t 19],aa 18 20,aS 21 18 0,aS 22 18 1,aa 8 21,aa 7 22] ((ab [aa 23 7,aq 24 .eql 23 0,aa 25 24,ao 26 25 (cM 8),ao 27 25 (un UnOp.not (t 26)),cO 28 (pick (t 25) (t 27) bb)] (au 28 (ab [cO 4 (mov (c AV.esl)),cO 5 (mov (cN 3))] ret) skip)).seq (ab [aa 29 6,aa 30 7,aa 4 29,aa 5 30] ret)))))))
theorem Pm:Is Tryz.prog 57 b57:=mkI Tryz.func57
def b58:F2:=(F2.mk 26 [RV.cn 4 2,RV.t 5] (ab [cO 2 (box (t 0)),cO 4 (alloc (AV.agg [ba,AV.esl])),cO 5 (mov (cN 0))] ((ab [aa 8 1,aq 9 .lss 8 8] (au 9 (ab [bn 10 1 2,aa 11 1,aE 12 112 [t 10,t 11],aS 13 12 0,aS 14 12 1,bB 2 4 13,aa 5 14] ret) skip)).seq (ab [bn 16 1 2,aa 17 1,aq 18 .sub 17 1,aE 19 98 [t 16,t 18],aa 15 19,aS 20 15 0,aS 21 15 1,aa 6 20,aa 7 21] (ab [aa 22 6,cO 23 (mks 1 24 [AV.esl] (t 22) (t 22)),cO 24 (bld [ba,AV.esl] [(1,1,t 23)]),aa 25 7,bB 2 4 24,aa 5 25] ret)))))
theorem OO:Is Tryz.prog 58 b58:=mkI Tryz.func58
def b59:F2:=(F2.mk 65 [RV.t 4,RV.t 5,RV.t 6,RV.t 7] (ab [cO 2 (box (t 0)),cO 4 (mov (c AV.esl)),cO 5 (mov (c AV.esl)),cO 6 (mov bb),cO 7 (mov (cN 0))] ((ab [bn 17 2 2,aE 18 113 [t 17],aa 8 18] (ab [aa 19 8,aq 20 .neq 19 0] (au 20 (ab [aa 21 8,cO 4 (mov (c AV.esl)),cO 5 (mov (c AV.esl)),cO 6 (mov bb),aa 7 21] ret) skip))).seq ((ab [aa 22 1,bG 23 1 2,aC 24 23,a6 25 24,aE 26 114 [t 22,t 25],aa 9 26] (ab [aa 27 9,aq 28 .neq 27 0] (au 28 (ab [aa 29 9,cO 4 (mov (c AV.esl)),cO 5 (mov (c AV.esl)),cO 6 (mov bb),aa 7 29] ret) skip))).seq (ab [bn 31 2 2,aE 32 115 [t 31],aa 30 32,aS 33 30 0,aS 34 30 1,aa 10 33,aa 11 34] ((ab [aa 35 11,a6 36 35,cO 37 (mov (cN 0))] (block 0 (ab [aN 38 .lss 37 36] ((au 38 skip (exit 0)).seq ((block 1 (ab [cO 39 (ixaS 1 (t 35) (t 37)),aC 40 39,aa 13 40] (ab [aa 41 13,aa 42 1,aE 43 116 [t 41,t 42]] (au 43 (ab [aa 44 13,cO 4 (mov (c AV.esl)),aa 5 44,cO 6 (mov bb),cO 7 (mov (cN 0))] ret) skip)))).seq (ops 0 [aq 45 .add 37 1,aa 37 45])))).loop)).seq (ab [cO 14 (mov (c AV.esl))] ((ab [aa 46 10,a6 47 46,cO 48 (mov (cN 0))] (block 2 (ab [aN 49 .lss 48 47] ((au 49 skip (exit 2)).seq ((block 3 (ab [cO 50 (ixaS 2 (t 46) (t 48)),bn 51 2 50,cO 16 (alloc (AV.agg [AV.esl,AV.esl])),bB 2 16 51] (ab [bG 52 1 16,aC 53 52,aa 54 1,aE 55 116 [t 53,t 54]] (au 55 (ops 0 [aa 56 14,bG 57 0 16,aC 58 57,cO 59 (ixaS 1 (t 58) (cN 0)),aC 60 59,cO 61 (bldS 1 1 [ba] [(0,1,t 60)]),cO 62 (app 1 8 (t 56) (t 61)),aa 14 62]) skip)))).seq (ops 0 [aq 63 .add 48 1,aa 48 63])))).loop)).seq (ab [aa 64 14,aa 4 64,cO 5 (mov (c AV.esl)),cO 6 (mov cP),cO 7 (mov (cN 0))] ret)))))))))
theorem Py:Is Tryz.prog 59 b59:=mkI Tryz.func59
def b60:F2:=(F2.mk 46 [RV.t 4,RV.t 5] (ab [cO 2 (box (t 0)),cO 4 (mov (c AV.esl)),cO 5 (mov (cN 0))] ((ab [bn 12 1 2,aE 13 28 [t 12],aa 6 13] (ab [aa 14 6,aq 15 .neq 14 0] (au 15 (ab [aa 16 6,cO 4 (mov (c AV.esl)),aa 5 16] ret) skip))).seq ((ab [aa 17 1,aE 18 117 [t 17],aa 7 18] (ab [aa 19 7,aq 20 .neq 19 0] (au 20 (ab [aa 21 7,cO 4 (mov (c AV.esl)),aa 5 21] ret) skip))).seq ((ab [aa 22 1,a6 23 22,aq 24 .eql 23 0] (au 24 (ab [cO 4 (mov (c AV.esl)),cO 5 (mov (cN 0))] ret) skip)).seq ((mixS 1 [bn 26 1 2,aa 27 1,cO 28 (ixaS 1 (t 27) (cN 0)),aC 29 28,a6 30 29,aE 31 99 [t 26,t 30],aa 25 31,aS 32 25 0,aS 33 25 1,aa 8 32,aa 9 33] [(0,0),(1,0),(2,0),(3,0),(4,0),(5,2),(6,0),(7,0),(8,0),(9,0),(10,0)]).seq ((ab [aa 34 9,aq 35 .neq 34 0] (au 35 (ab [aa 36 9,cO 4 (mov (c AV.esl)),aa 5 36] ret) skip)).seq (ab [aa 38 8,aa 39 1,aE 40 118 [t 38,t 39],aa 37 40,aS 41 37 0,aS 42 37 1,aa 10 41,aa 11 42] ((ab [aa 43 11,cO 44 (un UnOp.not (t 43))] (au 44 (ab [cO 4 (mov (c AV.esl)),cO 5 (mov (cN 6))] ret) skip)).seq (ab [aa 45 10,aa 4 45,cO 5 (mov (cN 0))] ret))))))))))
theorem O2:Is Tryz.prog 60 b60:=mkI Tryz.func60
def b61:F2:=(F2.mk 19 [RV.t 2] (ab [cO 2 (mov (c AV.esl))] (ab [cO 3 (mov (c AV.esl))] ((ab [cO 4 (mov (cN 0))] (block 0 ((ab [aa 5 4,aa 6 0,a6 7 6,aN 8 .lss 5 7] (au 8 skip (exit 0))).seq ((block 1 (ops 0 [aa 11 3,aa 12 0,aa 13 4,cO 14 (ixaS 1 (t 12) (t 13)),aC 15 14,aE 16 66 [t 15],aE 17 119 [t 11,t 16],aa 3 17])).seq (ops 0 [aa 9 4,aq 10 .add 9 1,aa 4 10]))).loop)).seq (ab [aa 18 3,aa 2 18] ret)))))
theorem OJ:Is Tryz.prog 61 b61:=mkI Tryz.func61
def b62:F2:=(F2.mk 42 [RV.t 4,RV.t 5] (ab [cO 2 (box (t 0)),cO 4 (mov (c AV.esl)),cO 5 (mov bb)] (ab [aa 11 1,cO 12 (ixaS 1 (t 11) (cN 0)),aC 13 12,a6 14 13,aq 15 .sub 14 1,aa 6 15] (ab [bn 17 1 2,aa 18 6,aq 19 .add 18 1,aE 20 51 [t 17,t 19],aa 21 1,aE 22 118 [t 20,t 21],aa 16 22,aS 23 16 0,aS 24 16 1,aa 7 23,aa 8 24] (ab [bn 26 1 2,aa 27 6,aq 28 .add 27 1,aE 29 53 [t 26,t 28],aa 30 7,aE 31 120 [t 29,t 30],aa 25 31,aS 32 25 0,aS 33 25 1,aa 9 32,aa 10 33] ((ab [aa 34 10,cO 35 (un UnOp.not (t 34))] (au 35 (ab [cO 4 (mov (c AV.esl)),cO 5 (mov bb)] ret) skip)).seq (ab [bn 36 1 2,aa 37 6,aq 38 .add 37 2,aE 39 51 [t 36,t 38],aa 40 9,aE 41 55 [t 39,t 40],aa 4 41,cO 5 (mov cP)] ret)))))))
theorem OA:Is Tryz.prog 62 b62:=mkI Tryz.func62
def b63:F2:=(F2.mk 9 [RV.t 4] (ab [cO 4 (mov bb)] (ab [aa 5 0,aa 6 1,aE 7 73 [t 5,t 6],aq 8 .eql 7 0,aa 4 8] ret)))
theorem OU:Is Tryz.prog 63 b63:=mkI Tryz.func63
def b64:F2:=(F2.mk 33 [RV.t 6] (ab [cO 3 (box (t 0)),cO 6 (mov (cN 0))] ((ab [bn 12 1 3,aE 13 45 [t 12],aa 7 13] (ab [aa 14 7,aq 15 .neq 14 0] (au 15 (ab [aa 16 7,aa 6 16] ret) skip))).seq ((ab [bn 18 1 3,aa 19 1,aE 20 60 [t 18,t 19],aa 17 20,aS 21 17 0,aS 22 17 1,aa 8 21,aa 9 22] (ab [aa 23 9,aq 24 .neq 23 0] (au 24 (ab [aa 25 9,aa 6 25] ret) skip))).seq (ab [bn 27 1 3,aa 28 2,aE 29 60 [t 27,t 28],aa 26 29,aS 30 26 0,aS 31 26 1,aa 10 30,aa 11 31] (ab [aa 32 11,aa 6 32] ret))))))
theorem Ou:Is Tryz.prog 64 b64:=mkI Tryz.func64
def b65:F2:=(F2.mk 23 [RV.t 4] (ab [cO 4 (mov (cN 0))] (ab [cO 5 (mov (cN 0))] ((ab [cO 6 (mov (cN 0))] (block 0 ((ab [aa 7 6,aa 8 0,a6 9 8,aN 10 .lss 7 9] (au 10 skip (exit 0))).seq ((block 1 (ab [aa 13 1,aa 14 0,aa 15 6,cO 16 (ixaS 1 (t 14) (t 15)),aC 17 16,aE 18 121 [t 13,t 17],aq 19 .geq 18 0] (au 19 (ops 0 [aa 20 5,aq 21 .add 20 1,aa 5 21]) skip))).seq (ops 0 [aa 11 6,aq 12 .add 11 1,aa 6 12]))).loop)).seq (ab [aa 22 5,aa 4 22] ret)))))
theorem OH:Is Tryz.prog 65 b65:=mkI Tryz.func65
def b66:F2:=(F2.mk 11 [RV.t 2] (ab [cO 2 (mov (c AV.esl))] ((ab [aa 3 0,a6 4 3,aq 5 .lss 4 2] (au 5 (ab [cO 2 (mov (c AV.esl))] ret) skip)).seq (ab [aa 6 0,aa 7 0,a6 8 7,aq 9 .sub 8 1,aE 10 104 [t 6,t 9],aa 2 10] ret))))
theorem PB:Is Tryz.prog 66 b66:=mkI Tryz.func66
def b67:F2:=(F2.mk 36 [RV.t 6,RV.t 7,RV.t 8] (ab [cO 3 (box (t 0)),cO 6 (mov (c AV.esl)),cO 7 (mov (c AV.esl)),cO 8 (mov (cN 0))] ((ab [bn 13 1 3,aE 14 43 [t 13],aa 9 14] (ab [aa 15 9,aq 16 .neq 15 0] (au 16 (ab [aa 17 9,cO 6 (mov (c AV.esl)),cO 7 (mov (c AV.esl)),aa 8 17] ret) skip))).seq (ab [bn 19 1 3,aa 20 1,aE 21 30 [t 19,t 20],aa 18 21,aS 22 18 0,aS 23 18 1,aa 10 22,aa 11 23] ((ab [aa 24 11,aq 25 .neq 24 0] (au 25 (ab [aa 26 11,cO 6 (mov (c AV.esl)),cO 7 (mov (c AV.esl)),aa 8 26] ret) skip)).seq (ab [bn 28 1 3,aa 29 2,aE 30 30 [t 28,t 29],aa 27 30,aS 31 27 0,aS 32 27 1,aa 12 31,aa 11 32] (ab [aa 33 10,aa 34 12,aa 35 11,aa 6 33,aa 7 34,aa 8 35] ret)))))))
theorem Pu:Is Tryz.prog 67 b67:=mkI Tryz.func67
def b68:F2:=(F2.mk 32 [RV.t 6] (ab [cO 6 (mov bb)] ((ab [aa 10 0,a6 11 10,aa 12 1,a6 13 12,aN 14 .neq 11 13] (au 14 (ab [cO 6 (mov bb)] ret) skip)).seq ((ab [aa 15 0,a6 16 15,cO 17 (mov (cN 0))] (block 0 (ab [aN 18 .lss 17 16] ((au 18 skip (exit 0)).seq ((block 1 (ab [aa 19 17,cO 20 (ixaS 1 (t 15) (t 17)),aC 21 20,aa 7 19,aa 8 21] (ab [aa 22 1,aa 23 7,cO 24 (ixaS 1 (t 22) (t 23)),aC 25 24,aa 9 25] (ab [aa 26 2,aa 27 8,aa 28 9,cO 29 (call (t 26) [t 27,t 28]),cO 30 (un UnOp.not (t 29))] (au 30 (ab [cO 6 (mov bb)] ret) skip))))).seq (ops 0 [aq 31 .add 17 1,aa 17 31])))).loop)).seq (ab [cO 6 (mov cP)] ret)))))
theorem Pg:Is Tryz.prog 68 b68:=mkI Tryz.func68
def b69:F2:=(F2.mk 9 [RV.t 4] (ab [cO 4 (mov bb)] (ab [aa 5 0,aa 6 1,aE 7 70 [t 5,t 6],aq 8 .eql 7 0,aa 4 8] ret)))
theorem Ps:Is Tryz.prog 69 b69:=mkI Tryz.func69
def b70:F2:=(F2.mk 8 [RV.t 4] (ab [cO 4 (mov (cN 0))] (ab [aa 5 0,aa 6 1,aE 7 122 ([t 5,t 6,c (AV.func 123 [])]),aa 4 7] ret)))
theorem PC:Is Tryz.prog 70 b70:=mkI Tryz.func70
def b71:F2:=(F2.mk 57 [RV.t 6] (ab [cO 3 (box (t 0)),cO 6 (mov (cN 0))] ((ab [bn 13 2 3,aE 14 113 [t 13],aa 7 14] (ab [aa 15 7,aq 16 .neq 15 0] (au 16 (ab [aa 17 7,aa 6 17] ret) skip))).seq ((ab [aa 18 1,bG 19 1 3,aC 20 19,a6 21 20,aE 22 114 [t 18,t 21],aa 8 22] (ab [aa 23 8,aq 24 .neq 23 0] (au 24 (ab [aa 25 8,aa 6 25] ret) skip))).seq ((ab [aa 26 2,bG 27 1 3,aC 28 27,a6 29 28,aE 30 114 [t 26,t 29],aa 9 30] (ab [aa 31 9,aq 32 .neq 31 0] (au 32 (ab [aa 33 9,aa 6 33] ret) skip))).seq (ab [cO 10 (mov (c AV.esl))] ((ab [aa 34 2,a6 35 34,cO 36 (mov (cN 0))] (block 0 (ab [aN 37 .lss 36 35] ((au 37 skip (exit 0)).seq ((block 1 (ab [cO 38 (ixaS 1 (t 34) (t 36)),aC 39 38,aa 12 39] (ops 0 [aa 40 10,bG 41 1 3,aC 42 41,aa 43 12,cO 44 (ixaS 1 (t 42) (t 43)),aC 45 44,aE 46 124 [t 40,t 45],aa 10 46]))).seq (ops 0 [aq 47 .add 36 1,aa 36 47])))).loop)).seq ((ab [aa 48 10,a6 49 48,aq 50 .gtr 49 0,aa 51 50,bf 52 51 (cM 2),bf 53 51 (cM 1),bf 54 51 (call (cF 116) [t 52,t 53]),bf 55 51 (un UnOp.not (t 54)),cO 56 (pick (t 51) cP (t 55))] (au 56 (ab [cO 6 (mov (cN 18))] ret) skip)).seq (ab [cO 6 (mov (cN 0))] ret)))))))))
theorem OD:Is Tryz.prog 71 b71:=mkI Tryz.func71
def b72:F2:=(F2.mk 39 [RV.t 2] (ab [cO 2 (mov (cN 0))] ((block 0 (ab [aa 5 0,a6 6 5,aq 7 .eql 6 0,aa 4 7] (au 4 (ab [cO 2 (mov (cN 16))] ret) (ab [aa 9 0,a6 10 9,aq 11 .gtr 10 8,aa 8 11] (au 8 (ab [cO 2 (mov (cN 5))] ret) skip))))).seq ((ab [cO 3 (mov (cN 0))] (block 1 ((ab [aa 12 3,aa 13 0,a6 14 13,aN 15 .lss 12 14] (au 15 skip (exit 1))).seq ((block 2 ((ab [aa 18 0,aa 19 3,cO 20 (ixaS 2 (t 18) (t 19)),bn 21 2 20,aE 22 125 [t 21],cO 23 (un UnOp.not (t 22))] (au 23 (ab [cO 2 (mov (cN 2))] ret) skip)).seq ((mixS 1 [aa 24 3,aq 25 .gtr 24 0,aa 26 25,ao 27 26 (cM 0),ao 28 26 (cM 3),ao 29 26 (cB .sub (t 28) (cN 1)),ao 30 26 (ixaS 2 (t 27) (t 29)),ao 31 26 (ldn 2 (t 30)),ao 32 26 (cM 0),ao 33 26 (cM 3),ao 34 26 (ixaS 2 (t 32) (t 33)),ao 35 26 (ldn 2 (t 34)),ao 36 26 (call (cF 126) [t 31,t 35]),ao 37 26 (cB .geq (t 36) (cN 0)),cO 38 (pick (t 26) (t 37) bb)] [(0,0),(1,0),(2,0),(3,0),(4,0),(5,0),(6,0),(7,0),(8,0),(9,0),(10,0),(11,0),(12,2),(13,0),(14,0)]).seq (au 38 (ab [cO 2 (mov (cN 14))] ret) skip)))).seq (ops 0 [aa 16 3,aq 17 .add 16 1,aa 3 17]))).loop)).seq (ab [cO 2 (mov (cN 0))] ret)))))
theorem Pb:Is Tryz.prog 72 b72:=mkI Tryz.func72
def b73:F2:=(F2.mk 43 [RV.t 4] (ab [cO 4 (mov (cN 0))] ((ab [cO 5 (mov (cN 0))] (block 0 ((ab [aa 7 5,aa 8 0,a6 9 8,aN 10 .lss 7 9,aa 11 10,ao 12 11 (cM 5),ao 13 11 (cM 1),ao 14 11 (lenS (t 13)),ao 15 11 (cB .lss (t 12) (t 14)),cO 16 (pick (t 11) (t 15) bb)] (au 16 skip (exit 0))).seq ((block 1 ((mixS 1 [aa 19 0,aa 20 5,cO 21 (ixaS 2 (t 19) (t 20)),bn 22 2 21,aa 23 1,aa 24 5,cO 25 (ixaS 2 (t 23) (t 24)),bn 26 2 25,aE 27 126 [t 22,t 26],aa 6 27] [(0,0),(1,0),(2,0),(3,0),(4,0),(5,0),(6,0),(7,0),(8,2),(9,0)]).seq (ab [aa 28 6,aq 29 .neq 28 0] (au 29 (ab [aa 30 6,aa 4 30] ret) skip)))).seq (ops 0 [aa 17 5,aq 18 .add 17 1,aa 5 18]))).loop)).seq ((block 2 (ab [aa 32 0,a6 33 32,aa 34 1,a6 35 34,aN 36 .lss 33 35,aa 31 36] (au 31 (ab [cO 4 (mov (cN ((-1))))] ret) (ab [aa 38 0,a6 39 38,aa 40 1,a6 41 40,aN 42 .gtr 39 41,aa 37 42] (au 37 (ab [cO 4 (mov (cN 1))] ret) skip))))).seq (ab [cO 4 (mov (cN 0))] ret)))))
theorem OY:Is Tryz.prog 73 b73:=mkI Tryz.func73
def b74:F2:=(F2.mk 19 [RV.t 4] (ab [cO 4 (mov bb)] ((ab [cO 5 (mov (cN 0))] (block 0 ((ab [aa 6 5,aa 7 0,a6 8 7,aN 9 .lss 6 8] (au 9 skip (exit 0))).seq ((block 1 (ab [aa 12 1,aa 13 0,aa 14 5,cO 15 (ixaS 2 (t 13) (t 14)),bn 16 2 15,aE 17 127 [t 12,t 16],cO 18 (un UnOp.not (t 17))] (au 18 (ab [cO 4 (mov bb)] ret) skip))).seq (ops 0 [aa 10 5,aq 11 .add 10 1,aa 5 11]))).loop)).seq (ab [cO 4 (mov cP)] ret))))
theorem Ow:Is Tryz.prog 74 b74:=mkI Tryz.func74
def b75:F2:=(F2.mk 43 [RV.t 2] (ab [cO 2 (mov (cN 0))] ((ab [aa 6 0,a6 7 6,aq 8 .gtr 7 4096] (au 8 (ab [cO 2 (mov (cN 5))] ret) skip)).seq ((ab [aa 9 0,a6 10 9,cO 11 (mov (cN 0))] (block 0 (ab [aN 12 .lss 11 10] ((au 12 skip (exit 0)).seq ((block 1 (ab [aa 13 11,cO 14 (ixaS 1 (t 9) (t 11)),aC 15 14,aa 3 13,aa 4 15] ((ab [aa 16 4,aE 17 128 [t 16],aa 5 17] (ab [aa 18 5,aq 19 .neq 18 0] (au 19 (ab [aa 20 5,aa 2 20] ret) skip))).seq (block 2 (ab [aa 22 4,a6 23 22,aa 24 0,cO 25 (ixaS 1 (t 24) (cN 0)),aC 26 25,a6 27 26,aN 28 .neq 23 27,aa 21 28] (au 21 (ab [cO 2 (mov (cN 15))] ret) (ab [aa 30 3,aq 31 .gtr 30 0,aa 32 31,ao 33 32 (cM 0),ao 34 32 (cM 3),ao 35 32 (cB .sub (t 34) (cN 1)),ao 36 32 (ixaS 1 (t 33) (t 35)),ao 37 32 (cD 36),ao 38 32 (cM 4),ao 39 32 (call (cF 70) [t 37,t 38]),ao 40 32 (cB .geq (t 39) (cN 0)),cO 41 (pick (t 32) (t 40) bb),aa 29 41] (au 29 (ab [cO 2 (mov (cN 14))] ret) skip)))))))).seq (ops 0 [aq 42 .add 11 1,aa 11 42])))).loop)).seq (ab [cO 2 (mov (cN 0))] ret)))))
theorem Oz:Is Tryz.prog 75 b75:=mkI Tryz.func75
def b76:F2:=(F2.mk 9 [RV.t 2,RV.t 3] (ab [cO 2 (mov (c AV.esl)),cO 3 (mov (cN 0))] ((ab [aa 4 0,a6 5 4,aq 6 .gtr 5 4096] (au 6 (ab [cO 2 (mov (c AV.esl)),cO 3 (mov (cN 5))] ret) skip)).seq (ab [aa 7 0,aE 8 84 [t 7],aa 2 8,cO 3 (mov (cN 0))] ret))))
theorem O6:Is Tryz.prog 76 b76:=mkI Tryz.func76
def b77:F2:=(F2.mk 52 [RV.t 2] (ab [cO 2 (mov (c AV.esl))] (ab [cO 13 (mkm none),cO 3 (alloc AV.nilm),bB 1 3 13] ((ab [aa 14 0,a6 15 14,cO 16 (mov (cN 0))] (block 0 (ab [aN 17 .lss 16 15] ((au 17 skip (exit 0)).seq ((block 1 (ab [cO 18 (ixaS 1 (t 14) (t 16)),aC 19 18,aa 5 19] (ab [aa 20 5,aE 21 129 [t 20]] (block 2 (rangeF (t 21) [22] (ops 0 [aa 6 22]) (block 3 (ab [cO 7 (alloc (AV.agg [ba,ba,ba,ba,ba,ba,ba,ba,ba,ba,ba,ba,ba,ba,ba,ba]))] (ab [cO 23 (slp 8 2 (t 7)),aa 24 6,cO 25 (cpy 2 (t 23) (t 24))] (ab [aC 27 3,bn 28 16 7,cO 29 (Ins.mget (MK.st [int,int,int,int,int,int,int,int,int,int,int,int,int,int,int,int]) AV.esl true (t 27) (t 28)),aa 26 29,aS 30 26 0,aS 31 26 1,aa 8 30,aa 9 31] (ab [aa 32 9] (au 32 (ops 0 [aC 33 3,bn 34 16 7,Op2.mk none none (mdel (MK.st [int,int,int,int,int,int,int,int,int,int,int,int,int,int,int,int]) (t 33) (t 34))]) (ops 0 [aC 35 3,bn 36 16 7,aa 37 6,Op2.mk none none (mput (MK.st [int,int,int,int,int,int,int,int,int,int,int,int,int,int,int,int]) (t 35) (t 36) (t 37))])))))))))))).seq (ops 0 [aq 38 .add 16 1,aa 16 38])))).loop)).seq (ab [cO 10 (mov (c AV.esl))] ((ab [aC 39 3,cO 40 (mrng (t 39))] (block 4 (ab [cO 41 (mnxt (t 40)),aS 42 41 0] ((au 42 skip (exit 4)).seq (block 5 (ab [cO 43 (ment (t 40)),aS 44 43 1,aa 12 44] (ops 0 [aa 45 10,aa 46 12,cO 47 (bldS 1 1 [AV.esl] [(0,1,t 46)]),cO 48 (app 1 24 (t 45) (t 47)),aa 10 48]))))).loop)).seq (ab [aa 49 10,aE 50 130 ([t 49,c (AV.func 70 [])])] (ab [aa 51 10,aa 2 51] ret))))))))
theorem Pc:Is Tryz.prog 77 b77:=mkI Tryz.func77
def b78:F2:=(F2.mk 60 [RV.t 2] (ab [cO 1 (box (t 0)),cO 2 (mov (cN 0))] ((ab [bG 9 0 1,aC 10 9,a6 11 10,aq 12 .gtr 11 4096] (au 12 (ab [cO 2 (mov (cN 5))] ret) skip)).seq ((ab [bG 13 0 1,aC 14 13,a6 15 14,cO 16 (mov (cN 0))] (block 0 (ab [aN 17 .lss 16 15] ((au 17 skip (exit 0)).seq ((block 1 (ab [aa 18 16,cO 19 (ixaS 1 (t 14) (t 16)),aC 20 19,aa 3 18,aa 4 20] ((ab [aa 21 4,aE 22 128 [t 21],aa 5 22] (ab [aa 23 5,aq 24 .neq 23 0] (au 24 (ab [aa 25 5,aa 2 25] ret) skip))).seq (ab [aa 26 3,aq 27 .gtr 26 0,aa 28 27,ao 29 28 (fa 0 (t 1)),ao 30 28 (cD 29),ao 31 28 (cM 3),ao 32 28 (cB .sub (t 31) (cN 1)),ao 33 28 (ixaS 1 (t 30) (t 32)),ao 34 28 (cD 33),ao 35 28 (cM 4),ao 36 28 (call (cF 70) [t 34,t 35]),ao 37 28 (cB .geq (t 36) (cN 0)),cO 38 (pick (t 28) (t 37) bb)] (au 38 (ab [cO 2 (mov (cN 14))] ret) skip))))).seq (ops 0 [aq 39 .add 16 1,aa 16 39])))).loop)).seq (ab [bG 40 0 1,aC 41 40,aE 42 92 [t 41],aa 6 42] ((ab [bG 43 0 1,aC 44 43,a6 45 44,cO 46 (mov (cN 0))] (block 2 (ab [aN 47 .lss 46 45] ((au 47 skip (exit 2)).seq ((block 3 (ab [cO 48 (ixaS 1 (t 44) (t 46)),aC 49 48,aa 8 49] ((mixS 9 [bG 50 0 1,aC 51 50,aa 52 6,aa 53 8,cO 54 (ixaS 2 (t 53) (cN 0)),bn 55 2 54,cO 56 (Ins.mget (MK.st [int,int]) AV.esl false (t 52) (t 55)),aa 57 8,aE 58 131 [t 51,t 56,t 57]] [(0,0),(1,0),(2,0),(3,0),(4,0),(5,0),(7,0),(6,1),(8,2)]).seq (au 58 (ab [cO 2 (mov (cN 7))] ret) skip)))).seq (ops 0 [aq 59 .add 46 1,aa 46 59])))).loop)).seq (ab [cO 2 (mov (cN 0))] ret)))))))
theorem Pq:Is Tryz.prog 78 b78:=mkI Tryz.func78
def b79:F2:=(F2.mk 24 [RV.t 4,RV.t 5] (ab [cO 2 (box (t 0)),cO 4 (mov (c AV.esl)),cO 5 (mov (cN 0))] ((ab [bn 7 1 2,aE 8 78 [t 7],aa 6 8] (ab [aa 9 6,aq 10 .neq 9 0] (au 10 (ab [aa 11 6,cO 4 (mov (c AV.esl)),aa 5 11] ret) skip))).seq ((ab [aa 12 1,aq 13 .lss 12 1,aa 14 13,bf 15 14 (cM 1),bf 16 14 (cB .gtr (t 15) (cN 8)),cO 17 (pick (t 14) cP (t 16))] (au 17 (ab [cO 4 (mov (c AV.esl)),cO 5 (mov (cN 2))] ret) skip)).seq (ab [bG 18 0 2,aC 19 18,aa 20 1,aE 21 87 [t 19,t 20],aS 22 21 0,aS 23 21 1,aa 4 22,aa 5 23] ret)))))
theorem OE:Is Tryz.prog 79 b79:=mkI Tryz.func79
def b80:F2:=(F2.mk 11 [RV.t 4,RV.t 5] (ab [cO 4 (mov (cN 0)),cO 5 (mov bb)] (ab [aa 6 0,aa 7 1,aE 8 132 ([t 6,t 7,c (AV.func 70 [])]),aS 9 8 0,aS 10 8 1,aa 4 9,aa 5 10] ret)))
theorem Pa:Is Tryz.prog 80 b80:=mkI Tryz.func80
def b81:F2:=(F2.mk 51 [RV.t 4,RV.t 5] (ab [cO 2 (box (t 0)),cO 4 (mov (c AV.nilp)),cO 5 (mov (cN 0))] (ab [bn 11 1 2,aa 12 1,aq 13 .add 12 1,aE 14 58 [t 11,t 13],aa 10 14,aS 15 10 0,aS 16 10 1,cO 6 (alloc (AV.agg [ba,AV.esl])),bB 2 6 15,aa 7 16] ((ab [aa 17 7,aq 18 .neq 17 0] (au 18 (ab [aa 19 7,cO 4 (mov (c AV.nilp)),aa 5 19] ret) skip)).seq (ab [bn 21 1 2,aa 22 1,aE 23 98 [t 21,t 22],aa 20 23,aS 24 20 0,aS 25 20 1,aa 8 24,aa 7 25] ((ab [aa 26 7,aq 27 .neq 26 0] (au 27 (ab [aa 28 7,cO 4 (mov (c AV.nilp)),aa 5 28] ret) skip)).seq (ab [bn 30 2 6,aE 31 133 [t 30],aa 29 31,aS 32 29 0,aS 33 29 1,cO 9 (alloc (AV.agg [ba,AV.esl])),bB 2 9 32,aa 7 33] ((ab [aa 34 7,aq 35 .neq 34 0] (au 35 (ab [aa 36 7,cO 4 (mov (c AV.nilp)),aa 5 36] ret) skip)).seq (ab [aa 37 8,bG 38 0 9,bB 1 38 37] (ab [bn 40 2 9,aE 41 134 [t 40],aa 39 41,aS 42 39 0,aS 43 39 1,bB 2 9 42,aa 7 43] (ab [bn 44 2 9,bG 45 1 9,aC 46 45,a6 47 46,cO 48 (bld [ba,AV.esl,ba] [(0,2,t 44),(2,1,t 47)]),cO 49 (box (t 48)),aa 50 7,aa 4 49,aa 5 50] ret)))))))))))
theorem Oy:Is Tryz.prog 81 b81:=mkI Tryz.func81
def b82:F2:=(F2.mk 48 [RV.t 4,RV.t 5] (ab [cO 4 (mov bb),cO 5 (mov (cN 0))] ((mixF [aa 9 0,cO 10 (nilck (t 9)),bG 11 0 10,bG 12 0 11,aC 13 12,aa 14 0,cO 15 (nilck (t 14)),bG 16 0 15,bG 17 1 16,aC 18 17,aE 19 135 [t 18],aa 20 1,cO 21 (bldS 1 1 [AV.esl] [(0,1,t 20)]),cO 22 (app 1 24 (t 19) (t 21)),cO 23 (bld [ba,AV.esl] [(0,1,t 13),(1,1,t 22)]),cO 6 (alloc (AV.agg [ba,AV.esl])),bB 2 6 23] (15,1) [(0,0),(1,0),(2,0),(3,0),(4,0),(5,0),(6,0),(7,0),(8,0),(9,0),(11,0),(12,3),(10,1),(13,1),(14,0)] [(16,2)]).seq (ab [bn 25 2 6,aE 26 97 [t 25],aa 24 26,aS 27 24 0,aS 28 24 1,aa 7 27,aa 8 28] ((ab [aa 29 8,aq 30 .neq 29 0,aa 31 30,bf 32 31 (cM 7),bf 33 31 (cM 0),bf 34 31 (nilck (t 33)),bf 35 31 (fa 2 (t 34)),bf 36 31 (cD 35),bf 37 31 (cB .eql (t 32) (t 36)),cO 38 (pick (t 31) cP (t 37))] (au 38 (ab [aa 39 8,cO 4 (mov bb),aa 5 39] ret) skip)).seq (ab [aa 40 0,aa 41 0,bn 42 2 6,aa 43 7,cO 44 (nilck (t 40)),bG 45 0 44,bB 2 45 42,cO 46 (nilck (t 41)),bG 47 2 46,bB 1 47 43] (ab [cO 4 (mov cP),cO 5 (mov (cN 0))] ret)))))))
theorem Ph:Is Tryz.prog 82 b82:=mkI Tryz.func82
def b83:F2:=(F2.mk 14 [RV.t 4,RV.t 5] (ab [cO 2 (box (t 0)),cO 4 (mov (c AV.esl)),cO 5 (mov (cN 0))] ((ab [aa 6 1,aq 7 .lss 6 0] (au 7 (ab [cO 4 (mov (c AV.esl)),cO 5 (mov (cN 0))] ret) skip)).seq (ab [bn 8 1 2,aa 9 1,aq 10 .add 9 1,aE 11 79 [t 8,t 10],aS 12 11 0,aS 13 11 1,aa 4 12,aa 5 13] ret))))
theorem Pf:Is Tryz.prog 83 b83:=mkI Tryz.func83
def b84:F2:=(F2.mk 19 [RV.t 2] (ab [cO 2 (mov (c AV.esl))] (ab [cO 3 (mov (c AV.esl))] ((ab [aa 6 0,a6 7 6,cO 8 (mov (cN 0))] (block 0 (ab [aN 9 .lss 8 7] ((au 9 skip (exit 0)).seq ((block 1 (ab [cO 10 (ixaS 1 (t 6) (t 8)),aC 11 10,aa 5 11] (ops 0 [aa 12 3,aa 13 5,aE 14 136 [t 13],cO 15 (bldS 1 1 [AV.esl] [(0,1,t 14)]),cO 16 (app 1 24 (t 12) (t 15)),aa 3 16]))).seq (ops 0 [aq 17 .add 8 1,aa 8 17])))).loop)).seq (ab [aa 18 3,aa 2 18] ret)))))
theorem OT:Is Tryz.prog 84 b84:=mkI Tryz.func84
def b87:F2:=(F2.mk 60 [RV.t 4,RV.t 5] (ab [cO 4 (mov (c AV.esl)),cO 5 (mov (cN 0))] (ab [cO 14 (mkm none),aa 6 14] (ab [cO 7 (mov (c AV.esl))] ((ab [aa 15 0,a6 16 15,cO 17 (mov (cN 0))] (block 0 (ab [aN 18 .lss 17 16] ((au 18 skip (exit 0)).seq ((block 1 (ab [cO 19 (ixaS 1 (t 15) (t 17)),aC 20 19,aa 9 20] ((ab [aa 21 9,a6 22 21,aa 23 1,aN 24 .lss 22 23] (au 24 (exit 1) skip)).seq (ab [aa 26 9,aa 27 1,aE 28 137 [t 26,t 27],aa 25 28,aS 29 25 0,aS 30 25 1,aa 10 29,aa 11 30] ((ab [aa 31 11,aq 32 .neq 31 0] (au 32 (ab [aa 33 11,cO 4 (mov (c AV.esl)),aa 5 33] ret) skip)).seq ((ab [aa 34 10,a6 35 34,cO 36 (mov (cN 0))] (block 2 (ab [aN 37 .lss 36 35] ((au 37 skip (exit 2)).seq ((block 3 (ab [cO 38 (ixaS 1 (t 34) (t 36)),aC 39 38,aa 13 39] (ab [aa 40 6,aa 41 13,aE 42 138 [t 41],cO 43 (Ins.mget (MK.st [int,int,int,int,int,int,int,int,int,int,int,int,int,int,int,int]) (AV.bool false) false (t 40) (t 42)),cO 44 (un UnOp.not (t 43))] (au 44 (ab [aa 45 6,aa 46 13,aE 47 138 [t 46],Op2.mk none none (mput (MK.st [int,int,int,int,int,int,int,int,int,int,int,int,int,int,int,int]) (t 45) (t 47) cP)] (ops 0 [aa 48 7,aa 49 13,cO 50 (bldS 1 1 [AV.esl] [(0,1,t 49)]),cO 51 (app 1 24 (t 48) (t 50)),aa 7 51])) skip)))).seq (ops 0 [aq 52 .add 36 1,aa 36 52])))).loop)).seq (ab [aa 53 7,a6 54 53,aq 55 .gtr 54 4096] (au 55 (ab [cO 4 (mov (c AV.esl)),cO 5 (mov (cN 17))] ret) skip)))))))).seq (ops 0 [aq 56 .add 17 1,aa 17 56])))).loop)).seq (ab [aa 57 7,aE 58 130 ([t 57,c (AV.func 70 [])])] (ab [aa 59 7,aa 4 59,cO 5 (mov (cN 0))] ret)))))))
theorem O7:Is Tryz.prog 87 b87:=mkI Tryz.func87
def b92:F2:=(F2.mk 33 [RV.t 2] (ab [cO 2 (mov (c AV.nilm))] (ab [cO 8 (mkm none),aa 3 8] ((ab [aa 9 0,a6 10 9,cO 11 (mov (cN 0))] (block 0 (ab [aN 12 .lss 11 10] ((au 12 skip (exit 0)).seq ((block 1 (ab [aa 13 11,cO 14 (ixaS 1 (t 9) (t 11)),aC 15 14,aa 4 13,aa 5 15] (ab [aa 16 5,a6 17 16,cO 18 (mov (cN 0))] (block 2 (ab [aN 19 .lss 18 17] ((au 19 skip (exit 2)).seq ((block 3 (ab [cO 20 (ixaS 2 (t 16) (t 18)),bn 21 2 20,cO 7 (alloc (AV.agg [ba,ba])),bB 2 7 21] (ops 0 [aa 22 3,bn 23 2 7,aa 25 4,cO 26 (bldS 1 1 [ba] [(0,1,t 25)]),cO 27 (mplc (MK.st [int,int]) AV.esl (t 22) (t 23)),aS 24 27 0,cO 28 (app 1 8 (t 24) (t 26)),aS 29 27 1,Op2.mk none none (mpst (t 22) (t 29) (t 28))]))).seq (ops 0 [aq 30 .add 18 1,aa 18 30])))).loop)))).seq (ops 0 [aq 31 .add 11 1,aa 11 31])))).loop)).seq (ab [aa 32 3,aa 2 32] ret)))))
theorem Po:Is Tryz.prog 92 b92:=mkI Tryz.func92
def b94:F2:=(F2.mk 33 [RV.t 2,RV.t 3] (ab [cO 1 (box (t 0)),cO 2 (mov (cN 0)),cO 3 (mov bb)] (ab [cO 4 (mov (cN 8)),cO 5 (mov (cN 0))] ((ab [bG 8 0 1,aC 9 8,a6 10 9,cO 11 (mov (cN 0))] (block 0 (ab [aN 12 .lss 11 10] ((au 12 skip (exit 0)).seq ((block 1 (ab [cO 13 (ixaS 1 (t 9) (t 11)),aC 14 13,aa 7 14] (ops 0 [aa 15 4,aa 16 7,a6 17 16,cO 18 (mn (t 15) [t 17]),aa 19 5,aa 20 7,a6 21 20,cO 22 (mx (t 19) [t 21]),aa 4 18,aa 5 22]))).seq (ops 0 [aq 23 .add 11 1,aa 11 23])))).loop)).seq (ab [aa 24 5,aq 25 .sub 24 1,aa 26 5,aq 27 .eql 26 0,aa 28 27,bf 29 28 (cM 4),bf 30 28 (cM 5),bf 31 28 (cB .eql (t 29) (t 30)),cO 32 (pick (t 28) cP (t 31)),aa 2 25,aa 3 32] ret)))))
theorem OI:Is Tryz.prog 94 b94:=mkI Tryz.func94
def b95:F2:=(F2.mk 19 [RV.t 2] (ab [cO 2 (mov bb)] ((ab [aa 4 0,a6 5 4,aq 6 .gtr 5 30] (au 6 (ab [cO 2 (mov bb)] ret) skip)).seq ((ab [cO 3 (mov (cN 0))] (block 0 ((ab [aa 7 3,aa 8 0,a6 9 8,aN 10 .lss 7 9] (au 10 skip (exit 0))).seq ((block 1 (ab [aa 13 0,aa 14 3,cO 15 (ixaS 1 (t 13) (t 14)),aC 16 15,aE 17 145 [t 16],cO 18 (un UnOp.not (t 17))] (au 18 (ab [cO 2 (mov bb)] ret) skip))).seq (ops 0 [aa 11 3,aq 12 .add 11 1,aa 3 12]))).loop)).seq (ab [cO 2 (mov cP)] ret)))))
theorem Pw:Is Tryz.prog 95 b95:=mkI Tryz.func95
def b96:F2:=(F2.mk 20 [RV.t 2,RV.t 3,RV.t 4] (ab [cO 1 (box (t 0)),cO 2 (mov (cN 0)),cO 3 (mov bb),cO 4 (mov (cN 0))] ((ab [bn 8 1 1,aE 9 78 [t 8],aa 5 9] (ab [aa 10 5,aq 11 .neq 10 0] (au 11 (ab [aa 12 5,cO 2 (mov (cN 0)),cO 3 (mov bb),aa 4 12] ret) skip))).seq (ab [bn 14 1 1,aE 15 94 [t 14],aa 13 15,aS 16 13 0,aS 17 13 1,aa 6 16,aa 7 17] (ab [aa 18 6,aa 19 7,aa 2 18,aa 3 19,cO 4 (mov (cN 0))] ret)))))
theorem Pe:Is Tryz.prog 96 b96:=mkI Tryz.func96
def b97:F2:=(F2.mk 15 [RV.t 2,RV.t 3] (ab [cO 1 (box (t 0)),cO 2 (mov (cN 0)),cO 3 (mov (cN 0))] (ab [bn 7 2 1,aE 8 134 [t 7],aa 6 8,aS 9 6 0,aS 10 6 1,cO 4 (alloc (AV.agg [ba,AV.esl])),bB 2 4 9,aa 5 10] (ab [bG 11 1 4,aC 12 11,a6 13 12,aa 14 5,aa 2 13,aa 3 14] ret))))
theorem O1:Is Tryz.prog 97 b97:=mkI Tryz.func97
def b98:F2:=(F2.mk 24 [RV.t 4,RV.t 5] (ab [cO 2 (box (t 0)),cO 4 (mov (cN 0)),cO 5 (mov (cN 0))] ((ab [aa 8 1,aq 9 .lss 8 0,aa 10 9,bf 11 10 (cM 1),bf 12 10 (cB .geq (t 11) (cN 8)),cO 13 (pick (t 10) cP (t 12))] (au 13 (ab [cO 4 (mov (cN 0)),cO 5 (mov (cN 0))] ret) skip)).seq (ab [bn 15 1 2,aa 16 1,aq 17 .add 16 1,aE 18 79 [t 15,t 17],aa 14 18,aS 19 14 0,aS 20 14 1,aa 6 19,aa 7 20] (ab [aa 21 6,a6 22 21,aa 23 7,aa 4 22,aa 5 23] ret)))))
theorem Pv:Is Tryz.prog 98 b98:=mkI Tryz.func98
def b99:F2:=(F2.mk 26 [RV.t 4,RV.t 5] (ab [cO 2 (box (t 0)),cO 4 (mov (c AV.esl)),cO 5 (mov (cN 0))] ((ab [bn 8 1 2,aE 9 28 [t 8],aa 6 9] (ab [aa 10 6,aq 11 .neq 10 0] (au 11 (ab [aa 12 6,cO 4 (mov (c AV.esl)),aa 5 12] ret) skip))).seq ((ab [aa 13 1,aq 14 .lss 13 1,aa 15 14,bf 16 15 (cM 1),bf 17 15 (cB .gtr (t 16) (cN 8)),cO 18 (pick (t 15) cP (t 17))] (au 18 (ab [cO 4 (mov (c AV.esl)),cO 5 (mov (cN 2))] ret) skip)).seq (ab [bn 19 1 2,aa 20 1,aE 21 51 [t 19,t 20],aa 7 21] ((ab [aa 22 7,a6 23 22,aq 24 .gtr 23 4096] (au 24 (ab [cO 4 (mov (c AV.esl)),cO 5 (mov (cN 17))] ret) skip)).seq (ab [aa 25 7,aa 4 25,cO 5 (mov (cN 0))] ret)))))))
theorem OL:Is Tryz.prog 99 b99:=mkI Tryz.func99
def MR:F2:=(F2.mk 19 [RV.t 4] (ab [cO 4 (mov (cN 0))] ((ab [aa 6 0,a6 7 6,cO 8 (mov (cN 0))] (block 0 (ab [aN 9 .lss 8 7] ((au 9 skip (exit 0)).seq ((block 1 (ab [aa 10 8,aa 5 10] (ab [aa 11 1,aa 12 0,aa 13 5,cO 14 (ixaS 1 (t 12) (t 13)),aC 15 14,cO 16 (call (t 11) [t 15])] (au 16 (ab [aa 17 5,aa 4 17] ret) skip)))).seq (ops 0 [aq 18 .add 8 1,aa 8 18])))).loop)).seq (ab [cO 4 (mov (cN ((-1))))] ret))))
theorem My:Is Tryz.prog 101 MR:=mkI Tryz.func101
def Nc:F2:=(F2.mk 64 [] (ab [bn 13 1 1,aC 14 2,aE 15 81 [t 13,t 14],aa 12 15,aS 16 12 0,aS 17 12 1,aa 4 16,aa 5 17] (ab [cO 6 (alloc (AV.agg [ba,AV.esl]))] ((ab [aa 18 5,aq 19 .eql 18 0] (au 19 (ab [cO 7 (alloc (AV.agg [ba,AV.esl]))] (ab [bn 21 1 1,aC 22 2,aE 23 58 [t 21,t 22],aa 20 23,aS 24 20 0,aS 25 20 1,bB 2 7 24,aa 5 25] (ab [aa 26 5,aq 27 .eql 26 0] (au 27 (ops 0 [bn 29 2 7,aE 30 103 [t 29],aa 28 30,aS 31 28 0,aS 32 28 1,bB 2 6 31,aa 5 32]) skip)))) skip)).seq ((ab [aa 33 5,aq 34 .neq 33 0] (au 34 (ab [aa 35 0,aa 36 5,cO 37 (call (t 35) [c AV.esl,t 36])] ret) skip)).seq (ab [bG 38 1 6,aC 39 38,a6 40 39,cO 41 (mov (cN 0))] (block 0 (ab [aN 42 .lss 41 40] ((au 42 skip (exit 0)).seq ((block 1 (ab [cO 43 (ixaS 1 (t 39) (t 41)),aC 44 43,aa 9 44] (ab [aa 46 4,aa 47 9,aE 48 82 [t 46,t 47],aa 45 48,aS 49 45 0,aS 50 45 1,aa 10 49,aa 11 50] (ab [aa 51 10,aa 52 51,bf 53 52 (cM 11),bf 54 52 (cB .neq (t 53) (cN 0)),cO 55 (pick (t 52) cP (t 54)),aa 56 55,ao 57 56 (cM 0),ao 58 56 (cM 9),ao 59 56 (cM 11),ao 60 56 (call (t 57) [t 58,t 59]),ao 61 56 (un UnOp.not (t 60)),cO 62 (pick (t 56) (t 61) bb)] (au 62 ret skip))))).seq (ops 0 [aq 63 .add 41 1,aa 41 63])))).loop)))))))
theorem Nq:Is Tryz.prog 102 Nc:=mkI Tryz.func102
def Me:F2:=(F2.mk 76 [RV.cn 2 2,RV.t 3] (ab [cO 1 (box (t 0)),cO 2 (alloc (AV.agg [ba,AV.esl])),cO 3 (mov (cN 0))] (ab [bn 15 2 1,aE 16 134 [t 15],aa 14 16,aS 17 14 0,aS 18 14 1,cO 4 (alloc (AV.agg [ba,AV.esl])),bB 2 4 17,aa 5 18] ((ab [aa 19 5,aq 20 .neq 19 0] (au 20 (ab [cO 21 (bld [ba,AV.esl] []),aa 22 5,bB 2 2 21,aa 3 22] ret) skip)).seq (ab [bG 23 0 1,aC 24 23,cO 25 (bld [ba,AV.esl] [(0,1,t 24)]),cO 6 (alloc (AV.agg [ba,AV.esl])),bB 2 6 25] (ab [cO 26 (mkm none),aa 7 26] ((ab [bG 27 1 4,aC 28 27,a6 29 28,cO 30 (mov (cN 0))] (block 0 (ab [aN 31 .lss 30 29] ((au 31 skip (exit 0)).seq ((block 1 (ab [cO 32 (ixaS 1 (t 28) (t 30)),aC 33 32,aa 9 33] (ops 0 [aa 34 7,aa 35 9,cO 36 (ixaS 1 (t 35) (cN 0)),aC 37 36,Op2.mk none none (mput (one int) (t 34) (t 37) cP)]))).seq (ops 0 [aq 38 .add 30 1,aa 30 38])))).loop)).seq ((ab [bG 39 0 1,aC 40 39,cO 41 (mov (cN 0))] (block 2 (ab [aN 42 .lss 41 40] ((au 42 skip (exit 2)).seq ((block 3 (ab [aa 43 41,aa 10 43] ((ab [aa 44 7,aa 45 10,cO 46 (Ins.mget (one int) (AV.bool false) false (t 44) (t 45))] (au 46 (exit 3) skip)).seq (ab [aa 47 10,cO 48 (bldS 1 1 [ba] [(0,1,t 47)]),aa 11 48] ((ab [bG 49 1 4,aC 50 49,a6 51 50,cO 52 (mov (cN 0))] (block 4 (ab [aN 53 .lss 52 51] ((au 53 skip (exit 4)).seq ((block 5 (ab [cO 54 (ixaS 1 (t 50) (t 52)),aC 55 54,aa 13 55] (ab [aa 56 13,aa 57 10,aE 58 146 [t 56,t 57]] (au 58 (ops 0 [aa 59 11,aa 60 13,cO 61 (ixaS 1 (t 60) (cN 0)),aC 62 61,cO 63 (bldS 1 1 [ba] [(0,1,t 62)]),cO 64 (app 1 8 (t 59) (t 63)),aa 11 64]) skip)))).seq (ops 0 [aq 65 .add 52 1,aa 52 65])))).loop)).seq (ab [aa 66 11,aE 67 147 [t 66]] (ops 0 [bG 68 1 6,aC 69 68,aa 70 11,cO 71 (bldS 1 1 [AV.esl] [(0,1,t 70)]),cO 72 (app 1 24 (t 69) (t 71)),bG 73 1 6,bB 1 73 72]))))))).seq (ops 0 [aq 74 .add 41 1,aa 41 74])))).loop)).seq (ab [bn 75 2 6,bB 2 2 75,cO 3 (mov (cN 0))] ret)))))))))
theorem LN:Is Tryz.prog 103 Me:=mkI Tryz.func103
def KP:F2:=(F2.mk 47 [RV.t 4] (ab [cO 4 (mov (c AV.esl))] ((ab [aa 9 1,aq 10 .eql 9 0] (au 10 (ab [cO 11 (bldS 1 1 [AV.esl] [(0,1,c AV.esl)]),aa 4 11] ret) skip)).seq (ab [cO 5 (mov (c AV.esl))] ((ab [cO 6 (mov (cN 0))] (block 0 ((ab [aa 12 6,aa 13 1,aN 14 .add 12 13,aa 15 0,a6 16 15,aN 17 .leq 14 16] (au 17 skip (exit 0))).seq ((block 1 (ab [aa 20 0,aa 21 6,aq 22 .add 21 1,cO 23 (sls 2 (t 20) (some (t 22)) none none),aa 24 1,aq 25 .sub 24 1,aE 26 104 [t 23,t 25],aa 7 26] (ab [cO 8 (mov (cN 0))] (block 2 ((ab [aa 27 8,aa 28 7,a6 29 28,aN 30 .lss 27 29] (au 30 skip (exit 2))).seq ((block 3 (mixS 9 [aa 33 5,aa 34 0,aa 35 6,cO 36 (ixaS 2 (t 34) (t 35)),bn 37 2 36,cO 38 (bldS 2 1 [ba,ba] [(0,2,t 37)]),aa 39 7,aa 40 8,cO 41 (ixaS 1 (t 39) (t 40)),aC 42 41,cO 43 (app 2 16 (t 38) (t 42)),cO 44 (bldS 1 1 [AV.esl] [(0,1,t 43)]),cO 45 (app 1 24 (t 33) (t 44)),aa 5 45] [(0,0),(1,0),(2,0),(3,0),(4,0),(6,0),(7,0),(8,0),(9,0),(5,1),(10,2),(11,3),(12,2),(13,0)])).seq (ops 0 [aa 31 8,aq 32 .add 31 1,aa 8 32]))).loop)))).seq (ops 0 [aa 18 6,aq 19 .add 18 1,aa 6 19]))).loop)).seq (ab [aa 46 5,aa 4 46] ret))))))
theorem Jc:Is Tryz.prog 104 KP:=mkI Tryz.func104
def Ns:F2:=(F2.mk 48 [RV.t 4] (ab [cO 4 (mov (c AV.esl))] (ab [cO 5 (mov (c AV.esl))] (ab [cO 6 (mov bb)] ((ab [cO 7 (mov (cN 0))] (block 0 ((ab [aa 9 7,aa 10 0,a6 11 10,aN 12 .lss 9 11] (au 12 skip (exit 0))).seq ((block 1 (ab [aa 15 1,aa 16 0,aa 17 7,cO 18 (ixaS 1 (t 16) (t 17)),aC 19 18,aE 20 73 [t 15,t 19],aa 8 20] ((ab [aa 21 8,aq 22 .eql 21 0] (au 22 (ab [aa 23 0,aa 4 23] ret) skip)).seq ((ab [aa 24 6,cO 25 (un UnOp.not (t 24)),aa 26 25,ao 27 26 (cM 8),ao 28 26 (cB .lss (t 27) (cN 0)),cO 29 (pick (t 26) (t 28) bb)] (au 29 (ops 0 [aa 30 5,aa 31 1,cO 32 (bldS 1 1 [AV.esl] [(0,1,t 31)]),cO 33 (app 1 24 (t 30) (t 32)),aa 5 33,cO 6 (mov cP)]) skip)).seq (ops 0 [aa 34 5,aa 35 0,aa 36 7,cO 37 (ixaS 1 (t 35) (t 36)),aC 38 37,cO 39 (bldS 1 1 [AV.esl] [(0,1,t 38)]),cO 40 (app 1 24 (t 34) (t 39)),aa 5 40]))))).seq (ops 0 [aa 13 7,aq 14 .add 13 1,aa 7 14]))).loop)).seq ((ab [aa 41 6,cO 42 (un UnOp.not (t 41))] (au 42 (ops 0 [aa 43 5,aa 44 1,cO 45 (bldS 1 1 [AV.esl] [(0,1,t 44)]),cO 46 (app 1 24 (t 43) (t 45)),aa 5 46]) skip)).seq (ab [aa 47 5,aa 4 47] ret)))))))
theorem NM:Is Tryz.prog 105 Ns:=mkI Tryz.func105
def KB:F2:=(F2.mk 81 [RV.cn 2 2] (ab [cO 1 (box (t 0)),cO 2 (alloc (AV.agg [ba,AV.esl]))] (ab [cO 3 (mov (c AV.esl))] (ab [aa 9 3,bG 10 1 1,aC 11 10,cO 12 (app 1 24 (t 9) (t 11)),aa 3 12] (ab [cO 4 (mov (cN 0))] ((ab [cO 5 (mov (cN 0))] (block 0 ((ab [aa 13 5,bG 14 0 1,aC 15 14,aN 16 .lss 13 15] (au 16 skip (exit 0))).seq ((block 1 (ab [aa 19 3,aa 20 4,aa 21 5,aE 22 148 [t 19,t 20,t 21],aa 6 22] ((ab [aa 23 6,aq 24 .lss 23 0] (au 24 (exit 1) skip)).seq ((ops 1 [aa 25 3,aa 26 4,aa 27 3,aa 28 6,aa 29 3,aa 30 6,cO 31 (ixaS 1 (t 29) (t 30)),aC 32 31,aa 33 3,aa 34 4,cO 35 (ixaS 1 (t 33) (t 34)),aC 36 35,cO 37 (ixaS 1 (t 25) (t 26)),bB 1 37 32,cO 38 (ixaS 1 (t 27) (t 28)),bB 1 38 36]).seq ((ab [cO 7 (mov (cN 0))] (block 2 ((ab [aa 39 7,aa 40 3,a6 41 40,aN 42 .lss 39 41] (au 42 skip (exit 2))).seq ((block 3 (ab [aa 45 7,aa 46 4,aN 47 .neq 45 46,aa 48 47,ao 49 48 (cM 3),ao 50 48 (cM 7),ao 51 48 (ixaS 1 (t 49) (t 50)),ao 52 48 (cD 51),ao 53 48 (cM 5),ao 54 48 (call (cF 108) [t 52,t 53]),cO 55 (pick (t 48) (t 54) bb)] (au 55 (mixS 1 [aa 56 3,aa 57 7,aa 58 3,aa 59 7,cO 60 (ixaS 1 (t 58) (t 59)),aC 61 60,aa 62 3,aa 63 4,cO 64 (ixaS 1 (t 62) (t 63)),aC 65 64,aE 66 109 [t 61,t 65],cO 67 (ixaS 1 (t 56) (t 57)),bB 1 67 66] [(0,0),(1,0),(2,0),(3,0),(4,0),(5,0),(6,0),(7,0),(8,0),(9,0),(10,2),(11,0),(12,2)]) skip))).seq (ops 0 [aa 43 7,aq 44 .add 43 1,aa 7 44]))).loop)).seq (ops 0 [aa 68 4,aq 69 .add 68 1,aa 4 69])))))).seq (ops 0 [aa 17 5,aq 18 .add 17 1,aa 5 18]))).loop)).seq (ab [bG 70 0 1,aC 71 70,cO 72 (bld [ba,AV.esl] [(0,1,t 71)]),cO 8 (alloc (AV.agg [ba,AV.esl])),bB 2 8 72] ((ops 1 [bG 73 1 8,aC 74 73,aa 75 3,aa 76 4,cO 77 (sls 1 (t 75) none (some (t 76)) none),cO 78 (app 1 24 (t 74) (t 77)),bG 79 1 8,bB 1 79 78]).seq (ab [bn 80 2 8,bB 2 2 80] ret)))))))))
theorem Jn:Is Tryz.prog 106 KB:=mkI Tryz.func106
def MN:F2:=(F2.mk 22 [RV.t 4] (ab [cO 2 (box (t 0)),cO 4 (mov bb)] ((ab [cO 5 (mov (cN 0))] (block 0 ((ab [aa 6 5,bG 7 1 2,aC 8 7,a6 9 8,aN 10 .lss 6 9] (au 10 skip (exit 0))).seq ((block 1 (ab [bG 13 1 2,aC 14 13,aa 15 5,cO 16 (ixaS 1 (t 14) (t 15)),aC 17 16,cO 18 (ixaS 1 (t 17) (cN 0)),aC 19 18,aa 20 1,aN 21 .eql 19 20] (au 21 (ab [cO 4 (mov cP)] ret) skip))).seq (ops 0 [aa 11 5,aq 12 .add 11 1,aa 5 12]))).loop)).seq (ab [cO 4 (mov bb)] ret))))
theorem MF:Is Tryz.prog 107 MN:=mkI Tryz.func107
def Lw:F2:=(F2.mk 18 [RV.t 4] (ab [cO 4 (mov bb)] ((ab [cO 5 (mov (cN 0))] (block 0 ((ab [aa 6 5,aa 7 0,a6 8 7,aN 9 .lss 6 8] (au 9 skip (exit 0))).seq ((block 1 (ab [aa 12 0,aa 13 5,cO 14 (ixaS 1 (t 12) (t 13)),aC 15 14,aa 16 1,aN 17 .eql 15 16] (au 17 (ab [cO 4 (mov cP)] ret) skip))).seq (ops 0 [aa 10 5,aq 11 .add 10 1,aa 5 11]))).loop)).seq (ab [cO 4 (mov bb)] ret))))
theorem Oh:Is Tryz.prog 108 Lw:=mkI Tryz.func108
def Ng:F2:=(F2.mk 77 [RV.t 4] (ab [cO 4 (mov (c AV.esl))] (ab [cO 5 (mov (c AV.esl))] (ab [cO 6 (mov (cN 0)),cO 7 (mov (cN 0))] ((block 0 ((ab [aa 8 6,aa 9 0,a6 10 9,aN 11 .lss 8 10,aa 12 11,bf 13 12 (cM 7),bf 14 12 (cM 1),bf 15 12 (lenS (t 14)),bf 16 12 (cB .lss (t 13) (t 15)),cO 17 (pick (t 12) cP (t 16))] (au 17 skip (exit 0))).seq (block 1 ((ops 1 [aa 18 7,aa 19 1,a6 20 19,aN 21 .eql 18 20,aa 22 21,bf 23 22 (cM 6),bf 24 22 (cM 0),bf 25 22 (lenS (t 24)),bf 26 22 (cB .lss (t 23) (t 25)),bf 27 22 (cM 26),ao 28 27 (cM 0),ao 29 27 (cM 6),ao 30 27 (ixaS 1 (t 28) (t 29)),ao 31 27 (cD 30),ao 32 27 (cM 1),ao 33 27 (cM 7),ao 34 27 (ixaS 1 (t 32) (t 33)),ao 35 27 (cD 34),ao 36 27 (cB .lss (t 31) (t 35)),bf 37 22 (pick (t 27) (t 36) bb),cO 38 (pick (t 22) cP (t 37))]).seq (au 38 (ab [aa 39 5,aa 40 0,aa 41 6,cO 42 (ixaS 1 (t 40) (t 41)),aC 43 42,cO 44 (bldS 1 1 [ba] [(0,1,t 43)]),cO 45 (app 1 8 (t 39) (t 44)),aa 5 45] (ops 0 [aa 46 6,aq 47 .add 46 1,aa 6 47])) ((ops 1 [aa 48 6,aa 49 0,a6 50 49,aN 51 .eql 48 50,aa 52 51,bf 53 52 (cM 1),bf 54 52 (cM 7),bf 55 52 (ixaS 1 (t 53) (t 54)),bf 56 52 (cD 55),bf 57 52 (cM 0),bf 58 52 (cM 6),bf 59 52 (ixaS 1 (t 57) (t 58)),bf 60 52 (cD 59),bf 61 52 (cB .lss (t 56) (t 60)),cO 62 (pick (t 52) cP (t 61))]).seq (au 62 (ab [aa 63 5,aa 64 1,aa 65 7,cO 66 (ixaS 1 (t 64) (t 65)),aC 67 66,cO 68 (bldS 1 1 [ba] [(0,1,t 67)]),cO 69 (app 1 8 (t 63) (t 68)),aa 5 69] (ops 0 [aa 70 7,aq 71 .add 70 1,aa 7 71])) (ab [aa 72 6,aq 73 .add 72 1,aa 6 73] (ops 0 [aa 74 7,aq 75 .add 74 1,aa 7 75])))))))).loop).seq (ab [aa 76 5,aa 4 76] ret))))))
theorem LU:Is Tryz.prog 109 Ng:=mkI Tryz.func109
def Li:F2:=(F2.mk 44 [RV.cn 4 2] (ab [cO 4 (alloc (AV.agg [ba,AV.esl]))] (ab [aa 9 0,a6 10 9,cO 11 (bld [ba,AV.esl] [(0,1,t 10)]),cO 5 (alloc (AV.agg [ba,AV.esl])),bB 2 5 11] ((ab [cO 6 (mov (cN 0))] (block 0 ((ab [aa 12 6,aa 13 1,a6 14 13,aN 15 .lss 12 14] (au 15 skip (exit 0))).seq ((block 1 (ab [cO 7 (mov (c AV.esl))] ((ab [cO 8 (mov (cN 0))] (block 2 ((ab [aa 18 8,aa 19 0,a6 20 19,aN 21 .lss 18 20] (au 21 skip (exit 2))).seq ((block 3 ((mixS 1 [aa 24 1,aa 25 6,cO 26 (ixaS 1 (t 24) (t 25)),aC 27 26,aa 28 0,aa 29 8,cO 30 (ixaS 1 (t 28) (t 29)),aC 31 30,aE 32 74 [t 27,t 31]] [(0,0),(1,0),(2,0),(3,0),(4,0),(5,0),(6,0),(7,0),(8,2)]).seq (au 32 (ops 0 [aa 33 7,aa 34 8,cO 35 (bldS 1 1 [ba] [(0,1,t 34)]),cO 36 (app 1 8 (t 33) (t 35)),aa 7 36]) skip))).seq (ops 0 [aa 22 8,aq 23 .add 22 1,aa 8 23]))).loop)).seq (ops 0 [bG 37 1 5,aC 38 37,aa 39 7,cO 40 (bldS 1 1 [AV.esl] [(0,1,t 39)]),cO 41 (app 1 24 (t 38) (t 40)),bG 42 1 5,bB 1 42 41])))).seq (ops 0 [aa 16 6,aq 17 .add 16 1,aa 6 17]))).loop)).seq (ab [bn 43 2 5,bB 2 4 43] ret)))))
theorem Mo:Is Tryz.prog 110 Li:=mkI Tryz.func110
def Ml:F2:=(F2.mk 87 [RV.cn 4 2,RV.t 5] (ab [cO 2 (box (t 0)),cO 4 (alloc (AV.agg [ba,AV.esl])),cO 5 (mov (cN 0))] ((ab [bn 16 1 2,aE 17 78 [t 16],aa 6 17] (ab [aa 18 6,aq 19 .neq 18 0] (au 19 (ab [cO 20 (bld [ba,AV.esl] []),aa 21 6,bB 2 4 20,aa 5 21] ret) skip))).seq ((ab [aa 22 1,aq 23 .lss 22 0,aa 24 23,bf 25 24 (cM 1),bf 26 24 (cB .geq (t 25) (cN 8)),cO 27 (pick (t 24) cP (t 26))] (au 27 (ab [cO 28 (bld [ba,AV.esl] []),bB 2 4 28,cO 5 (mov (cN 2))] ret) skip)).seq (ab [bn 30 1 2,aa 31 1,aE 32 83 [t 30,t 31],aa 29 32,aS 33 29 0,aS 34 29 1,aa 7 33,aa 8 34] ((ab [aa 35 8,aq 36 .neq 35 0] (au 36 (ab [cO 37 (bld [ba,AV.esl] []),aa 38 8,bB 2 4 37,aa 5 38] ret) skip)).seq (ab [bn 40 1 2,aa 41 1,aq 42 .sub 41 1,aE 43 83 [t 40,t 42],aa 39 43,aS 44 39 0,aS 45 39 1,cO 9 (alloc AV.esl),bB 1 9 44,aa 8 45] ((ab [aa 46 8,aq 47 .neq 46 0] (au 47 (ab [cO 48 (bld [ba,AV.esl] []),aa 49 8,bB 2 4 48,aa 5 49] ret) skip)).seq (ab [aa 50 7,a6 51 50,aC 52 9,a6 53 52,cO 54 (mks 1 24 [AV.esl] (t 53) (t 53)),cO 55 (bld [ba,AV.esl] [(0,1,t 51),(1,1,t 54)]),cO 10 (alloc (AV.agg [ba,AV.esl])),bB 2 10 55] ((ab [aa 56 7,a6 57 56,cO 58 (mov (cN 0))] (block 0 (ab [aN 59 .lss 58 57] ((au 59 skip (exit 0)).seq ((block 1 (ab [aa 60 58,cO 61 (ixaS 1 (t 56) (t 58)),aC 62 61,cO 11 (alloc (ba)),bB 1 11 60,aa 12 62] (ab [aa 63 12,aE 64 129 [t 63]] (block 2 (rangeF (t 64) [65] (ops 0 [aa 13 65]) (block 3 (ab [aC 67 9,aa 68 13,aE 69 80 [t 67,t 68],aa 66 69,aS 70 66 0,aS 71 66 1,aa 14 70,aa 15 71] (ab [aa 72 15] (au 72 (mixS 2 [bG 73 1 10,aC 74 73,aa 75 14,bG 76 1 10,aC 77 76,aa 78 14,cO 79 (ixaS 1 (t 77) (t 78)),aC 80 79,aC 81 11,cO 82 (bldS 1 1 [ba] [(0,1,t 81)]),cO 83 (app 1 8 (t 80) (t 82)),cO 84 (ixaS 1 (t 74) (t 75)),bB 1 84 83] [(0,0),(1,0),(2,0),(3,0),(4,0),(5,0),(6,0),(7,0),(8,0),(9,1),(10,1),(11,0),(12,2)]) skip))))))))).seq (ops 0 [aq 85 .add 58 1,aa 58 85])))).loop)).seq (ab [bn 86 2 10,bB 2 4 86,cO 5 (mov (cN 0))] ret)))))))))))
theorem Mx:Is Tryz.prog 112 Ml:=mkI Tryz.func112
def LS:F2:=(F2.mk 35 [RV.t 2] (ab [cO 1 (box (t 0)),cO 2 (mov (cN 0))] ((block 0 (ab [bG 7 0 1,aC 8 7,aq 9 .lss 8 0,aa 10 9,bf 11 10 (fa 0 (t 1)),bf 12 10 (cD 11),bf 13 10 (cB .gtr (t 12) (cN 4096)),cO 14 (pick (t 10) cP (t 13)),aa 6 14] (au 6 (ab [cO 2 (mov (cN 2))] ret) (ab [bG 16 1 1,aC 17 16,a6 18 17,aq 19 .gtr 18 4096,aa 15 19] (au 15 (ab [cO 2 (mov (cN 5))] ret) skip))))).seq ((ab [bG 20 1 1,aC 21 20,a6 22 21,cO 23 (mov (cN 0))] (block 1 (ab [aN 24 .lss 23 22] ((au 24 skip (exit 1)).seq ((block 2 (ab [cO 25 (ixaS 1 (t 21) (t 23)),aC 26 25,aa 4 26] (ab [aa 27 4,bG 28 0 1,aC 29 28,aE 30 114 [t 27,t 29],aa 5 30] (ab [aa 31 5,aq 32 .neq 31 0] (au 32 (ab [aa 33 5,aa 2 33] ret) skip))))).seq (ops 0 [aq 34 .add 23 1,aa 23 34])))).loop)).seq (ab [cO 2 (mov (cN 0))] ret)))))
theorem Oa:Is Tryz.prog 113 LS:=mkI Tryz.func113
def Nh:F2:=(F2.mk 35 [RV.t 4] (ab [cO 4 (mov (cN 0))] ((ab [aa 7 0,a6 8 7,cO 9 (mov (cN 0))] (block 0 (ab [aN 10 .lss 9 8] ((au 10 skip (exit 0)).seq ((block 1 (ab [aa 11 9,cO 12 (ixaS 1 (t 7) (t 9)),aC 13 12,aa 5 11,aa 6 13] (block 2 (ab [aa 15 6,aq 16 .lss 15 0,aa 17 16,bf 18 17 (cM 6),bf 19 17 (cM 1),bf 20 17 (cB .geq (t 18) (t 19)),cO 21 (pick (t 17) cP (t 20)),aa 14 21] (au 14 (ab [cO 4 (mov (cN 2))] ret) (ab [aa 23 5,aq 24 .gtr 23 0,aa 25 24,ao 26 25 (cM 0),ao 27 25 (cM 5),ao 28 25 (cB .sub (t 27) (cN 1)),ao 29 25 (ixaS 1 (t 26) (t 28)),ao 30 25 (cD 29),ao 31 25 (cM 6),ao 32 25 (cB .geq (t 30) (t 31)),cO 33 (pick (t 25) (t 32) bb),aa 22 33] (au 22 (ab [cO 4 (mov (cN 14))] ret) skip))))))).seq (ops 0 [aq 34 .add 9 1,aa 9 34])))).loop)).seq (ab [cO 4 (mov (cN 0))] ret))))
theorem NH:Is Tryz.prog 114 Nh:=mkI Tryz.func114
def MS:F2:=(F2.mk 95 [RV.t 2,RV.t 3] (ab [cO 1 (box (t 0)),cO 2 (mov (c AV.esl)),cO 3 (mov (c AV.esl))] (ab [cO 16 (mkm none),cO 4 (alloc AV.nilm),bB 1 4 16] (ab [cO 17 (mkfn 149 [t 4]),aa 5 17] (ab [cO 6 (mov (c AV.esl))] ((ab [bG 18 1 1,aC 19 18,a6 20 19,cO 21 (mov (cN 0))] (block 0 (ab [aN 22 .lss 21 20] ((au 22 skip (exit 0)).seq ((block 1 (ab [aa 23 21,cO 24 (ixaS 1 (t 19) (t 21)),aC 25 24,aa 7 23,aa 8 25] (ab [aa 26 5,aa 27 8,aE 28 150 [t 27],aa 29 7,cO 30 (bldS 1 1 [ba] [(0,1,t 29)]),cO 31 (bld [AV.esl,AV.esl] [(0,1,t 28),(1,1,t 30)]),cO 32 (call (t 26) [t 31]),cO 9 (alloc (AV.agg [AV.esl,AV.esl])),bB 2 9 32] ((ab [bG 33 0 9,aC 34 33,a6 35 34,aq 36 .eql 35 0] (au 36 (ab [aa 37 6,bG 38 1 9,aC 39 38,cO 40 (bldS 1 1 [AV.esl] [(0,1,t 39)]),cO 41 (app 1 24 (t 37) (t 40)),aa 6 41] (exit 1)) skip)).seq ((ab [aC 42 4,cO 43 (mrng (t 42))] (block 2 (ab [cO 44 (mnxt (t 43)),aS 45 44 0] ((au 45 skip (exit 2)).seq (block 3 (ab [cO 46 (ment (t 43)),aS 47 46 0,aS 48 46 1,cO 11 (alloc (AV.agg [AV.esl,AV.esl])),aa 10 47,bB 2 11 48] ((mixS 1 [bG 49 0 11,aC 50 49,bG 51 0 9,aC 52 51,cO 53 (ixaS 1 (t 52) (cN 0)),aC 54 53,aE 55 146 [t 50,t 54]] [(0,0),(1,0),(2,0),(3,0),(4,0),(5,0),(6,2)]).seq (au 55 (mixS 9 [aC 56 4,aa 57 10,bG 58 0 11,aC 59 58,bG 60 0 9,aC 61 60,aE 62 124 [t 59,t 61],bG 63 1 11,aC 64 63,bG 65 1 9,aC 66 65,aE 67 124 [t 64,t 66],cO 68 (bld [AV.esl,AV.esl] [(0,1,t 62),(1,1,t 67)]),Op2.mk none none (mput (one int) (t 56) (t 57) (t 68))] [(0,0),(1,0),(2,0),(3,0),(4,0),(5,0),(7,0),(8,0),(9,0),(10,0),(6,1),(11,1),(12,0),(13,2)]) skip)))))).loop)).seq (mixS 9 [aC 69 4,bG 70 0 9,aC 71 70,cO 72 (ixaS 1 (t 71) (cN 0)),aC 73 72,bn 74 2 9,Op2.mk none none (mput (one int) (t 69) (t 73) (t 74))] [(0,0),(1,0),(2,0),(3,0),(4,0),(5,0),(6,2)])))))).seq (ops 0 [aq 75 .add 21 1,aa 21 75])))).loop)).seq (ab [cO 12 (mov (c AV.esl))] ((ab [bG 76 0 1,aC 77 76,cO 78 (mov (cN 0))] (block 4 (ab [aN 79 .lss 78 77] ((au 79 skip (exit 4)).seq ((block 5 (ab [aa 80 78,aa 13 80] (ab [aC 82 4,aa 83 13,cO 84 (Ins.mget (one int) (AV.agg [AV.esl,AV.esl]) true (t 82) (t 83)),aa 81 84,aS 85 81 0,aS 86 81 1,cO 14 (alloc (AV.agg [AV.esl,AV.esl])),bB 2 14 85,aa 15 86] (ab [aa 87 15] (au 87 (ops 0 [aa 88 12,bn 89 2 14,cO 90 (bldS 2 1 [AV.esl,AV.esl] [(0,2,t 89)]),cO 91 (app 2 48 (t 88) (t 90)),aa 12 91]) skip))))).seq (ops 0 [aq 92 .add 78 1,aa 78 92])))).loop)).seq (ab [aa 93 12,aa 94 6,aa 2 93,aa 3 94] ret)))))))))
theorem Mw:Is Tryz.prog 115 MS:=mkI Tryz.func115
def Mh:F2:=(F2.mk 18 [RV.t 4] (ab [cO 4 (mov bb)] (ab [aa 5 0,a6 6 5,aa 7 1,a6 8 7,aN 9 .add 6 8,aa 10 0,aa 11 1,aE 12 124 [t 10,t 11],a6 13 12,aN 14 .sub 9 13,aq 15 .quo 14 2,aq 16 .rem 15 2,aq 17 .eql 16 1,aa 4 17] ret)))
theorem Nk:Is Tryz.prog 116 Mh:=mkI Tryz.func116
def N5:F2:=(F2.mk 47 [RV.t 2] (ab [cO 2 (mov (cN 0))] ((ab [aa 5 0,a6 6 5,aq 7 .gtr 6 4096] (au 7 (ab [cO 2 (mov (cN 5))] ret) skip)).seq ((ab [cO 3 (mov (cN 0))] (block 0 ((ab [aa 8 3,aa 9 0,a6 10 9,aN 11 .lss 8 10] (au 11 skip (exit 0))).seq ((block 1 ((ab [aa 14 0,aa 15 3,cO 16 (ixaS 1 (t 14) (t 15)),aC 17 16,aE 18 72 [t 17],aa 4 18] (ab [aa 19 4,aq 20 .neq 19 0] (au 20 (ab [aa 21 4,aa 2 21] ret) skip))).seq (((ops 1 [aa 22 0,aa 23 3,cO 24 (ixaS 1 (t 22) (t 23)),aC 25 24,a6 26 25,aa 27 0,cO 28 (ixaS 1 (t 27) (cN 0)),aC 29 28,a6 30 29,aN 31 .neq 26 30]).seq (au 31 (ab [cO 2 (mov (cN 15))] ret) skip)).seq ((mixS 1 [aa 32 3,aq 33 .gtr 32 0,aa 34 33,ao 35 34 (cM 0),ao 36 34 (cM 3),ao 37 34 (cB .sub (t 36) (cN 1)),ao 38 34 (ixaS 1 (t 35) (t 37)),ao 39 34 (cD 38),ao 40 34 (cM 0),ao 41 34 (cM 3),ao 42 34 (ixaS 1 (t 40) (t 41)),ao 43 34 (cD 42),ao 44 34 (call (cF 73) [t 39,t 43]),ao 45 34 (cB .geq (t 44) (cN 0)),cO 46 (pick (t 34) (t 45) bb)] [(0,0),(1,0),(2,0),(3,0),(4,0),(5,0),(6,0),(7,0),(8,0),(9,0),(10,0),(11,0),(12,2),(13,0),(14,0)]).seq (au 46 (ab [cO 2 (mov (cN 14))] ret) skip))))).seq (ops 0 [aa 12 3,aq 13 .add 12 1,aa 3 13]))).loop)).seq (ab [cO 2 (mov (cN 0))] ret)))))
theorem M9:Is Tryz.prog 117 N5:=mkI Tryz.func117
def Lc:F2:=(F2.mk 28 [RV.t 4,RV.t 5] (ab [cO 4 (mov (c AV.esl)),cO 5 (mov bb)] (ab [cO 6 (mov (c AV.esl))] ((ab [cO 7 (mov (cN 0))] (block 0 ((ab [aa 9 7,aa 10 1,a6 11 10,aN 12 .lss 9 11] (au 12 skip (exit 0))).seq ((block 1 (ab [aa 15 0,aa 16 1,aa 17 7,cO 18 (ixaS 1 (t 16) (t 17)),aC 19 18,aE 20 121 [t 15,t 19],aa 8 20] ((ab [aa 21 8,aq 22 .lss 21 0] (au 22 (ab [cO 4 (mov (c AV.esl)),cO 5 (mov bb)] ret) skip)).seq (ops 0 [aa 23 6,aa 24 8,cO 25 (bldS 1 1 [ba] [(0,1,t 24)]),cO 26 (app 1 8 (t 23) (t 25)),aa 6 26])))).seq (ops 0 [aa 13 7,aq 14 .add 13 1,aa 7 14]))).loop)).seq (ab [aa 27 6,aa 4 27,cO 5 (mov cP)] ret)))))
theorem NI:Is Tryz.prog 118 Lc:=mkI Tryz.func118
def LZ:F2:=(F2.mk 79 [RV.t 4] (ab [cO 4 (mov (c AV.esl))] (ab [cO 5 (mov (c AV.esl))] (ab [cO 6 (mov (cN 0)),cO 7 (mov (cN 0))] ((block 0 ((ab [aa 8 6,aa 9 0,a6 10 9,aN 11 .lss 8 10,aa 12 11,bf 13 12 (cM 7),bf 14 12 (cM 1),bf 15 12 (lenS (t 14)),bf 16 12 (cB .lss (t 13) (t 15)),cO 17 (pick (t 12) cP (t 16))] (au 17 skip (exit 0))).seq (block 1 ((mixS 1 [aa 18 7,aa 19 1,a6 20 19,aN 21 .eql 18 20,aa 22 21,bf 23 22 (cM 6),bf 24 22 (cM 0),bf 25 22 (lenS (t 24)),bf 26 22 (cB .lss (t 23) (t 25)),bf 27 22 (cM 26),ao 28 27 (cM 0),ao 29 27 (cM 6),ao 30 27 (ixaS 1 (t 28) (t 29)),ao 31 27 (cD 30),ao 32 27 (cM 1),ao 33 27 (cM 7),ao 34 27 (ixaS 1 (t 32) (t 33)),ao 35 27 (cD 34),ao 36 27 (call (cF 73) [t 31,t 35]),ao 37 27 (cB .lss (t 36) (cN 0)),bf 38 22 (pick (t 27) (t 37) bb),cO 39 (pick (t 22) cP (t 38))] [(0,0),(1,0),(2,0),(3,0),(4,0),(5,0),(6,0),(7,0),(8,0),(9,0),(10,0),(11,0),(12,0),(13,0),(14,0),(15,0),(16,0),(17,0),(18,2),(19,0),(20,0),(21,0)]).seq (au 39 (ab [aa 40 5,aa 41 0,aa 42 6,cO 43 (ixaS 1 (t 41) (t 42)),aC 44 43,cO 45 (bldS 1 1 [AV.esl] [(0,1,t 44)]),cO 46 (app 1 24 (t 40) (t 45)),aa 5 46] (ops 0 [aa 47 6,aq 48 .add 47 1,aa 6 48])) ((mixS 1 [aa 49 6,aa 50 0,a6 51 50,aN 52 .eql 49 51,aa 53 52,bf 54 53 (cM 1),bf 55 53 (cM 7),bf 56 53 (ixaS 1 (t 54) (t 55)),bf 57 53 (cD 56),bf 58 53 (cM 0),bf 59 53 (cM 6),bf 60 53 (ixaS 1 (t 58) (t 59)),bf 61 53 (cD 60),bf 62 53 (call (cF 73) [t 57,t 61]),bf 63 53 (cB .lss (t 62) (cN 0)),cO 64 (pick (t 53) cP (t 63))] [(0,0),(1,0),(2,0),(3,0),(4,0),(5,0),(6,0),(7,0),(8,0),(9,0),(10,0),(11,0),(12,0),(13,2),(14,0),(15,0)]).seq (au 64 (ab [aa 65 5,aa 66 1,aa 67 7,cO 68 (ixaS 1 (t 66) (t 67)),aC 69 68,cO 70 (bldS 1 1 [AV.esl] [(0,1,t 69)]),cO 71 (app 1 24 (t 65) (t 70)),aa 5 71] (ops 0 [aa 72 7,aq 73 .add 72 1,aa 7 73])) (ab [aa 74 6,aq 75 .add 74 1,aa 6 75] (ops 0 [aa 76 7,aq 77 .add 76 1,aa 7 77])))))))).loop).seq (ab [aa 78 5,aa 4 78] ret))))))
theorem Nz:Is Tryz.prog 119 LZ:=mkI Tryz.func119
def NJ:F2:=(F2.mk 76 [RV.t 4,RV.t 5] (ab [cO 2 (box (t 0)),cO 4 (mov (c AV.esl)),cO 5 (mov bb)] (ab [bG 12 0 2,aC 13 12,aq 14 .add 13 1,cO 15 (bld [ba,AV.esl] [(0,1,t 14)]),cO 6 (alloc (AV.agg [ba,AV.esl])),bB 2 6 15] ((ab [cO 7 (mov (cN 0))] (block 0 ((ab [aa 16 7,bG 17 1 2,aC 18 17,a6 19 18,aN 20 .lss 16 19] (au 20 skip (exit 0))).seq ((block 1 (ab [cO 8 (mov (c AV.esl))] (ab [aa 23 8,bG 24 1 2,aC 25 24,aa 26 7,cO 27 (ixaS 1 (t 25) (t 26)),aC 28 27,cO 29 (app 1 8 (t 23) (t 28)),aa 8 29] ((ab [aa 30 1,aa 31 7,aE 32 108 [t 30,t 31]] (au 32 (ops 0 [aa 33 8,bG 34 0 2,aC 35 34,cO 36 (bldS 1 1 [ba] [(0,1,t 35)]),cO 37 (app 1 8 (t 33) (t 36)),aa 8 37]) skip)).seq (ops 0 [bG 38 1 6,aC 39 38,aa 40 8,cO 41 (bldS 1 1 [AV.esl] [(0,1,t 40)]),cO 42 (app 1 24 (t 39) (t 41)),bG 43 1 6,bB 1 43 42]))))).seq (ops 0 [aa 21 7,aq 22 .add 21 1,aa 7 22]))).loop)).seq (ab [bn 44 2 6,aE 45 106 [t 44],cO 9 (alloc (AV.agg [ba,AV.esl])),bB 2 9 45] ((ab [bn 46 2 9,bG 47 0 2,aC 48 47,aE 49 107 [t 46,t 48]] (au 49 (ab [cO 4 (mov (c AV.esl)),cO 5 (mov bb)] ret) skip)).seq (ab [cO 10 (mov (c AV.esl))] ((ab [cO 11 (mov (cN 0))] (block 2 ((ab [aa 50 11,bG 51 1 9,aC 52 51,a6 53 52,aN 54 .lss 50 53] (au 54 skip (exit 2))).seq ((block 3 ((mixS 1 [bG 57 1 9,aC 58 57,aa 59 11,cO 60 (ixaS 1 (t 58) (t 59)),aC 61 60,bG 62 0 2,aC 63 62,aE 64 108 [t 61,t 63]] [(0,0),(1,0),(2,0),(3,0),(4,0),(5,0),(6,0),(7,2)]).seq (au 64 (ops 0 [aa 65 10,bG 66 1 9,aC 67 66,aa 68 11,cO 69 (ixaS 1 (t 67) (t 68)),aC 70 69,cO 71 (ixaS 1 (t 70) (cN 0)),aC 72 71,cO 73 (bldS 1 1 [ba] [(0,1,t 72)]),cO 74 (app 1 8 (t 65) (t 73)),aa 10 74]) skip))).seq (ops 0 [aa 55 11,aq 56 .add 55 1,aa 11 56]))).loop)).seq (ab [aa 75 10,aa 4 75,cO 5 (mov cP)] ret)))))))))
theorem KY:Is Tryz.prog 120 NJ:=mkI Tryz.func120
def MG:F2:=(F2.mk 19 [RV.t 4] (ab [cO 4 (mov (cN 0))] ((ab [cO 5 (mov (cN 0))] (block 0 ((ab [aa 6 5,aa 7 0,a6 8 7,aN 9 .lss 6 8] (au 9 skip (exit 0))).seq ((block 1 (ab [aa 12 0,aa 13 5,cO 14 (ixaS 1 (t 12) (t 13)),aC 15 14,aa 16 1,aE 17 63 [t 15,t 16]] (au 17 (ab [aa 18 5,aa 4 18] ret) skip))).seq (ops 0 [aa 10 5,aq 11 .add 10 1,aa 5 11]))).loop)).seq (ab [cO 4 (mov (cN ((-1))))] ret))))
theorem N3:Is Tryz.prog 121 MG:=mkI Tryz.func121
def LY:F2:=(F2.mk 39 [RV.t 6] (ab [cO 6 (mov (cN 0))] ((ab [aa 11 0,a6 12 11,cO 13 (mov (cN 0))] (block 0 (ab [aN 14 .lss 13 12] ((au 14 skip (exit 0)).seq ((block 1 (ab [aa 15 13,cO 16 (ixaS 2 (t 11) (t 13)),bn 17 2 16,cO 8 (alloc (AV.agg [ba,ba])),aa 7 15,bB 2 8 17] ((ab [aa 18 7,aa 19 1,a6 20 19,aN 21 .geq 18 20] (au 21 (ab [cO 6 (mov (cN 1))] ret) skip)).seq (ab [aa 22 1,aa 23 7,cO 24 (ixaS 2 (t 22) (t 23)),bn 25 2 24,cO 9 (alloc (AV.agg [ba,ba])),bB 2 9 25] (ab [aa 26 2,bn 27 2 8,bn 28 2 9,cO 29 (call (t 26) [t 27,t 28]),aa 10 29] (ab [aa 30 10,aq 31 .neq 30 0] (au 31 (ab [aa 32 10,aa 6 32] ret) skip))))))).seq (ops 0 [aq 33 .add 13 1,aa 13 33])))).loop)).seq ((ab [aa 34 0,a6 35 34,aa 36 1,a6 37 36,aN 38 .lss 35 37] (au 38 (ab [cO 6 (mov (cN ((-1))))] ret) skip)).seq (ab [cO 6 (mov (cN 0))] ret)))))
theorem Nf:Is Tryz.prog 122 LY:=mkI Tryz.func122
def Oe:F2:=(F2.mk 17 [RV.t 4] (ab [cO 2 (box (t 0)),cO 3 (box (t 1)),cO 4 (mov (cN 0))] ((mixS 1 [bG 5 0 2,aC 6 5,bG 7 0 3,aC 8 7,aE 9 152 [t 6,t 8],bG 10 1 2,aC 11 10,bG 12 1 3,aC 13 12,aE 14 152 [t 11,t 13],cO 15 (bldS 1 2 [ba] [(0,1,t 9),(1,1,t 14)]),aE 16 151 [t 15],aa 4 16] [(0,0),(1,0),(2,0),(3,0),(5,0),(6,0),(7,0),(8,0),(4,1),(9,2),(10,2),(11,2),(12,0)]).seq ret)))
theorem Mi:Is Tryz.prog 123 Oe:=mkI Tryz.func123
def MH:F2:=(F2.mk 61 [RV.t 4] (ab [cO 4 (mov (c AV.esl))] (ab [aa 6 0,a6 7 6,aa 8 1,a6 9 8,aN 10 .add 7 9,cO 11 (mks 1 8 [ba] (cN 0) (t 10)),aa 5 11] ((block 0 ((ab [aa 12 0,a6 13 12,aq 14 .gtr 13 0,aa 15 14,ao 16 15 (cM 1),ao 17 15 (lenS (t 16)),ao 18 15 (cB .gtr (t 17) (cN 0)),cO 19 (pick (t 15) (t 18) bb)] (au 19 skip (exit 0))).seq (block 1 (block 2 ((ops 1 [aa 25 0,cO 26 (ixaS 1 (t 25) (cN 0)),aC 27 26,aa 28 1,cO 29 (ixaS 1 (t 28) (cN 0)),aC 30 29,aN 31 .lss 27 30,aa 24 31]).seq (au 24 (ops 1 [aa 32 5,aa 33 0,cO 34 (ixaS 1 (t 33) (cN 0)),aC 35 34,cO 36 (bldS 1 1 [ba] [(0,1,t 35)]),cO 37 (app 1 8 (t 32) (t 36)),aa 38 0,cO 39 (sls 1 (t 38) (some (cN 1)) none none),aa 5 37,aa 0 39]) ((ops 1 [aa 41 0,cO 42 (ixaS 1 (t 41) (cN 0)),aC 43 42,aa 44 1,cO 45 (ixaS 1 (t 44) (cN 0)),aC 46 45,aN 47 .gtr 43 46,aa 40 47]).seq (au 40 (ops 1 [aa 48 5,aa 49 1,cO 50 (ixaS 1 (t 49) (cN 0)),aC 51 50,cO 52 (bldS 1 1 [ba] [(0,1,t 51)]),cO 53 (app 1 8 (t 48) (t 52)),aa 54 1,cO 55 (sls 1 (t 54) (some (cN 1)) none none),aa 5 53,aa 1 55]) (ops 1 [aa 20 0,cO 21 (sls 1 (t 20) (some (cN 1)) none none),aa 22 1,cO 23 (sls 1 (t 22) (some (cN 1)) none none),aa 0 21,aa 1 23])))))))).loop).seq (ab [aa 56 5,aa 57 0,cO 58 (app 1 8 (t 56) (t 57)),aa 59 1,cO 60 (app 1 8 (t 58) (t 59)),aa 4 60] ret)))))
theorem Lq:Is Tryz.prog 124 MH:=mkI Tryz.func124
def MB:F2:=(F2.mk 21 [RV.t 2] (ab [cO 1 (box (t 0)),cO 2 (mov bb)] (ab [bG 3 0 1,aC 4 3,aq 5 .geq 4 0,aa 6 5,ao 7 6 (fa 0 (t 1)),ao 8 6 (cD 7),ao 9 6 (cB .lss (t 8) (cN 8)),cO 10 (pick (t 6) (t 9) bb),aa 11 10,ao 12 11 (fa 1 (t 1)),ao 13 11 (cD 12),ao 14 11 (cB .geq (t 13) (cN 0)),cO 15 (pick (t 11) (t 14) bb),aa 16 15,ao 17 16 (fa 1 (t 1)),ao 18 16 (cD 17),ao 19 16 (cB .leq (t 18) (cN 1048576)),cO 20 (pick (t 16) (t 19) bb),aa 2 20] ret)))
theorem LB:Is Tryz.prog 125 MB:=mkI Tryz.func125
def LI:F2:=(F2.mk 29 [RV.t 4] (ab [cO 2 (box (t 0)),cO 3 (box (t 1)),cO 4 (mov (cN 0))] ((block 0 (ab [bG 6 0 2,aC 7 6,bG 8 0 3,aC 9 8,aN 10 .lss 7 9,aa 5 10] (au 5 (ab [cO 4 (mov (cN ((-1))))] ret) (ab [bG 12 0 2,aC 13 12,bG 14 0 3,aC 15 14,aN 16 .gtr 13 15,aa 11 16] (au 11 (ab [cO 4 (mov (cN 1))] ret) (ab [bG 18 1 2,aC 19 18,bG 20 1 3,aC 21 20,aN 22 .lss 19 21,aa 17 22] (au 17 (ab [cO 4 (mov (cN ((-1))))] ret) (ab [bG 24 1 2,aC 25 24,bG 26 1 3,aC 27 26,aN 28 .gtr 25 27,aa 23 28] (au 23 (ab [cO 4 (mov (cN 1))] ret) skip))))))))).seq (ab [cO 4 (mov (cN 0))] ret))))
theorem KZ:Is Tryz.prog 126 LI:=mkI Tryz.func126
def Nm:F2:=(F2.mk 18 [RV.t 4] (ab [cO 3 (box (t 1)),cO 4 (mov bb)] ((ab [cO 5 (mov (cN 0))] (block 0 ((ab [aa 6 5,aa 7 0,a6 8 7,aN 9 .lss 6 8] (au 9 skip (exit 0))).seq ((block 1 ((ops 1 [aa 12 0,aa 13 5,cO 14 (ixaS 2 (t 12) (t 13)),bn 15 2 14,bn 16 2 3,cO 17 (binS BinOp.eql [int,int] (t 15) (t 16))]).seq (au 17 (ab [cO 4 (mov cP)] ret) skip))).seq (ops 0 [aa 10 5,aq 11 .add 10 1,aa 5 11]))).loop)).seq (ab [cO 4 (mov bb)] ret))))
theorem K7:Is Tryz.prog 127 Nm:=mkI Tryz.func127
def NV:F2:=(F2.mk 36 [RV.t 2] (ab [cO 2 (mov (cN 0))] ((block 0 (ab [aa 6 0,a6 7 6,aq 8 .eql 7 0,aa 5 8] (au 5 (ab [cO 2 (mov (cN 16))] ret) (ab [aa 10 0,a6 11 10,aq 12 .gtr 11 8,aa 9 12] (au 9 (ab [cO 2 (mov (cN 5))] ret) skip))))).seq ((ab [aa 13 0,a6 14 13,cO 15 (mov (cN 0))] (block 1 (ab [aN 16 .lss 15 14] ((au 16 skip (exit 1)).seq ((block 2 (ab [aa 17 15,cO 18 (ixaS 2 (t 13) (t 15)),bn 19 2 18,cO 4 (alloc (AV.agg [ba,ba])),aa 3 17,bB 2 4 19] ((ab [bn 20 2 4,aE 21 153 [t 20],cO 22 (un UnOp.not (t 21))] (au 22 (ab [cO 2 (mov (cN 2))] ret) skip)).seq ((mixS 1 [aa 23 3,aq 24 .gtr 23 0,aa 25 24,ao 26 25 (cM 0),ao 27 25 (cM 3),ao 28 25 (cB .sub (t 27) (cN 1)),ao 29 25 (ixaS 2 (t 26) (t 28)),ao 30 25 (ldn 2 (t 29)),ao 31 25 (ldn 2 (t 4)),ao 32 25 (call (cF 123) [t 30,t 31]),ao 33 25 (cB .geq (t 32) (cN 0)),cO 34 (pick (t 25) (t 33) bb)] [(0,0),(1,0),(2,0),(3,0),(4,0),(5,0),(6,0),(7,0),(8,0),(9,2),(10,0),(11,0)]).seq (au 34 (ab [cO 2 (mov (cN 14))] ret) skip))))).seq (ops 0 [aq 35 .add 15 1,aa 15 35])))).loop)).seq (ab [cO 2 (mov (cN 0))] ret)))))
theorem L8:Is Tryz.prog 128 NV:=mkI Tryz.func128
def MY:F2:=(F2.mk 4 [RV.t 2] (ab [cO 1 (box (t 0)),cO 2 (mov (c AV.nilf))] (ab [cO 3 (mkfn 154 [t 1]),aa 2 3] ret)))
theorem La:Is Tryz.prog 129 MY:=mkI Tryz.func129
def J8:F2:=(F2.mk 14 [] (ab [aa 5 0,a6 6 5,aa 4 6] (ops 0 [aa 7 0,aa 8 4,aa 9 4,cO 10 (conv IntKind.u64 (t 9)),aE 11 156 [t 10],aa 12 1,aE 13 155 ([t 7,cN ((0)),t 8,t 11,t 12])])))
theorem Jq:Is Tryz.prog 130 J8:=mkI Tryz.func130
def MU:F2:=(F2.mk 10 [RV.t 6] (ab [cO 3 (box (t 0)),cO 5 (box (t 2)),cO 6 (mov bb)] (ab [aa 7 1,cO 8 (mkfn 157 [t 3,t 5]),aE 9 48 [t 7,t 8],aa 6 9] ret)))
theorem NF:Is Tryz.prog 131 MU:=mkI Tryz.func131
def NB:F2:=(F2.mk 49 [RV.t 6,RV.t 7] (ab [cO 6 (mov (cN 0)),cO 7 (mov bb)] (ab [aa 12 0,a6 13 12,aa 8 13] (ab [aa 14 8,cO 9 (mov (cN 0)),aa 10 14] ((block 0 ((ab [aa 15 9,aa 16 10,aN 17 .lss 15 16] (au 17 skip (exit 0))).seq (block 1 (ab [aa 18 9,aa 19 10,aN 20 .add 18 19,cO 21 (conv IntKind.u64 (t 20)),cO 22 (cB .shr (t 21) (c (AV.int IntKind.u64 (1)))),cO 23 (conv IntKind.i64 (t 22)),aa 11 23] (ab [aa 24 2,aa 25 0,aa 26 11,cO 27 (ixaS 1 (t 25) (t 26)),aC 28 27,aa 29 1,cO 30 (call (t 24) [t 28,t 29]),aq 31 .lss 30 0] (au 31 (ops 0 [aa 32 11,aq 33 .add 32 1,aa 9 33]) (ops 0 [aa 34 11,aa 10 34])))))).loop).seq (ab [aa 35 9,aa 36 9,aa 37 8,aN 38 .lss 36 37,aa 39 38,ao 40 39 (cM 2),ao 41 39 (cM 0),ao 42 39 (cM 9),ao 43 39 (ixaS 1 (t 41) (t 42)),ao 44 39 (cD 43),ao 45 39 (cM 1),ao 46 39 (call (t 40) [t 44,t 45]),ao 47 39 (cB .eql (t 46) (cN 0)),cO 48 (pick (t 39) (t 47) bb),aa 6 35,aa 7 48] ret))))))
theorem Np:Is Tryz.prog 132 NB:=mkI Tryz.func132
def Nw:F2:=(F2.mk 52 [RV.cn 2 2,RV.t 3] (ab [cO 1 (box (t 0)),cO 2 (alloc (AV.agg [ba,AV.esl])),cO 3 (mov (cN 0))] ((ab [bn 10 2 1,aE 11 113 [t 10],aa 4 11] (ab [aa 12 4,aq 13 .neq 12 0] (au 13 (ab [cO 14 (bld [ba,AV.esl] []),aa 15 4,bB 2 2 14,aa 3 15] ret) skip))).seq ((ops 1 [bG 16 1 1,aC 17 16,a6 18 17,bG 19 0 1,aC 20 19,cO 21 (mks 1 24 [AV.esl] (t 20) (t 20)),cO 22 (bld [ba,AV.esl] [(0,1,t 18),(1,1,t 21)]),cO 5 (alloc (AV.agg [ba,AV.esl])),bB 2 5 22]).seq ((ab [bG 23 1 1,aC 24 23,a6 25 24,cO 26 (mov (cN 0))] (block 0 (ab [aN 27 .lss 26 25] ((au 27 skip (exit 0)).seq ((block 1 (ab [aa 28 26,cO 29 (ixaS 1 (t 24) (t 26)),aC 30 29,aa 6 28,aa 7 30] (ab [aa 31 7,a6 32 31,cO 33 (mov (cN 0))] (block 2 (ab [aN 34 .lss 33 32] ((au 34 skip (exit 2)).seq ((block 3 (ab [cO 35 (ixaS 1 (t 31) (t 33)),aC 36 35,aa 9 36] (mixS 2 [bG 37 1 5,aC 38 37,aa 39 9,bG 40 1 5,aC 41 40,aa 42 9,cO 43 (ixaS 1 (t 41) (t 42)),aC 44 43,aa 45 6,cO 46 (bldS 1 1 [ba] [(0,1,t 45)]),cO 47 (app 1 8 (t 44) (t 46)),cO 48 (ixaS 1 (t 38) (t 39)),bB 1 48 47] [(0,0),(1,0),(2,0),(3,0),(4,0),(5,0),(6,0),(7,0),(8,0),(9,1),(10,1),(11,0),(12,2)]))).seq (ops 0 [aq 49 .add 33 1,aa 33 49])))).loop)))).seq (ops 0 [aq 50 .add 26 1,aa 26 50])))).loop)).seq (ab [bn 51 2 5,bB 2 2 51,cO 3 (mov (cN 0))] ret))))))
theorem MI:Is Tryz.prog 133 Nw:=mkI Tryz.func133
def Ms:F2:=(F2.mk 39 [RV.cn 2 2,RV.t 3] (ab [cO 1 (box (t 0)),cO 2 (alloc (AV.agg [ba,AV.esl])),cO 3 (mov (cN 0))] ((ab [bn 10 2 1,aE 11 113 [t 10],aa 4 11] (ab [aa 12 4,aq 13 .neq 12 0] (au 13 (ab [cO 14 (bld [ba,AV.esl] []),aa 15 4,bB 2 2 14,aa 3 15] ret) skip))).seq (ab [bG 16 0 1,aC 17 16,cO 18 (bld [ba,AV.esl] [(0,1,t 17)]),cO 5 (alloc (AV.agg [ba,AV.esl])),bB 2 5 18] (ab [bn 20 2 1,aE 21 115 [t 20],aa 19 21,aS 22 19 0,aS 23 19 1,aa 6 22,aa 7 23] ((ab [aa 24 6,a6 25 24,cO 26 (mov (cN 0))] (block 0 (ab [aN 27 .lss 26 25] ((au 27 skip (exit 0)).seq ((block 1 (ab [cO 28 (ixaS 2 (t 24) (t 26)),bn 29 2 28,cO 9 (alloc (AV.agg [AV.esl,AV.esl])),bB 2 9 29] (ops 0 [bG 30 1 5,aC 31 30,bG 32 0 9,aC 33 32,cO 34 (bldS 1 1 [AV.esl] [(0,1,t 33)]),cO 35 (app 1 24 (t 31) (t 34)),bG 36 1 5,bB 1 36 35]))).seq (ops 0 [aq 37 .add 26 1,aa 26 37])))).loop)).seq (ab [bn 38 2 5,bB 2 2 38,cO 3 (mov (cN 0))] ret)))))))
theorem NL:Is Tryz.prog 134 Ms:=mkI Tryz.func134
def L9:F2:=(F2.mk 8 [RV.t 2] (ab [cO 2 (mov (c AV.esl))] ((ab [aa 3 0,cO 4 (snil false (t 3))] (au 4 (ab [cO 2 (mov (c AV.esl))] ret) skip)).seq (ab [cO 5 (bldS 1 0 [AV.esl] []),aa 6 0,cO 7 (app 1 24 (t 5) (t 6)),aa 2 7] ret))))
theorem NR:Is Tryz.prog 135 L9:=mkI Tryz.func135
def Kw:F2:=(F2.mk 8 [RV.t 2] (ab [cO 2 (mov (c AV.esl))] ((ab [aa 3 0,cO 4 (snil false (t 3))] (au 4 (ab [cO 2 (mov (c AV.esl))] ret) skip)).seq (ab [cO 5 (bldS 2 0 [ba,ba] []),aa 6 0,cO 7 (app 2 16 (t 5) (t 6)),aa 2 7] ret))))
theorem Jp:Is Tryz.prog 136 Kw:=mkI Tryz.func136
def LA:F2:=(F2.mk 24 [RV.t 4,RV.t 5] (ab [cO 4 (mov (c AV.esl)),cO 5 (mov (cN 0))] ((ab [aa 7 0,aE 8 128 [t 7],aa 6 8] (ab [aa 9 6,aq 10 .neq 9 0] (au 10 (ab [aa 11 6,cO 4 (mov (c AV.esl)),aa 5 11] ret) skip))).seq ((ab [aa 12 1,aq 13 .lss 12 1,aa 14 13,bf 15 14 (cM 1),bf 16 14 (cM 0),bf 17 14 (lenS (t 16)),bf 18 14 (cB .gtr (t 15) (t 17)),cO 19 (pick (t 14) cP (t 18))] (au 19 (ab [cO 4 (mov (c AV.esl)),cO 5 (mov (cN 2))] ret) skip)).seq (ab [aa 20 0,aa 21 1,aE 22 160 [t 20,t 21],aE 23 159 [t 22],aa 4 23,cO 5 (mov (cN 0))] ret)))))
theorem Mu:Is Tryz.prog 137 LA:=mkI Tryz.func137
def MP:F2:=(F2.mk 16 [RV.cn 2 16] (ab [cO 2 (alloc (AV.agg [ba,ba,ba,ba,ba,ba,ba,ba,ba,ba,ba,ba,ba,ba,ba,ba]))] (ab [cO 3 (alloc (AV.agg [ba,ba,ba,ba,ba,ba,ba,ba,ba,ba,ba,ba,ba,ba,ba,ba]))] ((ab [cO 5 (mov (cN 0))] (block 0 (ab [aq 6 .lss 5 8] ((au 6 skip (exit 0)).seq ((block 1 (ab [aa 7 5,aa 4 7] (ops 0 [aa 8 4,cO 9 (ixaA 8 2 (t 3) (t 8)),bG 10 0 9,Op2.mk none none (Ins.st 1 (t 10) (cN ((-1))))]))).seq (ops 0 [aq 11 .add 5 1,aa 5 11])))).loop)).seq (ab [cO 12 (slp 8 2 (t 3)),aa 13 0,cO 14 (cpy 2 (t 12) (t 13))] (ab [bn 15 16 3,bB 16 2 15] ret))))))
theorem Mj:Is Tryz.prog 138 MP:=mkI Tryz.func138
def N8:F2:=(F2.mk 36 [RV.t 2] (ab [cO 2 (mov (c AV.esl))] (ab [cO 3 (mov (cN 0))] ((ab [aa 9 0,a6 10 9,cO 11 (mov (cN 0))] (block 0 (ab [aN 12 .lss 11 10] ((au 12 skip (exit 0)).seq ((block 1 (ab [cO 13 (ixaS 1 (t 9) (t 11)),aC 14 13,aa 5 14] (ab [aa 15 3,aa 16 5,a6 17 16,aN 18 .add 15 17,aa 3 18] (ab [aa 19 3,aq 20 .lss 19 0] (au 20 (ops 0 [cO 21 dead,Op2.mk none none dead]) skip))))).seq (ops 0 [aq 22 .add 11 1,aa 11 22])))).loop)).seq (ab [aa 23 3,aE 24 161 [c AV.esl,t 23],aa 6 24] ((ab [aa 25 0,a6 26 25,cO 27 (mov (cN 0))] (block 2 (ab [aN 28 .lss 27 26] ((au 28 skip (exit 2)).seq ((block 3 (ab [cO 29 (ixaS 1 (t 25) (t 27)),aC 30 29,aa 8 30] (ops 0 [aa 31 6,aa 32 8,cO 33 (app 2 16 (t 31) (t 32)),aa 6 33]))).seq (ops 0 [aq 34 .add 27 1,aa 27 34])))).loop)).seq (ab [aa 35 6,aa 2 35] ret)))))))
theorem MA:Is Tryz.prog 141 N8:=mkI Tryz.func141
def Od:F2:=(F2.mk 6 [RV.t 2] (ab [cO 2 (mov bb)] (ab [aa 3 0,a6 4 3,aq 5 .leq 4 10,aa 2 5] ret)))
theorem LC:Is Tryz.prog 145 Od:=mkI Tryz.func145
def NA:F2:=(F2.mk 14 [RV.t 4] (ab [cO 4 (mov bb)] (ab [aa 8 0,aa 9 1,aE 10 163 [t 8,t 9],aa 7 10,aS 11 7 0,aS 12 7 1,aa 5 11,aa 6 12] (ab [aa 13 6,aa 4 13] ret))))
theorem NT:Is Tryz.prog 146 NA:=mkI Tryz.func146
def Mz:F2:=(F2.mk 11 [] (ab [aa 3 0,a6 4 3,aa 2 4] (ops 0 [aa 5 0,aa 6 2,aa 7 2,cO 8 (conv IntKind.u64 (t 7)),aE 9 156 [t 8],aE 10 164 ([t 5,cN ((0)),t 6,t 9])])))
theorem Ls:Is Tryz.prog 147 Mz:=mkI Tryz.func147
def MQ:F2:=(F2.mk 22 [RV.t 6] (ab [cO 6 (mov (cN 0))] ((ab [aa 8 1,aa 7 8] (block 0 ((ab [aa 9 7,aa 10 0,a6 11 10,aN 12 .lss 9 11] (au 12 skip (exit 0))).seq ((block 1 (ab [aa 15 0,aa 16 7,cO 17 (ixaS 1 (t 15) (t 16)),aC 18 17,aa 19 2,aE 20 108 [t 18,t 19]] (au 20 (ab [aa 21 7,aa 6 21] ret) skip))).seq (ops 0 [aa 13 7,aq 14 .add 13 1,aa 7 14]))).loop)).seq (ab [cO 6 (mov (cN ((-1))))] ret))))
theorem Mc:Is Tryz.prog 148 MQ:=mkI Tryz.func148
def Md:F2:=(F2.mk 38 [RV.cn 3 2] (ab [cO 2 (box (t 0)),cO 3 (alloc (AV.agg [AV.esl,AV.esl]))] ((ab [cO 4 (mov (cN 0))] (block 0 ((ab [aa 7 4,bG 8 0 2,aC 9 8,a6 10 9,aN 11 .lss 7 10] (au 11 skip (exit 0))).seq (block 1 ((mixS 9 [aC 13 1,bG 14 0 2,aC 15 14,aa 16 4,cO 17 (ixaS 1 (t 15) (t 16)),aC 18 17,cO 19 (Ins.mget (one int) (AV.agg [AV.esl,AV.esl]) true (t 13) (t 18)),aa 12 19,aS 20 12 0,aS 21 12 1,cO 5 (alloc (AV.agg [AV.esl,AV.esl])),bB 2 5 20,aa 6 21] [(0,0),(1,0),(2,0),(3,0),(4,0),(5,0),(6,4),(7,0),(8,0),(9,0),(10,1),(11,2),(12,0)]).seq ((ab [aa 22 6,cO 23 (un UnOp.not (t 22))] (au 23 (ab [aa 24 4,aq 25 .add 24 1,aa 4 25] (exit 1)) skip)).seq (mixS 1 [bG 26 0 2,aC 27 26,bG 28 0 5,aC 29 28,aE 30 124 [t 27,t 29],bG 31 1 2,aC 32 31,bG 33 1 5,aC 34 33,aE 35 124 [t 32,t 34],cO 36 (bld [AV.esl,AV.esl] [(0,1,t 30),(1,1,t 35)]),bB 2 2 36] [(0,0),(1,0),(2,0),(3,0),(5,0),(6,0),(7,0),(8,0),(4,1),(9,2),(10,0),(11,2)]))))).loop)).seq (ab [bn 37 2 2,bB 2 3 37] ret))))
theorem Ll:Is Tryz.prog 149 Md:=mkI Tryz.func149
def Nl:F2:=(F2.mk 8 [RV.t 2] (ab [cO 2 (mov (c AV.esl))] ((ab [aa 3 0,cO 4 (snil false (t 3))] (au 4 (ab [cO 2 (mov (c AV.esl))] ret) skip)).seq (ab [cO 5 (bldS 1 0 [ba] []),aa 6 0,cO 7 (app 1 8 (t 5) (t 6)),aa 2 7] ret))))
theorem MX:Is Tryz.prog 150 Nl:=mkI Tryz.func150
def MO:F2:=(F2.mk 18 [RV.t 2] (ab [cO 2 (mov (cN 0))] (ab [cO 3 (mov (cN 0))] ((ab [aa 6 0,a6 7 6,cO 8 (mov (cN 0))] (block 0 (ab [aN 9 .lss 8 7] ((au 9 skip (exit 0)).seq ((block 1 (ab [cO 10 (ixaS 1 (t 6) (t 8)),aC 11 10,aa 5 11] (ab [aa 12 5,aa 13 3,aN 14 .neq 12 13] (au 14 (ab [aa 15 5,aa 2 15] ret) skip)))).seq (ops 0 [aq 16 .add 8 1,aa 8 16])))).loop)).seq (ab [aa 17 3,aa 2 17] ret)))))
theorem Lm:Is Tryz.prog 151 MO:=mkI Tryz.func151
def Lx:F2:=(F2.mk 20 [RV.t 4] (ab [cO 4 (mov (cN 0))] (ab [aa 7 0,aE 8 165 [t 7],aa 5 8] (ab [aa 9 1,aE 10 165 [t 9],aa 6 10] ((ab [aa 11 5] (au 11 ((ab [aa 12 6] (au 12 (ab [cO 4 (mov (cN 0))] ret) skip)).seq (ab [cO 4 (mov (cN ((-1))))] ret)) skip)).seq ((ab [aa 13 6] (au 13 (ab [cO 4 (mov (cN 1))] ret) skip)).seq ((ab [aa 14 0,aa 15 1,aN 16 .lss 14 15] (au 16 (ab [cO 4 (mov (cN ((-1))))] ret) skip)).seq ((ab [aa 17 0,aa 18 1,aN 19 .gtr 17 18] (au 19 (ab [cO 4 (mov (cN 1))] ret) skip)).seq (ab [cO 4 (mov (cN 0))] ret)))))))))
theorem L2:Is Tryz.prog 152 Lx:=mkI Tryz.func152
def Nt:F2:=(F2.mk 21 [RV.t 2] (ab [cO 1 (box (t 0)),cO 2 (mov bb)] (ab [bG 3 0 1,aC 4 3,aq 5 .geq 4 0,aa 6 5,ao 7 6 (fa 0 (t 1)),ao 8 6 (cD 7),ao 9 6 (cB .lss (t 8) (cN 8)),cO 10 (pick (t 6) (t 9) bb),aa 11 10,ao 12 11 (fa 1 (t 1)),ao 13 11 (cD 12),ao 14 11 (cB .geq (t 13) (cN 0)),cO 15 (pick (t 11) (t 14) bb),aa 16 15,ao 17 16 (fa 1 (t 1)),ao 18 16 (cD 17),ao 19 16 (cB .leq (t 18) (cN 1048576)),cO 20 (pick (t 16) (t 19) bb),aa 2 20] ret)))
theorem NS:Is Tryz.prog 153 Nt:=mkI Tryz.func153
def Lz:F2:=(F2.mk 27 [] (ab [aC 4 1,a6 5 4,cO 6 (mov (cN 0))] (block 0 (ab [aN 7 .lss 6 5] ((au 7 skip (exit 0)).seq ((block 1 (ab [aa 8 6,aa 3 8] ((mixS 1 [aC 9 1,a6 10 9,aq 11 .gtr 10 1,aa 12 11,ao 13 12 (cM 0),ao 14 12 (cD 1),ao 15 12 (cM 3),ao 16 12 (sls 2 (t 14) none (some (t 15)) none),ao 17 12 (cD 1),ao 18 12 (cM 3),ao 19 12 (cB .add (t 18) (cN 1)),ao 20 12 (sls 2 (t 17) (some (t 19)) none none),ao 21 12 (bldS 1 2 [AV.esl] [(0,1,t 16),(1,1,t 20)]),ao 22 12 (call (cF 141) [t 21]),ao 23 12 (call (t 13) [t 22]),ao 24 12 (un UnOp.not (t 23)),cO 25 (pick (t 12) (t 24) bb)] [(0,0),(1,0),(2,0),(3,0),(4,0),(5,0),(6,0),(7,0),(8,0),(9,0),(10,0),(11,0),(12,2),(13,2),(14,2),(15,0),(16,0)]).seq (au 25 ret skip)))).seq (ops 0 [aq 26 .add 6 1,aa 6 26])))).loop)))
theorem Lo:Is Tryz.prog 154 Lz:=mkI Tryz.func154
def Kg:F2:=(F2.mk 148 [] (ab [cO 10 (mov cP)] (ab [cO 11 (mov cP)] (block 0 (block 1 (ab [aa 21 2,aa 22 1,aN 23 .sub 21 22,aa 12 23] ((ab [aa 24 12,aq 25 .leq 24 12] (au 25 (ab [aa 26 0,aa 27 1,aa 28 2,aa 29 4,aE 30 166 [t 26,t 27,t 28,t 29]] ret) skip)).seq ((ab [aa 31 3,aq 32 .eql 31 0] (au 32 (ab [aa 33 0,aa 34 1,aa 35 2,aa 36 4,aE 37 167 [t 33,t 34,t 35,t 36]] ret) skip)).seq ((ab [aa 38 10,cO 39 (un UnOp.not (t 38))] (au 39 (ab [aa 40 0,aa 41 1,aa 42 2,aa 43 4,aE 44 168 [t 40,t 41,t 42,t 43]] (ops 0 [aa 45 3,aq 46 .sub 45 1,aa 3 46])) skip)).seq (ab [aa 48 0,aa 49 1,aa 50 2,aa 51 4,aE 52 169 [t 48,t 49,t 50,t 51],aa 47 52,aS 53 47 0,aS 54 47 1,aa 13 53,aa 14 54] ((ab [aa 55 14,aq 56 .eql 55 2] (au 56 (ab [aa 57 0,aa 58 1,aa 59 2,aa 60 4,aE 61 170 [t 57,t 58,t 59,t 60]] (ab [aa 62 2,aq 63 .sub 62 1,aa 64 13,aa 65 1,aN 66 .sub 64 65,aN 67 .sub 63 66,aa 13 67] (ops 0 [cO 14 (mov (cN 1))]))) skip)).seq ((ab [aa 68 10,aa 69 68,ao 70 69 (cM 11),cO 71 (pick (t 69) (t 70) bb),aa 72 71,ao 73 72 (cM 14),ao 74 72 (cB .eql (t 73) (cN 1)),cO 75 (pick (t 72) (t 74) bb)] (au 75 (ab [aa 76 0,aa 77 1,aa 78 2,aa 79 4,aE 80 171 [t 76,t 77,t 78,t 79]] (au 80 ret skip)) skip)).seq (((mixS 1 [aa 81 1,aq 82 .gtr 81 0,aa 83 82,ao 84 83 (cM 4),ao 85 83 (cM 0),ao 86 83 (cM 1),ao 87 83 (cB .sub (t 86) (cN 1)),ao 88 83 (ixaS 1 (t 85) (t 87)),ao 89 83 (cD 88),ao 90 83 (cM 0),ao 91 83 (cM 13),ao 92 83 (ixaS 1 (t 90) (t 91)),ao 93 83 (cD 92),ao 94 83 (call (t 84) [t 89,t 93]),ao 95 83 (cB .lss (t 94) (cN 0)),ao 96 83 (un UnOp.not (t 95)),cO 97 (pick (t 83) (t 96) bb)] [(0,0),(1,0),(2,0),(3,0),(4,0),(5,0),(6,0),(7,0),(8,0),(9,0),(10,0),(11,0),(12,0),(13,2),(14,0),(15,0),(16,0)]).seq (au 97 (ab [aa 98 0,aa 99 1,aa 100 2,aa 101 13,aa 102 4,aE 103 172 [t 98,t 99,t 100,t 101,t 102],aa 15 103] (ab [aa 104 15,aa 1 104] (exit 1))) skip)).seq (ab [aa 106 0,aa 107 1,aa 108 2,aa 109 13,aa 110 4,aE 111 173 [t 106,t 107,t 108,t 109,t 110],aa 105 111,aS 112 105 0,aS 113 105 1,aa 16 112,aa 17 113] (ab [aa 114 17,aa 11 114] (ab [aa 115 16,aa 116 1,aN 117 .sub 115 116,aa 118 2,aa 119 16,aN 120 .sub 118 119,aa 18 117,aa 19 120] (ab [aa 121 12,aq 122 .quo 121 8,aa 20 122] (ab [aa 123 18,aa 124 19,aN 125 .lss 123 124] (au 125 (ab [aa 126 18,aa 127 20,aN 128 .geq 126 127,aa 10 128] (ab [aa 129 0,aa 130 1,aa 131 16,aa 132 3,aa 133 4,aE 134 155 [t 129,t 130,t 131,t 132,t 133]] (ops 0 [aa 135 16,aq 136 .add 135 1,aa 1 136]))) (ab [aa 137 19,aa 138 20,aN 139 .geq 137 138,aa 10 139] (ab [aa 140 0,aa 141 16,aq 142 .add 141 1,aa 143 2,aa 144 3,aa 145 4,aE 146 155 [t 140,t 142,t 143,t 144,t 145]] (ops 0 [aa 147 16,aa 2 147])))))))))))))))))).loop))))
theorem Jy:Is Tryz.prog 155 Kg:=mkI Tryz.func155
def JR:F2:=(F2.mk 8 [RV.t 2] (ab [cO 2 (mov (cN 0))] ((C2.cond bb (ab [aa 3 0,cO 4 (conv IntKind.u32 (t 3)),aE 5 174 [t 4],aa 2 5] ret) skip).seq (ab [aa 6 0,aE 7 175 [t 6],aa 2 7] ret))))
theorem Jh:Is Tryz.prog 156 JR:=mkI Tryz.func156
def NQ:F2:=(F2.mk 21 [RV.t 4] (ab [cO 4 (mov bb)] ((mixS 1 [aC 5 1,aa 6 0,cO 7 (ixaS 1 (t 5) (t 6)),aC 8 7,a6 9 8,aC 10 2,a6 11 10,aN 12 .gtr 9 11,aa 13 12,ao 14 13 (cD 2),ao 15 13 (cD 1),ao 16 13 (cM 0),ao 17 13 (ixaS 1 (t 15) (t 16)),ao 18 13 (cD 17),ao 19 13 (call (cF 158) [t 14,t 18]),cO 20 (pick (t 13) (t 19) bb),aa 4 20] [(0,0),(1,0),(2,0),(3,0),(4,0),(5,0),(6,0),(7,0),(8,0),(9,0),(10,0),(11,0),(12,0),(13,0),(14,2),(15,0),(16,0)]).seq ret)))
theorem Nx:Is Tryz.prog 157 NQ:=mkI Tryz.func157
def NP:F2:=(F2.mk 29 [RV.t 4] (ab [cO 4 (mov bb)] ((ab [aa 7 0,a6 8 7,cO 9 (mov (cN 0))] (block 0 (ab [aN 10 .lss 9 8] ((au 10 skip (exit 0)).seq ((block 1 (ab [cO 11 (ixaS 2 (t 7) (t 9)),bn 12 2 11,cO 6 (alloc (AV.agg [ba,ba])),bB 2 6 12] ((block 2 (((ops 1 [aa 13 1,a6 14 13,aq 15 .gtr 14 0,aa 16 15,ao 17 16 (cM 1),ao 18 16 (ixaS 2 (t 17) (cN 0)),ao 19 16 (ldn 2 (t 18)),ao 20 16 (ldn 2 (t 6)),ao 21 16 (binS BinOp.neq [int,int] (t 19) (t 20)),cO 22 (pick (t 16) (t 21) bb)]).seq (au 22 skip (exit 2))).seq (block 3 (ops 0 [aa 23 1,cO 24 (sls 2 (t 23) (some (cN 1)) none none),aa 1 24]))).loop).seq (ab [aa 25 1,a6 26 25,aq 27 .eql 26 0] (au 27 (ab [cO 4 (mov bb)] ret) skip))))).seq (ops 0 [aq 28 .add 9 1,aa 9 28])))).loop)).seq (ab [cO 4 (mov cP)] ret))))
theorem ML:Is Tryz.prog 158 NP:=mkI Tryz.func158
def Mp:F2:=(F2.mk 5 [RV.t 2] (ab [cO 2 (mov (c AV.esl))] (ab [aa 3 0,aE 4 176 [c AV.esl,t 3],aa 2 4] ret)))
theorem ND:Is Tryz.prog 159 Mp:=mkI Tryz.func159
def N9:F2:=(F2.mk 6 [RV.t 4] (ab [cO 2 (box (t 0)),cO 3 (box (t 1)),cO 4 (mov (c AV.nilf))] (ab [cO 5 (mkfn 177 [t 3,t 2]),aa 4 5] ret)))
theorem M7:Is Tryz.prog 160 N9:=mkI Tryz.func160
def Nn:F2:=(F2.mk 27 [RV.t 4] (ab [cO 4 (mov (c AV.esl))] ((ab [aa 5 1,aq 6 .lss 5 0] (au 6 (ops 0 [cO 7 dead,Op2.mk none none dead]) skip)).seq ((ab [aa 8 1,aa 9 0,cO 10 (capE (t 9)),aa 11 0,a6 12 11,aN 13 .sub 10 12,aN 14 .sub 8 13,aa 1 14] (ab [aa 15 1,aq 16 .gtr 15 0] (au 16 (ops 0 [aa 17 0,aa 18 0,cO 19 (capE (t 18)),cO 20 (sls 2 (t 17) none (some (t 19)) none),aa 21 1,cO 22 (apz 2 16 [ba,ba] (t 20) (t 21)),aa 23 0,a6 24 23,cO 25 (sls 2 (t 22) none (some (t 24)) none),aa 0 25]) skip))).seq (ab [aa 26 0,aa 4 26] ret)))))
theorem M6:Is Tryz.prog 161 Nn:=mkI Tryz.func161
def MM:F2:=(F2.mk 54 [RV.t 4,RV.t 5] (ab [cO 4 (mov (cN 0)),cO 5 (mov bb)] (ab [aa 10 0,a6 11 10,aa 6 11] (ab [aa 12 6,cO 7 (mov (cN 0)),aa 8 12] ((block 0 ((ab [aa 13 7,aa 14 8,aN 15 .lss 13 14] (au 15 skip (exit 0))).seq (block 1 (ab [aa 16 7,aa 17 8,aN 18 .add 16 17,cO 19 (conv IntKind.u64 (t 18)),cO 20 (cB .shr (t 19) (c (AV.int IntKind.u64 (1)))),cO 21 (conv IntKind.i64 (t 20)),aa 9 21] (ab [aa 22 0,aa 23 9,cO 24 (ixaS 1 (t 22) (t 23)),aC 25 24,aa 26 1,aE 27 187 [t 25,t 26]] (au 27 (ops 0 [aa 28 9,aq 29 .add 28 1,aa 7 29]) (ops 0 [aa 30 9,aa 8 30])))))).loop).seq (ab [aa 31 7,aa 32 7,aa 33 6,aN 34 .lss 32 33,aa 35 34,ao 36 35 (cM 0),ao 37 35 (cM 7),ao 38 35 (ixaS 1 (t 36) (t 37)),ao 39 35 (cD 38),ao 40 35 (cM 1),ao 41 35 (cB .eql (t 39) (t 40)),ao 42 35 (cM 41),bf 43 42 (cM 0),bf 44 42 (cM 7),bf 45 42 (ixaS 1 (t 43) (t 44)),bf 46 42 (cD 45),bf 47 42 (call (cF 188) [t 46]),bf 48 42 (cM 47),ao 49 48 (cM 1),ao 50 48 (call (cF 188) [t 49]),bf 51 42 (pick (t 48) (t 50) bb),ao 52 35 (pick (t 42) cP (t 51)),cO 53 (pick (t 35) (t 52) bb),aa 4 31,aa 5 53] ret))))))
theorem L3:Is Tryz.prog 163 MM:=mkI Tryz.func163
def Nr:F2:=(F2.mk 134 [] (ab [cO 8 (mov cP)] (ab [cO 9 (mov cP)] (block 0 (block 1 (ab [aa 19 2,aa 20 1,aN 21 .sub 19 20,aa 10 21] ((ab [aa 22 10,aq 23 .leq 22 12] (au 23 (ab [aa 24 0,aa 25 1,aa 26 2,aE 27 189 [t 24,t 25,t 26]] ret) skip)).seq ((ab [aa 28 3,aq 29 .eql 28 0] (au 29 (ab [aa 30 0,aa 31 1,aa 32 2,aE 33 190 [t 30,t 31,t 32]] ret) skip)).seq ((ab [aa 34 8,cO 35 (un UnOp.not (t 34))] (au 35 (ab [aa 36 0,aa 37 1,aa 38 2,aE 39 191 [t 36,t 37,t 38]] (ops 0 [aa 40 3,aq 41 .sub 40 1,aa 3 41])) skip)).seq (ab [aa 43 0,aa 44 1,aa 45 2,aE 46 192 [t 43,t 44,t 45],aa 42 46,aS 47 42 0,aS 48 42 1,aa 11 47,aa 12 48] ((ab [aa 49 12,aq 50 .eql 49 2] (au 50 (ab [aa 51 0,aa 52 1,aa 53 2,aE 54 193 [t 51,t 52,t 53]] (ab [aa 55 2,aq 56 .sub 55 1,aa 57 11,aa 58 1,aN 59 .sub 57 58,aN 60 .sub 56 59,aa 11 60] (ops 0 [cO 12 (mov (cN 1))]))) skip)).seq ((ab [aa 61 8,aa 62 61,ao 63 62 (cM 9),cO 64 (pick (t 62) (t 63) bb),aa 65 64,ao 66 65 (cM 12),ao 67 65 (cB .eql (t 66) (cN 1)),cO 68 (pick (t 65) (t 67) bb)] (au 68 (ab [aa 69 0,aa 70 1,aa 71 2,aE 72 194 [t 69,t 70,t 71]] (au 72 ret skip)) skip)).seq (((mixS 1 [aa 73 1,aq 74 .gtr 73 0,aa 75 74,ao 76 75 (cM 0),ao 77 75 (cM 1),ao 78 75 (cB .sub (t 77) (cN 1)),ao 79 75 (ixaS 1 (t 76) (t 78)),ao 80 75 (cD 79),ao 81 75 (cM 0),ao 82 75 (cM 11),ao 83 75 (ixaS 1 (t 81) (t 82)),ao 84 75 (cD 83),ao 85 75 (call (cF 187) [t 80,t 84]),ao 86 75 (un UnOp.not (t 85)),cO 87 (pick (t 75) (t 86) bb)] [(0,0),(1,0),(2,0),(3,0),(4,0),(5,0),(6,0),(7,0),(8,0),(9,0),(10,0),(11,0),(12,2),(13,0),(14,0)]).seq (au 87 (ab [aa 88 0,aa 89 1,aa 90 2,aa 91 11,aE 92 195 [t 88,t 89,t 90,t 91],aa 13 92] (ab [aa 93 13,aa 1 93] (exit 1))) skip)).seq (ab [aa 95 0,aa 96 1,aa 97 2,aa 98 11,aE 99 196 [t 95,t 96,t 97,t 98],aa 94 99,aS 100 94 0,aS 101 94 1,aa 14 100,aa 15 101] (ab [aa 102 15,aa 9 102] (ab [aa 103 14,aa 104 1,aN 105 .sub 103 104,aa 106 2,aa 107 14,aN 108 .sub 106 107,aa 16 105,aa 17 108] (ab [aa 109 10,aq 110 .quo 109 8,aa 18 110] (ab [aa 111 16,aa 112 17,aN 113 .lss 111 112] (au 113 (ab [aa 114 16,aa 115 18,aN 116 .geq 114 115,aa 8 116] (ab [aa 117 0,aa 118 1,aa 119 14,aa 120 3,aE 121 164 [t 117,t 118,t 119,t 120]] (ops 0 [aa 122 14,aq 123 .add 122 1,aa 1 123]))) (ab [aa 124 17,aa 125 18,aN 126 .geq 124 125,aa 8 126] (ab [aa 127 0,aa 128 14,aq 129 .add 128 1,aa 130 2,aa 131 3,aE 132 164 [t 127,t 129,t 130,t 131]] (ops 0 [aa 133 14,aa 2 133])))))))))))))))))).loop))))
theorem Nd:Is Tryz.prog 164 Nr:=mkI Tryz.func164
def N4:F2:=(F2.mk 6 [RV.t 2] (ab [cO 2 (mov bb)] (ab [aa 3 0,aa 4 0,aN 5 .neq 3 4,aa 2 5] ret)))
theorem LH:Is Tryz.prog 165 N4:=mkI Tryz.func165
def JE:F2:=(F2.mk 53 [] (ab [aa 10 1,aq 11 .add 10 1,aa 8 11] (block 0 ((ab [aa 12 8,aa 13 2,aN 14 .lss 12 13] (au 14 skip (exit 0))).seq ((block 1 (ab [aa 17 8,aa 9 17] (block 2 (((mixS 1 [aa 18 9,aa 19 1,aN 20 .gtr 18 19,aa 21 20,ao 22 21 (cM 3),ao 23 21 (cM 0),ao 24 21 (cM 9),ao 25 21 (ixaS 1 (t 23) (t 24)),ao 26 21 (cD 25),ao 27 21 (cM 0),ao 28 21 (cM 9),ao 29 21 (cB .sub (t 28) (cN 1)),ao 30 21 (ixaS 1 (t 27) (t 29)),ao 31 21 (cD 30),ao 32 21 (call (t 22) [t 26,t 31]),ao 33 21 (cB .lss (t 32) (cN 0)),cO 34 (pick (t 21) (t 33) bb)] [(0,0),(1,0),(2,0),(3,0),(4,0),(5,0),(6,0),(7,0),(8,0),(9,0),(10,0),(11,0),(12,0),(13,0),(14,2),(15,0),(16,0)]).seq (au 34 skip (exit 2))).seq ((block 3 (ops 1 [aa 37 0,aa 38 9,aa 39 0,aa 40 9,aq 41 .sub 40 1,aa 42 0,aa 43 9,aq 44 .sub 43 1,cO 45 (ixaS 1 (t 42) (t 44)),aC 46 45,aa 47 0,aa 48 9,cO 49 (ixaS 1 (t 47) (t 48)),aC 50 49,cO 51 (ixaS 1 (t 37) (t 38)),bB 1 51 46,cO 52 (ixaS 1 (t 39) (t 41)),bB 1 52 50])).seq (ops 0 [aa 35 9,aq 36 .sub 35 1,aa 9 36]))).loop))).seq (ops 0 [aa 15 8,aq 16 .add 15 1,aa 8 16]))).loop)))
theorem Jd:Is Tryz.prog 166 JE:=mkI Tryz.func166
def Ld:F2:=(F2.mk 60 [] (ab [aa 13 1,aa 8 13] (ab [cO 9 (mov (cN 0))] (ab [aa 14 2,aa 15 1,aN 16 .sub 14 15,aa 10 16] ((ab [aa 17 10,aq 18 .sub 17 1,aq 19 .quo 18 2,aa 11 19] (block 0 ((ab [aa 20 11,aq 21 .geq 20 0] (au 21 skip (exit 0))).seq ((block 1 (ops 0 [aa 24 0,aa 25 11,aa 26 10,aa 27 8,aa 28 3,aE 29 197 [t 24,t 25,t 26,t 27,t 28]])).seq (ops 0 [aa 22 11,aq 23 .sub 22 1,aa 11 23]))).loop)).seq (ab [aa 30 10,aq 31 .sub 30 1,aa 12 31] (block 2 ((ab [aa 32 12,aq 33 .geq 32 0] (au 33 skip (exit 2))).seq ((block 3 ((ops 1 [aa 36 0,aa 37 8,aa 38 0,aa 39 8,aa 40 12,aN 41 .add 39 40,aa 42 0,aa 43 8,aa 44 12,aN 45 .add 43 44,cO 46 (ixaS 1 (t 42) (t 45)),aC 47 46,aa 48 0,aa 49 8,cO 50 (ixaS 1 (t 48) (t 49)),aC 51 50,cO 52 (ixaS 1 (t 36) (t 37)),bB 1 52 47,cO 53 (ixaS 1 (t 38) (t 41)),bB 1 53 51]).seq (ops 0 [aa 54 0,aa 55 9,aa 56 12,aa 57 8,aa 58 3,aE 59 197 [t 54,t 55,t 56,t 57,t 58]]))).seq (ops 0 [aa 34 12,aq 35 .sub 34 1,aa 12 35]))).loop)))))))
theorem Mm:Is Tryz.prog 167 Ld:=mkI Tryz.func167
def NW:F2:=(F2.mk 67 [] (ab [aa 13 2,aa 14 1,aN 15 .sub 13 14,aa 8 15] (ab [aa 16 8,aq 17 .geq 16 8] (au 17 (ab [aa 18 8,cO 19 (conv IntKind.u64 (t 18)),cO 9 (alloc (AV.int IntKind.u64 (0))),bB 1 9 19] (ab [aa 20 8,aE 21 198 [t 20],aa 10 21] (ab [aa 22 1,aa 23 8,aq 24 .quo 23 4,aq 25 .mul 24 2,aN 26 .add 22 25,aq 27 .sub 26 1,aa 11 27] (block 0 ((ab [aa 28 11,aa 29 1,aa 30 8,aq 31 .quo 30 4,aq 32 .mul 31 2,aN 33 .add 29 32,aq 34 .add 33 1,aN 35 .leq 28 34] (au 35 skip (exit 0))).seq ((block 1 (ab [aE 38 199 [t 9],aa 39 10,cO 40 (cB .sub (t 39) (c (AV.int IntKind.u64 (1)))),aN 41 .and 38 40,cO 42 (conv IntKind.i64 (t 41)),aa 12 42] ((ab [aa 43 12,aa 44 8,aN 45 .geq 43 44] (au 45 (ops 0 [aa 46 12,aa 47 8,aN 48 .sub 46 47,aa 12 48]) skip)).seq (ops 1 [aa 49 0,aa 50 11,aa 51 0,aa 52 1,aa 53 12,aN 54 .add 52 53,aa 55 0,aa 56 1,aa 57 12,aN 58 .add 56 57,cO 59 (ixaS 1 (t 55) (t 58)),aC 60 59,aa 61 0,aa 62 11,cO 63 (ixaS 1 (t 61) (t 62)),aC 64 63,cO 65 (ixaS 1 (t 49) (t 50)),bB 1 65 60,cO 66 (ixaS 1 (t 51) (t 54)),bB 1 66 64])))).seq (ops 0 [aa 36 11,aq 37 .add 36 1,aa 11 37]))).loop)))) skip))))
theorem LF:Is Tryz.prog 168 NW:=mkI Tryz.func168
def LW:F2:=(F2.mk 63 [RV.t 8,RV.t 9] (ab [cO 8 (mov (cN 0)),cO 9 (mov (cN 0))] (ab [aa 15 2,aa 16 1,aN 17 .sub 15 16,aa 10 17] (ab [cO 11 (alloc (ba))] (ab [aa 18 1,aa 19 10,aq 20 .quo 19 4,aq 21 .mul 20 1,aN 22 .add 18 21,aa 12 22] (ab [aa 23 1,aa 24 10,aq 25 .quo 24 4,aq 26 .mul 25 2,aN 27 .add 23 26,aa 13 27] (ab [aa 28 1,aa 29 10,aq 30 .quo 29 4,aq 31 .mul 30 3,aN 32 .add 28 31,aa 14 32] ((ab [aa 33 10,aq 34 .geq 33 8] (au 34 ((ab [aa 35 10,aq 36 .geq 35 50] (au 36 (ab [aa 37 0,aa 38 12,aa 39 3,aE 40 200 [t 37,t 38,t 11,t 39],aa 12 40] (ab [aa 41 0,aa 42 13,aa 43 3,aE 44 200 [t 41,t 42,t 11,t 43],aa 13 44] (ops 0 [aa 45 0,aa 46 14,aa 47 3,aE 48 200 [t 45,t 46,t 11,t 47],aa 14 48]))) skip)).seq (ops 0 [aa 49 0,aa 50 12,aa 51 13,aa 52 14,aa 53 3,aE 54 201 [t 49,t 50,t 51,t 52,t 11,t 53],aa 13 54])) skip)).seq (ab [aC 55 11] (block 0 (ab [aq 58 .eql 55 0,aa 57 58] (au 57 (ab [aa 59 13,aa 8 59,cO 9 (mov (cN 1))] ret) (ab [aq 61 .eql 55 12,aa 60 61] (au 60 (ab [aa 62 13,aa 8 62,cO 9 (mov (cN 2))] ret) (ab [aa 56 13,aa 8 56,cO 9 (mov (cN 0))] ret)))))))))))))))
theorem Mg:Is Tryz.prog 169 LW:=mkI Tryz.func169
def MV:F2:=(F2.mk 34 [] (ab [aa 10 1,aa 8 10] (ab [aa 11 2,aq 12 .sub 11 1,aa 9 12] (block 0 ((ab [aa 13 8,aa 14 9,aN 15 .lss 13 14] (au 15 skip (exit 0))).seq (block 1 ((ops 1 [aa 16 0,aa 17 8,aa 18 0,aa 19 9,aa 20 0,aa 21 9,cO 22 (ixaS 1 (t 20) (t 21)),aC 23 22,aa 24 0,aa 25 8,cO 26 (ixaS 1 (t 24) (t 25)),aC 27 26,cO 28 (ixaS 1 (t 16) (t 17)),bB 1 28 23,cO 29 (ixaS 1 (t 18) (t 19)),bB 1 29 27]).seq (ab [aa 30 8,aq 31 .add 30 1,aa 8 31] (ops 0 [aa 32 9,aq 33 .sub 32 1,aa 9 33]))))).loop))))
theorem Na:Is Tryz.prog 170 MV:=mkI Tryz.func170
def M5:F2:=(F2.mk 141 [RV.t 8] (ab [cO 8 (mov bb)] (ab [aa 13 1,aq 14 .add 13 1,aa 9 14] ((ab [cO 10 (mov (cN 0))] (block 0 ((ab [aa 15 10,aq 16 .lss 15 5] (au 16 skip (exit 0))).seq ((block 1 ((block 2 (((mixS 1 [aa 19 9,aa 20 2,aN 21 .lss 19 20,aa 22 21,ao 23 22 (cM 3),ao 24 22 (cM 0),ao 25 22 (cM 9),ao 26 22 (ixaS 1 (t 24) (t 25)),ao 27 22 (cD 26),ao 28 22 (cM 0),ao 29 22 (cM 9),ao 30 22 (cB .sub (t 29) (cN 1)),ao 31 22 (ixaS 1 (t 28) (t 30)),ao 32 22 (cD 31),ao 33 22 (call (t 23) [t 27,t 32]),ao 34 22 (cB .lss (t 33) (cN 0)),ao 35 22 (un UnOp.not (t 34)),cO 36 (pick (t 22) (t 35) bb)] [(0,0),(1,0),(2,0),(3,0),(4,0),(5,0),(6,0),(7,0),(8,0),(9,0),(10,0),(11,0),(12,0),(13,0),(14,2),(15,0),(16,0),(17,0)]).seq (au 36 skip (exit 2))).seq (block 3 (ops 0 [aa 37 9,aq 38 .add 37 1,aa 9 38]))).loop).seq ((ab [aa 39 9,aa 40 2,aN 41 .eql 39 40] (au 41 (ab [cO 8 (mov cP)] ret) skip)).seq ((ab [aa 42 2,aa 43 1,aN 44 .sub 42 43,aq 45 .lss 44 50] (au 45 (ab [cO 8 (mov bb)] ret) skip)).seq ((ops 1 [aa 46 0,aa 47 9,aa 48 0,aa 49 9,aq 50 .sub 49 1,aa 51 0,aa 52 9,aq 53 .sub 52 1,cO 54 (ixaS 1 (t 51) (t 53)),aC 55 54,aa 56 0,aa 57 9,cO 58 (ixaS 1 (t 56) (t 57)),aC 59 58,cO 60 (ixaS 1 (t 46) (t 47)),bB 1 60 55,cO 61 (ixaS 1 (t 48) (t 50)),bB 1 61 59]).seq ((ab [aa 62 9,aa 63 1,aN 64 .sub 62 63,aq 65 .geq 64 2] (au 65 (ab [aa 66 9,aq 67 .sub 66 1,aa 11 67] (block 4 ((ab [aa 68 11,aq 69 .geq 68 1] (au 69 skip (exit 4))).seq ((block 5 (((mixS 1 [aa 72 3,aa 73 0,aa 74 11,cO 75 (ixaS 1 (t 73) (t 74)),aC 76 75,aa 77 0,aa 78 11,aq 79 .sub 78 1,cO 80 (ixaS 1 (t 77) (t 79)),aC 81 80,cO 82 (call (t 72) [t 76,t 81]),aq 83 .lss 82 0,cO 84 (un UnOp.not (t 83))] [(0,0),(1,0),(2,0),(3,0),(4,0),(5,0),(6,0),(7,0),(8,0),(9,0),(10,2),(11,0),(12,0)]).seq (au 84 (exit 4) skip)).seq (ops 1 [aa 85 0,aa 86 11,aa 87 0,aa 88 11,aq 89 .sub 88 1,aa 90 0,aa 91 11,aq 92 .sub 91 1,cO 93 (ixaS 1 (t 90) (t 92)),aC 94 93,aa 95 0,aa 96 11,cO 97 (ixaS 1 (t 95) (t 96)),aC 98 97,cO 99 (ixaS 1 (t 85) (t 86)),bB 1 99 94,cO 100 (ixaS 1 (t 87) (t 89)),bB 1 100 98]))).seq (ops 0 [aa 70 11,aq 71 .sub 70 1,aa 11 71]))).loop)) skip)).seq (ab [aa 101 2,aa 102 9,aN 103 .sub 101 102,aq 104 .geq 103 2] (au 104 (ab [aa 105 9,aq 106 .add 105 1,aa 12 106] (block 6 ((ab [aa 107 12,aa 108 2,aN 109 .lss 107 108] (au 109 skip (exit 6))).seq ((block 7 (((mixS 1 [aa 112 3,aa 113 0,aa 114 12,cO 115 (ixaS 1 (t 113) (t 114)),aC 116 115,aa 117 0,aa 118 12,aq 119 .sub 118 1,cO 120 (ixaS 1 (t 117) (t 119)),aC 121 120,cO 122 (call (t 112) [t 116,t 121]),aq 123 .lss 122 0,cO 124 (un UnOp.not (t 123))] [(0,0),(1,0),(2,0),(3,0),(4,0),(5,0),(6,0),(7,0),(8,0),(9,0),(10,2),(11,0),(12,0)]).seq (au 124 (exit 6) skip)).seq (ops 1 [aa 125 0,aa 126 12,aa 127 0,aa 128 12,aq 129 .sub 128 1,aa 130 0,aa 131 12,aq 132 .sub 131 1,cO 133 (ixaS 1 (t 130) (t 132)),aC 134 133,aa 135 0,aa 136 12,cO 137 (ixaS 1 (t 135) (t 136)),aC 138 137,cO 139 (ixaS 1 (t 125) (t 126)),bB 1 139 134,cO 140 (ixaS 1 (t 127) (t 129)),bB 1 140 138]))).seq (ops 0 [aa 110 12,aq 111 .add 110 1,aa 12 111]))).loop)) skip)))))))).seq (ops 0 [aa 17 10,aq 18 .add 17 1,aa 10 18]))).loop)).seq (ab [cO 8 (mov bb)] ret)))))
theorem N7:Is Tryz.prog 171 M5:=mkI Tryz.func171
def K8:F2:=(F2.mk 90 [RV.t 10] (ab [cO 10 (mov (cN 0))] ((ops 1 [aa 13 0,aa 14 1,aa 15 0,aa 16 3,aa 17 0,aa 18 3,cO 19 (ixaS 1 (t 17) (t 18)),aC 20 19,aa 21 0,aa 22 1,cO 23 (ixaS 1 (t 21) (t 22)),aC 24 23,cO 25 (ixaS 1 (t 13) (t 14)),bB 1 25 20,cO 26 (ixaS 1 (t 15) (t 16)),bB 1 26 24]).seq (ab [aa 27 1,aq 28 .add 27 1,aa 29 2,aq 30 .sub 29 1,aa 11 28,aa 12 30] ((block 0 (block 1 ((block 2 (((mixS 1 [aa 31 11,aa 32 12,aN 33 .leq 31 32,aa 34 33,ao 35 34 (cM 4),ao 36 34 (cM 0),ao 37 34 (cM 1),ao 38 34 (ixaS 1 (t 36) (t 37)),ao 39 34 (cD 38),ao 40 34 (cM 0),ao 41 34 (cM 11),ao 42 34 (ixaS 1 (t 40) (t 41)),ao 43 34 (cD 42),ao 44 34 (call (t 35) [t 39,t 43]),ao 45 34 (cB .lss (t 44) (cN 0)),ao 46 34 (un UnOp.not (t 45)),cO 47 (pick (t 34) (t 46) bb)] [(0,0),(1,0),(2,0),(3,0),(4,0),(5,0),(6,0),(7,0),(8,0),(9,0),(10,0),(11,0),(12,0),(13,2),(14,0),(15,0),(16,0)]).seq (au 47 skip (exit 2))).seq (block 3 (ops 0 [aa 48 11,aq 49 .add 48 1,aa 11 49]))).loop).seq ((block 4 (((mixS 1 [aa 50 11,aa 51 12,aN 52 .leq 50 51,aa 53 52,ao 54 53 (cM 4),ao 55 53 (cM 0),ao 56 53 (cM 1),ao 57 53 (ixaS 1 (t 55) (t 56)),ao 58 53 (cD 57),ao 59 53 (cM 0),ao 60 53 (cM 12),ao 61 53 (ixaS 1 (t 59) (t 60)),ao 62 53 (cD 61),ao 63 53 (call (t 54) [t 58,t 62]),ao 64 53 (cB .lss (t 63) (cN 0)),cO 65 (pick (t 53) (t 64) bb)] [(0,0),(1,0),(2,0),(3,0),(4,0),(5,0),(6,0),(7,0),(8,0),(9,0),(10,0),(11,0),(12,0),(13,2),(14,0),(15,0)]).seq (au 65 skip (exit 4))).seq (block 5 (ops 0 [aa 66 12,aq 67 .sub 66 1,aa 12 67]))).loop).seq ((ab [aa 68 11,aa 69 12,aN 70 .gtr 68 69] (au 70 (exit 0) skip)).seq ((ops 1 [aa 71 0,aa 72 11,aa 73 0,aa 74 12,aa 75 0,aa 76 12,cO 77 (ixaS 1 (t 75) (t 76)),aC 78 77,aa 79 0,aa 80 11,cO 81 (ixaS 1 (t 79) (t 80)),aC 82 81,cO 83 (ixaS 1 (t 71) (t 72)),bB 1 83 78,cO 84 (ixaS 1 (t 73) (t 74)),bB 1 84 82]).seq (ab [aa 85 11,aq 86 .add 85 1,aa 11 86] (ops 0 [aa 87 12,aq 88 .sub 87 1,aa 12 88]))))))).loop).seq (ab [aa 89 11,aa 10 89] ret))))))
theorem LO:Is Tryz.prog 172 K8:=mkI Tryz.func172
def K3:F2:=(F2.mk 178 [RV.t 10,RV.t 11] (ab [cO 10 (mov (cN 0)),cO 11 (mov bb)] ((ops 1 [aa 14 0,aa 15 1,aa 16 0,aa 17 3,aa 18 0,aa 19 3,cO 20 (ixaS 1 (t 18) (t 19)),aC 21 20,aa 22 0,aa 23 1,cO 24 (ixaS 1 (t 22) (t 23)),aC 25 24,cO 26 (ixaS 1 (t 14) (t 15)),bB 1 26 21,cO 27 (ixaS 1 (t 16) (t 17)),bB 1 27 25]).seq (ab [aa 28 1,aq 29 .add 28 1,aa 30 2,aq 31 .sub 30 1,aa 12 29,aa 13 31] ((block 0 (((mixS 1 [aa 32 12,aa 33 13,aN 34 .leq 32 33,aa 35 34,ao 36 35 (cM 4),ao 37 35 (cM 0),ao 38 35 (cM 12),ao 39 35 (ixaS 1 (t 37) (t 38)),ao 40 35 (cD 39),ao 41 35 (cM 0),ao 42 35 (cM 1),ao 43 35 (ixaS 1 (t 41) (t 42)),ao 44 35 (cD 43),ao 45 35 (call (t 36) [t 40,t 44]),ao 46 35 (cB .lss (t 45) (cN 0)),cO 47 (pick (t 35) (t 46) bb)] [(0,0),(1,0),(2,0),(3,0),(4,0),(5,0),(6,0),(7,0),(8,0),(9,0),(10,0),(11,0),(12,0),(13,2),(14,0),(15,0)]).seq (au 47 skip (exit 0))).seq (block 1 (ops 0 [aa 48 12,aq 49 .add 48 1,aa 12 49]))).loop).seq ((block 2 (((mixS 1 [aa 50 12,aa 51 13,aN 52 .leq 50 51,aa 53 52,ao 54 53 (cM 4),ao 55 53 (cM 0),ao 56 53 (cM 13),ao 57 53 (ixaS 1 (t 55) (t 56)),ao 58 53 (cD 57),ao 59 53 (cM 0),ao 60 53 (cM 1),ao 61 53 (ixaS 1 (t 59) (t 60)),ao 62 53 (cD 61),ao 63 53 (call (t 54) [t 58,t 62]),ao 64 53 (cB .lss (t 63) (cN 0)),ao 65 53 (un UnOp.not (t 64)),cO 66 (pick (t 53) (t 65) bb)] [(0,0),(1,0),(2,0),(3,0),(4,0),(5,0),(6,0),(7,0),(8,0),(9,0),(10,0),(11,0),(12,0),(13,2),(14,0),(15,0),(16,0)]).seq (au 66 skip (exit 2))).seq (block 3 (ops 0 [aa 67 13,aq 68 .sub 67 1,aa 13 68]))).loop).seq ((ab [aa 69 12,aa 70 13,aN 71 .gtr 69 70] (au 71 ((ops 1 [aa 72 0,aa 73 13,aa 74 0,aa 75 1,aa 76 0,aa 77 1,cO 78 (ixaS 1 (t 76) (t 77)),aC 79 78,aa 80 0,aa 81 13,cO 82 (ixaS 1 (t 80) (t 81)),aC 83 82,cO 84 (ixaS 1 (t 72) (t 73)),bB 1 84 79,cO 85 (ixaS 1 (t 74) (t 75)),bB 1 85 83]).seq (ab [aa 86 13,aa 10 86,cO 11 (mov cP)] ret)) skip)).seq ((ops 1 [aa 87 0,aa 88 12,aa 89 0,aa 90 13,aa 91 0,aa 92 13,cO 93 (ixaS 1 (t 91) (t 92)),aC 94 93,aa 95 0,aa 96 12,cO 97 (ixaS 1 (t 95) (t 96)),aC 98 97,cO 99 (ixaS 1 (t 87) (t 88)),bB 1 99 94,cO 100 (ixaS 1 (t 89) (t 90)),bB 1 100 98]).seq (ab [aa 101 12,aq 102 .add 101 1,aa 12 102] (ab [aa 103 13,aq 104 .sub 103 1,aa 13 104] ((block 4 (block 5 ((block 6 (((mixS 1 [aa 105 12,aa 106 13,aN 107 .leq 105 106,aa 108 107,ao 109 108 (cM 4),ao 110 108 (cM 0),ao 111 108 (cM 12),ao 112 108 (ixaS 1 (t 110) (t 111)),ao 113 108 (cD 112),ao 114 108 (cM 0),ao 115 108 (cM 1),ao 116 108 (ixaS 1 (t 114) (t 115)),ao 117 108 (cD 116),ao 118 108 (call (t 109) [t 113,t 117]),ao 119 108 (cB .lss (t 118) (cN 0)),cO 120 (pick (t 108) (t 119) bb)] [(0,0),(1,0),(2,0),(3,0),(4,0),(5,0),(6,0),(7,0),(8,0),(9,0),(10,0),(11,0),(12,0),(13,2),(14,0),(15,0)]).seq (au 120 skip (exit 6))).seq (block 7 (ops 0 [aa 121 12,aq 122 .add 121 1,aa 12 122]))).loop).seq ((block 8 (((mixS 1 [aa 123 12,aa 124 13,aN 125 .leq 123 124,aa 126 125,ao 127 126 (cM 4),ao 128 126 (cM 0),ao 129 126 (cM 13),ao 130 126 (ixaS 1 (t 128) (t 129)),ao 131 126 (cD 130),ao 132 126 (cM 0),ao 133 126 (cM 1),ao 134 126 (ixaS 1 (t 132) (t 133)),ao 135 126 (cD 134),ao 136 126 (call (t 127) [t 131,t 135]),ao 137 126 (cB .lss (t 136) (cN 0)),ao 138 126 (un UnOp.not (t 137)),cO 139 (pick (t 126) (t 138) bb)] [(0,0),(1,0),(2,0),(3,0),(4,0),(5,0),(6,0),(7,0),(8,0),(9,0),(10,0),(11,0),(12,0),(13,2),(14,0),(15,0),(16,0)]).seq (au 139 skip (exit 8))).seq (block 9 (ops 0 [aa 140 13,aq 141 .sub 140 1,aa 13 141]))).loop).seq ((ab [aa 142 12,aa 143 13,aN 144 .gtr 142 143] (au 144 (exit 4) skip)).seq ((ops 1 [aa 145 0,aa 146 12,aa 147 0,aa 148 13,aa 149 0,aa 150 13,cO 151 (ixaS 1 (t 149) (t 150)),aC 152 151,aa 153 0,aa 154 12,cO 155 (ixaS 1 (t 153) (t 154)),aC 156 155,cO 157 (ixaS 1 (t 145) (t 146)),bB 1 157 152,cO 158 (ixaS 1 (t 147) (t 148)),bB 1 158 156]).seq (ab [aa 159 12,aq 160 .add 159 1,aa 12 160] (ops 0 [aa 161 13,aq 162 .sub 161 1,aa 13 162]))))))).loop).seq ((ops 1 [aa 163 0,aa 164 13,aa 165 0,aa 166 1,aa 167 0,aa 168 1,cO 169 (ixaS 1 (t 167) (t 168)),aC 170 169,aa 171 0,aa 172 13,cO 173 (ixaS 1 (t 171) (t 172)),aC 174 173,cO 175 (ixaS 1 (t 163) (t 164)),bB 1 175 170,cO 176 (ixaS 1 (t 165) (t 166)),bB 1 176 174]).seq (ab [aa 177 13,aa 10 177,cO 11 (mov bb)] ret)))))))))))))
theorem N6:Is Tryz.prog 173 K3:=mkI Tryz.func173
def JB:F2:=(F2.mk 25 [RV.t 2] (ab [cO 2 (mov (cN 0))] ((ab [aa 3 0,cO 4 (cB .geq (t 3) (c (AV.int IntKind.u64 (4294967296))))] (au 4 (ab [aa 5 0,cO 6 (cB .shr (t 5) (c (AV.int IntKind.u64 (32)))),aa 0 6] (ops 0 [cO 2 (mov (cN 32))])) skip)).seq ((ab [aa 7 0,cO 8 (cB .geq (t 7) (c (AV.int IntKind.u64 (65536))))] (au 8 (ab [aa 9 0,cO 10 (cB .shr (t 9) (c (AV.int IntKind.u64 (16)))),aa 0 10] (ops 0 [aa 11 2,aq 12 .add 11 16,aa 2 12])) skip)).seq ((ab [aa 13 0,cO 14 (cB .geq (t 13) (c (AV.int IntKind.u64 (256))))] (au 14 (ab [aa 15 0,cO 16 (cB .shr (t 15) (c (AV.int IntKind.u64 (8)))),aa 0 16] (ops 0 [aa 17 2,aq 18 .add 17 8,aa 2 18])) skip)).seq (ab [aa 19 2,aa 20 0,cO 21 (conv IntKind.u8 (t 20)),cO 22 (ixStr (c (AV.str (ByteArray.mk (Array.mk [0,1,2,2,3,3,3,3,4,4,4,4,4,4,4,4,5,5,5,5,5,5,5,5,5,5,5,5,5,5,5,5,6,6,6,6,6,6,6,6,6,6,6,6,6,6,6,6,6,6,6,6,6,6,6,6,6,6,6,6,6,6,6,6,7,7,7,7,7,7,7,7,7,7,7,7,7,7,7,7,7,7,7,7,7,7,7,7,7,7,7,7,7,7,7,7,7,7,7,7,7,7,7,7,7,7,7,7,7,7,7,7,7,7,7,7,7,7,7,7,7,7,7,7,7,7,7,7,8,8,8,8,8,8,8,8,8,8,8,8,8,8,8,8,8,8,8,8,8,8,8,8,8,8,8,8,8,8,8,8,8,8,8,8,8,8,8,8,8,8,8,8,8,8,8,8,8,8,8,8,8,8,8,8,8,8,8,8,8,8,8,8,8,8,8,8,8,8,8,8,8,8,8,8,8,8,8,8,8,8,8,8,8,8,8,8,8,8,8,8,8,8,8,8,8,8,8,8,8,8,8,8,8,8,8,8,8,8,8,8,8,8,8,8,8,8,8,8,8,8,8,8,8,8,8,8])))) (t 21)),cO 23 (conv IntKind.i64 (t 22)),aN 24 .add 19 23,aa 2 24] ret))))))
theorem Jk:Is Tryz.prog 175 JB:=mkI Tryz.func175
def Ny:F2:=(F2.mk 13 [RV.t 4] (ab [cO 2 (box (t 0)),cO 4 (mov (c AV.esl))] ((ab [aa 6 1] (block 0 (rangeF (t 6) [7] (ops 0 [aa 5 7]) (block 1 (ops 0 [aC 8 2,aa 9 5,cO 10 (bldS 1 1 [AV.esl] [(0,1,t 9)]),cO 11 (app 1 24 (t 8) (t 10)),bB 1 2 11]))))).seq (ab [aC 12 2,aa 4 12] ret))))
theorem NU:Is Tryz.prog 176 Ny:=mkI Tryz.func176
def Ma:F2:=(F2.mk 10 [] (ab [cO 3 (box (t 0))] (ab [cO 4 (alloc AV.nilf)] (ab [cO 5 (mkfn 178 [t 1,t 3,t 2,t 4]),bB 1 4 5] (mixS 1 [aC 6 4,aC 7 1,cO 8 (mks 2 16 [ba,ba] (cN 0) (t 7)),cO 9 (call (t 6) [cN ((0)),t 8])] [(0,0),(1,0),(2,1),(3,2)])))))
theorem M4:Is Tryz.prog 177 Ma:=mkI Tryz.func177
def KT:F2:=(F2.mk 37 [RV.t 8] (ab [cO 8 (mov bb)] ((ab [aa 10 1,a6 11 10,aC 12 2,aN 13 .eql 11 12] (au 13 ((mixS 1 [aC 14 3,aa 15 1,aE 16 136 [t 15],cO 17 (call (t 14) [t 16]),aa 8 17] [(0,0),(1,0),(2,1),(3,2),(4,0)]).seq ret) skip)).seq ((ab [aa 18 0,aa 9 18] (block 0 ((ab [aa 19 9,aC 20 4,a6 21 20,aN 22 .lss 19 21] (au 22 skip (exit 0))).seq ((block 1 ((mixS 2 [aC 25 5,aa 26 9,aq 27 .add 26 1,aa 28 1,aC 29 4,aa 30 9,cO 31 (ixaS 2 (t 29) (t 30)),bn 32 2 31,cO 33 (bldS 2 1 [ba,ba] [(0,2,t 32)]),cO 34 (app 2 16 (t 28) (t 33)),cO 35 (call (t 25) [t 27,t 34]),cO 36 (un UnOp.not (t 35))] [(0,0),(1,0),(2,0),(3,0),(4,0),(5,0),(6,0),(7,0),(8,1),(9,1),(10,2),(11,0)]).seq (au 36 (ab [cO 8 (mov bb)] ret) skip))).seq (ops 0 [aa 23 9,aq 24 .add 23 1,aa 9 24]))).loop)).seq (ab [cO 8 (mov cP)] ret)))))
theorem I6:Is Tryz.prog 178 KT:=mkI Tryz.func178
def Ku:F2:=(F2.mk 17 [RV.t 4] (ab [cO 4 (mov bb)] (ab [aa 5 0,aE 6 165 [t 5],aa 7 6,ao 8 7 (cM 1),ao 9 7 (call (cF 165) [t 8]),ao 10 7 (un UnOp.not (t 9)),cO 11 (pick (t 7) (t 10) bb),aa 12 11,bf 13 12 (cM 0),bf 14 12 (cM 1),bf 15 12 (cB .lss (t 13) (t 14)),cO 16 (pick (t 12) cP (t 15)),aa 4 16] ret)))
theorem Je:Is Tryz.prog 187 Ku:=mkI Tryz.func187
def ME:F2:=(F2.mk 6 [RV.t 2] (ab [cO 2 (mov bb)] (ab [aa 3 0,aa 4 0,aN 5 .neq 3 4,aa 2 5] ret)))
theorem LD:Is Tryz.prog 188 ME:=mkI Tryz.func188
def Mr:F2:=(F2.mk 49 [] (ab [aa 8 1,aq 9 .add 8 1,aa 6 9] (block 0 ((ab [aa 10 6,aa 11 2,aN 12 .lss 10 11] (au 12 skip (exit 0))).seq ((block 1 (ab [aa 15 6,aa 7 15] (block 2 (((mixS 1 [aa 16 7,aa 17 1,aN 18 .gtr 16 17,aa 19 18,ao 20 19 (cM 0),ao 21 19 (cM 7),ao 22 19 (ixaS 1 (t 20) (t 21)),ao 23 19 (cD 22),ao 24 19 (cM 0),ao 25 19 (cM 7),ao 26 19 (cB .sub (t 25) (cN 1)),ao 27 19 (ixaS 1 (t 24) (t 26)),ao 28 19 (cD 27),ao 29 19 (call (cF 187) [t 23,t 28]),cO 30 (pick (t 19) (t 29) bb)] [(0,0),(1,0),(2,0),(3,0),(4,0),(5,0),(6,0),(7,0),(8,0),(9,0),(10,0),(11,0),(12,0),(13,2),(14,0)]).seq (au 30 skip (exit 2))).seq ((block 3 (ops 1 [aa 33 0,aa 34 7,aa 35 0,aa 36 7,aq 37 .sub 36 1,aa 38 0,aa 39 7,aq 40 .sub 39 1,cO 41 (ixaS 1 (t 38) (t 40)),aC 42 41,aa 43 0,aa 44 7,cO 45 (ixaS 1 (t 43) (t 44)),aC 46 45,cO 47 (ixaS 1 (t 33) (t 34)),bB 1 47 42,cO 48 (ixaS 1 (t 35) (t 37)),bB 1 48 46])).seq (ops 0 [aa 31 7,aq 32 .sub 31 1,aa 7 32]))).loop))).seq (ops 0 [aa 13 6,aq 14 .add 13 1,aa 6 14]))).loop)))
theorem Og:Is Tryz.prog 189 Mr:=mkI Tryz.func189
def Lh:F2:=(F2.mk 82 [] (ab [aa 12 1,aa 10 12] (block 0 (block 1 (ab [aa 13 10,cO 14 (cB .mul (cN 2) (t 13)),aq 15 .add 14 1,aa 11 15] ((ab [aa 16 11,aa 17 2,aN 18 .geq 16 17] (au 18 (exit 0) skip)).seq (((mixS 1 [aa 19 11,aq 20 .add 19 1,aa 21 2,aN 22 .lss 20 21,aa 23 22,ao 24 23 (cM 4),ao 25 23 (cM 0),ao 26 23 (cM 3),ao 27 23 (cM 11),ao 28 23 (cB .add (t 26) (t 27)),ao 29 23 (ixaS 1 (t 25) (t 28)),ao 30 23 (cD 29),ao 31 23 (cM 0),ao 32 23 (cM 3),ao 33 23 (cM 11),ao 34 23 (cB .add (t 32) (t 33)),ao 35 23 (cB .add (t 34) (cN 1)),ao 36 23 (ixaS 1 (t 31) (t 35)),ao 37 23 (cD 36),ao 38 23 (call (t 24) [t 30,t 37]),ao 39 23 (cB .lss (t 38) (cN 0)),cO 40 (pick (t 23) (t 39) bb)] [(0,0),(1,0),(2,0),(3,0),(4,0),(5,0),(6,0),(7,0),(8,0),(9,0),(10,0),(11,0),(12,0),(13,0),(14,0),(15,0),(16,0),(17,0),(18,0),(19,2),(20,0),(21,0)]).seq (au 40 (ops 0 [aa 41 11,aq 42 .add 41 1,aa 11 42]) skip)).seq (((mixS 1 [aa 43 4,aa 44 0,aa 45 3,aa 46 10,aN 47 .add 45 46,cO 48 (ixaS 1 (t 44) (t 47)),aC 49 48,aa 50 0,aa 51 3,aa 52 11,aN 53 .add 51 52,cO 54 (ixaS 1 (t 50) (t 53)),aC 55 54,cO 56 (call (t 43) [t 49,t 55]),aq 57 .lss 56 0,cO 58 (un UnOp.not (t 57))] [(0,0),(1,0),(2,0),(3,0),(4,0),(5,0),(6,0),(7,0),(8,0),(9,0),(10,0),(11,0),(12,0),(13,2),(14,0),(15,0)]).seq (au 58 ret skip)).seq ((ops 1 [aa 59 0,aa 60 3,aa 61 10,aN 62 .add 60 61,aa 63 0,aa 64 3,aa 65 11,aN 66 .add 64 65,aa 67 0,aa 68 3,aa 69 11,aN 70 .add 68 69,cO 71 (ixaS 1 (t 67) (t 70)),aC 72 71,aa 73 0,aa 74 3,aa 75 10,aN 76 .add 74 75,cO 77 (ixaS 1 (t 73) (t 76)),aC 78 77,cO 79 (ixaS 1 (t 59) (t 62)),bB 1 79 72,cO 80 (ixaS 1 (t 63) (t 66)),bB 1 80 78]).seq (ops 0 [aa 81 11,aa 10 81]))))))).loop)))
theorem LK:Is Tryz.prog 197 Lh:=mkI Tryz.func197
def Mv:F2:=(F2.mk 7 [RV.t 2] (ab [cO 2 (mov (c (AV.int IntKind.u64 (0))))] (ab [aa 3 0,cO 4 (conv IntKind.u64 (t 3)),aE 5 156 [t 4],cO 6 (cB .shl (c (AV.int IntKind.u64 (1))) (t 5)),aa 2 6] ret)))
theorem N0:Is Tryz.prog 198 Mv:=mkI Tryz.func198
def Mn:F2:=(F2.mk 33 [RV.t 2] (ab [cO 2 (mov (c (AV.int IntKind.u64 (0))))] ((ops 1 [aa 3 0,cO 4 (nilck (t 3)),aC 5 4,aa 6 0,cO 7 (nilck (t 6)),aC 8 7,cO 9 (cB .shl (t 8) (c (AV.int IntKind.u64 (13)))),aN 10 .xor 5 9,cO 11 (nilck (t 3)),bB 1 11 10]).seq ((ops 1 [aa 12 0,cO 13 (nilck (t 12)),aC 14 13,aa 15 0,cO 16 (nilck (t 15)),aC 17 16,cO 18 (cB .shr (t 17) (c (AV.int IntKind.u64 (7)))),aN 19 .xor 14 18,cO 20 (nilck (t 12)),bB 1 20 19]).seq ((ops 1 [aa 21 0,cO 22 (nilck (t 21)),aC 23 22,aa 24 0,cO 25 (nilck (t 24)),aC 26 25,cO 27 (cB .shl (t 26) (c (AV.int IntKind.u64 (17)))),aN 28 .xor 23 27,cO 29 (nilck (t 21)),bB 1 29 28]).seq (ab [aa 30 0,cO 31 (nilck (t 30)),aC 32 31,aa 2 32] ret))))))
theorem L6:Is Tryz.prog 199 Mn:=mkI Tryz.func199
def Lu:F2:=(F2.mk 18 [RV.t 8] (ab [cO 8 (mov (cN 0))] (ab [aa 9 0,aa 10 1,aq 11 .sub 10 1,aa 12 1,aa 13 1,aq 14 .add 13 1,aa 15 2,aa 16 3,aE 17 201 [t 9,t 11,t 12,t 14,t 15,t 16],aa 8 17] ret)))
theorem Lf:Is Tryz.prog 200 Lu:=mkI Tryz.func200
def L0:F2:=(F2.mk 41 [RV.t 12] (ab [cO 12 (mov (cN 0))] (ab [aa 14 0,aa 15 1,aa 16 2,aa 17 4,aa 18 5,aE 19 208 [t 14,t 15,t 16,t 17,t 18],aa 13 19,aS 20 13 0,aS 21 13 1,aa 1 20,aa 2 21] (ab [aa 23 0,aa 24 2,aa 25 3,aa 26 4,aa 27 5,aE 28 208 [t 23,t 24,t 25,t 26,t 27],aa 22 28,aS 29 22 0,aS 30 22 1,aa 2 29,aa 3 30] (ab [aa 32 0,aa 33 1,aa 34 2,aa 35 4,aa 36 5,aE 37 208 [t 32,t 33,t 34,t 35,t 36],aa 31 37,aS 38 31 0,aS 39 31 1,aa 1 38,aa 2 39] (ab [aa 40 2,aa 12 40] ret))))))
theorem M8:Is Tryz.prog 201 L0:=mkI Tryz.func201
def L5:F2:=(F2.mk 32 [RV.t 10,RV.t 11] (ab [cO 10 (mov (cN 0)),cO 11 (mov (cN 0))] (((mixS 1 [aa 12 4,aa 13 0,aa 14 2,cO 15 (ixaS 1 (t 13) (t 14)),aC 16 15,aa 17 0,aa 18 1,cO 19 (ixaS 1 (t 17) (t 18)),aC 20 19,cO 21 (call (t 12) [t 16,t 20]),aq 22 .lss 21 0] [(0,0),(1,0),(2,0),(3,0),(4,0),(5,0),(6,0),(7,0),(8,0),(9,2),(10,0)]).seq (au 22 (ab [aa 23 3,cO 24 (nilck (t 23)),aC 25 24,aq 26 .add 25 1,cO 27 (nilck (t 23)),bB 1 27 26] (ab [aa 28 2,aa 29 1,aa 10 28,aa 11 29] ret)) skip)).seq (ab [aa 30 1,aa 31 2,aa 10 30,aa 11 31] ret))))
theorem Ly:Is Tryz.prog 208 L5:=mkI Tryz.func208
end Go.Proofs.YtekdaafnjdlenaaGreat
namespace Go.Proofs.YtekdaafnjdlenaaGreat
open Go Go.Abs
open Nat (reduceEqDiff reduceAdd reduceLeDiff)
def swp{α:Type}[Inhabited α](L:List α)(i j:Nat):List α:=(L.set i (L.getD j default)).set j (L.getD i default)
structure PermR{α:Type}[Inhabited α](a b:Nat)(L L':List α):Prop where
 len:L'.length=L.length
 out:∀i,i<a\/b<=i->L'.getD i default=L.getD i default
 perm:L'.Perm L
section
variable{α:Type}[Inhabited α]{a b a' b':Nat}{L L' L'':List α}
theorem dX{l:List α}{i j:Nat}{x:α}(h:i<l.length):(l.set i x).getD j default=if i=j then x else l.getD j default:=by
 simp only[List.getD,List.getElem?_set];split
 ·rename_i e;subst e;simp[h]
 ·rfl
theorem CK(i j:Nat):(swp L i j).length=L.length:=by simp[swp]
theorem fk{i j:Nat}(hi:i<L.length)(hj:j<L.length)(k:Nat):(swp L i j).getD k default=if k=j then L.getD i default else if k=i then L.getD j default else L.getD k default:=by
 unfold swp;rw[dX (by simpa using hj),dX hi];by_cases e:k=j
 ·subst e;simp
 ·rw[if_neg (λh=>e h.symm),if_neg e];by_cases e2:k=i
  ·subst e2;simp
  ·rw[if_neg (λh=>e2 h.symm),if_neg e2]
theorem Ga{i j:Nat}(hi:i<L.length)(hj:j<L.length):(swp L i j).Perm L:=by
 unfold swp;have e1:L.getD i default=L[i]:=by simp[List.getD,hi]
 have e2:L.getD j default=L[j]:=by simp[List.getD,hj]
 rw[e1,e2];exact List.set_set_perm hi hj
theorem PermR.refl:PermR a b L L:=⟨rfl,λ_ _=>rfl,List.Perm.refl _⟩
theorem PermR.trans(h:PermR a b L L')(k:PermR a b L' L''):PermR a b L L'':=⟨k.len.trans h.len,λi hi=>(k.out i hi).trans (h.out i hi),k.perm.trans h.perm⟩
theorem PermR.mono(h:PermR a' b' L L')(h1:a<=a')(h2:b'<=b):PermR a b L L':=⟨h.len,λi hi=>h.out i (by omega),h.perm⟩
theorem PermR.swap{i j:Nat}(h1:a<=i/\i<b)(h2:a<=j/\j<b)(hb:b<=L.length):PermR a b L (swp L i j):=
 ⟨CK i j,λk hk=>by rw[fk (by omega) (by omega),if_neg (by omega),if_neg (by omega)],Ga (by omega) (by omega)⟩
theorem zE{l m:List α}(hl:l.length=m.length)(h:∀i,i<l.length->l.getD i default=m.getD i default):l=m:=
 List.ext_getElem hl (fun i h1 h2=>by
  have:=h i h1;simpa[List.getD,h1,h2] using this)
theorem PermR.mid(h:PermR a b L L')(hab:a<=b)(hb:b<=L.length):((L'.drop a).take (b-a)).Perm ((L.drop a).take (b-a)):=by
 have e1:∀M:List α,b<=M.length->M=M.take a++((M.drop a).take (b-a)++M.drop b):=λM hM=>by
  have:M.drop b=(M.drop a).drop (b-a):=by rw[List.drop_drop];congr 1;omega
  rw[this,G5,G5]
 have t:L'.take a=L.take a:=zE (by simp [h.len]) (fun i hi=>by
  have hi':i<a:=by simp at hi;omega
  rw[qM hi',qM hi'];exact h.out i (.inl hi'))
 have d:L'.drop b=L.drop b:=zE (by simp [h.len]) (fun i hi=>by
  have e:∀M:List α,(M.drop b).getD i default=M.getD (b+i) default:=λM=>by simp[List.getD,n6]
  rw[e,e];exact h.out (b+i) (.inr (by omega)))
 have p:=h.perm;rw[e1 L' (by rw[h.len];exact hb),e1 L hb,t,d] at p;exact(List.perm_append_right_iff _).1 ((List.perm_append_left_iff _).1 p)
theorem Cg{M:List α}{x:α}(hab:a<=b)(hb:b<=M.length):x∈(M.drop a).take (b-a)↔ ∃i,a<=i/\i<b/\M.getD i default=x:=by
 constructor
 ·intro h;obtain⟨j,hj,e⟩:=jO h;have hj':j<b-a:=by simp at hj;omega
  refine⟨a+j,by omega,by omega,?_⟩;rw[<-e];simp[List.getD,List.getElem_take,List.getElem_drop,show a+j<M.length by omega]
 ·rintro⟨i,h1,h2,rfl⟩;rw[List.mem_iff_getElem?];refine⟨i-a,?_⟩;rw[jy,if_pos (by omega),n6,show a+(i-a)=i by omega];simp[List.getD,show i<M.length by omega]
theorem PermR.all{p:α->Prop}(h:PermR a b L L')(hab:a<=b)(hb:b<=L.length)(hp:∀i,a<=i->i<b->p (L.getD i default)):∀i,a<=i->i<b->p (L'.getD i default):=by
 intro i h1 h2;have hm:L'.getD i default∈(L'.drop a).take (b-a):=(Cg hab (by rw[h.len];exact hb)).2 ⟨i,h1,h2,rfl⟩;obtain⟨j,k1,k2,e⟩:=(Cg hab hb).1 ((h.mid hab hb).mem_iff.1 hm);rw[<-e];exact hp j k1 k2
end
structure Ord{α:Type}(K:α->α->Int):Prop where
 irr:∀x,¬K x x<0
 asym:∀x y,K x y<0->¬K y x<0
 negtr:∀x y z,¬K y x<0->¬K z y<0->¬K z x<0
def bA{α:Type}[Inhabited α](K:α->α->Int)(a b:Nat)(L:List α):Prop:=∀i j,a<=i->i<j->j<b->¬K (L.getD j default) (L.getD i default)<0
theorem bA.one{α:Type}[Inhabited α]{K:α->α->Int}{a b:Nat}{L:List α}(h:b<=a+1):bA K a b L:=λi j h1 h2 h3=>by omega
structure LinK{α:Type}(K:α->α->Int):Prop where
 ord:Ord K
 eq:∀x y,¬K x y<0->¬K y x<0->x=y
def bO{α:Type}(K:α->α->Int)(l:List α):Prop:=l.Pairwise λx y=>K x y<0
def lO{α:Type}(K:α->α->Int):List α->α->List α
 |[],v=>[v]
 |a::l,v=>if K v a<0 then v::a::l else a::lO K l v
section
variable{α:Type}[DecidableEq α]{K:α->α->Int}
def mC(K:α->α->Int)(acc:List α)(v:α):List α:=if v∈acc then acc else lO K acc v
def qF(K:α->α->Int)(acc l:List α):List α:=l.foldl (mC K) acc
def mL(K:α->α->Int)(l:List α):List α:=qF K [] l
omit [DecidableEq α] in
theorem bO.nil:bO K ([]:List α):=od
omit [DecidableEq α] in
theorem bO.nodup{l:List α}(hK:LinK K)(h:bO K l):l.Nodup:=u0 (λ{a b} h e=>by subst e;exact hK.ord.irr a h) h
omit [DecidableEq α] in
theorem LinK.tri(hK:LinK K)(x y:α):K x y<0\/x=y\/K y x<0:=by
 by_cases h1:K x y<0
 ·exact .inl h1
 ·by_cases h2:K y x<0
  ·exact .inr (.inr h2)
  ·exact .inr (.inl (hK.eq x y h1 h2))
omit [DecidableEq α] in
theorem LinK.trans(hK:LinK K){x y z:α}(h1:K x y<0)(h2:K y z<0):K x z<0:=by
 refine Decidable.byContradiction λhn=>?_;exact hK.ord.negtr z x y hn (hK.ord.asym _ _ h1) h2
omit [DecidableEq α] in
theorem nV{a b:List α}(hK:LinK K)(ha:bO K a)(hb:bO K b)(h:∀x,x∈a↔x∈b):a=b:=by
 classical
 have hp:a.Perm b:=(List.perm_ext_iff_of_nodup (ha.nodup hK) (hb.nodup hK)).2 h;exact List.Perm.eq_of_pairwise (λx y _ _ h1 h2=>absurd h2 (hK.ord.asym _ _ h1)) ha hb hp
omit [DecidableEq α] in
theorem AR{l:List α}{v x:α}:x∈lO K l v↔x∈l\/x=v:=by
 induction l with
 |nil=>simp[lO]
 |cons a l ih=>
  unfold lO;split
  ·simp only[dt];exact⟨λh=>h.elim .inr .inl,λh=>h.elim .inr .inl⟩
  ·rw[dt,ih,dt,or_assoc]
omit [DecidableEq α] in
theorem E5{l:List α}{v:α}(hK:LinK K)(h:bO K l)(hv:v∉l):bO K (lO K l v):=by
 induction l with
 |nil=>exact List.pairwise_singleton _ _
 |cons a l ih=>
  unfold bO at h;rw[iR] at h;unfold lO;split
  ·rename_i hlt
   exact iR.2 ⟨fun y hy=>by
    rcases dt.1 hy with rfl|hy
    ·exact hlt
    ·exact hK.trans hlt (h.1 y hy),iR.2 h⟩
  ·rename_i hlt;refine iR.2 ⟨λy hy=>?_,ih h.2 λhm=>hv (dU _ hm)⟩;rcases AR.1 hy with hy|rfl
   ·exact h.1 y hy
   ·rcases hK.tri y a with k|k|k
    ·exact absurd k hlt
    ·exact absurd (k▸de) hv
    ·exact k
omit [DecidableEq α] in
theorem zZ{l:List α}{v:α}:(lO K l v).length=l.length+1:=by
 induction l with
 |nil=>rfl
 |cons a l ih=>unfold lO;split<;>simp[ih]
theorem GJ{acc:List α}{v x:α}:x∈mC K acc v↔x∈acc\/x=v:=by
 unfold mC;split
 ·rename_i h;exact⟨.inl,λh2=>h2.elim id (λe=>e▸h)⟩
 ·exact AR
theorem G6{acc:List α}{v:α}(hK:LinK K)(h:bO K acc):bO K (mC K acc v):=by
 unfold mC;split
 ·exact h
 ·rename_i hn;exact E5 hK h hn
theorem EO{acc:List α}{v:α}:(mC K acc v).length<=acc.length+1:=by
 unfold mC;split
 ·omega
 ·rw[zZ];exact aP _
theorem Al:∀{l acc:List α}{x:α},x∈qF K acc l↔x∈acc\/x∈l
 |[],acc,x=>by simp[qF]
 |v::l,acc,x=>by
  rw[show qF K acc (v::l)=qF K (mC K acc v) l from rfl,Al,GJ,dt,or_assoc]
theorem Az(hK:LinK K):∀{l acc:List α},bO K acc->bO K (qF K acc l)
 |[],_,h=>h
 |v::l,acc,h=>Az hK (l:=l) (G6 hK (v:=v) h)
theorem z9:∀{l acc:List α},(qF K acc l).length<=acc.length+l.length
 |[],acc=>by simp[qF]
 |v::l,acc=>by
  rw[show qF K acc (v::l)=qF K (mC K acc v) l from rfl];have:=z9 (l:=l) (acc:=mC K acc v);have:=EO (K:=K) (acc:=acc) (v:=v);rw[bS];omega
theorem EH{acc l:List α}{v:α}:qF K acc (l++[v])=mC K (qF K acc l) v:=by
 unfold qF;rw[List.foldl_append];rfl
theorem tu(hK:LinK K)(l:List α):bO K (mL K l):=Az hK od
theorem m9{l:List α}{x:α}:x∈mL K l↔x∈l:=by
 unfold mL;rw[Al];simp
theorem pF{l:List α}:(mL K l).length<=l.length:=by
 have:=z9 (K:=K) (l:=l) (acc:=[]);unfold mL;rw[fJ] at this;omega
theorem HJ(hK:LinK K){l:List α}(h:bO K l):mL K l=l:=nV hK (tu hK l) h λ_=>m9
theorem DG{l:List α}{v:α}:mL K (l++[v])=mC K (mL K l) v:=EH
theorem zL{l:List α}:mL K l=[]↔l=[]:=by
 constructor
 ·intro h;cases l with
  |nil=>rfl
  |cons a l=>
   have:a∈mL K (a::l):=m9.2 (de ..);rw[h] at this;exact absurd this (by simp)
 ·rintro rfl;rfl
end
section
variable{α:Type}[Inhabited α][DecidableEq α]
end
abbrev Shn{α:Type}(l:List α):Prop:=l.length<=17592186044416
structure Vtx where
 color:Int
 label:Int
 deriving Inhabited,DecidableEq
abbrev Spx:=List Vtx
def EL(v:Vtx):List AV:=[.int .i64 v.color,.int .i64 v.label]
abbrev dL(v:Vtx):AV:=.agg [.int .i64 v.color,.int .i64 v.label]
def aB(l:Spx):AV:=jx 2 dL l
def aj(l:List Spx):AV:=jx 1 aB l
def cX(l:Spx):List AV:=l.flatMap EL
theorem GC(v:Vtx):Dat (dL v):=Dat.agg (DatL.cons .int (DatL.cons .int DatL.nil))
theorem cW (l:Spx):Dat (aB l):=sS (fun x _ c hc=>by
 simp only[dL,AV.cells,dt,List.not_mem_nil,or_false] at hc;rcases hc with rfl|rfl<;>exact .int)
theorem bm (l:List Spx):Dat (aj l):=sS (fun x _ c hc=>by
 simp only[aB,jx,AV.cells,dg] at hc;subst hc;exact cW x)
instance datI_encX{v:Vtx}:DatI (dL v):=⟨GC v⟩
instance datI_encXs{l:Spx}:DatI (aB l):=⟨cW l⟩
instance datI_encXss{l:List Spx}:DatI (aj l):=⟨bm l⟩
theorem aJ{l:Spx}:(aB l).cells=[aB l]:=rfl
theorem aY{l:Spx}:(aB l).one=true:=rfl
theorem af{l:List Spx}:(aj l).cells=[aj l]:=rfl
theorem ai{l:List Spx}:(aj l).one=true:=rfl
theorem B1{l:Spx}{k:IntKind}{n:Int}:eF 2 (aB l) (.int k n)=if 0<=n/\n<l.length then some (.iptr [.int .i64 (l.getD n.toNat default).color,.int .i64 (l.getD n.toNat default).label] 0) else none:=nu
theorem ap{l:Spx}:dz (aB l)=some (.int .i64 l.length):=lR
theorem r6{l:List Spx}{k:IntKind}{n:Int}:eF 1 (aj l) (.int k n)=if 0<=n/\n<l.length then some (.iptr [aB (l.getD n.toNat default)] 0) else none:=nu
theorem ae{l:List Spx}:dz (aj l)=some (.int .i64 l.length):=lR
theorem ix2{l:Spx}{k:Nat}(h:k<l.length):eF 2 (aB l) (.int .i64 (k:Int))=some (.iptr [.int .i64 (l.getD k default).color,.int .i64 (l.getD k default).label] 0):=by
 rw[B1,if_pos ⟨by omega,by omega⟩,cE]
theorem dC{l:List Spx}{k:Nat}(h:k<l.length):eF 1 (aj l) (.int .i64 (k:Int))=some (.iptr [aB (l.getD k default)] 0):=by
 rw[r6,if_pos ⟨by omega,by omega⟩,cE]
theorem iu(l:Spx):(cX l).length=l.length*2:=by
 induction l with
 |nil=>rfl
 |cons a l ih=>rw[cX,vj,da,bS,show(l.flatMap EL).length=l.length*2 from ih];show 2+_=_;omega
theorem nw(l m:Spx):cX (l++m)=cX l++cX m:=List.flatMap_append
theorem JQ(v:Vtx):cX [v]=[.int .i64 v.color,.int .i64 v.label]:=rfl
theorem B3(l:Spx):(l.map dL).flatMap AV.cells=cX l:=by
 induction l with
 |nil=>rfl
 |cons a l ih=>rw[fF,vj,ih];rfl
theorem Hj{H:Hp}{s:AV}{l:Spx}(h:Row H 2 s (cX l)):Snap H s (aB l):=by
 refine Row.snap (elems:=l.map dL) (by rw[B3];exact h) (λy hy=>?_) (by omega) (λy hy c hx=>?_)
 ·obtain⟨n,_,rfl⟩:=bE.1 hy;rfl
 ·obtain⟨n,_,rfl⟩:=bE.1 hy;simp only[dL,AV.cells,dt,List.not_mem_nil,or_false] at hx;rcases hx with rfl|rfl<;>exact .int
theorem gc{H:Hp}{s:AV}{l:List Spx}(h:Row H 1 s (l.map aB)):Snap H s (aj l):=h.snapL' (λ_=>rfl) (λx _=>cW x)
theorem wg{H:Hp}{l:Spx}:gI 2 H (aB l)=some (l.length,cX l):=by
 unfold aB jx;rw[kr,B3];simp
theorem lB(l:Spx):AV.ones (cX l)=true:=by
 unfold AV.ones;rw[ey];intro x hx;obtain⟨v,_,hv⟩:=List.mem_flatMap.1 hx;simp only[EL,dt,List.not_mem_nil,or_false] at hv;rcases hv with rfl|rfl<;>rfl
def cz(v w:Vtx):Int:=if v.color<w.color then-1 else if v.color>w.color then 1 else if v.label<w.label then-1 else if v.label>w.label then 1 else 0
def bg:Spx->Spx->Int
 |[],[]=>0
 |[],_::_=>-1
 |_::_,[]=>1
 |a::l,b::m=>if cz a b≠0 then cz a b else bg l m
theorem pj{v w:Vtx}:cz v w<0↔v.color<w.color\/(v.color=w.color/\v.label<w.label):=by
 unfold cz;(repeat' split)<;>constructor<;>intro h<;>omega
theorem o9{v w:Vtx}:v=w↔v.color=w.color/\v.label=w.label:=by
 obtain⟨a,b⟩:=v;obtain⟨c,d⟩:=w;simp
theorem jG{v w:Vtx}:cz v w=0↔v=w:=by
 rw[o9];unfold cz;(repeat' split)<;>constructor<;>intro h<;>omega
theorem v7(v w:Vtx):cz w v=- cz v w:=by
 unfold cz;(repeat' split)<;>omega
theorem A1:LinK cz where
 ord:={irr:=λx=>by rw[pj];omega,asym:=λx y h=>by rw[pj] at *;omega,negtr:=λx y z h1 h2=>by rw[pj] at *;omega}
 eq:=λx y h1 h2=>by rw[pj] at *;rw[o9];omega
theorem gB:∀l:Spx,bg l l=0
 |[]=>rfl
 |a::l=>by rw[bg,jG.2 rfl,if_neg (by simp)];exact gB l
theorem pY:∀{l m:Spx},bg l m=0->l=m
 |[],[],_=>rfl
 |[],_::_,h=>by simp[bg] at h
 |_::_,[],h=>by simp[bg] at h
 |a::l,b::m,h=>by
  rw[bg] at h;by_cases e:cz a b=0
  ·rw[if_neg (λh=>h e)] at h;rw[jG.1 e,pY h]
  ·rw[if_pos e] at h;exact absurd h e
theorem wI{l m:Spx}:bg l m=0↔l=m:=⟨pY,λh=>by rw[h];exact gB _⟩
theorem qE:∀l m:Spx,bg m l=- bg l m
 |[],[]=>rfl
 |[],_::_=>rfl
 |_::_,[]=>rfl
 |a::l,b::m=>by
  rw[bg,bg,v7 a b];by_cases e:cz a b=0
  ·rw[e,if_neg (by simp),if_neg (by simp)];exact qE l m
  ·rw[if_pos (by omega),if_pos e]
theorem sU:∀(x y z:Spx),¬bg y x<0->¬bg z y<0->¬bg z x<0
 |[],_,[],_,_=>by simp[bg]
 |[],_,_::_,_,_=>by simp[bg]
 |_::_,[],_,h,_=>by simp[bg] at h
 |_::_,_::_,[],_,h=>by simp[bg] at h
 |a::x,b::y,c::z,h1,h2=>by
  rw[bg] at h1 h2 |-;have n:=A1.ord.negtr a b c;by_cases e1:cz b a=0
  ·have e1':=jG.1 e1;subst e1';rw[if_neg (λh=>h e1)] at h1;by_cases e2:cz c b=0
   ·rw[if_neg (λh=>h e2)] at h2 |-;exact sU x y z h1 h2
   ·rw[if_pos e2] at h2 |-;exact h2
  ·rw[if_pos e1] at h1;by_cases e2:cz c b=0
   ·have e2':=jG.1 e2;subst e2';rw[if_pos e1];exact h1
   ·rw[if_pos e2] at h2;have h3:=n h1 h2;by_cases e3:cz c a=0
    ·exfalso;have e3':=jG.1 e3;subst e3';have:=v7 b c;omega
    ·rw[if_pos e3];exact h3
theorem iC:LinK bg where
 ord:={irr:=λx=>by rw[gB];omega,asym:=λx y h=>by rw[qE];omega,negtr:=sU}
 eq:=λx y h1 h2=>by
  have:=qE x y;exact pY (by omega)
theorem wS{l m:Spx}{k:Nat}(h1:k<l.length)(h2:k<m.length):bg (l.drop k) (m.drop k)=if cz (l.getD k default) (m.getD k default)≠0 then cz (l.getD k default) (m.getD k default) else bg (l.drop (k+1)) (m.drop (k+1)):=by
 rw[fK h1,fK h2,bg]
theorem uz{l m:Spx}{k:Nat}(h:l.length<=k\/m.length<=k)(hk:k<=l.length/\k<=m.length):bg (l.drop k) (m.drop k)=if l.length<m.length then-1 else if m.length<l.length then 1 else 0:=by
 by_cases e1:l.length=k
 ·rw[F1 (show l.length<=k by omega)];by_cases e2:m.length=k
  ·rw[F1 (by omega),if_neg (by omega),if_neg (by omega)];rfl
  ·rw[fK (l:=m) (k:=k) (by omega),if_pos (by omega)];rfl
 ·have e2:m.length=k:=by omega
  rw[fK (l:=l) (k:=k) (by omega),F1 (show m.length<=k by omega),if_neg (by omega),if_pos (by omega)];rfl
def dW(f:Nat->Int):Nat->Int
 |0=>0
 |n+1=>if dW f n≠0 then dW f n else f n
theorem dl{f:Nat->Int}:∀{n:Nat},(∀i,i<n->f i=0)->dW f n=0
 |0,_=>rfl
 |n+1,h=>by
  have:=dl (f:=f) (n:=n) (λi hi=>h i (by omega));rw[dW,this,if_neg (by simp)];exact h n (by omega)
theorem cL{f:Nat->Int}:∀{n k:Nat},k<n->(∀i,i<k->f i=0)->f k≠0->dW f n=f k
 |0,k,h,_,_=>absurd h (by omega)
 |n+1,k,h,h0,hk=>by
  rw[dW];by_cases e:k=n
  ·subst e;rw[dl h0,if_neg (by simp)]
  ·rw[cL (n:=n) (by omega) h0 hk,if_pos hk]
theorem ia{f:Nat->Int}:∀{n:Nat},dW f n=0->∀i,i<n->f i=0
 |0,_,i,h=>absurd h (by omega)
 |n+1,h,i,hi=>by
  rw[dW] at h;by_cases e:dW f n=0
  ·rw[e,if_neg (by simp)] at h;by_cases ei:i=n
   ·subst ei;exact h
   ·exact ia e i (by omega)
  ·rw[if_pos e] at h;exact absurd h e
def gd(v:Vtx):Bool:=decide (0<=v.color)&&decide (v.color<8)&&(decide (0<=v.label)&&decide (v.label<=1048576))
def rK(l:Spx)(k:Nat):Int:=if gd (l.getD k default)=false then 2 else if 0<k/\0<=cz (l.getD (k-1) default) (l.getD k default) then 14 else 0
def bW(l:Spx):Int:=if l.length=0 then 16 else if 8<l.length then 5 else dW (rK l) l.length
theorem bX{l:Spx}(h:bW l=0):1<=l.length/\l.length<=8/\bO cz l/\∀v∈l,gd v=true:=by
 unfold bW at h;split at h
 ·exact absurd h (by decide)
 split at h
 ·exact absurd h (by decide)
 rename_i h1 h2;have hz:=ia h
 have h3:∀k,k<l.length->gd (l.getD k default)=true/\(0<k->cz (l.getD (k-1) default) (l.getD k default)<0):=λk hk=>by
  have:=hz k hk;unfold rK at this;split at this
  ·exact absurd this (by decide)
  rename_i g1;split at this
  ·exact absurd this (by decide)
  rename_i g2;exact⟨by simpa using g1,λh0=>by omega⟩
 refine⟨by omega,by omega,?_,λv hv=>?_⟩
 ·have step:∀j i,i<j->j<l.length->cz (l.getD i default) (l.getD j default)<0:=by
    intro j
    induction j with
    |zero=>intro i h;omega
    |succ j ih=>
     intro i hi hj;have hs:=(h3 (j+1) hj).2 (by omega);rw[qJ] at hs;by_cases e:i=j
     ·subst e;exact hs
     ·exact A1.trans (ih i (by omega) (by omega)) hs
  unfold bO;rw[kX];intro i j hi hj hij;have:=step j i hij hj;simpa[List.getD,hi,hj] using this
 ·obtain⟨i,hi,rfl⟩:=jO hv;have:=(h3 i hi).1;simpa[List.getD,hi] using this
theorem dY{α:Type}[Inhabited α]{K:α->α->Int}{l:List α}(h:bO K l){i j:Nat}(hij:i<j)(hj:j<l.length):K (l.getD i default) (l.getD j default)<0:=by
 have:=kX.1 h i j (by omega) hj hij;simpa[List.getD,hj,show i<l.length by omega] using this
theorem zK{l:Spx}(h1:1<=l.length/\l.length<=8)(h2:bO cz l)(h3:∀v∈l,gd v=true):bW l=0:=by
 unfold bW;rw[if_neg (by omega),if_neg (by omega)];refine dl λk hk=>?_;unfold rK;rw[h3 _ (bc hk),if_neg (by simp),if_neg];rintro⟨h0,h4⟩;have:=dY h2 (i:=k-1) (j:=k) (by omega) hk;omega
def c3i(a b:Int):Int:=if a<b then-1 else if a>b then 1 else 0
theorem HP(v w:Vtx):(if c3i v.color w.color≠0 then c3i v.color w.color else c3i v.label w.label)=cz v w:=by
 unfold c3i cz;by_cases h1:v.color<w.color
 ·rw[if_pos h1,if_pos h1,if_pos (by simp)]
 ·rw[if_neg h1,if_neg h1];by_cases h2:v.color>w.color
  ·rw[if_pos h2,if_pos h2,if_pos (by simp)]
  ·rw[if_neg h2,if_neg h2,if_neg (by simp)]
section
attribute [local irreducible] aK an bk a5 aR aU aF aV a8 bu Go.Abs.Fn aZ Go.Abs.Pure az aL Yl
theorem jM(n:Int):pU 165 [.int .i64 n] (.bool false):=by
 refine pO LH ?_;simp only[N4,aH];refine wnZ and_self ?_;exact cC (aQ (λh=>h rfl))
theorem Fv(a b:Int):pU 152 [.int .i64 a,.int .i64 b] (.int .i64 (c3i a b)):=by
 refine pO L2 ?_;simp only[Lx,aH];have h1:=jM a;have h2:=jM b;unfold c3i
 repeat' (first|refine zW ?_|apply a_n|apply a_r|refine zO ?_|refine vZ ?_|refine cZ ?_ (hp:=by first|exact h1|exact h2)|refine cFZ ?_|(refine zGZ ?_ ?_<;>(intro _hg;try (exfalso;omega)))|refine b6 rfl ?_|refine r1Z ?_|fail)
 all_goals (refine eh ?_)
 ·rw[if_pos (by omega)]
 ·rw[if_neg (by omega),if_pos (by omega)]
 ·rw[if_neg (by omega),if_neg (by omega)]
theorem MZ(a b:Int):pU 151 [aD [a,b]] (.int .i64 (if a≠0 then a else b)):=by
 refine pO Lm ?_;simp only[MO,aH];refine wnZ and_self ?_;refine C7 (λk=>[(3,.int .i64 0),(6,aD [a,b]),(7,.int .i64 2),(8,.int .i64 k)]) 2 (λk=>[a,b].getD k default=0) (by(iterate 4 refine And.intro rfl ?_);trivial) ?_;intro k hk hz;rcases(by omega:k=0\/k=1\/k=2) with rfl|rfl|rfl
 ·have e:[a,b].getD 0 default=a:=rfl;have ix:eF 1 (aD [a,b]) (.int .i64 ((0:Nat):Int))=some (.iptr [.int .i64 a] 0):=rfl;by_cases h0:a=0
  ·have z:decide (a≠0)=false:=aQ (λh=>h h0);refine wnZ (aI @ix @z) ?_;exact⟨by omega,h0,by(iterate 4 refine And.intro rfl ?_);trivial,rfl,rfl⟩
  ·have z:decide (a≠0)=true:=aM h0;refine wnZ (aI @ix @z) ?_;rw[if_pos h0];exact .int _ _
 ·have h0:a=0:=hz 0 (by omega);have ix:eF 1 (aD [a,b]) (.int .i64 ((1:Nat):Int))=some (.iptr [.int .i64 b] 0):=rfl;rw[if_neg (λh=>h h0)];by_cases h1:b=0
  ·have z:decide (b≠0)=false:=aQ (λh=>h h1);refine wnZ (aI @ix @z) ?_;exact⟨by omega,h1,by(iterate 4 refine And.intro rfl ?_);trivial,rfl,rfl⟩
  ·have z:decide (b≠0)=true:=aM h1;refine wnZ (aI @ix @z) ?_;exact .int _ _
 ·have h0:a=0:=hz 0 (by omega);have h1:b=0:=hz 1 (by omega);rw[if_neg (λh=>h h0),h1];refine wnZ and_self ?_;exact .int _ _
theorem Cf(v w:Vtx):pU 123 [dL v,dL w] (.int .i64 (cz v w)):=by
 refine pO Mi ?_;simp only[Oe,aH];have h1:=Fv v.color w.color;have h2:=Fv v.label w.label;have h3:=MZ (c3i v.color w.color) (c3i v.label w.label);rw[HP] at h3;refine wkZ and_self ?_;refine ez ev0 (by((try simp only[ce,ZA,reduceEqDiff,↓reduceIte,reduceAdd,reduceLeDiff]);(try with_reducible rfl));rfl) h3 (aG (ag (ew ah rfl rfl) ak) rfl) ?_;refine wnZ and_self ?_;exact .int _ _
theorem uQ(v w:Vtx):pU 126 [dL v,dL w] (.int .i64 (cz v w)):=by
 refine pO KZ ?_;simp only[LI,aH];unfold cz
 repeat' (first|refine zW ?_|apply a_n|apply a_r|refine zO ?_|refine vZ ?_|refine bxZ ?_|(refine zGZ ?_ ?_<;>(intro _hg;try (exfalso;omega)))|refine b6 rfl ?_|refine r1Z ?_|fail)
 all_goals (refine eh ?_;(repeat' split)<;>omega)
theorem BI(v:Vtx):pU 153 [dL v] (.bool (gd v)):=by
 refine pO NS ?_;simp only[Nt,aH];unfold gd
 repeat' (first|refine zW ?_|apply a_n|refine zO ?_|refine vZ ?_|refine bxZ ?_|refine gTZ ?_|refine gFZ ?_|(refine zGZ ?_ ?_<;>(intro _hg;try (exfalso;omega)))|refine b6 rfl ?_|refine r1Z ?_|fail)
 all_goals (refine cC ?_;rw[Bool.eq_iff_iff];simp only[dT,yn,kj,false_iff];omega)
theorem Ev(v:Vtx):pU 125 [dL v] (.bool (gd v)):=by
 refine pO LB ?_;simp only[MB,aH];unfold gd
 repeat' (first|refine zW ?_|apply a_n|refine zO ?_|refine vZ ?_|refine bxZ ?_|refine gTZ ?_|refine gFZ ?_|(refine zGZ ?_ ?_<;>(intro _hg;try (exfalso;omega)))|refine b6 rfl ?_|refine r1Z ?_|fail)
 all_goals (refine cC ?_;rw[Bool.eq_iff_iff];simp only[dT,yn,kj,false_iff];omega)
theorem AF(l m:Spx)(hl:Shn l)(hm:Shn m):pU 122 [aB l,aB m,.func 123 []] (.int .i64 (bg l m)):=by
 refine pO Nf ?_;simp only[LY,aH];have hl':l.length<=17592186044416:=hl;have hm':m.length<=17592186044416:=hm;refine wnZ @ap ?_;refine bZ (X:=Nat) (λk=>[(0,aB l),(1,aB m),(2,.func 123 []),(11,aB l),(12,.int .i64 l.length),(13,.int .i64 k)]) (λk H nx=>k<=l.length/\k<=m.length/\bg l m=bg (l.drop k) (m.drop k)) (λk=>l.length-k) 0 ⟨bC _,bC _,rfl⟩ ag0 ?_;rintro k H nx ⟨h1,h2,h3⟩;by_cases hk:k<l.length
 rotate_left
 ·rw[h3,uz (by omega) ⟨h1,h2⟩];have zz:=@ap;repeat' (first|refine zW ?_|apply a_n|apply a_x|apply a_r|refine zO ?_|refine vY ?_|(refine zGY ?_ ?_<;>(intro _hg;try (exfalso;omega)))|refine b6 rfl ?_|refine r1Y ?_|fail)
  all_goals (refine eh ?_)
  ·rw[if_pos (by omega)]
  ·rw[if_neg (by omega),if_neg (by omega)]
 have ix:=ix2 hk;by_cases hk2:k<m.length
 rotate_left
 ·rw[h3,uz (by omega) ⟨h1,h2⟩,if_neg (by omega),if_pos (by omega)];refine wnY (aI @ap @ix) ?_
  all_goals exact eh rfl
 have iy:=ix2 hk2;have hc:=Cf (l.getD k default) (m.getD k default);have hd:=wS hk hk2;by_cases he:cz (l.getD k default) (m.getD k default)=0
 ·rw[if_neg (λh=>h he)] at hd;rw[he] at hc;have z:decide ((0:Int)≠0)=false:=rfl;refine wnY (zI4 @ap @ix @iy @z) ?_;exact⟨k+1,by omega,⟨by omega,by omega,h3.trans hd⟩,ag0⟩
 ·rw[if_pos he] at hd;have z:decide (cz (l.getD k default) (m.getD k default)≠0)=true:=aM he;rw[h3,hd];refine wnY (zI4 @ap @ix @iy @z) ?_;exact .int _ _
theorem im(l m:Spx)(hl:Shn l)(hm:Shn m):pU 70 [aB l,aB m] (.int .i64 (bg l m)):=by
 refine pO PC ?_;simp only[b70,aH];have h:=AF l m hl hm;refine wnZ and_self ?_;exact .int _ _
theorem gw(l m:Spx)(hl:Shn l)(hm:Shn m):pU 73 [aB l,aB m] (.int .i64 (bg l m)):=by
 refine pO OY ?_;simp only[b73,aH];have hl':l.length<=17592186044416:=hl;have hm':m.length<=17592186044416:=hm;refine wnZ and_self ?_;refine bZ (X:=Nat) (λk=>[(0,aB l),(1,aB m),(5,.int .i64 k)]) (λk H nx=>k<=l.length/\k<=m.length/\bg l m=bg (l.drop k) (m.drop k)) (λk=>l.length-k) 0 ⟨bC _,bC _,rfl⟩ ag0 ?_;rintro k H nx ⟨h1,h2,h3⟩;by_cases hk:k<l.length/\k<m.length
 rotate_left
 ·rw[h3,uz (by omega) ⟨h1,h2⟩];have zz:=@ap;repeat' (first|refine zW ?_|apply a_n|apply a_x|apply a_r|refine zO ?_|refine vY ?_|refine gTY ?_|refine gFY ?_|refine cFY ?_|(refine zGY ?_ ?_<;>(intro _hg;try (exfalso;omega)))|refine b6 rfl ?_|refine r1Y ?_|fail)
  all_goals (refine eh ?_;(repeat' split)<;>omega)
 have ix:=ix2 hk.1;have iy:=ix2 hk.2;have hc:=uQ (l.getD k default) (m.getD k default);have hd:=wS hk.1 hk.2;by_cases he:cz (l.getD k default) (m.getD k default)=0
 ·rw[if_neg (λh=>h he)] at hd;rw[he] at hc;have z:decide ((0:Int)≠0)=false:=rfl;refine wkY (zI4 @ap @ix @iy @z) ?_;exact⟨k+1,by omega,⟨by omega,by omega,h3.trans hd⟩,ag0⟩
 ·rw[if_pos he] at hd;have z:decide (cz (l.getD k default) (m.getD k default)≠0)=true:=aM he;rw[h3,hd];refine wkY (zI4 @ap @ix @iy @z) ?_;exact .int _ _
theorem Cn(l m:Spx)(hl:Shn l)(hm:Shn m):pU 63 [aB l,aB m] (.bool (decide (l=m))):=by
 refine pO OU ?_;simp only[b63,aH];have h:=gw l m hl hm;refine wnZ and_self ?_;exact cC (decide_eq_decide.2 wI)
theorem rW{l:Spx}{k:Nat}:rK l k=if gd (l.getD k default)=false then 2 else if 0<k/\0<=cz (l.getD (k-1) default) (l.getD k default) then 14 else 0:=rfl
theorem qb(l:Spx)(hl:Shn l):pU 128 [aB l] (.int .i64 (bW l)):=by
 refine pO L8 ?_;simp only[NV,aH];have hl':l.length<=17592186044416:=hl;by_cases h0:l.length=0
 ·rw[show bW l=16 by unfold bW;rw[if_pos h0]];refine wnZ @ap ?_
  all_goals exact eh rfl
 by_cases h8:8<l.length
 ·rw[show bW l=5 by unfold bW;rw[if_neg h0,if_pos h8]];refine wnZ @ap ?_
  all_goals exact eh rfl
 rw[show bW l=dW (rK l) l.length by unfold bW;rw[if_neg h0,if_neg h8]];refine wnZ @ap ?_;refine bZ (X:=Nat) (λk=>[(0,aB l),(13,aB l),(14,.int .i64 l.length),(15,.int .i64 k)]) (λk H nx=>k<=l.length/\∀i,i<k->rK l i=0) (λk=>l.length-k) 0 ⟨bC _,λi h=>absurd h (by omega)⟩ ag0 ?_;rintro k H nx ⟨h1,h2⟩;by_cases hk:k<l.length
 rotate_left
 ·rw[dl λi hi=>h2 i (by omega)];refine wnY @ap ?_;exact .int _ _
 have ix:=ix2 hk;have hp:=BI (l.getD k default);have hs:=rW (l:=l) (k:=k);cases hr:gd (l.getD k default)
 ·rw[hr] at hp;rw[hr,if_pos rfl] at hs;rw[cL hk h2 (by rw[hs];decide),hs];refine wnY (aI @ap @ix) ?_;exact .int _ _
 rw[hr] at hp;rw[hr,if_neg (by decide)] at hs;by_cases hk0:0<k
 rotate_left
 ·rw[if_neg (λh=>hk0 h.1)] at hs;have zk:decide (0<(k:Int))=false:=aQ (by omega);refine wkY (zI3 @ap @ix @zk) ?_
  exact ⟨k + 1,by omega,⟨by omega,fun i hi=>by
   rcases ij.1 hi with h|rfl
   ·exact h2 i h
   ·exact hs⟩,ag0⟩
 have zk:decide (0<(k:Int))=true:=aM (by omega)
 have iy:eF 2 (aB l) (.int .i64 ((k:Int)-1))=some (.iptr [.int .i64 (l.getD (k-1) default).color,.int .i64 (l.getD (k-1) default).label] 0):=by
  have:=ix2 (l:=l) (k:=k-1) (by omega)
  rwa [show((k-1:Nat):Int)=(k:Int)-1 by omega] at this
 have hc:=Cf (l.getD (k-1) default) (l.getD k default);by_cases hv:0<=cz (l.getD (k-1) default) (l.getD k default)
 ·have z:decide (0<=cz (l.getD (k-1) default) (l.getD k default))=true:=aM hv;rw[if_pos ⟨hk0,hv⟩] at hs;rw[cL hk h2 (by rw[hs];decide),hs];refine wkY (zI5 @ap @ix @iy @zk @z) ?_;exact .int _ _
 ·have z:decide (0<=cz (l.getD (k-1) default) (l.getD k default))=false:=aQ hv;rw[if_neg (λh=>hv h.2)] at hs;refine wkY (zI5 @ap @ix @iy @zk @z) ?_
  exact ⟨k + 1,by omega,⟨by omega,fun i hi=>by
   rcases ij.1 hi with h|rfl
   ·exact h2 i h
   ·exact hs⟩,ag0⟩
theorem xC(l:Spx)(hl:Shn l):pU 72 [aB l] (.int .i64 (bW l)):=by
 refine pO Pb ?_;simp only[b72,aH];have hl':l.length<=17592186044416:=hl;by_cases h0:l.length=0
 ·rw[show bW l=16 by unfold bW;rw[if_pos h0]];refine wnZ @ap ?_
  all_goals exact eh rfl
 by_cases h8:8<l.length
 ·rw[show bW l=5 by unfold bW;rw[if_neg h0,if_pos h8]];refine wnZ @ap ?_
  all_goals exact eh rfl
 rw[show bW l=dW (rK l) l.length by unfold bW;rw[if_neg h0,if_neg h8]];refine wnZ @ap ?_;refine bZ (X:=Nat) (λk=>[(0,aB l),(3,.int .i64 k)]) (λk H nx=>k<=l.length/\∀i,i<k->rK l i=0) (λk=>l.length-k) 0 ⟨bC _,λi h=>absurd h (by omega)⟩ ag0 ?_;rintro k H nx ⟨h1,h2⟩;by_cases hk:k<l.length
 rotate_left
 ·rw[dl λi hi=>h2 i (by omega)];refine wnY @ap ?_;exact .int _ _
 have ix:=ix2 hk;have hp:=Ev (l.getD k default);have hs:=rW (l:=l) (k:=k);cases hr:gd (l.getD k default)
 ·rw[hr] at hp;rw[hr,if_pos rfl] at hs;rw[cL hk h2 (by rw[hs];decide),hs];refine wnY (aI @ap @ix) ?_;exact .int _ _
 rw[hr] at hp;rw[hr,if_neg (by decide)] at hs;by_cases hk0:0<k
 rotate_left
 ·rw[if_neg (λh=>hk0 h.1)] at hs;have zk:decide (0<(k:Int))=false:=aQ (by omega);refine wkY (zI3 @ap @ix @zk) ?_
  exact ⟨k + 1,by omega,⟨by omega,fun i hi=>by
   rcases ij.1 hi with h|rfl
   ·exact h2 i h
   ·exact hs⟩,ag0⟩
 have zk:decide (0<(k:Int))=true:=aM (by omega)
 have iy:eF 2 (aB l) (.int .i64 ((k:Int)-1))=some (.iptr [.int .i64 (l.getD (k-1) default).color,.int .i64 (l.getD (k-1) default).label] 0):=by
  have:=ix2 (l:=l) (k:=k-1) (by omega)
  rwa [show((k-1:Nat):Int)=(k:Int)-1 by omega] at this
 have hc:=uQ (l.getD (k-1) default) (l.getD k default);by_cases hv:0<=cz (l.getD (k-1) default) (l.getD k default)
 ·have z:decide (0<=cz (l.getD (k-1) default) (l.getD k default))=true:=aM hv;rw[if_pos ⟨hk0,hv⟩] at hs;rw[cL hk h2 (by rw[hs];decide),hs];refine wkY (zI5 @ap @ix @iy @zk @z) ?_;exact .int _ _
 ·have z:decide (0<=cz (l.getD (k-1) default) (l.getD k default))=false:=aQ hv;rw[if_neg (λh=>hv h.2)] at hs;refine wkY (zI5 @ap @ix @iy @zk @z) ?_
  exact ⟨k + 1,by omega,⟨by omega,fun i hi=>by
   rcases ij.1 hi with h|rfl
   ·exact h2 i h
   ·exact hs⟩,ag0⟩
end
end Go.Proofs.YtekdaafnjdlenaaGreat
