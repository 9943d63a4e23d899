/- Contracts of functions and plain laws, for all inputs that the theorems name. -/
import Derived.Test.YtekdaafnjdlenaaGreatXG2
import Derived.ChangeArms
import Derived.Carry
import Derived.Deep.Slices
import Derived.Lib.SmallJoins
import Derived.Test.YtekdaafnjdlenaaGreatProg
import Derived.KernelRfl

set_option linter.unusedSimpArgs false
set_option linter.unusedVariables false
set_option maxHeartbeats 4000000
namespace Go.Abs
open Go.RowKit
variable{P:Program}{T:Tm}{H:Hp}{nx:Nat}
theorem Ja{K:CP}(h:K .normal T H nx):aK P .skip T H nx K:=h
theorem Jm{K:CP}{i:Nat}(h:K (.exit i) T H nx):aK P (.exit i) T H nx K:=h
theorem Md{K:CP}(h:K .ret T H nx):aK P .ret T H nx K:=h
theorem I5{K:CP}{l:List Op2}(h:ak P .text l T H nx λT H nx=>K .normal T H nx):aK P (.ops 0 l) T H nx K:=⟨T,H,nx,_,Gh.refl _ _ _,h⟩
theorem w_mix1{K:CP}{l:List Op2}{C:List Nat}(h:ak P .draw l T H nx λT H nx=>K .normal T H nx):aK P (.mix 1 l C) T H nx K:=.inl ⟨by decide,T,H,nx,_,Gh.refl _ _ _,h⟩
theorem pS{K:CP}{l:List Op2}{C:List Nat}(h:ak P (.fresh nx) l T H nx λT H nx=>K .normal T H nx):aK P (.mix 2 l C) T H nx K:=.inl ⟨by decide,T,H,nx,_,Gh.refl _ _ _,h⟩
theorem IR{K:CP}{m:Nat}{l alt:List Op2}{C:List Nat}(ha:(C.map λk=>l.getD k ⟨none,none,.dead⟩)=alt)(h:ak P .text alt T H nx λT H nx=>K .normal T H nx):aK P (.mix m l C) T H nx K:=by
 subst ha;exact .inr ⟨T,H,nx,_,Gh.refl _ _ _,h⟩
theorem wK{K:CP}{l alt:List Op2}{C:List Nat}(ha:(C.map λk=>l.getD k ⟨none,none,.dead⟩)=alt)(h:ak P .text alt T H nx λT H nx=>K .normal T H nx):aK P (.mix 9 l C) T H nx K:=IR ha h
theorem G3{K:CP}{l:List Op2}{C:List (Nat×Nat)}(h:ak P .draw l T H nx λT H nx=>K .normal T H nx):aK P (.mixS 1 l C) T H nx K:=.inl ⟨by decide,T,H,nx,_,Gh.refl _ _ _,h⟩
theorem GA{K:CP}{l:List Op2}{C:List (Nat×Nat)}(h:ak P (.fresh nx) l T H nx λT H nx=>K .normal T H nx):aK P (.mixS 2 l C) T H nx K:=.inl ⟨by decide,T,H,nx,_,Gh.refl _ _ _,h⟩
theorem wZ(S:Hp){K:CP}{m:Nat}{l:List Op2}{alt:List (Op2×Nat)}{C:List (Nat×Nat)}(ha:(C.map λk=>(l.getD k.1 ⟨none,none,.dead⟩,k.2))=alt)(hs:Sub S H)(h:bf P S alt T H nx λT H nx=>K .normal T H nx):aK P (.mixS m l C) T H nx K:=by
 subst ha;exact .inr ⟨T,H,nx,_,S,Gh.refl _ _ _,hs,h⟩
theorem JE(S:Hp){K:CP}{l:List Op2}{f:Nat×Nat}{C D:List (Nat×Nat)}(hs:Sub S H)(h:gM P S (l.getD f.1 ⟨none,none,.dead⟩,f.2) (D.map λk=>(l.getD k.1 ⟨none,none,.dead⟩,k.2)) (C.map λk=>(l.getD k.1 ⟨none,none,.dead⟩,k.2)) T H nx λT H nx=>K .normal T H nx):aK P (.mixF l f C D) T H nx K:=⟨T,H,nx,_,S,Gh.refl _ _ _,hs,h⟩
theorem Kd{S:Hp}{K:SP}{f:Op2×Nat}{l2:List (Op2×Nat)}(h:bf P S (f::l2) T H nx K):gM P S f l2 [] T H nx K:=h
theorem HZ{S:Hp}{K:SP}{f:Op2×Nat}{l l2:List (Op2×Nat)}{o:Op2}{k:Nat}(h:bf P S [(o,k)] T H nx λT H nx=>gM P S f l2 l T H nx K)(hk:¬(k=1\/k=2):=by decide):gM P S f l2 ((o,k)::l) T H nx K:=⟨λq=>absurd q hk,h⟩
theorem Km{S:Hp}{K:SP}{f x:Op2×Nat}{l l2:List (Op2×Nat)}(h1:bf P S (f::x::(l++l2)) T H nx K)(h2:bf P S [x] T H nx λT H nx=>gM P S f l2 l T H nx K):gM P S f l2 (x::l) T H nx K:=⟨λ_=>h1,h2⟩
theorem uW{S:Hp}{K:SP}(h:K T H nx):bf P S [] T H nx K:=h
theorem Ih{S:Hp}{K:SP}{l:List (Op2×Nat)}{d:Option Nat}{i:Ins}{r:AV}(h:bX T S i=some r)(k:bf P S l (aP T d r) H nx K):bf P S ((⟨d,none,i⟩,0)::l) T H nx K:=by
 show aE (bX T S i) λr=>bf P S l (aP T d r) H nx K;rw[h];exact k
theorem H7{S:Hp}{K:SP}{l:List (Op2×Nat)}{d:Option Nat}{len:Nat}{z cs:List AV}{parts:List (Nat×Nat×Opd)}{pv:List (Nat×Nat×AV)}(hp:parts.map (λp=>(p.1,p.2.1,ov T p.2.2))=pv)(hc:en (bz (.agg z) len) pv=some cs)(hl:len≠0)(hn:cs.length=len)(ho:cs.all AV.one=true)
    (k:bf P S l (aP T d (.sl 1 cs)) H nx K):bf P S ((⟨d,none,.bldS 1 len z parts⟩,3)::l) T H nx K:=by
 show aE (uH T (.bldS 1 len z parts)) _
 have:uH T (.bldS 1 len z parts)=some (.sl 1 cs):=by
  simp only[uH,jL,hl,if_false,hp,hc,sk,ar,if_true,hn];rw[if_pos ⟨trivial,hl,ho⟩]
 rw[this];exact k
theorem J3{S:Hp}{K:SP}{l:List (Op2×Nat)}{d:Option Nat}{i:Ins}{r:AV}(h:ilk T S i=some r)(k:bf P S l (aP T d r) H nx K):bf P S ((⟨d,none,i⟩,4)::l) T H nx K:=by
 show aE (ilk T S i) λr=>bf P S l (aP T d r) H nx K;rw[h];exact k
theorem dW{S:Hp}{K:SP}{l:List (Op2×Nat)}{d:Option Nat}{i:Ins}(k:ak P .text [⟨d,none,i⟩] T H nx λT H nx=>Sub S H/\bf P S l T H nx K):bf P S ((⟨d,none,i⟩,1)::l) T H nx K:=by
 have k:bg P .text i T H nx λr H nx=>Sub S H/\bf P S l (aP T d r) H nx K:=k;show bg P .text i T H nx λr H' nx'=>(0=0->Sub S H')/\bf P S l (aP T d r) H' nx' K;exact nr k (λ_ _ _ h=>⟨λ_=>h.1,h.2⟩)
theorem jr{S:Hp}{K:SP}{l:List (Op2×Nat)}{d:Option Nat}{i:Ins}(k:ak P .text [⟨d,none,i⟩] T H nx λT H nx=>bf P S l T H nx K):bf P S ((⟨d,none,i⟩,2)::l) T H nx K:=by
 have k:bg P .text i T H nx λr H nx=>bf P S l (aP T d r) H nx K:=k;show bg P .text i T H nx λr H' nx'=>(1=0->Sub S H')/\bf P S l (aP T d r) H' nx' K;exact nr k (λ_ _ _ h=>⟨λhh=>absurd hh (by decide),h⟩)
theorem JM{K:CP}{l:List Op2}(h:ak P .draw l T H nx λT H nx=>K .normal T H nx):aK P (.ops 1 l) T H nx K:=⟨T,H,nx,_,Gh.refl _ _ _,h⟩
theorem IW{K:CP}{l:List Op2}(h:ak P (.fresh nx) l T H nx λT H nx=>K .normal T H nx):aK P (.ops 2 l) T H nx K:=⟨T,H,nx,_,Gh.refl _ _ _,h⟩
theorem dJ{K:CP}{x y:C2}(h:aK P x T H nx λe T H nx=>aQ e (aK P y T H nx K) (K e T H nx)):aK P (.seq x y) T H nx K:=h
theorem lq{K:CP}{i:Nat}{b:C2}(h:aK P b T H nx λe T H nx=>K (ql i e) T H nx):aK P (.block i b) T H nx K:=h
theorem Aq{K:CP}{c:Opd}{x y:C2}{b:Bool}(hc:ov T c=.bool b)(h1:b=true->aK P x T H nx K)(h2:b=false->aK P y T H nx K):aK P (.cond c x y) T H nx K:=by
 simp only[aK,hc];exact⟨h1,h2⟩
theorem BW{K:CP}{c:Opd}{x y:C2}(hc:ov T c=.bool true)(h1:aK P x T H nx K):aK P (.cond c x y) T H nx K:=
 Aq hc (λ_=>h1) (λh=>by cases h)
theorem Ch{K:CP}{c:Opd}{x y:C2}(hc:ov T c=.bool false)(h2:aK P y T H nx K):aK P (.cond c x y) T H nx K:=
 Aq hc (λh=>by cases h) (λ_=>h2)
theorem Jb{K:CP}{b:C2}(h:a6 (aK P b) T H nx K):aK P (.loop b) T H nx K:=h
theorem a_n{A B:Prop}(h:A):aQ .normal A B:=h
theorem a_x{A B:Prop}{i:Nat}(h:B):aQ (.exit i) A B:=h
theorem a_r{A B:Prop}(h:B):aQ .ret A B:=h
theorem jT{dm:DM}{K:SP}(h:K T H nx):ak P dm [] T H nx K:=h
theorem nN{dm:DM}{K:SP}{l:List Op2}{d:Option Nat}{i:Ins}{r:AV}(hi:ic i=.val)(hd:dm2 dm T i=true)(h:bX T H i=some r)(k:ak P dm l (aP T d r) H nx K):ak P dm (⟨d,none,i⟩::l) T H nx K:=by
 show bg P dm i T H nx λr H nx=>ak P dm l (aP T d r) H nx K;unfold bg;rw[hi];exact⟨hd,by rw[h];exact k⟩
theorem nU{dm:DM}{K:SP}{l:List Op2}{d:Option Nat}{i:Ins}{r:AV}{H':Hp}{nx':Nat}(hi:ic i=.eff)(hd:dm2 dm T i=true)(h:jL T H nx i=some (r,H',nx'))(k:ak P dm l (aP T d r) H' nx' K):ak P dm (⟨d,none,i⟩::l) T H nx K:=by
 show bg P dm i T H nx λr H nx=>ak P dm l (aP T d r) H nx K;unfold bg;rw[hi];exact⟨hd,by rw[h];exact k⟩
theorem A1{K:SP}{l:List Op2}{d:Option Nat}{f:Opd}{args:List Opd}{g:FuncId}{caps:List AV}(hf:ov T f=.func g caps)(k:Fn P g (args.map (ov T)++caps) H nx λr H nx=>ak P .text l (aP T d r) H nx K):
    ak P .text (⟨d,none,.call f args⟩::l) T H nx K:=by
 left;show aE (pd (ov T f)) _;rw[hf];exact k
theorem Cf{dm:DM}(hdm:dm.isText=false){K:SP}{l:List Op2}{d:Option Nat}{f:Opd}{args:List Opd}{g:FuncId}{caps:List AV}(hf:ov T f=.func g caps)(k:a5 P g (args.map (ov T)++caps) H λr=>ak P dm l (aP T d r) H nx K):
    ak P dm (⟨d,none,.call f args⟩::l) T H nx K:=by
 left;show aE (pd (ov T f)) _;rw[hf];show(match dm.isText with|false=>_|true=>_);rw[hdm];exact k
theorem xz{K:SP}{l:List Op2}{d:Option Nat}{f:Opd}{args:List Opd}{b:Nat}{xs:List AV}(hf:ov T f=.yld b)(ha:args.map (ov T)=xs)(k:Yl P b xs H nx λr H nx=>ak P .text l (aP T d r) H nx K):
    ak P .text (⟨d,none,.call f args⟩::l) T H nx K:=by
 right;exact⟨rfl,.inl ⟨b,hf,by rw[ha];exact k⟩⟩
theorem lM{K:SP}{l:List Op2}{d:Option Nat}{i:Ins}(hi:ic i=.sp)(k:isp i T H nx λr H nx=>ak P .text l (aP T d r) H nx K):ak P .text (⟨d,none,i⟩::l) T H nx K:=by
 show bg P .text i T H nx λr H nx=>ak P .text l (aP T d r) H nx K;unfold bg;rw[hi];exact⟨rfl,k⟩
theorem u0{K:SP}{l:List Op2}{d:Option Nat}(k:ak P .text l (aP T d (.mp nx)) (ar H nx [.omap [] []]) (nx+1) K):ak P .text (⟨d,none,.mkm none⟩::l) T H nx K:=lM rfl ⟨.inl rfl,.inl k⟩
theorem pN{K:SP}{l:List Op2}{d:Option Nat}{kk:MK}{m key x:Opd}{b:Nat}{ks vs:List AV}{kv xv:AV}{r:Option Nat}(hm:ov T m=.mp b)(hb:H b=some [.omap ks vs])(hk:ov T key=kv)(hx:ov T x=xv)(hfit:jG kk kv=true)(hr:dh kk kv ks=some r)
    (k:ak P .text l (aP T d (.tup [])) (ar H b [.omap (cU kv r ks) (gd xv r vs)]) nx K):ak P .text (⟨d,none,.mput kk m key x⟩::l) T H nx K:=by
 subst hk hx;exact lM rfl (.inl ⟨b,ks,vs,r,hm,hb,hfit,hr,k⟩)
theorem ju{K:SP}{l:List Op2}{d:Option Nat}{kk:MK}{z:AV}{ok:Bool}{m key:Opd}{b:Nat}{ks vs:List AV}{kv:AV}{r:Option Nat}(hm:ov T m=.mp b)(hb:H b=some [.omap ks vs])(hk:ov T key=kv)(hfit:jG kk kv=true)(hr:dh kk kv ks=some r)
    (k:ak P .text l (aP T d (mget z ok r vs)) H nx K):ak P .text (⟨d,none,.mget kk z ok m key⟩::l) T H nx K:=by
 subst hk;exact lM rfl (.inl ⟨b,ks,vs,r,hm,hb,hfit,hr,k⟩)
theorem FJ{K:SP}{l:List Op2}{d:Option Nat}{kk:MK}{z:AV}{m key:Opd}{b:Nat}{ks vs:List AV}{kv:AV}{r:Option Nat}(hm:ov T m=.mp b)(hb:H b=some [.omap ks vs])(hk:ov T key=kv)(hfit:jG kk kv=true)(hr:dh kk kv ks=some r)
    (k:ak P .text l (aP T d (.tup [CC z r vs,.int .i64 (Au r ks)])) (ar H b [.omap (cU kv r ks) (nA z r vs)]) nx K):ak P .text (⟨d,none,.mplc kk z m key⟩::l) T H nx K:=by
 subst hk;exact lM rfl ⟨b,ks,vs,r,hm,hb,hfit,hr,k⟩
theorem Em{K:SP}{l:List Op2}{d:Option Nat}{m s x:Opd}{b i:Nat}{ks vs:List AV}{xv:AV}(hm:ov T m=.mp b)(hb:H b=some [.omap ks vs])(hi:ov T s=.int .i64 (i:Int))(hlt:i<ks.length)(hx:ov T x=xv)
    (k:ak P .text l (aP T d (.tup [])) (ar H b [.omap ks (vs.set i xv)]) nx K):ak P .text (⟨d,none,.mpst m s x⟩::l) T H nx K:=by
 subst hx;exact lM rfl ⟨b,ks,vs,i,hm,hb,hi,hlt,k⟩
theorem Je{K:SP}{l:List Op2}{d:Option Nat}{m:Opd}{b:Nat}{ks vs:List AV}(hm:ov T m=.mp b)(hb:H b=some [.omap ks vs])(k:ak P .text l (aP T d (.itr nx)) (ar H nx [.oiter b ks.length []]) (nx+1) K):ak P .text (⟨d,none,.mrng m⟩::l) T H nx K:=lM rfl (.inl ⟨b,ks,vs,hm,hb,k⟩)
theorem JN{K:SP}{l:List Op2}{d:Option Nat}{it:Opd}{b m n0:Nat}{seen:List Nat}{ks vs:List AV}(hi:ov T it=.itr b)(hb:H b=some [.oiter m n0 seen])(hm:H m=some [.omap ks vs])(hkn:ks.length=n0)
    (h1:∀i,i<ks.length->i∉seen->ak P .text l (aP T d (.tup [.bool true,ks.getD i .undef,vs.getD i .undef])) (ar H b [.oiter m n0 (seen++[i])]) nx K)
    (h2:(∀i,i<n0->i<ks.length->i∈seen)->ak P .text l (aP T d (.tup [.bool false])) H nx K):ak P .text (⟨d,none,.mnxt it⟩::l) T H nx K:=lM rfl (.inl ⟨b,m,n0,seen,ks,vs,hi,hb,hm,hkn,h1,h2⟩)
theorem Jd{K:SP}{l:List Op2}{d:Option Nat}{it:Opd}{b m n0 i:Nat}{seen:List Nat}{ks vs:List AV}(hi:ov T it=.itr b)(hb:H b=some [.oiter m n0 seen])(hm:H m=some [.omap ks vs])(hkn:ks.length=n0)(hl:seen.getLast?=some i)(hlt:i<ks.length)
    (k:ak P .text l (aP T d (.tup [ks.getD i .undef,vs.getD i .undef])) H nx K):ak P .text (⟨d,none,.ment it⟩::l) T H nx K:=lM rfl (.inl ⟨b,m,n0,i,seen,ks,vs,hi,hb,hm,hkn,hl,hlt,k⟩)
theorem IM{K:SP}{l:List Op2}{d:Option Nat}(k:ak P .text l (aP T d (.mp nx)) (ar H nx [.bmap [] [] [] 0]) (nx+1) K):ak P .text (⟨d,none,.mkm none⟩::l) T H nx K:=lM rfl ⟨.inl rfl,.inr k⟩
theorem HS{K:SP}{l:List Op2}{d:Option Nat}{kk:MK}{m key x:Opd}{b:Nat}{ks vs:List AV}{bs:List Nat}{ck:Nat}{kv xv:AV}{r:Option Nat}(hm:ov T m=.mp b)(hb:H b=some [.bmap ks vs bs ck])(hk:ov T key=kv)(hx:ov T x=xv)(hfit:jG kk kv=true)(hr:dh kk kv ks=some r)
    (k:ak P .text l (aP T d (.tup [])) (ar H b [.bmap (cU kv r ks) (gd xv r vs) (qK ck r bs) (uV ck r)]) nx K):ak P .text (⟨d,none,.mput kk m key x⟩::l) T H nx K:=by
 subst hk hx;exact lM rfl (.inr ⟨b,ks,vs,bs,ck,r,hm,hb,hfit,hr,k⟩)
theorem Jh{K:SP}{l:List Op2}{d:Option Nat}{kk:MK}{m key:Opd}{b:Nat}{ks vs:List AV}{bs:List Nat}{ck:Nat}{kv:AV}{r:Option Nat}(hm:ov T m=.mp b)(hb:H b=some [.bmap ks vs bs ck])(hk:ov T key=kv)(hfit:jG kk kv=true)(hr:dh kk kv ks=some r)
    (k:ak P .text l (aP T d (.tup [])) (ar H b [.bmap (lH r ks) (lH r vs) (lH r bs) ck]) nx K):ak P .text (⟨d,none,.mdel kk m key⟩::l) T H nx K:=by
 subst hk;exact lM rfl ⟨b,ks,vs,bs,ck,r,hm,hb,hfit,hr,k⟩
theorem BI{K:SP}{l:List Op2}{d:Option Nat}{kk:MK}{z:AV}{ok:Bool}{m key:Opd}{b:Nat}{ks vs:List AV}{bs:List Nat}{ck:Nat}{kv:AV}{r:Option Nat}(hm:ov T m=.mp b)(hb:H b=some [.bmap ks vs bs ck])(hk:ov T key=kv)(hfit:jG kk kv=true)(hr:dh kk kv ks=some r)
    (k:ak P .text l (aP T d (mget z ok r vs)) H nx K):ak P .text (⟨d,none,.mget kk z ok m key⟩::l) T H nx K:=by
 subst hk;exact lM rfl (.inr ⟨b,ks,vs,bs,ck,r,hm,hb,hfit,hr,k⟩)
theorem Hn{K:SP}{l:List Op2}{d:Option Nat}{m:Opd}{b:Nat}{ks vs:List AV}{bs:List Nat}{ck:Nat}(hm:ov T m=.mp b)(hb:H b=some [.bmap ks vs bs ck])(k:ak P .text l (aP T d (.itr nx)) (ar H nx [.biter b ck []]) (nx+1) K):ak P .text (⟨d,none,.mrng m⟩::l) T H nx K:=lM rfl (.inr ⟨b,ks,vs,bs,ck,hm,hb,k⟩)
theorem G9{K:SP}{l:List Op2}{d:Option Nat}{it:Opd}{b m ck:Nat}{seen bs:List Nat}{ks vs:List AV}(hi:ov T it=.itr b)(hb:H b=some [.biter m ck seen])(hm:H m=some [.bmap ks vs bs ck])
    (h1:∀(i s:Nat),bs[i]?=some s->s∉seen->ak P .text l (aP T d (.tup [.bool true,ks.getD i .undef,vs.getD i .undef])) (ar H b [.biter m ck (seen++[s])]) nx K)
    (h2:(∀s∈bs,s∈seen)->ak P .text l (aP T d (.tup [.bool false])) H nx K):ak P .text (⟨d,none,.mnxt it⟩::l) T H nx K:=lM rfl (.inr ⟨b,m,ck,seen,ks,vs,bs,hi,hb,hm,h1,h2⟩)
theorem GB{K:SP}{l:List Op2}{d:Option Nat}{it:Opd}{b m ck i s:Nat}{seen bs:List Nat}{ks vs:List AV}(hi:ov T it=.itr b)(hb:H b=some [.biter m ck seen])(hm:H m=some [.bmap ks vs bs ck])(hl:seen.getLast?=some s)(hbi:bs[i]?=some s)
    (k:ak P .text l (aP T d (.tup [ks.getD i .undef,vs.getD i .undef])) H nx K):ak P .text (⟨d,none,.ment it⟩::l) T H nx K:=lM rfl (.inr ⟨b,m,ck,i,s,seen,ks,vs,bs,hi,hb,hm,hl,hbi,k⟩)
theorem Ik{K:SP}{l:List Op2}{d:Option Nat}{sz n:Nat}{x y:Opd}{H':Hp}(h:sQ sz (ov T x) (ov T y) H=some (n,H'))(k:ak P .text l (aP T d (.int .i64 n)) H' nx K):ak P .text (⟨d,none,.cpy sz x y⟩::l) T H nx K:=lM rfl ⟨n,H',h,k⟩
theorem Iv{K:SP}{l:List Op2}{d:Option Nat}{len sz:Nat}{x:Opd}{b n off:Nat}{cs:List AV}(hx:ov T x=.ptr b n off)(hb:H b=some cs)(hn:cs.length=n)(hf:off+len*sz=n)(k:ak P .text l (aP T d (.msl b n sz off len)) H nx K):ak P .text (⟨d,none,.slp len sz x⟩::l) T H nx K:=lM rfl ⟨b,n,off,cs,hx,hb,hn,hf,k⟩
theorem wz{K:SP}{l:List Op2}{d:Option Nat}{neg:Bool}{x:Opd}{k:Nat}(hx:fF (ov T x)=some k)(h1:0<k->ak P .text l (aP T d (.bool neg)) H nx K)(h2:k=0->ak P .text l (aP T d (.bool true)) H nx K)(h3:k=0->ak P .text l (aP T d (.bool false)) H nx K):ak P .text (⟨d,none,.snil neg x⟩::l) T H nx K:=lM rfl ⟨k,hx,h1,λh=>⟨h2 h,h3 h⟩⟩
theorem Gf{K:CP}{g:Opd}{ps:List Nat}{a b:C2}{f:FuncId}{caps:List AV}(hg:ov T g=.func f caps)
    (h:∀ (c0:AV) (cj:AEx→AV),(∀ (args:List AV) (H':Hp) (nx':Nat) (K':AV→Hp→Nat→Prop),H' nx=some [c0]→args.length=ps.length →
        aK P a (kQ T ps args) H' nx' (λe T2 H2 nx2=>aQ e (H2 nx=some [c0]/\aK P b T2 (dl H2 nx) nx2 λe T3 H3 nx3=>aQ e (K' (.bool true) (ar H3 nx [c0]) nx3) (K' (.bool false) (ar H3 nx [cj e]) nx3)) False)->
        Yl P nx args H' nx' K')->
     Fn P f (.yld nx::caps) (ar H nx [c0]) (nx+1) λ_ H' nx'=>(H' nx=some [c0]/\K .normal T (dl H' nx) nx')\/ ∃e,e≠.normal/\H' nx=some [cj e]/\K e T (dl H' nx) nx'):aK P (.rangeF g ps a b) T H nx K:=⟨f,caps,hg,h⟩
theorem Js{dm:DM}{K:SP}{l:List Op2}{d:Option Nat}{i:Ins}{t:Nat}{w:Bool}(h:T t=.bool w)(k:ak P dm (⟨d,none,i⟩::l) T H nx K):ak P dm (⟨d,some (t,w),i⟩::l) T H nx K:=by
 show aU (g2 T (some (t,w))) _ _;have:g2 T (some (t,w))=some true:=by simp[g2,h]
 rw[this];exact k
theorem JY{dm:DM}{K:SP}{l:List Op2}{d:Option Nat}{i:Ins}{t:Nat}{w:Bool}(h:T t=.bool (!w)\/T t=.tup [])(k:ak P dm l (aP T d (.tup [])) H nx K):ak P dm (⟨d,some (t,w),i⟩::l) T H nx K:=by
 show aU (g2 T (some (t,w))) _ _
 have:g2 T (some (t,w))=some false:=by
  rcases h with h|h
  ·cases w<;>simp[g2,h]
  ·simp[g2,h]
 rw[this];exact k
theorem bS{e:AEx}{A:Prop}(he:e.ends=true)(h:A):aS e.ends A:=⟨he,h⟩
theorem r_1{K:AV->Prop}{a:RV}{x:AV}(ha:rv T H a=some x)(h:K x):bn T H K [a]:=by
 show aE (rv T H a) K;rw[ha];exact h
theorem r_2{K:AV->Prop}{a b:RV}{x y:AV}(ha:rv T H a=some x)(hb:rv T H b=some y)(h:K (.tup [x,y])):bn T H K [a,b]:=by
 show aE (rv T H a) _;rw[ha];show aE (rv T H b) _;rw[hb];exact h
theorem r_5{K:AV->Prop}{a b c d e:RV}{x y z u v:AV}(ha:rv T H a=some x)(hb:rv T H b=some y)(hc:rv T H c=some z)(hd:rv T H d=some u)(he:rv T H e=some v)(h:K (.tup [x,y,z,u,v])):bn T H K [a,b,c,d,e]:=by
 show xD T H [a,b,c,d,e] λxs=>K (.tup xs);simp only[xD,ha,hb,hc,hd,he];exact h
theorem r_3{K:AV->Prop}{a b c:RV}{x y z:AV}(ha:rv T H a=some x)(hb:rv T H b=some y)(hc:rv T H c=some z)(h:K (.tup [x,y,z])):bn T H K [a,b,c]:=by
 show aE (rv T H a) _;rw[ha];show aE (rv T H b) _;rw[hb];show aE (rv T H c) _;rw[hc];exact h
theorem Ab{T:Tm}{t:Nat}{v:AV}(h:T t=v):upd T t v=T:=by
 funext x;simp only[upd];split
 ·rename_i e;rw[e,h]
 ·rfl
theorem Mc{dm:DM}{K:SP}{l:List Op2}{d:Option Nat}{i:Ins}{t:Nat}{w b:Bool}(h:T t=.bool b)(k1:b=w->ak P dm (⟨d,none,i⟩::l) (upd T t (.bool w)) H nx K)
    (k2:b=!w->ak P dm l (aP (upd T t (.bool (!w))) d (.tup [])) H nx K):ak P dm (⟨d,some (t,w),i⟩::l) T H nx K:=by
 by_cases hb:b=w
 ·subst hb;have:=k1 rfl;rw[Ab h] at this;exact Js h this
 ·have hb':b=!w:=by cases b<;>cases w<;>simp_all
  subst hb';have:=k2 rfl;rw[Ab h] at this;exact JY (.inl h) this
theorem zb{α:Type}{f:α->AV}{l:List α}{k:Nat}{u:AV}(d:α)(h:k<l.length):(l.map f).getD k u=f (l.getD k d):=by
 simp[List.getD,h]
theorem BS{c:Prop}[Decidable c]{x:Option AV}{r:AV}(hc:c)(h:x=some r):(if c then x else none)=some r:=by rw[if_pos hc];exact h
theorem DQ{k:IntKind}{n:Int}:AV.cells (.int k n)=[.int k n]:=rfl
end Go.Abs
namespace Go.Abs
open Go.RowKit
def Dat(x:AV):Prop:=∀H,Snap H x x
theorem Dat.int{k:IntKind}{n:Int}:Dat (.int k n):=λ_=>.int _ _
theorem Dat.bool{b:Bool}:Dat (.bool b):=λ_=>.bool _
theorem Dat.str{s:ByteArray}:Dat (.str s):=λ_=>.str _
theorem Dat.esl:Dat .esl:=λ_=>.esl
theorem Dat.nilp:Dat .nilp:=λ_=>.nilp
theorem Dat.nilf:Dat .nilf:=λ_=>.nilf
theorem Dat.sl{sz:Nat}{l:List AV}(h:∀x∈l,∀c∈x.cells,Dat c):Dat (.sl sz l):=λH=>
 .sl sz l l rfl (fun i x y hx hy=>by rw [hx] at hy; cases hy; rfl) (fun i j x y a b hx hy ha hb=>by
  rw[hx] at hy;cases hy;rw[ha] at hb;cases hb;exact h x (gD hx) a (gD ha) H)
theorem Dat.agg{l:List AV}(h:∀x∈l,Dat x):Dat (.agg l):=λH=>
 .agg l l rfl (λi a c ha hc=>by rw[ha] at hc;cases hc;exact h a (gD ha) H)
theorem Dat.tup{l:List AV}(h:∀x∈l,Dat x):Dat (.tup l):=λH=>
 .tup l l rfl (λi a c ha hc=>by rw[ha] at hc;cases hc;exact h a (gD ha) H)
theorem Dat.func{f:FuncId}{l:List AV}(h:∀x∈l,Dat x):Dat (.func f l):=λH=>
 .func f l l rfl (λi a c ha hc=>by rw[ha] at hc;cases hc;exact h a (gD ha) H)
def aC(l:List Int):AV:=.sl 1 (l.map (AV.int .i64))
def bm(l:List (List Int)):AV:=.sl 1 (l.map aC)
theorem ct (l:List Int):Dat (aC l):=Dat.sl (fun x hx c hc=>by
 obtain⟨n,_,rfl⟩:=bG.1 hx;simp only[AV.cells,cW] at hc;subst hc;exact .int)
theorem ku (l:List (List Int)):Dat (bm l):=Dat.sl (fun x hx c hc=>by
 obtain⟨n,_,rfl⟩:=bG.1 hx;simp only[aC,AV.cells,cW] at hc;subst hc;exact ct n)
theorem A2{l:List Int}:(aC l).cells=[aC l]:=rfl
theorem aj{H:Hp}:aM H [] []:=aM.nil
theorem aX{H:Hp}{x:AV}{xs ys:List AV}(h:Dat x)(hs:aM H xs ys):aM H (x::xs) (x::ys):=aM.cons (h H) hs
class DatI(x:AV):Prop where
 d:Dat x
instance datI_int{k:IntKind}{n:Int}:DatI (.int k n):=⟨.int⟩
instance datI_bool{b:Bool}:DatI (.bool b):=⟨.bool⟩
instance datI_str{s:ByteArray}:DatI (.str s):=⟨.str⟩
instance datI_esl:DatI .esl:=⟨.esl⟩
instance datI_nilf:DatI .nilf:=⟨.nilf⟩
instance datI_encV{l:List Int}:DatI (aC l):=⟨ct l⟩
instance datI_encVV{l:List (List Int)}:DatI (bm l):=⟨ku l⟩
theorem bo{H:Hp}{x:AV}{xs ys:List AV}[h:DatI x](hs:aM H xs ys):aM H (x::xs) (x::ys):=aX h.d hs
variable{P:Program}{T:Tm}{H:Hp}{nx:Nat}
theorem ef{dm:DM}{K:SP}{l:List Op2}{d:Option Nat}{f:Opd}{args:List Opd}{g:FuncId}{caps xs ys:List AV}{r:AV}(hf:ov T f=.func g caps)(ha:args.map (ov T)++caps=xs)
    (hp:Pure P g ys r) (hs:au H xs ys r) (k:ak P dm l (aP T d r) H nx K):ak P dm (⟨d,none,.call f args⟩::l) T H nx K:=by
 subst ha;cases hd:dm.isText with
 |false=>exact Cf hd hf (a5.of_pure hp hs k)
 |true=>
  cases dm with
  |text=>exact A1 hf (Fn.of_pure hp hs k)
  |draw=>cases hd
  |fresh m=>cases hd
theorem fR{dm:DM}{K:SP}{l:List Op2}{d:Option Nat}{f:Opd}{args:List Opd}{g:FuncId}{caps xs ys:List AV}{r:AV}(hf:ov T f=.func g caps)(ha:args.map (ov T)++caps=xs)
    (hp:PureF P g ys r) (hs:aM H xs ys) (k:ak P dm l (aP T d r) H nx K):ak P dm (⟨d,none,.call f args⟩::l) T H nx K:=by
 subst ha;have hc:=hp.callOk hs;cases hd:dm.isText with
 |false=>exact Cf hd hf (a5.of_callOk hc k)
 |true=>
  cases dm with
  |text=>exact A1 hf (Fn.of_callOk hc k)
  |draw=>cases hd
  |fresh m=>cases hd
theorem Cg{dm:DM}{K:SP}{l:List Op2}{d:Option Nat}{f:Opd}{args:List Opd}{g:FuncId}{caps xs:List AV}{r:AV}(hf:ov T f=.func g caps)(ha:args.map (ov T)++caps=xs)
    (hp:Pure P g xs r) (hs:au H xs xs r) (k:ak P dm l (aP T d r) H nx K):ak P dm (⟨d,none,.call f args⟩::l) T H nx K:=ef hf ha hp hs k
theorem aW{xs ys:List AV}{r:AV}{H:Hp}(h:aM bP xs ys):au H xs ys r:=.inl h
theorem aF{xs ys:List AV}{r:AV}{H:Hp}(h:aM H xs ys)(hr:r.sca=true):au H xs ys r:=.inr ⟨h,hr⟩
theorem ss{α:Type}[Inhabited α]{f:α->AV}{l:List α}{sz:Nat}{k:IntKind}{n:Int}:eu sz (.sl sz (l.map f)) (.int k n)=if 0<=n/\n<l.length then some (.iptr (f (l.getD n.toNat default)).cells 0) else none:=by
 simp only[eu,true_and,bi];split
 ·rename_i h;rw[zb default (by omega)]
 ·rfl
theorem qp{α:Type}{f:α->AV}{l:List α}{sz:Nat}:dx (.sl sz (l.map f))=some (.int .i64 l.length):=by simp[dx]
theorem mZ{l:List Int}{k:IntKind}{n:Int}:eu 1 (aC l) (.int k n)=if 0<=n/\n<l.length then some (.iptr [.int .i64 (l.getD n.toNat default)] 0) else none:=ss
theorem oh{l:List (List Int)}{k:IntKind}{n:Int}:eu 1 (bm l) (.int k n)=if 0<=n/\n<l.length then some (.iptr [aC (l.getD n.toNat default)] 0) else none:=ss
theorem uh{l:List Int}:dx (aC l)=some (.int .i64 l.length):=qp
theorem qU{l:List (List Int)}:dx (bm l)=some (.int .i64 l.length):=qp
end Go.Abs
namespace Go.Abs
theorem SA:(∀(T:Tm)(n:Nat),ov T (.t n)=T n)/\(∀(T:Tm)(v:AV),ov T (.c v)=v)/\(∀(T:Tm)(d t:Nat)(v:AV),upd T d v t=if t=d then v else T t)/\(∀(T:Tm)(d:Nat)(v:AV),aP T (some d) v=upd T d v)/\
    (∀(T:Tm)(v:AV),aP T none v=T)/\(∀(x:AV)(l:List AV),T0 (x::l) 0=x)/\(∀(x:AV)(l:List AV)(n:Nat),T0 (x::l) (n+1)=T0 l n)/\(∀n:Nat,T0 [] n=.undef)/\
    (∀(d t:Nat)(v:AV)(l:List (Nat×AV)),tl ((d,v)::l) t=if t=d then v else tl l t)/\(∀t:Nat,tl [] t=.undef)/\
    (∀(T:Tm)(t:Nat)(ts:List Nat)(x:AV)(xs:List AV),kQ T (t::ts) (x::xs)=kQ (upd T t x) ts xs)/\(∀(T:Tm)(xs:List AV),kQ T [] xs=T):=
 ⟨λ_ _=>rfl,λ_ _=>rfl,λ_ _ _ _=>rfl,λ_ _ _=>rfl,λ_ _=>rfl,λ_ _=>rfl,λ_ _ _=>rfl,λ_=>rfl,λ_ _ _ _=>rfl,λ_=>rfl,λ_ _ _ _ _=>rfl,λ_ xs=>by cases xs<;>rfl⟩
theorem SV:(∀(T:Tm)(H:Hp)(x:Opd),bX T H (.mov x)=some (ov T x))/\
    (∀(T:Tm)(H:Hp)(c a b:Opd),bX T H (.pick c a b)=match ov T c with|.bool t=>some (if t=true then ov T a else ov T b)|_=>none)/\
    (∀(T:Tm)(H:Hp)(a:Opd),bX T H (.ld1 a)=rd1 H (ov T a))/\(∀(T:Tm)(H:Hp)(k:Nat)(a:Opd),bX T H (.ldn k a)=(rd H k (ov T a)).map .agg)/\
    (∀(T:Tm)(H:Hp)(op:BinOp)(tb tf:Bool)(x y:Opd),bX T H (.bin op tb tf x y)=bt op tb tf (ov T x) (ov T y))/\
    (∀(T:Tm)(H:Hp)(op:UnOp)(x:Opd),bX T H (.un op x)=aun op (ov T x))/\
    (∀(T:Tm)(H:Hp)(f:FuncId)(caps:List Opd),bX T H (.mkfn f caps)=some (.func f (caps.map (ov T))))/\
    (∀(T:Tm)(H:Hp)(k:Nat)(p:Opd),bX T H (.fa k p)=lI k (ov T p))/\
    (∀(T:Tm)(H:Hp)(sz:Nat)(x i:Opd),bX T H (.ixaS sz x i)=eu sz (ov T x) (ov T i))/\
    (∀(T:Tm)(H:Hp)(x:Opd)(i:Nat),bX T H (.ext x i)=iL (ov T x) i)/\
    (∀(T:Tm)(H:Hp)(x:Opd),bX T H (.lenS x)=dx (ov T x))/\
    (∀(T:Tm)(H:Hp)(z:List AV)(parts:List (Nat×Nat×Opd)),bX T H (.bld z parts)=(en z (parts.map λp=>(p.1,p.2.1,ov T p.2.2))).map .agg)/\
    (∀(T:Tm)(H:Hp)(x:Opd)(l:List Opd),bX T H (.mx x l)=ir pq (ov T x) (l.map (ov T)))/\
    (∀(T:Tm)(H:Hp)(x:Opd)(l:List Opd),bX T H (.mn x l)=ir pm (ov T x) (l.map (ov T)))/\
    (∀(T:Tm)(H:Hp)(k:IntKind)(x:Opd),bX T H (.conv k x)=uB (ov T x) λn=>some (.int k (k.wrap n)))/\
    (∀(T:Tm)(H:Hp)(sz:Nat)(x:Opd)(lo hi mx:Option Opd),bX T H (.sls sz x lo hi mx)=jI sz (ov T x) (lo.map (ov T)) (hi.map (ov T)) (mx.map (ov T)))/\
    (∀(T:Tm)(H:Hp)(off:Nat)(x:Opd),bX T H (.part1 off x)=gL (ov T x) λcs=>cs[off]?)/\
    (∀(T:Tm)(H:Hp)(op:BinOp)(ks:List TK)(x y:Opd),bX T H (.binS op ks x y)=gL (ov T x) λxs=>gL (ov T y) λys=>oE op ks xs ys):=
 ⟨fun _ _ _=>rfl,fun _ _ _ _ _=>rfl,fun _ _ _=>rfl,fun _ _ _ _=>rfl,fun _ _ _ _ _ _ _=>rfl,fun _ _ _ _=>rfl,fun _ _ _ _=>rfl,fun _ _ _ _=>rfl,fun _ _ _ _ _=>rfl,fun _ _ _ _=>rfl,fun _ _ _=>rfl,
  λ_ _ _ _=>rfl,λ_ _ _ _=>rfl,λ_ _ _ _=>rfl,λ_ _ _ _=>rfl,λ_ _ _ _ _ _ _=>rfl,λ_ _ _ _=>rfl,λ_ _ _ _ _ _=>rfl⟩
def nZ:AV->AV->Option AV
 |.str s,.int _ n=>if 0<=n/\n<s.size then some (.int .u8 (s[n.toNat]?.getD 0).toNat) else none
 |_,_=>none
theorem SV2:(∀(T:Tm)(H:Hp)(x i:Opd),bX T H (.ixStr x i)=nZ (ov T x) (ov T i))/\
    (∀(s:ByteArray)(k:IntKind)(n:Int),nZ (.str s) (.int k n)=if 0<=n/\n<s.size then some (.int .u8 (s[n.toNat]?.getD 0).toNat) else none):=
 ⟨fun T H x i=>by
  simp only[bX];cases ov T x<;>cases ov T i<;>rfl,λ_ _ _=>rfl⟩
theorem SN:(∀(k:IntKind)(a b:Int)(tb tf:Bool),bt .lss tb tf (.int k a) (.int k b)=some (.bool (decide (a<b))))/\(∀(k:IntKind)(a b:Int)(tb tf:Bool),bt .leq tb tf (.int k a) (.int k b)=some (.bool (decide (a<=b))))/\
    (∀(k:IntKind)(a b:Int)(tb tf:Bool),bt .gtr tb tf (.int k a) (.int k b)=some (.bool (decide (b<a))))/\(∀(k:IntKind)(a b:Int)(tb tf:Bool),bt .geq tb tf (.int k a) (.int k b)=some (.bool (decide (b<=a))))/\
    (∀(k:IntKind)(a b:Int)(tb tf:Bool),bt .eql tb tf (.int k a) (.int k b)=some (.bool (decide (a=b))))/\(∀(k:IntKind)(a b:Int)(tb tf:Bool),bt .neq tb tf (.int k a) (.int k b)=some (.bool (decide (a≠b))))/\
    (∀(k:IntKind)(a b:Int)(tb tf:Bool),bt .add tb tf (.int k a) (.int k b)=some (.int k (k.wrap (a+b))))/\(∀(k:IntKind)(a b:Int)(tb tf:Bool),bt .sub tb tf (.int k a) (.int k b)=some (.int k (k.wrap (a-b))))/\
    (∀(k:IntKind)(a b:Int)(tb tf:Bool),bt .mul tb tf (.int k a) (.int k b)=some (.int k (k.wrap (a*b))))/\
    (∀(a b:Bool)(tf:Bool),bt .eql true tf (.bool a) (.bool b)=some (.bool (a==b)))/\(∀(a b:Bool)(tf:Bool),bt .neq true tf (.bool a) (.bool b)=some (.bool (!(a==b))))/\
    (∀tb:Bool,bt .eql tb true .nilf .nilf=some (.bool true))/\(∀tb:Bool,bt .neq tb true .nilf .nilf=some (.bool false))/\
    (∀(tb:Bool)(f:FuncId)(c:List AV),bt .eql tb true (.func f c) .nilf=some (.bool false))/\(∀(tb:Bool)(f:FuncId)(c:List AV),bt .neq tb true (.func f c) .nilf=some (.bool true))/\
    (∀b:Bool,aun .not (.bool b)=some (.bool (!b)))/\
    (∀(k:IntKind)(a b:Int),pq (.int k a) (.int k b)=some (.int k (max a b)))/\(∀(k:IntKind)(a b:Int),pm (.int k a) (.int k b)=some (.int k (min a b)))/\
    (∀(f:AV->AV->Option AV)(x:AV),ir f x []=some x)/\(∀(f:AV->AV->Option AV)(x y:AV)(l:List AV),ir f x (y::l)=match f x y with|some z=>ir f z l|none=>none)/\
    (∀(k:Nat)(b n off:Nat),lI k (.ptr b n off)=some (.ptr b n (off+k)))/\(∀(k:Nat)(cs:List AV)(off:Nat),lI k (.iptr cs off)=some (.iptr cs (off+k)))/\
    (∀(cs:List AV)(off:Nat),rd1 bP (.iptr cs off)=cs[off]?):=
 ⟨fun _ _ _ _ _=>HG,fun _ _ _ _ _=>HD,fun _ _ _ _ _=>GR,fun _ _ _ _ _=>HK,fun _ _ _ _ _=>Hu,fun _ _ _ _ _=>GD,fun _ _ _ _ _=>Hr,fun _ _ _ _ _=>HB,fun _ _ _ _ _=>G1,
  λ_ _ _=>rfl,λ_ _ _=>rfl,λ_=>rfl,λ_=>rfl,λ_ _ _=>rfl,λ_ _ _=>rfl,λ_=>rfl,
  λk a b=>by simp only[pq,Int.max_def];split<;>split<;>simp <;>omega,λk a b=>by simp only[pm,Int.min_def];split<;>split<;>simp <;>omega,λ_ _=>rfl,λ_ _ _ _=>rfl,λ_ _ _ _=>rfl,λ_ _ _=>rfl,λ_ _=>rfl⟩
theorem SL:(∀(a:AV)(l:List AV),(a::l)[0]?=some a)/\(∀(a:AV)(l:List AV)(n:Nat),(a::l)[n+1]?=l[n]?)/\(∀(l:List AV),l.drop 0=l)/\(∀(a:AV)(l:List AV)(n:Nat),(a::l).drop (n+1)=l.drop n)/\(∀n:Nat,([]:List AV).drop n=[])/\
    (∀(l:List AV),l.take 0=[])/\(∀(a:AV)(l:List AV)(n:Nat),(a::l).take (n+1)=a::l.take n)/\(∀n:Nat,([]:List AV).take n=[])/\(∀(l:List AV),[]++l=l)/\(∀(l:List AV),l++[]=l)/\(∀(a:AV)(l m:List AV),(a::l)++m=a::(l++m))/\
    (∀(cs:List AV)(off:Nat)(new:List AV),bD cs off new=cs.take off++new++cs.drop (off+new.length))/\(([]:List AV).length=0)/\(∀(a:AV)(l:List AV),(a::l).length=l.length+1)/\
    (∀(k:IntKind)(n:Int),(AV.int k n).cells=[.int k n])/\(∀b:Bool,(AV.bool b).cells=[.bool b])/\(∀s:ByteArray,(AV.str s).cells=[.str s])/\(∀(k:Nat)(l:List AV),(AV.sl k l).cells=[.sl k l])/\(∀l:List AV,(AV.agg l).cells=l)/\(AV.esl.cells=[.esl])/\(AV.nilf.cells=[.nilf])/\
    (∀(f:FuncId)(c:List AV),(AV.func f c).cells=[.func f c])/\(∀(b n off:Nat),(AV.ptr b n off).cells=[.ptr b n off])/\(∀(c:List AV)(off:Nat),(AV.iptr c off).cells=[.iptr c off])/\(∀(b n sz off len:Nat),(AV.msl b n sz off len).cells=[.msl b n sz off len])/\(∀b:Nat,(AV.yld b).cells=[.yld b])/\(∀b:Nat,(AV.mp b).cells=[.mp b])/\(AV.nilp.cells=[.nilp])/\(∀(f:FuncId)(c:List AV),(AV.bfn f c).cells=[.bfn f c]):=
 ⟨fun _ _=>rfl,fun _ _ _=>rfl,fun _=>rfl,fun _ _ _=>rfl,fun n=>by cases n <;> rfl,fun _=>rfl,fun _ _ _=>rfl,fun n=>by cases n <;> rfl,fun _=>rfl,fun l=>eH l,fun _ _ _=>rfl,fun _ _ _=>rfl,rfl,fun _ _=>rfl,
  λ_ _=>rfl,λ_=>rfl,λ_=>rfl,λ_ _=>rfl,λ_=>rfl,rfl,rfl,λ_ _=>rfl,λ_ _ _=>rfl,λ_ _=>rfl,λ_ _ _ _ _=>rfl,λ_=>rfl,λ_=>rfl,rfl,λ_ _=>rfl⟩
def AV.ones(l:List AV):Bool:=l.all AV.one
theorem SO:(AV.ones []=true)/\(∀(a:AV)(l:List AV),AV.ones (a::l)=(a.one&&AV.ones l))/\(∀(k:IntKind)(n:Int),(AV.int k n).one=true)/\(∀b:Bool,(AV.bool b).one=true)/\(∀s:ByteArray,(AV.str s).one=true)/\(∀(k:Nat)(l:List AV),(AV.sl k l).one=true)/\(AV.esl.one=true)/\(AV.nilf.one=true)/\
    (∀(f:FuncId)(c:List AV),(AV.func f c).one=true)/\(∀(b n off:Nat),(AV.ptr b n off).one=true)/\(∀(c:List AV)(off:Nat),(AV.iptr c off).one=true)/\(∀(b n sz off len:Nat),(AV.msl b n sz off len).one=true)/\(∀b:Nat,(AV.yld b).one=true)/\(∀b:Nat,(AV.mp b).one=true)/\(AV.nilp.one=true)/\(∀l:List AV,l.all AV.one=AV.ones l):=
 ⟨rfl,λ_ _=>by simp[AV.ones],λ_ _=>rfl,λ_=>rfl,λ_=>rfl,λ_ _=>rfl,rfl,rfl,λ_ _=>rfl,λ_ _ _=>rfl,λ_ _=>rfl,λ_ _ _ _ _=>rfl,λ_=>rfl,λ_=>rfl,rfl,λ_=>rfl⟩
variable{P:Program}{T:Tm}{H:Hp}{nx:Nat}
theorem rP{dm:DM}{K:SP}{l:List Op2}{d:Option Nat}{z:AV}{cs:List AV}(hd:dm2 dm T (.alloc z)=true)(hc:z.cells=cs)(ho:AV.ones cs=true)(k:ak P dm l (aP T d (.ptr nx cs.length 0)) (ar H nx cs) (nx+1) K):ak P dm (⟨d,none,.alloc z⟩::l) T H nx K:=by
 subst hc;refine nU rfl hd ?_ k;simp only[jL,uy];rw[if_pos (show z.flat=true from ho)]
theorem Ie{dm:DM}{K:SP}{l:List Op2}{d:Option Nat}{x:Opd}{v:AV}{cs:List AV}(hd:dm2 dm T (.box x)=true)(hx:ov T x=v)(hc:v.cells=cs)(ho:AV.ones cs=true)(k:ak P dm l (aP T d (.ptr nx cs.length 0)) (ar H nx cs) (nx+1) K):ak P dm (⟨d,none,.box x⟩::l) T H nx K:=by
 subst hc hx;refine nU rfl hd ?_ k;simp only[jL,uy];rw[if_pos (show(ov T x).flat=true from ho)]
theorem Jt{dm:DM}{K:SP}{l:List Op2}{d:Option Nat}{sz:Nat}{p x:Opd}{b n off:Nat}{v:AV}{cs vs:List AV}(hd:dm2 dm T (.st sz p x)=true)(hp:ov T p=.ptr b n off)(hx:ov T x=v)(hb:H b=some cs)(hc:v.cells=vs)(ho:AV.ones vs=true)(hn:cs.length=n)(hl:vs.length=sz)(hf:off+sz<=n)
    (k:ak P dm l (aP T d (.tup [])) (ar H b (bD cs off vs)) nx K):ak P dm (⟨d,none,.st sz p x⟩::l) T H nx K:=by
 subst hc hx;refine nU rfl hd ?_ k;simp only[jL,hp,hb];rw[if_pos ⟨hn,ho,hl,hf⟩]
theorem xV{dm:DM}{K:SP}{l:List Op2}{d:Option Nat}{sz bytes:Nat}{z:List AV}{x y:Opd}{k1 k2:IntKind}{n m:Int}(hd:dm2 dm T (.mks sz bytes z x y)=true)(hx:ov T x=.int k1 n)(hy:ov T y=.int k2 m)(h0:0<=n)(h1:n<=m)(h2:m<=9223372036854775807)(h3:bytes*m<=281474976710656)
    (k:ak P dm l (aP T d (.msl nx (m.toNat*sz) sz 0 n.toNat)) (ar H nx (bz (.agg z) m.toNat)) (nx+1) K):ak P dm (⟨d,none,.mks sz bytes z x y⟩::l) T H nx K:=by
 refine nU rfl hd ?_ k;simp only[jL,hx,hy];rw[if_pos ⟨h0,h1,h2,h3⟩]
theorem H6{dm:DM}{K:SP}{l:List Op2}{d:Option Nat}{sz len:Nat}{z:List AV}{parts:List (Nat×Nat×Opd)}{pv:List (Nat×Nat×AV)}{cs:List AV}(hd:dm2 dm T (.bldS sz len z parts)=true)(hl:len≠0)(hp:parts.map (λp=>(p.1,p.2.1,ov T p.2.2))=pv)(hc:en (bz (.agg z) len) pv=some cs)
    (k:ak P dm l (aP T d (.msl nx cs.length sz 0 len)) (ar H nx cs) (nx+1) K):ak P dm (⟨d,none,.bldS sz len z parts⟩::l) T H nx K:=by
 refine nU rfl hd ?_ k;simp only[jL,hl,if_false,hp,hc]
theorem EE{dm:DM}{K:SP}{l:List Op2}{d:Option Nat}{sz:Nat}{z:List AV}(hd:dm2 dm T (.bldS sz 0 z [])=true)(k:ak P dm l (aP T d .esl) H nx K):ak P dm (⟨d,none,.bldS sz 0 z []⟩::l) T H nx K:=by
 refine nU rfl hd ?_ k;simp[jL]
theorem iR{dm:DM}{K:SP}{l:List Op2}{d:Option Nat}{sz bytes n:Nat}{s x:Opd}{v:AV}{new:List AV}(hd:dm2 dm T (.app sz bytes s x)=true)(hs:ov T s=.esl)(hx:ov T x=v)(hsrc:gg sz H v=some (n,new))(ho:AV.ones new=true)(h1:n*bytes<=140737488355328)(h2:n<=9223372036854775807)
    (k:ak P dm l (aP T d (.msl nx (n*sz) sz 0 n)) (ar H nx new) (nx+1) K):ak P dm (⟨d,none,.app sz bytes s x⟩::l) T H nx K:=by
 subst hx;refine nU rfl hd ?_ k;simp only[jL,Hx,hs,hsrc];rw[if_pos (show new.all AV.one=true from ho),if_pos ⟨h1,h2⟩]
theorem zJ{dm:DM}{K:SP}{l:List Op2}{d:Option Nat}{sz bytes n:Nat}{s x:Opd}{v:AV}{new cs:List AV}{b m len:Nat}(hd:dm2 dm T (.app sz bytes s x)=true)(hs:ov T s=.msl b m sz 0 len)(hb:H b=some cs)(hx:ov T x=v)(hsrc:gg sz H v=some (n,new))(ho:AV.ones new=true)(hm:cs.length=m)(hl:m=len*sz)
    (h1:(len+n)*bytes<=140737488355328) (h2:len+n<=9223372036854775807)
    (k:ak P dm l (aP T d (.msl b ((len+n)*sz) sz 0 (len+n))) (ar H b (cs++new)) nx K):ak P dm (⟨d,none,.app sz bytes s x⟩::l) T H nx K:=by
 subst hx;refine nU rfl hd ?_ k;simp only[jL,Hx,hs,hsrc,hb];rw[if_pos (show new.all AV.one=true from ho),if_pos ⟨hm,trivial⟩,if_pos ⟨trivial,hl,h1,h2⟩]
theorem AS{dm:DM}{K:SP}{l:List Op2}{d:Option Nat}{sz bytes n:Nat}{s x:Opd}{v:AV}{new cs:List AV}{b m off len:Nat}(hd:dm2 dm T (.app sz bytes s x)=true)(hs:ov T s=.msl b m sz off len)(hb:H b=some cs)(hx:ov T x=v)(hsrc:gg sz H v=some (n,new))(ho:AV.ones new=true)(hm:cs.length=m)(hl:off=0->m≠len*sz)(h0:0<m)(h1:off+(len+n)*sz<=m)
    (k:ak P dm l (aP T d (.msl b m sz off (len+n))) (ar H b (bD cs (off+len*sz) new)) nx K):ak P dm (⟨d,none,.app sz bytes s x⟩::l) T H nx K:=by
 subst hx;refine nU rfl hd ?_ k;simp only[jL,Hx,hs,hsrc,hb];rw[if_pos (show new.all AV.one=true from ho),if_pos ⟨hm,trivial⟩,if_neg (λh=>hl h.1 h.2.1),if_pos ⟨h1,h0⟩]
theorem jP{sz:Nat}{l:List AV}:gg sz H (.sl sz l)=some (l.length,l.flatMap AV.cells):=by simp[gg]
theorem oQ{sz:Nat}:gg sz H .esl=some (0,[]):=rfl
theorem ft{sz b n off len:Nat}{cs:List AV}(h:H b=some cs)(hn:cs.length=n)(hf:off+len*sz<=n):gg sz H (.msl b n sz off len)=some (len,(cs.drop off).take (len*sz)):=by
 simp only[gg];split
 ·rename_i h0;subst h0;simp
 ·simp only[h,hn,true_and,hf,if_true]
theorem SR:(∀(H:Hp)(b n off:Nat),rd1 H (.ptr b n off)=match H b with|some cs=>if cs.length=n then cs[off]? else none|none=>none)/\
    (∀(H:Hp)(k b n off:Nat),rd H k (.ptr b n off)=match H b with|some cs=>if cs.length=n/\off+k<=n then some ((cs.drop off).take k) else none|none=>none)/\
    (∀(H:Hp)(cs:List AV)(off:Nat),rd1 H (.iptr cs off)=cs[off]?)/\(∀(H:Hp)(cs:List AV)(off k:Nat),rd H k (.iptr cs off)=if off+k<=cs.length then some ((cs.drop off).take k) else none)/\
    (∀(l:List AV)(i:Nat),iL (.tup l) i=l[i]?)/\(∀(l:List AV)(f:List AV->Option AV),gL (.agg l) f=f l)/\(∀(k:IntKind)(n:Int)(f:Int->Option AV),uB (.int k n) f=f n)/\
    (∀(cs:List AV),en cs []=some cs)/\
    (∀(cs:List AV)(off sz:Nat)(x:AV)(r:List (Nat×Nat×AV)),en cs ((off,sz,x)::r)=if AV.ones x.cells=true/\x.cells.length=sz/\off+sz<=cs.length then en (bD cs off x.cells) r else none)/\
    (∀(b n sz off len:Nat),dx (.msl b n sz off len)=some (.int .i64 len))/\(dx .esl=some (.int .i64 0))/\(∀(sz:Nat)(l:List AV),dx (.sl sz l)=some (.int .i64 l.length))/\
    (∀(z:AV),bz z 0=[])/\(∀(z:AV)(n:Nat),bz z (n+1)=z.cells++bz z n):=
 ⟨λ_ _ _ _=>rfl,λ_ _ _ _ _=>rfl,λ_ _ _=>rfl,λ_ _ _ _=>rfl,λl i=>by cases l<;>rfl,λ_ _=>rfl,λ_ _ _=>rfl,λ_=>rfl,λ_ _ _ _ _=>rfl,λ_ _ _ _ _=>rfl,rfl,λ_ _=>rfl,λ_=>rfl,λz n=>by simp[bz,List.replicate_succ]⟩
end Go.Abs
namespace Go.Abs
theorem cf{H:Hp}{a b:Bool}(h:a=b):Snap H (.bool a) (.bool b):=by subst h;exact .bool _
theorem d6{H:Hp}{k:IntKind}{a b:Int}(h:a=b):Snap H (.int k a) (.int k b):=by subst h;exact .int _ _
theorem bb{H:Hp}{l m:List AV}(h:aM H l m):Snap H (.tup l) (.tup m):=.tup l m h.1 h.2
theorem mV{H:Hp}{l m:List AV}(h:aM H l m):Snap H (.agg l) (.agg m):=.agg l m h.1 h.2
theorem ag{H:Hp}{x y:AV}{xs ys:List AV}(h:Snap H x y)(hs:aM H xs ys):aM H (x::xs) (y::ys):=aM.cons h hs
theorem Dat.snap{H:Hp}{x:AV}(h:Dat x):Snap H x x:=h H
theorem bN{P:Program}{b:C2}{T:Tm}{H:Hp}{nx:Nat}{K:CP}{X:Type}(L:X->List (Nat×AV))(I:X->Hp->Nat->Prop)(μ:X->Nat)(x0:X)(h0:I x0 H nx)(hT:agr T (L x0))
    (step:∀x H nx,I x H nx->aK P b (tl (L x)) H nx λe T H' nx'=>aQ e (∃y,μ y<μ x/\I y H' nx'/\agr T (L y)) (K e T H' nx')):a6 (aK P b) T H nx K:=by
 refine ED (X:=X×Hp×Nat) (λx=>tl (L x.1)) (λx=>x.2.1) (λx=>x.2.2) (λx=>I x.1 x.2.1 x.2.2) (λx=>μ x.1) ⟨(x0,H,nx),h0,_,Gh.weak (tK hT)⟩ (λx hx=>dY b (step x.1 x.2.1 x.2.2 hx) (λe T H' nx' h=>?_));cases e with
 |normal=>
  obtain⟨y,h1,h2,h3⟩:=h;exact⟨(y,H',nx'),h2,h1,_,Gh.weak (tK h3)⟩
 |exit i=>exact h
 |ret=>exact h
def gC(Hf:Hp)(cs cs':List AV):Prop:=cs'.length=cs.length/\∀(i:Nat)(x x':AV),cs[i]?=some x->cs'[i]?=some x'->x'=x\/Snap Hf x x'
theorem gC.refl(Hf:Hp)(cs:List AV):gC Hf cs cs:=⟨rfl,λi x x' h1 h2=>.inl (by rw[h1] at h2;cases h2;rfl)⟩
theorem gC.snoc{Hf:Hp}{cs:List AV}{x x':AV}(h:Snap Hf x x'):gC Hf (cs++[x]) (cs++[x']):=by
 refine⟨by simp,λi y y' h1 h2=>?_⟩;by_cases hi:i<cs.length
 ·rw[gF hi] at h1 h2;rw[h1] at h2;cases h2;exact .inl rfl
 ·rw[iS (by omega)] at h1 h2;cases hj:i-cs.length with
  |zero=>rw[hj] at h1 h2;simp at h1 h2;subst h1 h2;exact .inr h
  |succ j=>rw[hj] at h1;simp at h1
structure Fz(Hf H H':Hp):Prop where
 sub:∀b cs,Hf b=some cs->H b=some cs
 to:∀b cs',H' b=some cs'->∃cs,H b=some cs/\Hf b=none/\gC Hf cs cs'
def Ao(Hf:Hp)(T:Tm):List (Nat×AV)->Prop
 |[]=>True
 |(d,v)::l=>(T d=v\/Snap Hf (T d) v)/\Ao Hf T l
theorem BV{Hf:Hp}{T:Tm}:∀{l:List (Nat×AV)},Ao Hf T l->∀t,tl l t=.undef\/tl l t=T t\/Snap Hf (T t) (tl l t)
 |[],_,t=>.inl rfl
 |(d,v)::l,h,t=>by
  simp only[tl];split
  ·rename_i e;subst e;rcases h.1 with h1|h1
   ·exact .inr (.inl h1.symm)
   ·exact .inr (.inr h1)
  ·exact BV h.2 t
theorem Fz.gh{Hf H H':Hp}{T:Tm}{l:List (Nat×AV)}{nx:Nat}(h:Fz Hf H H')(ha:Ao Hf T l):Gh T H nx (tl l) H' nx Hf:=
 ⟨h.sub,aR _,fun b cs' hb=>by
  obtain⟨cs,h1,h2,h3,h4⟩:=h.to b cs' hb;exact .inl ⟨cs,h1,h2,h3,λi x x' hx hx'=>(h4 i x x' hx hx').imp id .inl⟩,λt=>by
  rcases BV ha t with h1|h1|h1
  ·exact .inl h1
  ·exact .inr (.inl h1)
  ·exact .inr (.inr (.inl h1))⟩
def only(b:Nat)(cs:List AV):Hp:=λx=>if x=b then some cs else none
theorem ji{b:Nat}{cs:List AV}:only b cs b=some cs:=by simp[only]
theorem pI{P:Program}{T:Tm}{H:Hp}{nx:Nat}{K:CP}{l:List Op2}(Hf H':Hp)(L:List (Nat×AV))(hf:Fz Hf H H')(ha:Ao Hf T L)(h:ak P .text l (tl L) H' nx λT H nx=>K .normal T H nx):aK P (.ops 0 l) T H nx K:=⟨_,H',nx,Hf,hf.gh ha,h⟩
theorem Fz.one{H:Hp}{b:Nat}{cs:List AV}(hb:H b=some cs):Fz (only b cs) H (dl H b):=
 ⟨fun x c h=>by unfold only at h; split at h <;> cases h; subst_vars; exact hb,fun x c h=>by
  have:=qo h;exact⟨c,this.2,by simp[only,this.1],gC.refl _ _⟩⟩
theorem Fz.all{H:Hp}:Fz H H bP:=⟨λ_ _ h=>h,λ_ _ h=>(by cases h)⟩
theorem im{T:Tm}{Hf:Hp}:∀{l:List (Nat×AV)},agr T l->Ao Hf T l
 |[],_=>trivial
 |(_,_)::_,h=>⟨.inl h.1,im h.2⟩
theorem tC{P:Program}{b:C2}{T:Tm}{H:Hp}{nx:Nat}{K:CP}{X:Type}(L:X->List (Nat×AV))(I:X->Hp->Nat->Prop)(μ:X->Nat)(x0:X)(h0:∃Hf H',Fz Hf H H'/\I x0 H' nx/\Ao Hf T (L x0))
    (step:∀x H nx,I x H nx->aK P b (tl (L x)) H nx λe T H' nx'=>aQ e (∃y,μ y<μ x/\∃Hf H'',Fz Hf H' H''/\I y H'' nx'/\Ao Hf T (L y)) (K e T H' nx')):a6 (aK P b) T H nx K:=by
 obtain⟨Hf,H0,hf,hI,ha⟩:=h0;refine ED (X:=X×Hp×Nat) (λx=>tl (L x.1)) (λx=>x.2.1) (λx=>x.2.2) (λx=>I x.1 x.2.1 x.2.2) (λx=>μ x.1) ⟨(x0,H0,nx),hI,_,hf.gh ha⟩ (λx hx=>dY b (step x.1 x.2.1 x.2.2 hx) (λe T H' nx' h=>?_));cases e with
 |normal=>
  obtain⟨y,h1,Hf,H'',h2,h3,h4⟩:=h;exact⟨(y,H'',nx'),h3,h1,_,h2.gh h4⟩
 |exit i=>exact h
 |ret=>exact h
theorem Fz.none{H:Hp}:Fz bP H H:=⟨λ_ _ h=>(by cases h),λb cs h=>⟨cs,h,rfl,gC.refl _ _⟩⟩
theorem nj{α:Type}[DecidableEq α](k:MK)(enc:α->AV)(h:∀a b,pp k (enc a) (enc b)=some (decide (a=b)))(v:α):∀ks:List α,dh k (enc v) (ks.map enc)=some (if v∈ks then some (ks.idxOf v) else none)
 |[]=>rfl
 |x::l=>by
  simp only[fX,dh,h];by_cases e:v=x
  ·subst e;simp
  ·have e':x≠v:=λh=>e h.symm;simp only[e,decide_false,nj k enc h v l,ml,da,false_or];by_cases hm:v∈l
   ·simp only[hm,if_true,ml];simp[List.idxOf_cons,beq_eq_false_iff_ne.2 e']
   ·simp[hm]
theorem qm{α:Type}{l:List α}{n k:Nat}{d:α}(h:k<n):(l.take n).getD k d=l.getD k d:=by
 simp only[List.getD,jg,if_pos h]
theorem Be{α:Type}[Inhabited α]{l:List α}{k:Nat}(h:k<l.length):l.take (k+1)=l.take k++[l.getD k default]:=by
 rw[List.take_add_one];simp[List.getD,h]
theorem eW{α:Type}[Inhabited α]{l:List α}{k:Nat}(h:k<l.length):l.drop k=l.getD k default::l.drop (k+1):=by
 rw[List.drop_eq_getElem_cons h];simp[List.getD,h]
theorem ah{H:Hp}{b:Nat}{cs:List AV}:ar H b cs b=some cs:=if_pos rfl
theorem vG{H:Hp}{f:FuncId}{l m:List AV}(h:aM H l m):Snap H (.func f l) (.func f m):=.func f l m h.1 h.2
theorem yF{H:Hp}{b n off:Nat}{cs cs':List AV}(hb:H b=some cs)(hn:cs.length=n)(h:aM H cs cs'):Snap H (.ptr b n off) (.iptr cs' off):=.ptr b n off cs cs' hb hn (by rw[h.1,hn]) h.2
theorem Dat.iptr{cs:List AV}{off:Nat}(h:∀x∈cs,Dat x):Dat (.iptr cs off):=λH=>.iptr cs cs off rfl (λi a c ha hc=>by rw[ha] at hc;cases hc;exact h a (gD ha) H)
theorem DatL.nil:∀x∈([]:List AV),Dat x:=by simp
theorem DatL.cons{x:AV}{l:List AV}(h:Dat x)(hl:∀y∈l,Dat y):∀y∈x::l,Dat y:=λy hy=>(da.1 hy).elim (λe=>e▸h) (hl y)
theorem jy{H:Hp}{b n off len:Nat}{cs:List AV}{l:List AV}(hb:H b=some cs)(hn:cs.length=n)(hf:off+len<=n)(hl:l.length=len)(hc:∀y∈l,y.cells=[y])(h:∀(i:Nat)(a c:AV),cs[off+i]?=some a->l[i]?=some c->Snap H a c):Snap H (.msl b n 1 off len) (.sl 1 l):=by
 refine .msl b n 1 off len cs l hb hn (by omega) hl (λy hy=>by rw[hc y hy];rfl) (λi j y a c hy hc' ha=>?_);rw[hc y (gD hy)] at hc';cases j with
 |zero=>simp at hc';subst hc';exact h i a y (by simpa using ha) hy
 |succ j=>simp at hc'
theorem ea{H:Hp}{b n len:Nat}{l:List Int}(hb:H b=some (l.map (AV.int .i64)))(hn:n=len)(hl:l.length=len):Snap H (.msl b n 1 0 len) (aC l):=by
 subst hn;refine jy hb (by simp[hl]) (by omega) (by simp[hl]) (λy hy=>by simp at hy;obtain⟨n,_,rfl⟩:=hy;rfl) (λi a c ha hc=>?_);rw[cp] at ha;rw[ha] at hc;cases hc;simp at ha;obtain⟨n,_,rfl⟩:=ha;exact .int _ _
theorem bl{H:Hp}:∀{l:List AV},(∀x∈l,Dat x)->aM H l l
 |[],_=>aM.nil
 |x::l,h=>aM.cons (h x (by simp) H) (bl (λy hy=>h y (by simp[hy])))
theorem bk{α:Type}[Inhabited α]{l:List α}{k:Nat}(h:k<l.length):l.getD k default∈l:=by
 have:l.getD k default=l[k]:=by simp[List.getD,h]
 rw[this];exact nC h
theorem gb{H:Hp}{l:List Int}:gg 1 H (aC l)=some (l.length,l.map (AV.int .i64)):=by
 unfold aC;rw[jP]
 congr 2
 ·simp
 ·induction l with
  |nil=>rfl
  |cons a l ih=>simp only[fX,ut,ih];rfl
theorem iH{l:List Int}:AV.ones (l.map (AV.int .i64))=true:=by
 simp[AV.ones,AV.one]
theorem gJ{l:List (List Int)}:AV.ones (l.map aC)=true:=by
 simp[AV.ones,aC,AV.one]
theorem fV{H:Hp}{l:List (List Int)}:gg 1 H (bm l)=some (l.length,l.map aC):=by
 unfold bm;rw[jP]
 congr 2
 ·simp
 ·induction l with
  |nil=>rfl
  |cons a l ih=>simp only[fX,ut,ih];rfl
theorem AK{l:List Int}:fF (aC l)=some l.length:=by simp[fF,aC]
theorem yr{l:List (List Int)}:fF (bm l)=some l.length:=by simp[fF,bm]
theorem eU{l:List Int}:(aC l).one=true:=rfl
theorem dZ{l:List (List Int)}:(bm l).one=true:=rfl
theorem uX{H:Hp}{b n len:Nat}{l:List AV}(hb:H b=some l)(hn:n=len)(hl:l.length=len)(hc:∀y∈l,y.cells=[y]/\Dat y):Snap H (.msl b n 1 0 len) (.sl 1 l):=by
 subst hn;refine jy hb hl (by omega) hl (λy hy=>(hc y hy).1) (λi a c ha hc'=>?_);rw[cp] at ha;rw[ha] at hc';cases hc';exact(hc a (gD ha)).2 H
theorem CJ{H:Hp}{b n len:Nat}{l:List (List Int)}(hb:H b=some (l.map aC))(hn:n=len)(hl:l.length=len):Snap H (.msl b n 1 0 len) (bm l):=
 uX hb hn (by simp[hl]) (λy hy=>by simp at hy;obtain⟨n,_,rfl⟩:=hy;exact⟨rfl,ct n⟩)
theorem r_0{T:Tm}{H:Hp}{K:AV->Prop}(h:K (.tup [])):bn T H K []:=h
theorem getElem?_map_lt{α:Type}[Inhabited α]{f:α->AV}{l:List α}{k:Nat}(h:k<l.length):(l.map f)[k]?=some (f (l.getD k default)):=by
 simp[List.getD,h]
theorem FV{sz b m off len:Nat}{k:IntKind}{n:Int}:eu sz (.msl b m sz off len) (.int k n)=if 0<=n/\n<len then some (.ptr b m (off+n.toNat*sz)) else none:=by simp[eu]
theorem np{P:Program}{T:Tm}{H:Hp}{nx:Nat}{K:CP}{g:Opd}{ps:List Nat}{a b:C2}{f:FuncId}{caps:List AV}(y y1:Nat)(hy:nx=y)(hy1:y+1=y1)(hg:ov T g=.func f caps)
    (h:∀ (c0:AV) (cj:AEx→AV),(∀ (args:List AV) (H':Hp) (nx':Nat) (K':AV→Hp→Nat→Prop),H' y=some [c0]→args.length=ps.length →
        aK P a (kQ T ps args) H' nx' (λe T2 H2 nx2=>aQ e (H2 y=some [c0]/\aK P b T2 (dl H2 y) nx2 λe T3 H3 nx3=>aQ e (K' (.bool true) (ar H3 y [c0]) nx3) (K' (.bool false) (ar H3 y [cj e]) nx3)) False)->
        Yl P y args H' nx' K')->
     Fn P f (.yld y::caps) (ar H y [c0]) y1 λ_ H' nx'=>(H' y=some [c0]/\K .normal T (dl H' y) nx')\/ ∃e,e≠.normal/\H' y=some [cj e]/\K e T (dl H' y) nx'):aK P (.rangeF g ps a b) T H nx K:=by
 subst hy hy1;exact Gf hg h
theorem v4{H:Hp}{b n len:Nat}{l:List Int}(hb:H b=some (l.map (AV.int .i64)))(hn:n=len)(hl:l.length=len):SnapF H (.msl b n 1 0 len) (aC l):=by
 subst hn;refine .msl b n 1 0 n _ _ hb (by simp[hl]) (by omega) (by simp[hl]) (λy hy=>by simp at hy;obtain⟨n,_,rfl⟩:=hy;rfl) (λi j y a c hy hc ha=>?_);rw[l6] at hy;cases hi:l[i]? with
 |none=>rw[hi] at hy;cases hy
 |some q=>
  rw[hi] at hy;cases hy;cases j with
  |zero=>
   simp only[AV.cells,xH,uI] at hc;subst hc;simp[hi] at ha;subst ha;exact .int _ _
  |succ j=>simp[AV.cells] at hc
theorem CO{H:Hp}{l:List Int}(h:l.length=0):SnapF H .esl (aC l):=by
 have:l=[]:=fA.1 h;subst this;exact .eslsl 1
end Go.Abs
namespace Go.Abs
inductive Row(H:Hp)(sz:Nat):AV->List AV->Prop
 |nil:Row H sz .esl []
 |box (b len:Nat) (cs:List AV) (hb:H b=some cs) (hl:cs.length=len*sz):Row H sz (.msl b (len*sz) sz 0 len) cs
def bv:AV->Option Nat
 |.msl b _ _ _ _=>some b
 |_=>none
theorem Row.len{H:Hp}{sz:Nat}{s:AV}{cs:List AV}(h:Row H sz s cs):∃n:Nat,dx s=some (.int .i64 n)/\cs.length=n*sz:=by
 cases h with
 |nil=>exact⟨0,rfl,by simp⟩
 |box b len cs hb hl=>exact⟨len,rfl,hl⟩
theorem Row.lenS{H:Hp}{sz n:Nat}{s:AV}{cs:List AV}(h:Row H sz s cs)(hl:cs.length=n*sz)(hz:0<sz):dx s=some (.int .i64 n):=by
 obtain⟨m,h1,h2⟩:=h.len;have:m=n:=Nat.eq_of_mul_eq_mul_right hz (by omega);subst this;exact h1
theorem Row.same{H H':Hp}{sz:Nat}{s:AV}{cs:List AV}(h:Row H sz s cs)(hs:∀b,bv s=some b->H' b=H b):Row H' sz s cs:=by
 cases h with
 |nil=>exact .nil
 |box b len cs hb hl=>exact .box b len cs ((hs b rfl).trans hb) hl
theorem Row.one{H:Hp}{sz:Nat}{s:AV}{cs:List AV}(h:Row H sz s cs):s.one=true/\s.cells=[s]:=by
 cases h<;>exact⟨rfl,rfl⟩
theorem ac{H:Hp}{b x:Nat}{cs:List AV}(h:x≠b):ar H b cs x=H x:=if_neg h
theorem cq{H:Hp}{b x:Nat}(h:x≠b):dl H b x=H x:=if_neg h
variable{P:Program}{T:Tm}{H:Hp}{nx:Nat}
theorem gI{dm:DM}{K:SP}{l:List Op2}{d:Option Nat}{sz bytes k:Nat}{s x:Opd}{sv xv:AV}{cs new:List AV}(hd:dm2 dm T (.app sz bytes s x)=true)(hs:ov T s=sv)(hrow:Row H sz sv cs)(hx:ov T x=xv)(hsrc:gg sz H xv=some (k,new))(ho:AV.ones new=true)(hk:new.length=k*sz)
    (hz:0<sz) (h1:(cs.length+k)*bytes<=140737488355328) (h2:cs.length+k<=9223372036854775807)
    (next:∀(sv':AV)(H':Hp)(nx':Nat),Row H' sz sv' (cs++new)->nx<=nx'->nx'<=nx+1->(∀i,i<nx->bv sv≠some i->H' i=H i)->(∀b,bv sv'=some b->bv sv=some b\/b=nx/\nx'=nx+1)->ak P dm l (aP T d sv') H' nx' K):
    ak P dm (⟨d,none,.app sz bytes s x⟩::l) T H nx K:=by
 cases hrow with
 |nil=>
  refine iR hd hs hx hsrc ho (by simpa using h1) (by simpa using h2) ?_;exact next _ _ _ (.box nx k new ah hk) (Nat.le_succ _) (aR _) (λi hi _=>ac (by omega)) (λb hb=>by cases hb;exact .inr ⟨rfl,rfl⟩)
 |box b len cs hb hl=>
  have hle:len<=cs.length:=by rw[hl];exact Nat.le_mul_of_pos_right _ hz
  have hb1:(len+k)*bytes<=140737488355328:=fe (lN _ (by omega)) h1;refine zJ hd hs hb hx hsrc ho hl rfl hb1 (by omega) ?_;exact next _ _ _ (.box b (len+k) (cs++new) ah (by rw[cA,hl,hk,fJ])) (aR _) (Nat.le_succ _) (λi hi hne=>ac (λe=>hne (by rw[e];rfl))) (λb' hb'=>by cases hb';exact .inl rfl)
theorem Row.snap{H:Hp}{sz:Nat}{s:AV}{elems:List AV}(h:Row H sz s (elems.flatMap AV.cells))(hc:∀y∈elems,y.cells.length=sz)(hz:0<sz)(hd:∀y∈elems,∀c∈y.cells,Dat c):Snap H s (.sl sz elems):=by
 obtain⟨f1,f2⟩:=fg elems hc;generalize he:elems.flatMap AV.cells=cs at h;cases h with
 |nil=>
  have:elems.length*sz=0:=by rw[<-f1,he];rfl
  have:elems=[]:=fA.1 (by
   rcases Nat.mul_eq_zero.1 this with h|h
   ·exact h
   ·omega)
  subst this;exact .eslsl sz
 |box b len cs hb hl=>
  have hlen:elems.length=len:=Nat.eq_of_mul_eq_mul_right hz (by rw[<-f1,he,hl]);refine .msl b (len*sz) sz 0 len cs elems hb hl (by omega) hlen hc (λi j y a c hy hc' ha=>?_);have hj:j<sz:=by rw[<-hc y (gD hy)];exact(bU.1 hc').1
  have key:∀(l:List AV)(i j:Nat)(y c:AV),(∀z∈l,z.cells.length=sz)->l[i]?=some y->y.cells[j]?=some c->j<sz->(l.flatMap AV.cells)[i*sz+j]?=some c:=by
   intro l
   induction l with
   |nil=>intro i j y c _ h;simp at h
   |cons x l ih=>
    intro i j y c hl hy hc hj;rw[ut];cases i with
    |zero=>
     simp at hy;subst hy;rw[xP,cp,gF (by rw[hl x (by simp)];exact hj)];exact hc
    |succ i=>
     rw[iS (by rw[hl x (by simp),fJ];omega),hl x (by simp)];have:=ih i j y c (λz hz=>hl z (by simp[hz])) (by simpa using hy) hc hj;rw[<-this];congr 1;rw[fJ];omega
  have:=key elems i j y c hc hy hc' hj;rw[he,<-cp (i*sz)] at this;rw[this] at ha;cases ha;exact hd y (gD hy) a (gD hc') H
theorem kg{α:Type}{f:α->AV}(h:∀x,(f x).cells=[f x])(l:List α):(l.map f).flatMap AV.cells=l.map f:=by
 induction l with
 |nil=>rfl
 |cons a l ih=>rw[fX,ut,ih,h];rfl
theorem Row.snapV{H:Hp}{s:AV}{l:List (List Int)}(h:Row H 1 s (l.map aC)):Snap H s (bm l):=by
 refine Row.snap (elems:=l.map aC) (by rw[kg (λ_=>rfl)];exact h) (λy hy=>?_) jq (λy hy c hc=>?_)
 ·simp at hy;obtain⟨n,_,rfl⟩:=hy;rfl
 ·simp at hy;obtain⟨n,_,rfl⟩:=hy;simp only[A2,cW] at hc;subst hc;exact ct n
theorem Row.snapI{H:Hp}{s:AV}{l:List Int}(h:Row H 1 s (l.map (AV.int .i64))):Snap H s (aC l):=by
 refine Row.snap (elems:=l.map (AV.int .i64)) (by rw[kg (λ_=>rfl)];exact h) (λy hy=>?_) jq (λy hy c hc=>?_)
 ·simp at hy;obtain⟨n,_,rfl⟩:=hy;rfl
 ·simp at hy;obtain⟨n,_,rfl⟩:=hy;simp only[DQ,cW] at hc;subst hc;exact .int
theorem cr{K:CP}{x y:C2}(M:SP)(h1:aK P x T H nx λe T H nx=>aQ e (M T H nx) (K e T H nx))(h2:∀T H nx,M T H nx->aK P y T H nx K):aK P (.seq x y) T H nx K:=by
 refine dJ (dY x h1 (λe T H nx h=>?_));cases e with
 |normal=>exact h2 T H nx h
 |exit i=>exact h
 |ret=>exact h
end Go.Abs
namespace Go.Abs
theorem M6:(∀l:List Int,(aC l).cells=[aC l])/\(∀l:List (List Int),(bm l).cells=[bm l])/\(∀x:Nat,bP x=none)/\
    (∀(α β:Type)(f:α->β)(a:α)(l:List α),(a::l).map f=f a::l.map f)/\(∀(α β:Type)(f:α->β),([]:List α).map f=[])/\(∀(α β:Type)(f:α->β)(a:α),(some a).map f=some (f a))/\(∀(α β:Type)(f:α->β),(none:Option α).map f=none)/\
    (∀n:Nat,0+n=n)/\(∀n:Nat,n+0=n)/\(∀p:Prop,(p/\p)=p)/\(∀p:Prop,(p/\True)=p)/\(∀p:Prop,(True/\p)=p)/\((!true)=false)/\((!false)=true)/\
    (∀(α:Type)(a:α)(l m:List α),(a::l)++m=a::(l++m))/\(∀(α:Type)(l:List α),[]++l=l)/\(∀(α:Type)(l:List α),l++[]=l):=
 ⟨λ_=>rfl,λ_=>rfl,λ_=>rfl,λ_ _ _ _ _=>rfl,λ_ _ _=>rfl,λ_ _ _ _=>rfl,λ_ _ _=>rfl,cp,oI,and_self,and_true,true_and,rfl,rfl,λ_ _ _ _=>rfl,λ_ _=>rfl,λ_ l=>eH l⟩
theorem zz(p:Prop):(p/\p)=p:=and_self p
theorem bZ:(∀(H:Hp)(b x:Nat)(cs:List AV),ar H b cs x=if x=b then some cs else H x)/\(∀(H:Hp)(b x:Nat),dl H b x=if x=b then none else H x):=⟨λ_ _ _ _=>rfl,λ_ _ _=>rfl⟩
theorem cu:(∀(H:Hp)(b:Nat)(cs:List AV),ar H b cs b=some cs)/\(∀(H:Hp)(b x:Nat)(cs:List AV),x≠b->ar H b cs x=H x)/\(∀(H:Hp)(b:Nat),dl H b b=none)/\(∀(H:Hp)(b x:Nat),x≠b->dl H b x=H x)/\(∀a b c:Nat,a+b+c=a+(b+c)):=
 ⟨λ_ _ _=>ah,λ_ _ _ _ h=>ac h,λ_ _=>ij,λ_ _ _ h=>cq h,pz⟩
theorem ZA:((∀ l:List Int,(aC l).cells=[aC l])∧(∀ l:List (List Int),(bm l).cells=[bm l])∧(∀ x:Nat,bP x=none) ∧
    (∀(α β:Type)(f:α->β)(a:α)(l:List α),(a::l).map f=f a::l.map f)/\(∀(α β:Type)(f:α->β),([]:List α).map f=[])/\(∀(α β:Type)(f:α->β)(a:α),(some a).map f=some (f a))/\(∀(α β:Type)(f:α->β),(none:Option α).map f=none)/\
    (∀n:Nat,0+n=n)/\(∀n:Nat,n+0=n)/\(∀p:Prop,(p/\p)=p)/\(∀p:Prop,(p/\True)=p)/\(∀p:Prop,(True/\p)=p)/\((!true)=false)/\((!false)=true)/\
    (∀(α:Type)(a:α)(l m:List α),(a::l)++m=a::(l++m))/\(∀(α:Type)(l:List α),[]++l=l)/\(∀(α:Type)(l:List α),l++[]=l))/\
    ((∀ (T:Tm) (n:Nat),ov T (.t n)=T n)∧(∀ (T:Tm) (v:AV),ov T (.c v)=v)∧(∀ (T:Tm) (d t:Nat) (v:AV),upd T d v t=if t=d then v else T t)∧(∀ (T:Tm) (d:Nat) (v:AV),aP T (some d) v=upd T d v) ∧
    (∀(T:Tm)(v:AV),aP T none v=T)/\(∀(x:AV)(l:List AV),T0 (x::l) 0=x)/\(∀(x:AV)(l:List AV)(n:Nat),T0 (x::l) (n+1)=T0 l n)/\(∀n:Nat,T0 [] n=.undef)/\
    (∀(d t:Nat)(v:AV)(l:List (Nat×AV)),tl ((d,v)::l) t=if t=d then v else tl l t)/\(∀t:Nat,tl [] t=.undef)/\
    (∀(T:Tm)(t:Nat)(ts:List Nat)(x:AV)(xs:List AV),kQ T (t::ts) (x::xs)=kQ (upd T t x) ts xs)/\(∀(T:Tm)(xs:List AV),kQ T [] xs=T))/\
    ((∀ (T:Tm) (H:Hp) (x:Opd),bX T H (.mov x)=some (ov T x)) ∧
    (∀(T:Tm)(H:Hp)(c a b:Opd),bX T H (.pick c a b)=match ov T c with|.bool t=>some (if t=true then ov T a else ov T b)|_=>none)/\
    (∀(T:Tm)(H:Hp)(a:Opd),bX T H (.ld1 a)=rd1 H (ov T a))/\(∀(T:Tm)(H:Hp)(k:Nat)(a:Opd),bX T H (.ldn k a)=(rd H k (ov T a)).map .agg)/\
    (∀(T:Tm)(H:Hp)(op:BinOp)(tb tf:Bool)(x y:Opd),bX T H (.bin op tb tf x y)=bt op tb tf (ov T x) (ov T y))/\
    (∀(T:Tm)(H:Hp)(op:UnOp)(x:Opd),bX T H (.un op x)=aun op (ov T x))/\
    (∀(T:Tm)(H:Hp)(f:FuncId)(caps:List Opd),bX T H (.mkfn f caps)=some (.func f (caps.map (ov T))))/\
    (∀(T:Tm)(H:Hp)(k:Nat)(p:Opd),bX T H (.fa k p)=lI k (ov T p))/\
    (∀(T:Tm)(H:Hp)(sz:Nat)(x i:Opd),bX T H (.ixaS sz x i)=eu sz (ov T x) (ov T i))/\
    (∀(T:Tm)(H:Hp)(x:Opd)(i:Nat),bX T H (.ext x i)=iL (ov T x) i)/\
    (∀(T:Tm)(H:Hp)(x:Opd),bX T H (.lenS x)=dx (ov T x))/\
    (∀(T:Tm)(H:Hp)(z:List AV)(parts:List (Nat×Nat×Opd)),bX T H (.bld z parts)=(en z (parts.map λp=>(p.1,p.2.1,ov T p.2.2))).map .agg)/\
    (∀(T:Tm)(H:Hp)(x:Opd)(l:List Opd),bX T H (.mx x l)=ir pq (ov T x) (l.map (ov T)))/\
    (∀(T:Tm)(H:Hp)(x:Opd)(l:List Opd),bX T H (.mn x l)=ir pm (ov T x) (l.map (ov T)))/\
    (∀(T:Tm)(H:Hp)(k:IntKind)(x:Opd),bX T H (.conv k x)=uB (ov T x) λn=>some (.int k (k.wrap n)))/\
    (∀(T:Tm)(H:Hp)(sz:Nat)(x:Opd)(lo hi mx:Option Opd),bX T H (.sls sz x lo hi mx)=jI sz (ov T x) (lo.map (ov T)) (hi.map (ov T)) (mx.map (ov T)))/\
    (∀(T:Tm)(H:Hp)(off:Nat)(x:Opd),bX T H (.part1 off x)=gL (ov T x) λcs=>cs[off]?)/\
    (∀(T:Tm)(H:Hp)(op:BinOp)(ks:List TK)(x y:Opd),bX T H (.binS op ks x y)=gL (ov T x) λxs=>gL (ov T y) λys=>oE op ks xs ys))/\
    ((∀ (T:Tm) (H:Hp) (x i:Opd),bX T H (.ixStr x i)=nZ (ov T x) (ov T i)) ∧
    (∀(s:ByteArray)(k:IntKind)(n:Int),nZ (.str s) (.int k n)=if 0<=n/\n<s.size then some (.int .u8 (s[n.toNat]?.getD 0).toNat) else none))/\
    ((∀ (k:IntKind) (a b:Int) (tb tf:Bool),bt .lss tb tf (.int k a) (.int k b)=some (.bool (decide (a < b))))∧(∀ (k:IntKind) (a b:Int) (tb tf:Bool),bt .leq tb tf (.int k a) (.int k b)=some (.bool (decide (a ≤ b)))) ∧
    (∀(k:IntKind)(a b:Int)(tb tf:Bool),bt .gtr tb tf (.int k a) (.int k b)=some (.bool (decide (b<a))))/\(∀(k:IntKind)(a b:Int)(tb tf:Bool),bt .geq tb tf (.int k a) (.int k b)=some (.bool (decide (b<=a))))/\
    (∀(k:IntKind)(a b:Int)(tb tf:Bool),bt .eql tb tf (.int k a) (.int k b)=some (.bool (decide (a=b))))/\(∀(k:IntKind)(a b:Int)(tb tf:Bool),bt .neq tb tf (.int k a) (.int k b)=some (.bool (decide (a≠b))))/\
    (∀(k:IntKind)(a b:Int)(tb tf:Bool),bt .add tb tf (.int k a) (.int k b)=some (.int k (k.wrap (a+b))))/\(∀(k:IntKind)(a b:Int)(tb tf:Bool),bt .sub tb tf (.int k a) (.int k b)=some (.int k (k.wrap (a-b))))/\
    (∀(k:IntKind)(a b:Int)(tb tf:Bool),bt .mul tb tf (.int k a) (.int k b)=some (.int k (k.wrap (a*b))))/\
    (∀(a b:Bool)(tf:Bool),bt .eql true tf (.bool a) (.bool b)=some (.bool (a==b)))/\(∀(a b:Bool)(tf:Bool),bt .neq true tf (.bool a) (.bool b)=some (.bool (!(a==b))))/\
    (∀tb:Bool,bt .eql tb true .nilf .nilf=some (.bool true))/\(∀tb:Bool,bt .neq tb true .nilf .nilf=some (.bool false))/\
    (∀(tb:Bool)(f:FuncId)(c:List AV),bt .eql tb true (.func f c) .nilf=some (.bool false))/\(∀(tb:Bool)(f:FuncId)(c:List AV),bt .neq tb true (.func f c) .nilf=some (.bool true))/\
    (∀b:Bool,aun .not (.bool b)=some (.bool (!b)))/\
    (∀(k:IntKind)(a b:Int),pq (.int k a) (.int k b)=some (.int k (max a b)))/\(∀(k:IntKind)(a b:Int),pm (.int k a) (.int k b)=some (.int k (min a b)))/\
    (∀(f:AV->AV->Option AV)(x:AV),ir f x []=some x)/\(∀(f:AV->AV->Option AV)(x y:AV)(l:List AV),ir f x (y::l)=match f x y with|some z=>ir f z l|none=>none)/\
    (∀(k:Nat)(b n off:Nat),lI k (.ptr b n off)=some (.ptr b n (off+k)))/\(∀(k:Nat)(cs:List AV)(off:Nat),lI k (.iptr cs off)=some (.iptr cs (off+k)))/\
    (∀(cs:List AV)(off:Nat),rd1 bP (.iptr cs off)=cs[off]?))/\
    ((∀ (H:Hp) (b n off:Nat),rd1 H (.ptr b n off)=match H b with | some cs=>if cs.length=n then cs[off]? else none | none=>none) ∧
    (∀(H:Hp)(k b n off:Nat),rd H k (.ptr b n off)=match H b with|some cs=>if cs.length=n/\off+k<=n then some ((cs.drop off).take k) else none|none=>none)/\
    (∀(H:Hp)(cs:List AV)(off:Nat),rd1 H (.iptr cs off)=cs[off]?)/\(∀(H:Hp)(cs:List AV)(off k:Nat),rd H k (.iptr cs off)=if off+k<=cs.length then some ((cs.drop off).take k) else none)/\
    (∀(l:List AV)(i:Nat),iL (.tup l) i=l[i]?)/\(∀(l:List AV)(f:List AV->Option AV),gL (.agg l) f=f l)/\(∀(k:IntKind)(n:Int)(f:Int->Option AV),uB (.int k n) f=f n)/\
    (∀(cs:List AV),en cs []=some cs)/\
    (∀(cs:List AV)(off sz:Nat)(x:AV)(r:List (Nat×Nat×AV)),en cs ((off,sz,x)::r)=if AV.ones x.cells=true/\x.cells.length=sz/\off+sz<=cs.length then en (bD cs off x.cells) r else none)/\
    (∀(b n sz off len:Nat),dx (.msl b n sz off len)=some (.int .i64 len))/\(dx .esl=some (.int .i64 0))/\(∀(sz:Nat)(l:List AV),dx (.sl sz l)=some (.int .i64 l.length))/\
    (∀(z:AV),bz z 0=[])/\(∀(z:AV)(n:Nat),bz z (n+1)=z.cells++bz z n))/\
    ((∀ (a:AV) (l:List AV),(a :: l)[0]?=some a)∧(∀ (a:AV) (l:List AV) (n:Nat),(a :: l)[n + 1]?=l[n]?)∧(∀ (l:List AV),l.drop 0=l)∧(∀ (a:AV) (l:List AV) (n:Nat),(a :: l).drop (n + 1)=l.drop n)∧(∀ n:Nat,([]:List AV).drop n=[]) ∧
    (∀(l:List AV),l.take 0=[])/\(∀(a:AV)(l:List AV)(n:Nat),(a::l).take (n+1)=a::l.take n)/\(∀n:Nat,([]:List AV).take n=[])/\(∀(l:List AV),[]++l=l)/\(∀(l:List AV),l++[]=l)/\(∀(a:AV)(l m:List AV),(a::l)++m=a::(l++m))/\
    (∀(cs:List AV)(off:Nat)(new:List AV),bD cs off new=cs.take off++new++cs.drop (off+new.length))/\(([]:List AV).length=0)/\(∀(a:AV)(l:List AV),(a::l).length=l.length+1)/\
    (∀(k:IntKind)(n:Int),(AV.int k n).cells=[.int k n])/\(∀b:Bool,(AV.bool b).cells=[.bool b])/\(∀s:ByteArray,(AV.str s).cells=[.str s])/\(∀(k:Nat)(l:List AV),(AV.sl k l).cells=[.sl k l])/\(∀l:List AV,(AV.agg l).cells=l)/\(AV.esl.cells=[.esl])/\(AV.nilf.cells=[.nilf])/\
    (∀(f:FuncId)(c:List AV),(AV.func f c).cells=[.func f c])/\(∀(b n off:Nat),(AV.ptr b n off).cells=[.ptr b n off])/\(∀(c:List AV)(off:Nat),(AV.iptr c off).cells=[.iptr c off])/\(∀(b n sz off len:Nat),(AV.msl b n sz off len).cells=[.msl b n sz off len])/\(∀b:Nat,(AV.yld b).cells=[.yld b])/\(∀b:Nat,(AV.mp b).cells=[.mp b])/\(AV.nilp.cells=[.nilp])/\(∀(f:FuncId)(c:List AV),(AV.bfn f c).cells=[.bfn f c]))/\
    ((∀(b:Bool)(x y:AV),(match (AV.bool b:AV) with|.bool t=>some (if t=true then x else y)|_=>none)=some (if b=true then x else y))):=
 ⟨M6,SA,SV,SV2,SN,SR,SL,λ_ _ _=>rfl⟩
theorem ZV:((AV.ones []=true)∧(∀ (a:AV) (l:List AV),AV.ones (a :: l)=(a.one && AV.ones l))∧(∀ (k:IntKind) (n:Int),(AV.int k n).one=true)∧(∀ b:Bool,(AV.bool b).one=true)∧(∀ s:ByteArray,(AV.str s).one=true)∧(∀ (k:Nat) (l:List AV),(AV.sl k l).one=true)∧(AV.esl.one=true)∧(AV.nilf.one=true) ∧
    (∀(f:FuncId)(c:List AV),(AV.func f c).one=true)/\(∀(b n off:Nat),(AV.ptr b n off).one=true)/\(∀(c:List AV)(off:Nat),(AV.iptr c off).one=true)/\(∀(b n sz off len:Nat),(AV.msl b n sz off len).one=true)/\(∀b:Nat,(AV.yld b).one=true)/\(∀b:Nat,(AV.mp b).one=true)/\(AV.nilp.one=true)/\(∀l:List AV,l.all AV.one=AV.ones l))/\(∀l:List Int,(aC l).one=true)/\(∀l:List (List Int),(bm l).one=true)/\(∀b:Bool,(b&&b)=b)/\((false=true)=False)/\(∀a:Int,-9223372036854775808<=a->a<=9223372036854775807->IntKind.wrap .i64 a=a)/\
    (∀(l:List Int)(k:IntKind)(n:Int),eu 1 (aC l) (.int k n)=if 0<=n/\n<l.length then some (.iptr [.int .i64 (l.getD n.toNat default)] 0) else none)/\(∀(l:List (List Int))(k:IntKind)(n:Int),eu 1 (bm l) (.int k n)=if 0<=n/\n<l.length then some (.iptr [aC (l.getD n.toNat default)] 0) else none)/\
    (∀l:List Int,dx (aC l)=some (.int .i64 l.length))/\(∀l:List (List Int),dx (bm l)=some (.int .i64 l.length))/\(∀n:Nat,(n:Int).toNat=n)/\(∀(α β:Type)(f:α->β)(l:List α),(l.map f).length=l.length)/\
    (∀(sz b m off len:Nat)(k:IntKind)(n:Int),eu sz (.msl b m sz off len) (.int k n)=if 0<=n/\n<len then some (.ptr b m (off+n.toNat*sz)) else none)/\(∀(α:Type)(_:Inhabited α)(f:α->AV)(l:List α)(k:Nat),k<l.length->(l.map f)[k]?=some (f (l.getD k default)))/\(∀n:Nat,n*1=n):=
 ⟨SO,λ_=>rfl,λ_=>rfl,Bool.and_self,jO,λ_=>xw,λ_ _ _=>mZ,λ_ _ _=>oh,λ_=>uh,λ_=>qU,cz,λ_ _ _ _=>bi _,λ_ _ _ _ _ _ _=>FV,λ_ _ _ _ _ h=>getElem?_map_lt h,Nat.mul_one⟩
theorem ZG:((∀ (T:Tm) (n:Nat),ov T (.t n)=T n)∧(∀ (T:Tm) (v:AV),ov T (.c v)=v)∧(∀ (T:Tm) (d t:Nat) (v:AV),upd T d v t=if t=d then v else T t)∧(∀ (T:Tm) (d:Nat) (v:AV),aP T (some d) v=upd T d v) ∧
    (∀(T:Tm)(v:AV),aP T none v=T)/\(∀(x:AV)(l:List AV),T0 (x::l) 0=x)/\(∀(x:AV)(l:List AV)(n:Nat),T0 (x::l) (n+1)=T0 l n)/\(∀n:Nat,T0 [] n=.undef)/\
    (∀(d t:Nat)(v:AV)(l:List (Nat×AV)),tl ((d,v)::l) t=if t=d then v else tl l t)/\(∀t:Nat,tl [] t=.undef)/\
    (∀(T:Tm)(t:Nat)(ts:List Nat)(x:AV)(xs:List AV),kQ T (t::ts) (x::xs)=kQ (upd T t x) ts xs)/\(∀(T:Tm)(xs:List AV),kQ T [] xs=T))/\(∀a:Int,-9223372036854775808<=a->a<=9223372036854775807->IntKind.wrap .i64 a=a)/\(∀a b:Nat,((a+b:Nat):Int)=(a:Int)+(b:Int))/\(((1:Nat):Int)=1)/\(((0:Nat):Int)=0)/\(∀p:Prop,(p/\True)=p)/\(∀p:Prop,(p/\p)=p):=
 ⟨SA,λ_=>xw,Int.natCast_add,rfl,rfl,and_true,and_self⟩
theorem Cj{P:Program}{b:C2}{T:Tm}{H:Hp}{nx:Nat}{K:CP}(L:Nat->List (Nat×AV))(n:Nat)(p:Nat->Prop)(hT:agr T (L 0))
    (step:∀k,k<=n->(∀i,i<k->p i)->aK P b (tl (L k)) H nx λe T H' nx'=>aQ e (k<n/\p k/\agr T (L (k+1))/\H'=H/\nx'=nx) (K e T H' nx')):a6 (aK P b) T H nx K:=by
 refine jY (X:=Nat) L (λk=>k<=n/\∀i,i<k->p i) (λk=>n-k) 0 ⟨bw _,λi h=>(by omega)⟩ hT ?_;rintro k ⟨h1,h2⟩;refine dY b (step k h1 h2) (λe T H' nx' h=>?_);cases e with
 |normal=>
  obtain⟨g1,g2,g3,g4,g5⟩:=h;refine⟨k+1,⟨by omega,λi hi=>?_⟩,by omega,g3,g4,g5⟩;rcases gN.1 hi with h|rfl
  ·exact h2 i h
  ·exact g2
 |exit i=>exact h
 |ret=>exact h
theorem iC{α:Type}[Inhabited α]{l:List α}{p:α->Bool}(h:∀i,i<l.length->p (l.getD i default)=true):l.all p=true:=by
 rw[eB];intro x hx;obtain⟨i,hi,e⟩:=jK hx;have:=h i hi
 rwa [show l.getD i default=x by simp[List.getD,hi,e]] at this
theorem gQ{α:Type}[Inhabited α]{l:List α}{p:α->Bool}{k:Nat}(hk:k<l.length)(h:p (l.getD k default)=false):l.all p=false:=by
 rw[Bool.eq_false_iff,ne_eq,eB];intro hh;have:=hh _ (bk hk);rw[h] at this;cases this
theorem qG{α:Type}[Inhabited α]{l:List α}{p:α->Bool}(h:∀i,i<l.length->p (l.getD i default)=false):l.any p=false:=by
 rw[List.any_eq_false];intro x hx;obtain⟨i,hi,e⟩:=jK hx;have:=h i hi;rw[show l.getD i default=x by simp[List.getD,hi,e]] at this;simp[this]
theorem ET{α:Type}[Inhabited α][DecidableEq α]{l:List α}{v:α}{k:Nat}(hk:k<l.length)(h:l.getD k default=v):decide (v∈l)=true:=by
 rw[xt,<-h];exact bk hk
theorem Dg{α:Type}[Inhabited α][DecidableEq α]{l:List α}{v:α}(h:∀i,i<l.length->l.getD i default≠v):decide (v∈l)=false:=by
 rw[decide_eq_false_iff_not];intro hm;obtain⟨i,hi,e⟩:=jK hm;exact h i hi (by simp[List.getD,hi,e])
def jf{α:Type}(sz:Nat)(f:α->AV)(l:List α):AV:=.sl sz (l.map f)
theorem Hg(l:List (List Int)):bm l=jf 1 aC l:=rfl
section
variable{α:Type}{sz:Nat}{f:α->AV}{l:List α}
theorem sg (h:∀ x ∈ l,∀ c ∈ (f x).cells,Dat c):Dat (jf sz f l):=Dat.sl (fun x hx c hc=>by
 obtain⟨y,hy,rfl⟩:=bG.1 hx;exact h y hy c hc)
theorem DR (hc:∀ x,(f x).cells=[f x]) (h:∀ x,Dat (f x)):Dat (jf sz f l):=sg (fun x _ c hx=>by
 rw[hc,cW] at hx;subst hx;exact h x)
theorem mX[Inhabited α]{k:IntKind}{n:Int}:eu sz (jf sz f l) (.int k n)=if 0<=n/\n<l.length then some (.iptr (f (l.getD n.toNat default)).cells 0) else none:=ss
theorem lm:dx (jf sz f l)=some (.int .i64 l.length):=qp
theorem pi{k:Nat}(h:k<=l.length):jI sz (jf sz f l) none (some (.int .i64 k)) none=some (jf sz f (l.take k)):=by
 simp[jI,bJ,jf,h]
theorem kS{k:Nat}(h:k<=l.length):jI sz (jf sz f l) (some (.int .i64 k)) none none=some (jf sz f (l.drop k)):=by
 simp[jI,bJ,jf,h];rw[fI (by simp)]
theorem Row.snapL'{H:Hp}{s:AV}(h:Row H 1 s (l.map f))(hc:∀x,(f x).cells=[f x])(hd:∀x∈l,Dat (f x)):Snap H s (jf 1 f l):=by
 refine Row.snap (elems:=l.map f) (by rw[kg hc];exact h) (λy hy=>?_) jq (λy hy c hx=>?_)
 ·obtain⟨n,_,rfl⟩:=bG.1 hy;rw[hc];rfl
 ·obtain⟨n,hn,rfl⟩:=bG.1 hy;rw[hc,cW] at hx;subst hx;exact hd n hn
end
theorem gq{a:Int}(h1:0<=a)(h2:a<18446744073709551616):IntKind.wrap .u64 a=a:=by
 simp only[IntKind.wrap,IntKind.bits,IntKind.signed];simp;omega
theorem tO{a:Int}:IntKind.wrap .u8 a=a%256:=by
 simp only[IntKind.wrap,IntKind.bits,IntKind.signed];simp
theorem wE{k:IntKind}{a b:Nat}{tb tf:Bool}{k':IntKind}(hb:b<=k.bits):bt .shr tb tf (.int k a) (.int k' b)=some (.int k ((a/2^b:Nat):Int)):=by
 have h:¬((b:Int)<0):=by omega
 simp only[bt,qi,h,if_false,or_true,if_true,cz,Nat.min_eq_left hb]
 congr 2
 rw[Int.fdiv_eq_ediv_of_nonneg _ (Int.le_of_lt (Int.pow_pos (by omega)))];simp
theorem BU{k:IntKind}{a b:Nat}{tb tf:Bool}{k':IntKind}(hb:b<=k.bits)(h:a*2^b<2^(k.bits-1)):bt .shl tb tf (.int k a) (.int k' b)=some (.int k ((a*2^b:Nat):Int)):=by
 have h0:¬((b:Int)<0):=by omega
 simp only[bt,qi,h0,if_false,true_or,if_true,cz,Nat.min_eq_left hb]
 congr 2
 have e:(a:Int)*2^b=((a*2^b:Nat):Int):=by simp
 rw[e];generalize a*2^b=c at h;cases k<;>(simp only[IntKind.bits,IntKind.wrap,IntKind.signed] at h |-;simp at h |-;omega)
theorem BA{k:IntKind}{a b:Int}{tb tf:Bool}(ha:0<=a)(hb:0<b):bt .rem tb tf (.int k a) (.int k b)=some (.int k (a%b)):=by
 show(if (k=k) then ff .rem k a b else none)=_;rw[if_pos rfl];simp only[ff,if_neg (show ¬b=0 by omega),Int.tmod_eq_emod_of_nonneg ha]
theorem o7{a b:Int}{tb tf:Bool}(ha:0<=a)(h2:a<=9223372036854775807)(hb:0<b):bt .quo tb tf (.int .i64 a) (.int .i64 b)=some (.int .i64 (a/b)):=by
 show(if (IntKind.i64=IntKind.i64) then ff .quo .i64 a b else none)=_;rw[if_pos rfl];have h3:0<=a/b:=Int.ediv_nonneg ha (by omega);have h4:a/b<=a:=Int.ediv_le_self _ ha;simp only[ff,if_neg (show ¬b=0 by omega),Int.tdiv_eq_ediv_of_nonneg ha];rw[xw (by omega) (by omega)]
theorem bc{P:Program}{T:Tm}{H:Hp}{nx:Nat}{K:SP}{l:List Op2}{d:Option Nat}{f:Opd}{args:List Opd}{g:FuncId}{caps xs:List AV}{R:AV->Hp->Nat->Prop}(hf:ov T f=.func g caps)(ha:args.map (ov T)++caps=xs)(hc:Fn P g xs H nx R)
    (k:∀r H' nx',R r H' nx'->ak P .text l (aP T d r) H' nx' K):ak P .text (⟨d,none,.call f args⟩::l) T H nx K:=by
 subst ha;exact A1 hf (Fn.mono hc k)
def KO(l:List UInt8):AV:=.str ⟨l.toArray⟩
theorem FE(l:List UInt8):Dat (KO l):=.str
instance datI_encS{l:List UInt8}:DatI (KO l):=⟨FE l⟩
end Go.Abs
namespace Go.Abs
open Go.RowKit
variable{P:Program}{T:Tm}{H:Hp}{nx:Nat}
theorem aI{a b:Prop}(x:a)(y:b):a/\b:=⟨x,y⟩
theorem ev0{α:Type}{a b:α}(h:a=b:=by(try simp only[bZ,ZA,Nat.reduceEqDiff,↓reduceIte,Nat.reduceAdd,Nat.reduceLeDiff]);(try with_reducible rfl);first|done|fail):a=b:=h
theorem evZ{α:Type}{a b:α}(h:a=b:=by(try simp only[bZ,ZA,Nat.reduceEqDiff,↓reduceIte,Nat.reduceAdd,Nat.reduceLeDiff,zz]);(try with_reducible rfl);first|done|fail):a=b:=h
theorem evY{α:Type}{a b:α}(h:a=b:=by(try simp (disch:=omega) only[cu,ZA,Nat.reduceEqDiff,↓reduceIte,Nat.reduceAdd,Nat.reduceLeDiff,zz]);(try with_reducible rfl);first|done|fail):a=b:=h
theorem ag0{T:Tm}{l:List (Nat×AV)}(h:agr T l:=by simp (disch:=omega) only[agr,ZG,Nat.reduceEqDiff,↓reduceIte];first|done|fail):agr T l:=h
theorem agZ{T:Tm}{l:List (Nat×AV)}(h:agr T l:=by simp (disch:=omega) only[agr,ZG,Nat.reduceEqDiff,↓reduceIte,zz];first|done|fail):agr T l:=h
theorem vZ{dm:DM}{K:SP}{l:List Op2}{d:Option Nat}{i:Ins}{r:AV}(k:ak P dm l (aP T d r) H nx K)(hi:ic i=.val:=by rfl)(hd:dm2 dm T i=true:=by rfl)(h:bX T H i=some r:=by(try simp (disch:=omega) only[bZ,ZA,Nat.reduceEqDiff,↓reduceIte,Nat.reduceAdd,Nat.reduceLeDiff,ZV,reduceCtorEq,zz]);first|with_reducible rfl|(apply BS;(focus omega);with_reducible rfl)):ak P dm (⟨d,none,i⟩::l) T H nx K:=nN hi hd h k
theorem nvZ{S:Hp}{K:SP}{l:List (Op2×Nat)}{d:Option Nat}{i:Ins}{r:AV}(k:bf P S l (aP T d r) H nx K)(h:bX T S i=some r:=by(try simp (disch:=omega) only[bZ,ZA,Nat.reduceEqDiff,↓reduceIte,Nat.reduceAdd,Nat.reduceLeDiff,ZV,reduceCtorEq,zz]);first|with_reducible rfl|(apply BS;(focus omega);with_reducible rfl)):bf P S ((⟨d,none,i⟩,0)::l) T H nx K:=Ih h k
theorem cZ{dm:DM}{K:SP}{l:List Op2}{d:Option Nat}{f:Opd}{args:List Opd}{g:FuncId}{caps xs:List AV}{r:AV}(k:ak P dm l (aP T d r) H nx K)(hf:ov T f=.func g caps:=by(try simp only[bZ,ZA,Nat.reduceEqDiff,↓reduceIte,Nat.reduceAdd,Nat.reduceLeDiff,zz]);(try with_reducible rfl);first|done|fail)(ha:args.map (ov T)++caps=xs:=by(try simp only[bZ,ZA,Nat.reduceEqDiff,↓reduceIte,Nat.reduceAdd,Nat.reduceLeDiff,zz]);(try with_reducible rfl);first|done|fail)(hp:Pure P g xs r)(hs:au H xs xs r:=by(first|refine aF ?_ rfl|apply aW);(repeat' (first|exact aj|apply bo|(apply aX;(focus with_reducible assumption))));first|done|fail):ak P dm (⟨d,none,.call f args⟩::l) T H nx K:=Cg hf ha hp hs k
theorem alZ{dm:DM}{K:SP}{l:List Op2}{d:Option Nat}{z:AV}{cs:List AV}(k:ak P dm l (aP T d (.ptr nx cs.length 0)) (ar H nx cs) (nx+1) K)(hd:dm2 dm T (.alloc z)=true:=by rfl)(hc:z.cells=cs:=by(try simp only[bZ,ZA,Nat.reduceEqDiff,↓reduceIte,Nat.reduceAdd,Nat.reduceLeDiff,zz]);(try with_reducible rfl);first|done|fail)(ho:AV.ones cs=true:=by simp only[SO,Bool.and_self,eU,dZ,zz];first|done|fail):ak P dm (⟨d,none,.alloc z⟩::l) T H nx K:=rP hd hc ho k
theorem bxZ{dm:DM}{K:SP}{l:List Op2}{d:Option Nat}{x:Opd}{v:AV}{cs:List AV}(k:ak P dm l (aP T d (.ptr nx cs.length 0)) (ar H nx cs) (nx+1) K)(hd:dm2 dm T (.box x)=true:=by rfl)(hx:ov T x=v:=by(try simp only[bZ,ZA,Nat.reduceEqDiff,↓reduceIte,Nat.reduceAdd,Nat.reduceLeDiff,zz]);(try with_reducible rfl);first|done|fail)(hc:v.cells=cs:=by(try simp only[bZ,ZA,Nat.reduceEqDiff,↓reduceIte,Nat.reduceAdd,Nat.reduceLeDiff,zz]);(try with_reducible rfl);first|done|fail)(ho:AV.ones cs=true:=by simp only[SO,Bool.and_self,eU,dZ,zz];first|done|fail):ak P dm (⟨d,none,.box x⟩::l) T H nx K:=Ie hd hx hc ho k
theorem stZ{dm:DM}{K:SP}{l:List Op2}{d:Option Nat}{sz:Nat}{p x:Opd}{b n off:Nat}{v:AV}{cs vs:List AV}(k:ak P dm l (aP T d (.tup [])) (ar H b (bD cs off vs)) nx K)(hd:dm2 dm T (.st sz p x)=true:=by rfl)(hp:ov T p=.ptr b n off:=by(try simp only[bZ,ZA,Nat.reduceEqDiff,↓reduceIte,Nat.reduceAdd,Nat.reduceLeDiff,zz]);(try with_reducible rfl);first|done|fail)(hx:ov T x=v:=by(try simp only[bZ,ZA,Nat.reduceEqDiff,↓reduceIte,Nat.reduceAdd,Nat.reduceLeDiff,zz]);(try with_reducible rfl);first|done|fail)(hb:H b=some cs:=by(try simp only[bZ,ZA,Nat.reduceEqDiff,↓reduceIte,Nat.reduceAdd,Nat.reduceLeDiff,zz]);(try with_reducible rfl);first|done|fail)(hc:v.cells=vs:=by(try simp only[bZ,ZA,Nat.reduceEqDiff,↓reduceIte,Nat.reduceAdd,Nat.reduceLeDiff,zz]);(try with_reducible rfl);first|done|fail)(ho:AV.ones vs=true:=by simp only[SO,Bool.and_self,eU,dZ,zz];first|done|fail)(hn:cs.length=n:=by(try simp only[SL,Nat.reduceAdd,Nat.reduceMul,bi]);first|done|omega)(hl:vs.length=sz:=by(try simp only[SL,Nat.reduceAdd,Nat.reduceMul,bi]);first|done|omega)(hf:off+sz<=n:=by(try simp only[SL,Nat.reduceAdd,Nat.reduceMul,bi]);first|done|omega):ak P dm (⟨d,none,.st sz p x⟩::l) T H nx K:=Jt hd hp hx hb hc ho hn hl hf k
theorem blZ{dm:DM}{K:SP}{l:List Op2}{d:Option Nat}{sz len:Nat}{z:List AV}{parts:List (Nat×Nat×Opd)}{pv:List (Nat×Nat×AV)}{cs:List AV}(k:ak P dm l (aP T d (.msl nx cs.length sz 0 len)) (ar H nx cs) (nx+1) K)(hd:dm2 dm T (.bldS sz len z parts)=true:=by rfl)(hl:len≠0:=by exact Nat.succ_ne_zero _)(hp:parts.map (λp=>(p.1,p.2.1,ov T p.2.2))=pv:=by(try simp only[bZ,ZA,Nat.reduceEqDiff,↓reduceIte,Nat.reduceAdd,Nat.reduceLeDiff,zz]);(try with_reducible rfl);first|done|fail)(hc:en (bz (.agg z) len) pv=some cs:=by(try simp only[bZ,ZA,Nat.reduceEqDiff,↓reduceIte,Nat.reduceAdd,Nat.reduceLeDiff,SO,Bool.and_self,eU,dZ,zz]);(try with_reducible rfl);first|done|fail):ak P dm (⟨d,none,.bldS sz len z parts⟩::l) T H nx K:=H6 hd hl hp hc k
theorem b0Z{dm:DM}{K:SP}{l:List Op2}{d:Option Nat}{sz:Nat}{z:List AV}(k:ak P dm l (aP T d .esl) H nx K)(hd:dm2 dm T (.bldS sz 0 z [])=true:=by rfl):ak P dm (⟨d,none,.bldS sz 0 z []⟩::l) T H nx K:=EE hd k
theorem a0Z{dm:DM}{K:SP}{l:List Op2}{d:Option Nat}{sz bytes n:Nat}{s x:Opd}{v:AV}{new:List AV}(k:ak P dm l (aP T d (.msl nx (n*sz) sz 0 n)) (ar H nx new) (nx+1) K)(hd:dm2 dm T (.app sz bytes s x)=true:=by rfl)(hs:ov T s=.esl:=by(try simp only[bZ,ZA,Nat.reduceEqDiff,↓reduceIte,Nat.reduceAdd,Nat.reduceLeDiff,zz]);(try with_reducible rfl);first|done|fail)(hx:ov T x=v:=by(try simp only[bZ,ZA,Nat.reduceEqDiff,↓reduceIte,Nat.reduceAdd,Nat.reduceLeDiff,zz]);(try with_reducible rfl);first|done|fail)(hsrc:gg sz H v=some (n,new):=by first|exact gb|exact fV|exact oQ|(apply ft;(focus ((try simp only[bZ,ZA,Nat.reduceEqDiff,↓reduceIte,Nat.reduceAdd,Nat.reduceLeDiff,zz]);(try with_reducible rfl);first|done|fail));(iterate 2 (focus ((try simp only[SL,Nat.reduceAdd,Nat.reduceMul,bi]);first|done|omega))))|exact jP)(ho:AV.ones new=true:=by first|exact iH|exact gJ|(simp only[SO,Bool.and_self,eU,dZ,zz];first|done|fail))(h1:n*bytes<=140737488355328:=by(try simp only[SL,Nat.reduceAdd,Nat.reduceMul,bi]);first|done|omega)(h2:n<=9223372036854775807:=by(try simp only[SL,Nat.reduceAdd,Nat.reduceMul,bi]);first|done|omega):ak P dm (⟨d,none,.app sz bytes s x⟩::l) T H nx K:=iR hd hs hx hsrc ho h1 h2 k
theorem apZ{dm:DM}{K:SP}{l:List Op2}{d:Option Nat}{sz bytes n:Nat}{s x:Opd}{v:AV}{new cs:List AV}{b m len:Nat}(k:ak P dm l (aP T d (.msl b ((len+n)*sz) sz 0 (len+n))) (ar H b (cs++new)) nx K)(hd:dm2 dm T (.app sz bytes s x)=true:=by rfl)(hs:ov T s=.msl b m sz 0 len:=by(try simp only[bZ,ZA,Nat.reduceEqDiff,↓reduceIte,Nat.reduceAdd,Nat.reduceLeDiff,zz]);(try with_reducible rfl);first|done|fail)(hb:H b=some cs:=by(try simp only[bZ,ZA,Nat.reduceEqDiff,↓reduceIte,Nat.reduceAdd,Nat.reduceLeDiff,zz]);(try with_reducible rfl);first|done|fail)(hx:ov T x=v:=by(try simp only[bZ,ZA,Nat.reduceEqDiff,↓reduceIte,Nat.reduceAdd,Nat.reduceLeDiff,zz]);(try with_reducible rfl);first|done|fail)(hsrc:gg sz H v=some (n,new):=by first|exact gb|exact fV|exact oQ|(apply ft;(focus ((try simp only[bZ,ZA,Nat.reduceEqDiff,↓reduceIte,Nat.reduceAdd,Nat.reduceLeDiff,zz]);(try with_reducible rfl);first|done|fail));(iterate 2 (focus ((try simp only[SL,Nat.reduceAdd,Nat.reduceMul,bi]);first|done|omega))))|exact jP)(ho:AV.ones new=true:=by first|exact iH|exact gJ|(simp only[SO,Bool.and_self,eU,dZ,zz];first|done|fail))(hm:cs.length=m:=by(try simp only[SL,Nat.reduceAdd,Nat.reduceMul,bi]);first|done|omega)(hl:m=len*sz:=by(try simp only[SL,Nat.reduceAdd,Nat.reduceMul,bi]);first|done|omega)(h1:(len+n)*bytes<=140737488355328:=by(try simp only[SL,Nat.reduceAdd,Nat.reduceMul,bi]);first|done|omega)(h2:len+n<=9223372036854775807:=by(try simp only[SL,Nat.reduceAdd,Nat.reduceMul,bi]);first|done|omega):ak P dm (⟨d,none,.app sz bytes s x⟩::l) T H nx K:=zJ hd hs hb hx hsrc ho hm hl h1 h2 k
theorem gTZ{dm:DM}{K:SP}{l:List Op2}{d:Option Nat}{i:Ins}{t:Nat}{w:Bool}(k:ak P dm (⟨d,none,i⟩::l) T H nx K)(h:T t=.bool w:=by simp only[bZ,ZA,Nat.reduceEqDiff,↓reduceIte,Nat.reduceAdd,Nat.reduceLeDiff,zz];first|done|fail):ak P dm (⟨d,some (t,w),i⟩::l) T H nx K:=Js h k
theorem gFZ{dm:DM}{K:SP}{l:List Op2}{d:Option Nat}{i:Ins}{t:Nat}{w:Bool}(k:ak P dm l (aP T d (.tup [])) H nx K)(h:T t=.bool (!w)\/T t=.tup []:=by simp only[bZ,ZA,Nat.reduceEqDiff,↓reduceIte,Nat.reduceAdd,Nat.reduceLeDiff,or_true,true_or,zz];first|done|fail):ak P dm (⟨d,some (t,w),i⟩::l) T H nx K:=JY h k
theorem cTZ{K:CP}{c:Opd}{x y:C2}(h1:aK P x T H nx K)(hc:ov T c=.bool true:=by simp only[bZ,ZA,Nat.reduceEqDiff,↓reduceIte,Nat.reduceAdd,Nat.reduceLeDiff,zz];first|done|fail):aK P (.cond c x y) T H nx K:=BW hc h1
theorem cFZ{K:CP}{c:Opd}{x y:C2}(h2:aK P y T H nx K)(hc:ov T c=.bool false:=by simp only[bZ,ZA,Nat.reduceEqDiff,↓reduceIte,Nat.reduceAdd,Nat.reduceLeDiff,zz];first|done|fail):aK P (.cond c x y) T H nx K:=Ch hc h2
theorem r1Z{K:AV->Prop}{a:RV}{x:AV}(h:K x)(ha:rv T H a=some x:=by simp only[rv,bZ,ZA,Nat.reduceEqDiff,↓reduceIte,Nat.reduceAdd,Nat.reduceLeDiff,zz];with_reducible rfl):bn T H K [a]:=r_1 ha h
theorem r2Z{K:AV->Prop}{a b:RV}{x y:AV}(h:K (.tup [x,y]))(ha:rv T H a=some x:=by simp only[rv,bZ,ZA,Nat.reduceEqDiff,↓reduceIte,Nat.reduceAdd,Nat.reduceLeDiff,zz];with_reducible rfl)(hb:rv T H b=some y:=by simp only[rv,bZ,ZA,Nat.reduceEqDiff,↓reduceIte,Nat.reduceAdd,Nat.reduceLeDiff,zz];with_reducible rfl):bn T H K [a,b]:=r_2 ha hb h
theorem r3Z{K:AV->Prop}{a b c:RV}{x y z:AV}(h:K (.tup [x,y,z]))(ha:rv T H a=some x:=by simp only[rv,bZ,ZA,Nat.reduceEqDiff,↓reduceIte,Nat.reduceAdd,Nat.reduceLeDiff,zz];with_reducible rfl)(hb:rv T H b=some y:=by simp only[rv,bZ,ZA,Nat.reduceEqDiff,↓reduceIte,Nat.reduceAdd,Nat.reduceLeDiff,zz];with_reducible rfl)(hc:rv T H c=some z:=by simp only[rv,bZ,ZA,Nat.reduceEqDiff,↓reduceIte,Nat.reduceAdd,Nat.reduceLeDiff,zz];with_reducible rfl):bn T H K [a,b,c]:=r_3 ha hb hc h
theorem r5Z{K:AV->Prop}{a b c d e:RV}{x y z u v:AV}(h:K (.tup [x,y,z,u,v]))(ha:rv T H a=some x:=by simp only[rv,bZ,ZA,Nat.reduceEqDiff,↓reduceIte,Nat.reduceAdd,Nat.reduceLeDiff,zz];with_reducible rfl)(hb:rv T H b=some y:=by simp only[rv,bZ,ZA,Nat.reduceEqDiff,↓reduceIte,Nat.reduceAdd,Nat.reduceLeDiff,zz];with_reducible rfl)(hc:rv T H c=some z:=by simp only[rv,bZ,ZA,Nat.reduceEqDiff,↓reduceIte,Nat.reduceAdd,Nat.reduceLeDiff,zz];with_reducible rfl)(hd:rv T H d=some u:=by simp only[rv,bZ,ZA,Nat.reduceEqDiff,↓reduceIte,Nat.reduceAdd,Nat.reduceLeDiff,zz];with_reducible rfl)(he:rv T H e=some v:=by simp only[rv,bZ,ZA,Nat.reduceEqDiff,↓reduceIte,Nat.reduceAdd,Nat.reduceLeDiff,zz];with_reducible rfl):bn T H K [a,b,c,d,e]:=r_5 ha hb hc hd he h
theorem vY{dm:DM}{K:SP}{l:List Op2}{d:Option Nat}{i:Ins}{r:AV}(k:ak P dm l (aP T d r) H nx K)(hi:ic i=.val:=by rfl)(hd:dm2 dm T i=true:=by first|rfl|(simp (disch:=omega) only[dm2,rA,ux,cu,ZA,Nat.reduceEqDiff,↓reduceIte,Nat.reduceAdd,Nat.reduceLeDiff,zz,gB];first|done|omega))(h:bX T H i=some r:=by(try simp (disch:=omega) only[cu,ZA,Nat.reduceEqDiff,↓reduceIte,Nat.reduceAdd,Nat.reduceLeDiff,ZV,reduceCtorEq,zz]);first|with_reducible rfl|(apply BS;(focus omega);with_reducible rfl)):ak P dm (⟨d,none,i⟩::l) T H nx K:=nN hi hd h k
theorem nvY{S:Hp}{K:SP}{l:List (Op2×Nat)}{d:Option Nat}{i:Ins}{r:AV}(k:bf P S l (aP T d r) H nx K)(h:bX T S i=some r:=by(try simp (disch:=omega) only[cu,ZA,Nat.reduceEqDiff,↓reduceIte,Nat.reduceAdd,Nat.reduceLeDiff,ZV,reduceCtorEq,zz]);first|with_reducible rfl|(apply BS;(focus omega);with_reducible rfl)):bf P S ((⟨d,none,i⟩,0)::l) T H nx K:=Ih h k
theorem cY{dm:DM}{K:SP}{l:List Op2}{d:Option Nat}{f:Opd}{args:List Opd}{g:FuncId}{caps xs:List AV}{r:AV}(k:ak P dm l (aP T d r) H nx K)(hf:ov T f=.func g caps:=by(try simp (disch:=omega) only[cu,ZA,Nat.reduceEqDiff,↓reduceIte,Nat.reduceAdd,Nat.reduceLeDiff,zz]);(try with_reducible rfl);first|done|fail)(ha:args.map (ov T)++caps=xs:=by(try simp (disch:=omega) only[cu,ZA,Nat.reduceEqDiff,↓reduceIte,Nat.reduceAdd,Nat.reduceLeDiff,zz]);(try with_reducible rfl);first|done|fail)(hp:Pure P g xs r)(hs:au H xs xs r:=by(first|refine aF ?_ rfl|apply aW);(repeat' (first|exact aj|apply bo|(apply aX;(focus with_reducible assumption))));first|done|fail):ak P dm (⟨d,none,.call f args⟩::l) T H nx K:=Cg hf ha hp hs k
theorem alY{dm:DM}{K:SP}{l:List Op2}{d:Option Nat}{z:AV}{cs:List AV}(k:ak P dm l (aP T d (.ptr nx cs.length 0)) (ar H nx cs) (nx+1) K)(hd:dm2 dm T (.alloc z)=true:=by first|rfl|(simp (disch:=omega) only[dm2,rA,ux,cu,ZA,Nat.reduceEqDiff,↓reduceIte,Nat.reduceAdd,Nat.reduceLeDiff,zz,gB];first|done|omega))(hc:z.cells=cs:=by(try simp (disch:=omega) only[cu,ZA,Nat.reduceEqDiff,↓reduceIte,Nat.reduceAdd,Nat.reduceLeDiff,zz]);(try with_reducible rfl);first|done|fail)(ho:AV.ones cs=true:=by simp (disch:=omega) only[SO,Bool.and_self,eU,dZ,zz];first|done|fail):ak P dm (⟨d,none,.alloc z⟩::l) T H nx K:=rP hd hc ho k
theorem bxY{dm:DM}{K:SP}{l:List Op2}{d:Option Nat}{x:Opd}{v:AV}{cs:List AV}(k:ak P dm l (aP T d (.ptr nx cs.length 0)) (ar H nx cs) (nx+1) K)(hd:dm2 dm T (.box x)=true:=by first|rfl|(simp (disch:=omega) only[dm2,rA,ux,cu,ZA,Nat.reduceEqDiff,↓reduceIte,Nat.reduceAdd,Nat.reduceLeDiff,zz,gB];first|done|omega))(hx:ov T x=v:=by(try simp (disch:=omega) only[cu,ZA,Nat.reduceEqDiff,↓reduceIte,Nat.reduceAdd,Nat.reduceLeDiff,zz]);(try with_reducible rfl);first|done|fail)(hc:v.cells=cs:=by(try simp (disch:=omega) only[cu,ZA,Nat.reduceEqDiff,↓reduceIte,Nat.reduceAdd,Nat.reduceLeDiff,zz]);(try with_reducible rfl);first|done|fail)(ho:AV.ones cs=true:=by simp (disch:=omega) only[SO,Bool.and_self,eU,dZ,zz];first|done|fail):ak P dm (⟨d,none,.box x⟩::l) T H nx K:=Ie hd hx hc ho k
theorem stY{dm:DM}{K:SP}{l:List Op2}{d:Option Nat}{sz:Nat}{p x:Opd}{b n off:Nat}{v:AV}{cs vs:List AV}(k:ak P dm l (aP T d (.tup [])) (ar H b (bD cs off vs)) nx K)(hd:dm2 dm T (.st sz p x)=true:=by first|rfl|(simp (disch:=omega) only[dm2,rA,ux,cu,ZA,Nat.reduceEqDiff,↓reduceIte,Nat.reduceAdd,Nat.reduceLeDiff,zz,gB];first|done|omega))(hp:ov T p=.ptr b n off:=by(try simp (disch:=omega) only[cu,ZA,Nat.reduceEqDiff,↓reduceIte,Nat.reduceAdd,Nat.reduceLeDiff,zz]);(try with_reducible rfl);first|done|fail)(hx:ov T x=v:=by(try simp (disch:=omega) only[cu,ZA,Nat.reduceEqDiff,↓reduceIte,Nat.reduceAdd,Nat.reduceLeDiff,zz]);(try with_reducible rfl);first|done|fail)(hb:H b=some cs:=by(try simp (disch:=omega) only[cu,ZA,Nat.reduceEqDiff,↓reduceIte,Nat.reduceAdd,Nat.reduceLeDiff,zz]);(try with_reducible rfl);first|done|fail)(hc:v.cells=vs:=by(try simp (disch:=omega) only[cu,ZA,Nat.reduceEqDiff,↓reduceIte,Nat.reduceAdd,Nat.reduceLeDiff,zz]);(try with_reducible rfl);first|done|fail)(ho:AV.ones vs=true:=by simp (disch:=omega) only[SO,Bool.and_self,eU,dZ,zz];first|done|fail)(hn:cs.length=n:=by(try simp only[SL,Nat.reduceAdd,Nat.reduceMul,bi]);first|done|omega)(hl:vs.length=sz:=by(try simp only[SL,Nat.reduceAdd,Nat.reduceMul,bi]);first|done|omega)(hf:off+sz<=n:=by(try simp only[SL,Nat.reduceAdd,Nat.reduceMul,bi]);first|done|omega):ak P dm (⟨d,none,.st sz p x⟩::l) T H nx K:=Jt hd hp hx hb hc ho hn hl hf k
theorem blY{dm:DM}{K:SP}{l:List Op2}{d:Option Nat}{sz len:Nat}{z:List AV}{parts:List (Nat×Nat×Opd)}{pv:List (Nat×Nat×AV)}{cs:List AV}(k:ak P dm l (aP T d (.msl nx cs.length sz 0 len)) (ar H nx cs) (nx+1) K)(hd:dm2 dm T (.bldS sz len z parts)=true:=by first|rfl|(simp (disch:=omega) only[dm2,rA,ux,cu,ZA,Nat.reduceEqDiff,↓reduceIte,Nat.reduceAdd,Nat.reduceLeDiff,zz,gB];first|done|omega))(hl:len≠0:=by exact Nat.succ_ne_zero _)(hp:parts.map (λp=>(p.1,p.2.1,ov T p.2.2))=pv:=by(try simp (disch:=omega) only[cu,ZA,Nat.reduceEqDiff,↓reduceIte,Nat.reduceAdd,Nat.reduceLeDiff,zz]);(try with_reducible rfl);first|done|fail)(hc:en (bz (.agg z) len) pv=some cs:=by(try simp (disch:=omega) only[cu,ZA,Nat.reduceEqDiff,↓reduceIte,Nat.reduceAdd,Nat.reduceLeDiff,SO,Bool.and_self,eU,dZ,zz]);(try with_reducible rfl);first|done|fail):ak P dm (⟨d,none,.bldS sz len z parts⟩::l) T H nx K:=H6 hd hl hp hc k
theorem b0Y{dm:DM}{K:SP}{l:List Op2}{d:Option Nat}{sz:Nat}{z:List AV}(k:ak P dm l (aP T d .esl) H nx K)(hd:dm2 dm T (.bldS sz 0 z [])=true:=by first|rfl|(simp (disch:=omega) only[dm2,rA,ux,cu,ZA,Nat.reduceEqDiff,↓reduceIte,Nat.reduceAdd,Nat.reduceLeDiff,zz,gB];first|done|omega)):ak P dm (⟨d,none,.bldS sz 0 z []⟩::l) T H nx K:=EE hd k
theorem a0Y{dm:DM}{K:SP}{l:List Op2}{d:Option Nat}{sz bytes n:Nat}{s x:Opd}{v:AV}{new:List AV}(k:ak P dm l (aP T d (.msl nx (n*sz) sz 0 n)) (ar H nx new) (nx+1) K)(hd:dm2 dm T (.app sz bytes s x)=true:=by first|rfl|(simp (disch:=omega) only[dm2,rA,ux,cu,ZA,Nat.reduceEqDiff,↓reduceIte,Nat.reduceAdd,Nat.reduceLeDiff,zz,gB];first|done|omega))(hs:ov T s=.esl:=by(try simp (disch:=omega) only[cu,ZA,Nat.reduceEqDiff,↓reduceIte,Nat.reduceAdd,Nat.reduceLeDiff,zz]);(try with_reducible rfl);first|done|fail)(hx:ov T x=v:=by(try simp (disch:=omega) only[cu,ZA,Nat.reduceEqDiff,↓reduceIte,Nat.reduceAdd,Nat.reduceLeDiff,zz]);(try with_reducible rfl);first|done|fail)(hsrc:gg sz H v=some (n,new):=by first|exact gb|exact fV|exact oQ|(apply ft;(focus ((try simp (disch:=omega) only[cu,ZA,Nat.reduceEqDiff,↓reduceIte,Nat.reduceAdd,Nat.reduceLeDiff,zz]);(try with_reducible rfl);first|done|fail));(iterate 2 (focus ((try simp only[SL,Nat.reduceAdd,Nat.reduceMul,bi]);first|done|omega))))|exact jP)(ho:AV.ones new=true:=by first|exact iH|exact gJ|(simp only[SO,Bool.and_self,eU,dZ,zz];first|done|fail))(h1:n*bytes<=140737488355328:=by(try simp only[SL,Nat.reduceAdd,Nat.reduceMul,bi]);first|done|omega)(h2:n<=9223372036854775807:=by(try simp only[SL,Nat.reduceAdd,Nat.reduceMul,bi]);first|done|omega):ak P dm (⟨d,none,.app sz bytes s x⟩::l) T H nx K:=iR hd hs hx hsrc ho h1 h2 k
theorem apY{dm:DM}{K:SP}{l:List Op2}{d:Option Nat}{sz bytes n:Nat}{s x:Opd}{v:AV}{new cs:List AV}{b m len:Nat}(k:ak P dm l (aP T d (.msl b ((len+n)*sz) sz 0 (len+n))) (ar H b (cs++new)) nx K)(hd:dm2 dm T (.app sz bytes s x)=true:=by first|rfl|(simp (disch:=omega) only[dm2,rA,ux,cu,ZA,Nat.reduceEqDiff,↓reduceIte,Nat.reduceAdd,Nat.reduceLeDiff,zz,gB];first|done|omega))(hs:ov T s=.msl b m sz 0 len:=by(try simp (disch:=omega) only[cu,ZA,Nat.reduceEqDiff,↓reduceIte,Nat.reduceAdd,Nat.reduceLeDiff,zz]);(try with_reducible rfl);first|done|fail)(hb:H b=some cs:=by(try simp (disch:=omega) only[cu,ZA,Nat.reduceEqDiff,↓reduceIte,Nat.reduceAdd,Nat.reduceLeDiff,zz]);(try with_reducible rfl);first|done|fail)(hx:ov T x=v:=by(try simp (disch:=omega) only[cu,ZA,Nat.reduceEqDiff,↓reduceIte,Nat.reduceAdd,Nat.reduceLeDiff,zz]);(try with_reducible rfl);first|done|fail)(hsrc:gg sz H v=some (n,new):=by first|exact gb|exact fV|exact oQ|(apply ft;(focus ((try simp (disch:=omega) only[cu,ZA,Nat.reduceEqDiff,↓reduceIte,Nat.reduceAdd,Nat.reduceLeDiff,zz]);(try with_reducible rfl);first|done|fail));(iterate 2 (focus ((try simp only[SL,Nat.reduceAdd,Nat.reduceMul,bi]);first|done|omega))))|exact jP)(ho:AV.ones new=true:=by first|exact iH|exact gJ|(simp only[SO,Bool.and_self,eU,dZ,zz];first|done|fail))(hm:cs.length=m:=by(try simp only[SL,Nat.reduceAdd,Nat.reduceMul,bi]);first|done|omega)(hl:m=len*sz:=by(try simp only[SL,Nat.reduceAdd,Nat.reduceMul,bi]);first|done|omega)(h1:(len+n)*bytes<=140737488355328:=by(try simp only[SL,Nat.reduceAdd,Nat.reduceMul,bi]);first|done|omega)(h2:len+n<=9223372036854775807:=by(try simp only[SL,Nat.reduceAdd,Nat.reduceMul,bi]);first|done|omega):ak P dm (⟨d,none,.app sz bytes s x⟩::l) T H nx K:=zJ hd hs hb hx hsrc ho hm hl h1 h2 k
theorem gTY{dm:DM}{K:SP}{l:List Op2}{d:Option Nat}{i:Ins}{t:Nat}{w:Bool}(k:ak P dm (⟨d,none,i⟩::l) T H nx K)(h:T t=.bool w:=by simp (disch:=omega) only[cu,ZA,Nat.reduceEqDiff,↓reduceIte,Nat.reduceAdd,Nat.reduceLeDiff,zz];first|done|fail):ak P dm (⟨d,some (t,w),i⟩::l) T H nx K:=Js h k
theorem gFY{dm:DM}{K:SP}{l:List Op2}{d:Option Nat}{i:Ins}{t:Nat}{w:Bool}(k:ak P dm l (aP T d (.tup [])) H nx K)(h:T t=.bool (!w)\/T t=.tup []:=by simp (disch:=omega) only[cu,ZA,Nat.reduceEqDiff,↓reduceIte,Nat.reduceAdd,Nat.reduceLeDiff,or_true,true_or,zz];first|done|fail):ak P dm (⟨d,some (t,w),i⟩::l) T H nx K:=JY h k
theorem cTY{K:CP}{c:Opd}{x y:C2}(h1:aK P x T H nx K)(hc:ov T c=.bool true:=by simp (disch:=omega) only[cu,ZA,Nat.reduceEqDiff,↓reduceIte,Nat.reduceAdd,Nat.reduceLeDiff,zz];first|done|fail):aK P (.cond c x y) T H nx K:=BW hc h1
theorem cFY{K:CP}{c:Opd}{x y:C2}(h2:aK P y T H nx K)(hc:ov T c=.bool false:=by simp (disch:=omega) only[cu,ZA,Nat.reduceEqDiff,↓reduceIte,Nat.reduceAdd,Nat.reduceLeDiff,zz];first|done|fail):aK P (.cond c x y) T H nx K:=Ch hc h2
theorem r1Y{K:AV->Prop}{a:RV}{x:AV}(h:K x)(ha:rv T H a=some x:=by simp (disch:=omega) only[rv,cu,ZA,Nat.reduceEqDiff,↓reduceIte,Nat.reduceAdd,Nat.reduceLeDiff,zz];with_reducible rfl):bn T H K [a]:=r_1 ha h
theorem r2Y{K:AV->Prop}{a b:RV}{x y:AV}(h:K (.tup [x,y]))(ha:rv T H a=some x:=by simp (disch:=omega) only[rv,cu,ZA,Nat.reduceEqDiff,↓reduceIte,Nat.reduceAdd,Nat.reduceLeDiff,zz];with_reducible rfl)(hb:rv T H b=some y:=by simp (disch:=omega) only[rv,cu,ZA,Nat.reduceEqDiff,↓reduceIte,Nat.reduceAdd,Nat.reduceLeDiff,zz];with_reducible rfl):bn T H K [a,b]:=r_2 ha hb h
theorem r3Y{K:AV->Prop}{a b c:RV}{x y z:AV}(h:K (.tup [x,y,z]))(ha:rv T H a=some x:=by simp (disch:=omega) only[rv,cu,ZA,Nat.reduceEqDiff,↓reduceIte,Nat.reduceAdd,Nat.reduceLeDiff,zz];with_reducible rfl)(hb:rv T H b=some y:=by simp (disch:=omega) only[rv,cu,ZA,Nat.reduceEqDiff,↓reduceIte,Nat.reduceAdd,Nat.reduceLeDiff,zz];with_reducible rfl)(hc:rv T H c=some z:=by simp (disch:=omega) only[rv,cu,ZA,Nat.reduceEqDiff,↓reduceIte,Nat.reduceAdd,Nat.reduceLeDiff,zz];with_reducible rfl):bn T H K [a,b,c]:=r_3 ha hb hc h
theorem r5Y{K:AV->Prop}{a b c d e:RV}{x y z u v:AV}(h:K (.tup [x,y,z,u,v]))(ha:rv T H a=some x:=by simp (disch:=omega) only[rv,cu,ZA,Nat.reduceEqDiff,↓reduceIte,Nat.reduceAdd,Nat.reduceLeDiff,zz];with_reducible rfl)(hb:rv T H b=some y:=by simp (disch:=omega) only[rv,cu,ZA,Nat.reduceEqDiff,↓reduceIte,Nat.reduceAdd,Nat.reduceLeDiff,zz];with_reducible rfl)(hc:rv T H c=some z:=by simp (disch:=omega) only[rv,cu,ZA,Nat.reduceEqDiff,↓reduceIte,Nat.reduceAdd,Nat.reduceLeDiff,zz];with_reducible rfl)(hd:rv T H d=some u:=by simp (disch:=omega) only[rv,cu,ZA,Nat.reduceEqDiff,↓reduceIte,Nat.reduceAdd,Nat.reduceLeDiff,zz];with_reducible rfl)(he:rv T H e=some v:=by simp (disch:=omega) only[rv,cu,ZA,Nat.reduceEqDiff,↓reduceIte,Nat.reduceAdd,Nat.reduceLeDiff,zz];with_reducible rfl):bn T H K [a,b,c,d,e]:=r_5 ha hb hc hd he h
class StW(A:Prop)(B:outParam Prop):Prop where st:B->A
class StO(A:Prop)(B:outParam Prop):Prop where st:B->A
class StM(A:Prop)(B:outParam Prop):Prop where st:B->A
theorem zW{A B:Prop}[i:StW A B](h:B):A:=i.st h
theorem zO{A B:Prop}[i:StO A B](h:B):A:=i.st h
theorem zM{A B:Prop}[i:StM A B](h:B):A:=i.st h
instance{K:CP}{x y:C2}:StW (aK P (.seq x y) T H nx K) (aK P x T H nx λe T H nx=>aQ e (aK P y T H nx K) (K e T H nx)):=⟨dJ⟩
instance{K:CP}{i:Nat}{b:C2}:StW (aK P (.block i b) T H nx K) (aK P b T H nx λe T H nx=>K (ql i e) T H nx):=⟨lq⟩
instance{K:CP}{b:C2}:StW (aK P (.loop b) T H nx K) (a6 (aK P b) T H nx K):=⟨Jb⟩
instance{K:CP}:StO (aK P .skip T H nx K) (K .normal T H nx):=⟨Ja⟩
instance{K:CP}{i:Nat}:StO (aK P (.exit i) T H nx K) (K (.exit i) T H nx):=⟨Jm⟩
instance{K:CP}:StO (aK P .ret T H nx K) (K .ret T H nx):=⟨Md⟩
instance{K:CP}{l:List Op2}:StO (aK P (.ops 0 l) T H nx K) (ak P .text l T H nx λT H nx=>K .normal T H nx):=⟨I5⟩
instance{K:CP}{l:List Op2}:StO (aK P (.ops 1 l) T H nx K) (ak P .draw l T H nx λT H nx=>K .normal T H nx):=⟨JM⟩
instance{K:CP}{l:List Op2}:StO (aK P (.ops 2 l) T H nx K) (ak P (.fresh nx) l T H nx λT H nx=>K .normal T H nx):=⟨IW⟩
instance{K:CP}{l:List Op2}{C:List Nat}:StO (aK P (.mix 1 l C) T H nx K) (ak P .draw l T H nx λT H nx=>K .normal T H nx):=⟨w_mix1⟩
instance{K:CP}{l:List Op2}{C:List Nat}:StO (aK P (.mix 2 l C) T H nx K) (ak P (.fresh nx) l T H nx λT H nx=>K .normal T H nx):=⟨pS⟩
instance{dm:DM}{K:SP}:StO (ak P dm [] T H nx K) (K T H nx):=⟨jT⟩
instance{S:Hp}{K:SP}:StO (bf P S [] T H nx K) (K T H nx):=⟨uW⟩
instance{S:Hp}{K:SP}{l:List (Op2×Nat)}{d:Option Nat}{i:Ins}:StO (bf P S ((⟨d,none,i⟩,2)::l) T H nx K) (ak P .text [⟨d,none,i⟩] T H nx λT H nx=>bf P S l T H nx K):=⟨jr⟩
instance{K:AV->Prop}:StO (bn T H K []) (K (.tup [])):=⟨r_0⟩
instance{K:CP}{l:List Op2}{C:List (Nat×Nat)}:StM (aK P (.mixS 1 l C) T H nx K) (ak P .draw l T H nx λT H nx=>K .normal T H nx):=⟨G3⟩
instance{K:CP}{l:List Op2}{C:List (Nat×Nat)}:StM (aK P (.mixS 2 l C) T H nx K) (ak P (.fresh nx) l T H nx λT H nx=>K .normal T H nx):=⟨GA⟩
class NZ(b w:Bool)(p q:outParam Prop):Prop where
 t:b=w->p
 f:b=!w->q
instance(priority:=10){b:Bool}:NZ b true (b=true) (b=false):=⟨id,id⟩
instance(priority:=10){b:Bool}:NZ b false (b=false) (b=true):=⟨id,id⟩
instance{p:Prop}{i:Decidable p}:NZ (decide p) true p (¬p):=⟨qe,of_decide_eq_false⟩
instance{p:Prop}{i:Decidable p}:NZ (decide p) false (¬p) p:=⟨of_decide_eq_false,qe⟩
instance(priority:=2000):NZ true true True False:=⟨λ_=>trivial,λh=>by cases h⟩
instance(priority:=2000):NZ true false False True:=⟨λh=>(by cases h),λ_=>trivial⟩
instance(priority:=2000):NZ false true False True:=⟨λh=>(by cases h),λ_=>trivial⟩
instance(priority:=2000):NZ false false True False:=⟨λ_=>trivial,λh=>by cases h⟩
instance(priority:=2000){i:Decidable True}:NZ (decide True) true True False:=⟨λ_=>trivial,λh=>of_decide_eq_false h trivial⟩
instance(priority:=2000){i:Decidable True}:NZ (decide True) false False True:=⟨λh=>of_decide_eq_false h trivial,λ_=>trivial⟩
instance(priority:=2000){i:Decidable False}:NZ (decide False) true False True:=⟨qe,λ_=>trivial⟩
instance(priority:=2000){i:Decidable False}:NZ (decide False) false True False:=⟨λ_=>trivial,qe⟩
instance{b w:Bool}{p q:Prop}[i:NZ b w p q]:NZ (!b) w q p:=⟨λh=>i.f (by cases b<;>cases w<;>simp_all),λh=>i.t (by cases b<;>cases w<;>simp_all)⟩
class StG(A:Prop)(v:outParam AV)(w:outParam Bool)(B C:outParam Prop):Prop where
 st:∀b:Bool,v=.bool b->(b=w->B)->(b=!w->C)->A
instance{K:CP}{c:Opd}{x y:C2}:StG (aK P (.cond c x y) T H nx K) (ov T c) true (aK P x T H nx K) (aK P y T H nx K):=⟨λ_ h k1 k2=>Aq h k1 k2⟩
instance{dm:DM}{K:SP}{l:List Op2}{d:Option Nat}{i:Ins}{t:Nat}:StG (ak P dm (⟨d,some (t,true),i⟩::l) T H nx K) (T t) true (ak P dm (⟨d,none,i⟩::l) (upd T t (.bool true)) H nx K) (ak P dm l (aP (upd T t (.bool false)) d (.tup [])) H nx K):=⟨λ_ h k1 k2=>Mc h k1 k2⟩
instance{dm:DM}{K:SP}{l:List Op2}{d:Option Nat}{i:Ins}{t:Nat}:StG (ak P dm (⟨d,some (t,false),i⟩::l) T H nx K) (T t) false (ak P dm (⟨d,none,i⟩::l) (upd T t (.bool false)) H nx K) (ak P dm l (aP (upd T t (.bool true)) d (.tup [])) H nx K):=⟨λ_ h k1 k2=>Mc h k1 k2⟩
theorem zGZ{A:Prop}{v:AV}{w b:Bool}{B C p q:Prop}[i:StG A v w B C][n:NZ b w p q](k1:p->B)(k2:q->C)(h:v=.bool b:=by(try simp only[bZ,ZA,Nat.reduceEqDiff,↓reduceIte,Nat.reduceAdd,Nat.reduceLeDiff,zz]);(try with_reducible rfl);first|done|fail):A:=i.st b h (λh=>k1 (n.t h)) (λh=>k2 (n.f h))
theorem zGY{A:Prop}{v:AV}{w b:Bool}{B C p q:Prop}[i:StG A v w B C][n:NZ b w p q](k1:p->B)(k2:q->C)(h:v=.bool b:=by(try simp (disch:=omega) only[cu,ZA,Nat.reduceEqDiff,↓reduceIte,Nat.reduceAdd,Nat.reduceLeDiff,zz]);(try with_reducible rfl);first|done|fail):A:=i.st b h (λh=>k1 (n.t h)) (λh=>k2 (n.f h))
structure WkQ(B:Prop):Prop where
 q:B
class DatLI(l:List AV):Prop where
 d:∀x∈l,Dat x
instance:DatLI []:=⟨λ_ h=>(by cases h)⟩
instance{x:AV}{l:List AV}[h:DatI x][k:DatLI l]:DatLI (x::l):=⟨DatL.cons h.d k.d⟩
instance{l:List AV}[k:DatLI l]:DatI (.agg l):=⟨Dat.agg k.d⟩
instance{f:FuncId}{l:List AV}[k:DatLI l]:DatI (.func f l):=⟨Dat.func k.d⟩
instance{l:List AV}{n:Nat}[k:DatLI l]:DatI (.iptr l n):=⟨Dat.iptr k.d⟩
theorem wkZ{A B F:Prop}(zz:F)(k:B)(h:F->WkQ B->A:=by intro zz _q;(repeat' (first|refine zW ?_|refine zM ?_|apply a_n|apply a_x|apply a_r|refine zO ?_|refine vZ ?_|refine nvZ ?_|refine cZ ?_ (hp:=by assumption)|refine bxZ ?_|refine alZ ?_|refine blZ ?_|refine b0Z ?_|refine a0Z ?_|refine apZ ?_|refine stZ ?_|refine gTZ ?_|refine gFZ ?_|refine cTZ ?_|refine cFZ ?_|(refine zGZ ?_ ?_<;>(intro _hg;try (exfalso;omega)))|refine bS rfl ?_|refine r1Z ?_|refine r2Z ?_|refine r3Z ?_|refine r5Z ?_|refine wK rfl ?_|fail));first|(exact _q.q;done)|fail):A:=h zz ⟨k⟩
theorem wnZ{A B F:Prop}(zz:F)(k:B)(h:F->WkQ B->A:=by intro zz _q;(repeat' (first|refine zW ?_|apply a_n|apply a_x|apply a_r|refine zO ?_|refine vZ ?_|refine nvZ ?_|refine cZ ?_ (hp:=by assumption)|refine bxZ ?_|refine alZ ?_|refine blZ ?_|refine b0Z ?_|refine a0Z ?_|refine apZ ?_|refine stZ ?_|refine gTZ ?_|refine gFZ ?_|refine cTZ ?_|refine cFZ ?_|(refine zGZ ?_ ?_<;>(intro _hg;try (exfalso;omega)))|refine bS rfl ?_|refine r1Z ?_|refine r2Z ?_|refine r3Z ?_|refine r5Z ?_|refine wK rfl ?_|fail));first|(exact _q.q;done)|fail):A:=h zz ⟨k⟩
theorem wkY{A B F:Prop}(zz:F)(k:B)(h:F->WkQ B->A:=by intro zz _q;(repeat' (first|refine zW ?_|refine zM ?_|apply a_n|apply a_x|apply a_r|refine zO ?_|refine vY ?_|refine nvY ?_|refine cY ?_ (hp:=by assumption)|refine bxY ?_|refine alY ?_|refine blY ?_|refine b0Y ?_|refine a0Y ?_|refine apY ?_|refine stY ?_|refine gTY ?_|refine gFY ?_|refine cTY ?_|refine cFY ?_|(refine zGY ?_ ?_<;>(intro _hg;try (exfalso;omega)))|refine bS rfl ?_|refine r1Y ?_|refine r2Y ?_|refine r3Y ?_|refine r5Y ?_|refine wK rfl ?_|fail));first|(exact _q.q;done)|fail):A:=h zz ⟨k⟩
theorem wnY{A B F:Prop}(zz:F)(k:B)(h:F->WkQ B->A:=by intro zz _q;(repeat' (first|refine zW ?_|apply a_n|apply a_x|apply a_r|refine zO ?_|refine vY ?_|refine nvY ?_|refine cY ?_ (hp:=by assumption)|refine bxY ?_|refine alY ?_|refine blY ?_|refine b0Y ?_|refine a0Y ?_|refine apY ?_|refine stY ?_|refine gTY ?_|refine gFY ?_|refine cTY ?_|refine cFY ?_|(refine zGY ?_ ?_<;>(intro _hg;try (exfalso;omega)))|refine bS rfl ?_|refine r1Y ?_|refine r2Y ?_|refine r3Y ?_|refine r5Y ?_|refine wK rfl ?_|fail));first|(exact _q.q;done)|fail):A:=h zz ⟨k⟩
theorem zI3{a b c:Prop}(xa:a)(xb:b)(xc:c):a/\b/\c:=⟨xa,xb,xc⟩
theorem zI4{a b c d:Prop}(xa:a)(xb:b)(xc:c)(xd:d):a/\b/\c/\d:=⟨xa,xb,xc,xd⟩
theorem zI5{a b c d e:Prop}(xa:a)(xb:b)(xc:c)(xd:d)(xe:e):a/\b/\c/\d/\e:=⟨xa,xb,xc,xd,xe⟩
theorem zI6{a b c d e f:Prop}(xa:a)(xb:b)(xc:c)(xd:d)(xe:e)(xf:f):a/\b/\c/\d/\e/\f:=⟨xa,xb,xc,xd,xe,xf⟩
theorem zI7{a b c d e f g:Prop}(xa:a)(xb:b)(xc:c)(xd:d)(xe:e)(xf:f)(xg:g):a/\b/\c/\d/\e/\f/\g:=⟨xa,xb,xc,xd,xe,xf,xg⟩
theorem zI8{a b c d e f g h:Prop}(xa:a)(xb:b)(xc:c)(xd:d)(xe:e)(xf:f)(xg:g)(xh:h):a/\b/\c/\d/\e/\f/\g/\h:=⟨xa,xb,xc,xd,xe,xf,xg,xh⟩
theorem zI9{a b c d e f g h i:Prop}(xa:a)(xb:b)(xc:c)(xd:d)(xe:e)(xf:f)(xg:g)(xh:h)(xi:i):a/\b/\c/\d/\e/\f/\g/\h/\i:=⟨xa,xb,xc,xd,xe,xf,xg,xh,xi⟩
theorem gH{a b c d e f g h i j:Prop}(xa:a)(xb:b)(xc:c)(xd:d)(xe:e)(xf:f)(xg:g)(xh:h)(xi:i)(xj:j):a/\b/\c/\d/\e/\f/\g/\h/\i/\j:=⟨xa,xb,xc,xd,xe,xf,xg,xh,xi,xj⟩
theorem lpI{b:C2}{K:CP}{X:Type}(L:X->List (Nat×AV))(I:X->Hp->Nat->Prop)(μ:X->Nat)(x0:X)(h0:I x0 H nx)
    (step:∀x H nx,I x H nx->aK P b (tl (L x)) H nx λe T H' nx'=>aQ e (∃y,μ y<μ x/\I y H' nx'/\agr T (L y)) (K e T H' nx')) (hT:agr T (L x0):=by(repeat' (first|exact trivial|refine And.intro rfl ?_));first|done|fail):a6 (aK P b) T H nx K:=bN L I μ x0 h0 hT step
theorem eR{dm:DM}{K:SP}{l:List Op2}{d:Option Nat}{sz bytes k:Nat}{s x:Opd}{sv xv:AV}{cs new:List AV}(hrow:Row H sz sv cs)(next:∀(sv':AV)(H':Hp)(nx':Nat),Row H' sz sv' (cs++new)->nx<=nx'->nx'<=nx+1->(∀i,i<nx->bv sv≠some i->H' i=H i)->(∀b,bv sv'=some b->bv sv=some b\/b=nx/\nx'=nx+1)->ak P dm l (aP T d sv') H' nx' K)(hd:dm2 dm T (.app sz bytes s x)=true:=by rfl)(hs:ov T s=sv:=by(try simp only[bZ,ZA,Nat.reduceEqDiff,↓reduceIte,Nat.reduceAdd,Nat.reduceLeDiff]);(try with_reducible rfl);first|done|fail)(hx:ov T x=xv:=by(try simp only[bZ,ZA,Nat.reduceEqDiff,↓reduceIte,Nat.reduceAdd,Nat.reduceLeDiff]);(try with_reducible rfl);first|done|fail)(hsrc:gg sz H xv=some (k,new):=by first|exact eA|exact qu|fail)(ho:AV.ones new=true:=by rfl)(hk:new.length=k*sz:=by rfl)(hz:0<sz:=by first|exact jq|omega|fail)(h1:(cs.length+k)*bytes<=140737488355328:=by first|(rw[bi];omega)|omega|fail)(h2:cs.length+k<=9223372036854775807:=by first|(rw[bi];omega)|omega|fail):ak P dm (⟨d,none,.app sz bytes s x⟩::l) T H nx K:=gI hd hs hrow hx hsrc ho hk hz h1 h2 next
end Go.Abs
namespace Go.Abs
open Go.RowKit
end Go.Abs
namespace Go.Abs
open Go Go.RowKit
def uA(W:World):Nat->Prop:=λb=>b<W.heap.size
theorem Dj{W:World}{a:Addr}{v:Value}(h:W.cell? a=some v):uA W a.block/\a.spot=none:=by
 unfold World.cell? at h;unfold uA;cases hb:W.heap[a.block]? with
 |none=>simp[hb] at h
 |some o=>
  refine⟨(jh.1 hb).1,?_⟩;cases hs:a.spot with
  |none=>rfl
  |some s=>cases o<;>simp[hb,hs] at h
section
variable{H:Type}{enc:TypeId×Value->H}{P:Program}{W:World}
def fh(enc:TypeId×Value->H)(P:Program)(W:World)(t:TypeId){α:Type}(f:α->AV)(good:α->Prop):Prop:=
 ∀(n:Nat)(cs:List Value)(x:DataW H×List MemPlace),DataW.trod enc P W 0 (λ_=>true) true n t cs=some x->(∀k∈x.1.weights P t,k<=reachBytes)->∃a:α,good a/\dI (E0 (uA W)) W (f a).cells cs
theorem fh.mono{t:TypeId}{α:Type}{f:α->AV}{good good':α->Prop}(h:fh enc P W t f good)(hg:∀a,good a->good' a):fh enc P W t f good':=
 λn cs x hx hw=>let ⟨a,h1,h2⟩:=h n cs x hx hw;⟨a,hg a h1,h2⟩
theorem se {E:Env} {w:World} {x:AV} {y:Value} (h:Rel E w x y):dI E w [x] [y]:=⟨rfl,fun i a b ha hb=>by
 cases i with
 |zero=>simp at ha hb;subst ha hb;exact h
 |succ i=>simp at ha⟩
theorem dI.app{E:Env}{w:World}{xs xs':List AV}{ys ys':List Value}(h:dI E w xs ys)(h':dI E w xs' ys'):dI E w (xs++xs') (ys++ys'):=by
 have hl:xs.length=ys.length:=h.1.symm;refine⟨by simp[h.1,h'.1],λi a b ha hb=>?_⟩;by_cases hi:i<xs.length
 ·rw[gF hi] at ha;rw[gF (by omega)] at hb;exact h.2 i a b ha hb
 ·rw[iS (by omega)] at ha;rw[iS (by omega)] at hb;rw[hl] at ha;exact h'.2 _ a b ha hb
theorem DP{t:TypeId}{k:IntKind}(ht:P.underlying t=some (.int k)):fh enc P W t (AV.int k) (λn=>(Lit.int k n).wf=true):=λn cs x hx _=>by
 obtain⟨a,rfl,rfl,hw⟩:=DataW.trod_int ht hx;exact⟨a,hw,se (.int _ _)⟩
theorem tQ{e:TypeId}{l:List (DataW H)}{d:DataW H}(h:d∈l){k:Nat}(hk:k∈d.weights P e):k∈DataW.weightsAll P e l:=by
 induction l with
 |nil=>cases h
 |cons a l ih=>
  unfold DataW.weightsAll;rcases da.1 h with rfl|h
  ·exact mH _ hk
  ·exact lW _ (ih h)
theorem yQ{α:Type}{len:Nat}{Q:Nat->α->Prop}(h:∀i,i<len->∃a,Q i a):∃l:List α,l.length=len/\∀i a,l[i]?=some a->Q i a:=by
 induction len with
 |zero=>exact⟨[],rfl,λi a h=>by simp at h⟩
 |succ n ih=>
  obtain⟨l,h1,h2⟩:=ih (λi hi=>h i (by omega));obtain⟨a,ha⟩:=h n (by omega);refine⟨l++[a],by simp[h1],λi b hb=>?_⟩;by_cases hi:i<l.length
  ·rw[gF hi] at hb;exact h2 i b hb
  ·rw[iS (by omega)] at hb
   have:i-l.length=0:=by
    by_cases h0:i-l.length=0
    ·exact h0
    ·rw[List.getElem?_eq_none (by simp;omega)] at hb;cases hb
   rw[this] at hb;simp at hb;subst hb;have:i=n:=by omega
   subst this;exact ha
theorem mL{t e:TypeId}{sz by_:Nat}{α:Type}{f:α->AV}{good:α->Prop}(ht:P.underlying t=some (.slice e))(hsz:P.cellsOf e=sz)(hby:P.bytesOf e=by_)(hpos:0<sz)(hc:∀a,(f a).cells.length=sz)
    (he:fh enc P W e f good):fh enc P W t (jf sz f) (λl=>(∀a∈l,good a)/\l.length<=9223372036854775807/\l.length*by_<=140737488351232):=λn cs x hx hw=>by
 rcases Go.Deep.open_slice ht hx with⟨rfl,rfl⟩|⟨a,len,cap,m,n',D,Pl,rfl,hb,hlc,hcm,hm,hxe,hel⟩
 ·exact⟨[],⟨λ_ h=>(by cases h),by simp,by simp⟩,se (.slnil _)⟩
 simp only[if_true] at hm;subst hxe;subst hm;have hw':∀k∈((DataW.slice (H:=H) ((List.range len).map D) ((List.range (m-len)).map λj=>D (len+j))).weights P t),k<=reachBytes:=hw;simp only[DataW.weights,ht] at hw';have hlen:(((List.range len).map D).length+((List.range (m-len)).map λj=>D (len+j)).length)*P.bytesOf e<=reachBytes:=hw' _ (dg ..)
 have hbd:len*by_<=140737488351232:=by
  rw[hby] at hlen;simp only[bi,List.length_range] at hlen;have h1:len*by_<=(len+(m-len))*by_:=lN _ (by omega);have h2:reachBytes=140737488351232:=rfl;omega
 have hlm:len<=9223372036854775807:=fe hlc hcm
 have key:∀i,i<len->∃a':α,good a'/\∃cs',W.cells? 0 (a.add (i*sz)) sz=some cs'/\dI (E0 (uA W)) W (f a').cells cs':=λi hi=>by
  obtain⟨cs',h1,h2⟩:=hel i (by omega);rw[hsz] at h1;obtain⟨a',g1,g2⟩:=he n' cs' _ h2 (λk hk=>hw' k (ec _ (mH _ (tQ (bG.2 ⟨i,ed.2 hi,rfl⟩) hk))));exact⟨a',g1,cs',h1,g2⟩
 obtain⟨l,hl,hq⟩:=yQ key;refine⟨l,⟨λx hx=>?_,by omega,by rw[hl];exact hbd⟩,se ?_⟩
 ·obtain⟨i,hi⟩:=Ah hx;exact(hq i x hi).1
 by_cases h0:len=0
 ·subst h0;have:l=[]:=fA.1 hl;subst this;exact .slempty _ _ _
 have hcell:∀i j,i<len->j<sz->∃v,W.cell? ((a.add (i*sz)).add j)=some v:=λi j hi hj=>by
  obtain⟨a',_,cs',h1,h2⟩:=key i hi;unfold World.cells? at h1;rw[if_pos (bw _)] at h1;have h3:=mapM_some_get h1 j j (by simp[hj])
  have h4:j<cs'.length:=by
   have:=mapM_some_length h1;simp at this;omega
  exact⟨cs'[j],by rw[h3];simp[h4]⟩
 obtain⟨v0,hv0⟩:=hcell 0 0 (by omega) hpos;have ho:=Dj hv0;simp only[xP,Addr.add,if_true] at ho;obtain⟨blk,off,sp⟩:=a;obtain⟨ho,hsp⟩:=ho;simp only at hsp ho;subst hsp
 have hadd:∀i j,((⟨blk,off,none⟩:Addr).add (i*sz)).add j=⟨blk,off+(i*sz+j),none⟩:=λi j=>by
  rw[cL,cL,pz]
 have hcell':∀k,k<len*sz->∃v,W.cell? ⟨blk,off+k,none⟩=some v:=λk hk=>by
  have h1:k/sz<len:=Nat.div_lt_of_lt_mul (by rw[Nat.mul_comm];exact hk);have h2:k%sz<sz:=Nat.mod_lt _ hpos;obtain⟨v,hv⟩:=hcell (k/sz) (k%sz) h1 h2;rw[hadd,Nat.div_add_mod'] at hv;exact⟨v,hv⟩
 have hlen2:(l.map f).length=len:=by simp[hl]
 have:=Rel.sl (E:=E0 (uA W)) (w:=W) sz (l.map f) blk off m (λk=>(W.cell? ⟨blk,off+k,none⟩).getD Go.undef) ho (by rw[hlen2];exact hlc)
  (λx hx=>by obtain⟨b,_,rfl⟩:=bG.1 hx;exact hc b)
  (fun k hk=>by
   rw[hlen2] at hk;obtain⟨v,hv⟩:=hcell' k hk;simp only[hv,uE])
  (fun i j x y hx hy=>by
   rw[l6,Option.map_eq_some_iff] at hx;obtain⟨a',ha',rfl⟩:=hx;obtain⟨_,cs',h1,h2⟩:=hq i a' ha'
   have hj:j<sz:=by
    have:=(bU.1 hy).1
    rwa [hc] at this
   have hi:i<len:=by
    have:=(bU.1 ha').1;omega
   unfold World.cells? at h1;rw[if_pos (bw _)] at h1;have h3:=mapM_some_get h1 j j (by simp[hj])
   have h4:j<cs'.length:=by
    have:=mapM_some_length h1;simp at this;omega
   rw[hadd] at h3;have h5:cs'[j]?=some cs'[j]:=by simp[h4]
   rw[h5] at h3;simp only[h3,uE];exact h2.2 j y _ hy h5)
 rw[hlen2] at this;exact this
def wT(enc:TypeId×Value->H)(P:Program)(W:World)(fs:List Field)(off:Nat){α:Type}(g:α->List AV)(good:α->Prop):Prop:=
 ∀(n tot:Nat)(cs:List Value)(ys:List (DataW H×List MemPlace)),ys.length=fs.length->(∀(i:Nat)(f:Field),fs[i]?=some f->DataW.trod enc P W 0 (λ_=>true) true n f.type ((cs.drop f.offset).take (P.cellsOf f.type))=ys[i]?)->
  (∀k∈DataW.weightsEach P (fs.map λf:Field=>f.type) (ys.map (·.1)),k<=reachBytes)->cs.length=tot->tot=off+(fs.map λf:Field=>P.cellsOf f.type).sum->∃a:α,good a/\dI (E0 (uA W)) W (g a) (cs.drop off)
theorem um{off:Nat}:wT enc P W [] off (λ_:Unit=>[]) (λ_=>True):=λn tot cs ys _ _ _ h1 h2=>by
 refine⟨(),trivial,?_⟩;rw[E5 (by simp at h2;omega)];exact⟨rfl,λi a b h=>by simp at h⟩
theorem mQ{fd:Field}{fs:List Field}{off off':Nat}{α β:Type}{f:α->AV}{g:β->List AV}{good:α->Prop}{good':β->Prop}(ho:fd.offset=off)(ho':off+P.cellsOf fd.type=off')
    (h:fh enc P W fd.type f good) (h':wT enc P W fs off' g good'):wT enc P W (fd::fs) off (λa:α×β=>(f a.1).cells++g a.2) (λa=>good a.1/\good' a.2):=λn tot cs ys hl hy hw h1 h2=>by
 obtain⟨y,ys,rfl⟩:∃y ys',ys=y::ys':=by
  cases ys with
  |nil=>simp at hl
  |cons y ys=>exact⟨y,ys,rfl⟩
 have hy0:=hy 0 fd rfl;simp only[xH] at hy0;rw[ho] at hy0;simp only[fX,DataW.weightsEach] at hw;obtain⟨a,g1,g2⟩:=h n _ y hy0 (λk hk=>hw k (mH _ hk));simp only[fX,List.sum_cons] at h2
 obtain ⟨b,g3,g4⟩:=h' n tot cs ys (by simpa using hl) (fun i f hf=>by
  have:=hy (i+1) f (by simpa using hf);simpa using this) (λk hk=>hw k (lW _ hk)) h1 (by omega)
 refine⟨(a,b),⟨g1,g3⟩,?_⟩
 have e:cs.drop off=(cs.drop off).take (P.cellsOf fd.type)++cs.drop off':=by
  rw[<-ho',<-List.drop_drop,Eu]
 rw[e];exact dI.app g2 g4
theorem oD{t:TypeId}{fs:Array Field}{α:Type}{g:α->List AV}{good:α->Prop}(ht:P.underlying t=some (.struct fs))(hsum:P.cellsOf t=(fs.toList.map λf:Field=>P.cellsOf f.type).sum)
    (h:wT enc P W fs.toList 0 g good):fh enc P W t (λa=>.agg (g a)) good:=λn cs x hx hw=>by
 obtain⟨ys,n',rfl,rfl,hl,hs,hy⟩:=DataW.trod_struct ht hx
 obtain ⟨a,g1,g2⟩:=h n' _ cs ys (by rw [hs]; simp) (fun i f hf=>hy i f (by simpa using hf)) (fun k hk=>hw k (by
  simp only[DataW.weights,ht];exact hk)) hl (by rw[cp,hsum])
 exact⟨a,g1,by rw[List.drop_zero] at g2;exact g2⟩
theorem fh.map{t:TypeId}{α β:Type}{f:α->AV}{good:α->Prop}{f':β->AV}{good':β->Prop}(h:fh enc P W t f good)(φ:α->β)(hg:∀a,good a->good' (φ a))(hf:∀a,good a->(f' (φ a)).cells=(f a).cells):fh enc P W t f' good':=λn cs x hx hw=>by
 obtain⟨a,h1,h2⟩:=h n cs x hx hw;exact⟨φ a,hg a h1,by rw[hf a h1];exact h2⟩
theorem fh.at{t u:TypeId}{α:Type}{f:α->AV}{good:α->Prop}(e:t=u)(h:fh enc P W u f good):fh enc P W t f good:=e▸h
theorem fh.argA{t:TypeId}{α:Type}{f:α->AV}{good:α->Prop}(h:fh enc P W t f good){r:Reach}{base:Nat}{v:Value}{d:DataW H}{ps:List MemPlace}(ht:qv P t=true)(hf:∀a,∃cs,f a=.agg cs)
    (hval:Value.okWide P W r base t v) (hd:DataW.Trod enc P W 0 (λ_=>true) true t v d ps) (hw:∀k∈d.weights P t,k<=reachBytes):∃a,good a/\Rel (E0 (uA W)) W (f a) v:=by
 obtain⟨n,hn⟩:=hd;obtain⟨a,h1,h2⟩:=h n _ _ hn hw;refine⟨a,h1,?_⟩
 obtain⟨cs,hcs,_⟩:∃cs,v=.agg cs/\True:=by
  unfold Value.okWide at hval;unfold qv at ht;split at hval
  ·obtain⟨cs,h,_⟩:=hval;exact⟨cs,h,trivial⟩
  ·obtain⟨cs,h,_⟩:=hval;exact⟨cs,h,trivial⟩
  ·rename_i k1 k2;revert ht;cases hu:P.underlying t with
   |none=>simp
   |some u=>
    cases u with
    |struct fs=>exact absurd hu (k1 fs)
    |array m e=>exact absurd hu (k2 m e)
    |_=>simp
 subst hcs;obtain⟨xs,hx⟩:=hf a;rw[hx] at h2 |-;exact .agg xs cs.toList h2.1 h2.2
theorem fh.arg1{t:TypeId}{α:Type}{f:α->AV}{good:α->Prop}(h:fh enc P W t f good){v:Value}{d:DataW H}{ps:List MemPlace}(hf:∀a,(f a).cells=[f a])(hv:v.cells=#[v])
    (hd:DataW.Trod enc P W 0 (λ_=>true) true t v d ps) (hw:∀k∈d.weights P t,k<=reachBytes):∃a,good a/\Rel (E0 (uA W)) W (f a) v:=by
 obtain⟨n,hn⟩:=hd;obtain⟨a,h1,h2⟩:=h n _ _ hn hw;rw[hf,hv] at h2;exact⟨a,h1,h2.2 0 _ _ rfl rfl⟩
theorem vI{t:TypeId}{r:Reach}{base:Nat}{v:Value}(ht:qv P t=false)(hval:Value.okWide P W r base t v):v.cells=#[v]:=by
 cases v<;>try rfl
 rename_i cs;exfalso;unfold Value.okWide at hval;unfold qv at ht;cases hu:P.underlying t with
 |none=>simp only[hu,Cell.okWide,Cell.ok] at hval
 |some u=>
  rw[hu] at ht;cases u<;>simp only[hu,Cell.okWide,Cell.ok] at hval<;>simp at ht
theorem nS(hl:laidOutB P=true){W':World}(hb:Below W.heap.size W W'){sp:Nat->Bool}:∀{ts:List TypeId}{vs:List Value}{ds:List (DataW H)}{ps:List MemPlace},(∀t∈ts,P.readableRec t=true/\t<P.types.size)->
    DataW.TrodAll enc P W 0 (λ_=>true) true ts vs ds ps->(∀p∈ps,p.block<W.heap.size)->(∀p∈ps,sp p.block=true)->DataW.TrodAll enc P W' 0 sp true ts vs ds ps
 |[],[],[],ps,_,h,_,_=>h
 |t::ts,v::vs,d::ds,ps,hr,⟨p,q,h1,h2,e⟩,hlt,hsp=>by
  subst e
  exact ⟨p,q,WideElems.Trod_stays hl (hr t (dg ..)).1 (hr t (dg ..)).2 h1 (fun x hx=>hb.same (hlt x (mH _ hx))) (fun x hx=>hsp x (mH _ hx)),
   nS hl hb (λt ht=>hr t (ec _ ht)) h2 (λx hx=>hlt x (lW _ hx)) (λx hx=>hsp x (lW _ hx)),rfl⟩
 |[],_::_,_,_,_,h,_,_=>h.elim
 |[],[],_::_,_,_,h,_,_=>h.elim
 |_::_,[],_,_,_,h,_,_=>h.elim
 |_::_,_::_,[],_,_,h,_,_=>h.elim
theorem mW:∀{ts:List TypeId}{ds:List (DataW H)}{i:Nat}{t:TypeId}{d:DataW H},ts[i]?=some t->ds[i]?=some d->∀k∈d.weights P t,k∈DataW.weightsEach P ts ds
 |t::ts,d::ds,0,_,_,h1,h2,k,hk=>by
  simp at h1 h2;subst h1 h2;unfold DataW.weightsEach;exact mH _ hk
 |t::ts,d::ds,i+1,_,_,h1,h2,k,hk=>by
  unfold DataW.weightsEach;exact lW _ (mW (ts:=ts) (ds:=ds) (by simpa using h1) (by simpa using h2) k hk)
 |[],_,i,_,_,h1,_,_,_=>by simp at h1
 |_::_,[],i,_,_,_,h2,_,_=>by simp at h2
end
end Go.Abs
namespace Go.Proofs.YtekdaafnjdlenaaGreat
open Go Go.Abs Go.Abs.C2 Go.Abs.Ins Go.Abs.Opd Go.Abs.TK Go.Abs.MK
def cO(d:Nat)(i:Ins):Op2:=Op2.mk (some d) none i
def cG(d g:Nat)(b:Bool)(i:Ins):Op2:=Op2.mk (some d) (some (g,b)) i
def cN(k:Int):Opd:=Opd.c (AV.int IntKind.i64 k)
def cM(n:Nat):Ins:=Ins.mov (Opd.t n)
def cD(n:Nat):Ins:=Ins.ld1 (Opd.t n)
def cF(n:Nat):Opd:=Opd.c (AV.func n [])
def cB(o:BinOp)(x y:Opd):Ins:=Ins.bin o false false x y
def a9:Opd:=Opd.c (AV.bool false)
def cK:Opd:=Opd.c (AV.bool true)
def aa(d s:Nat):Op2:=Op2.mk (some d) none (Ins.mov (Opd.t s))
def aD(d s:Nat):Op2:=Op2.mk (some d) none (Ins.ld1 (Opd.t s))
def bj(d n s:Nat):Op2:=Op2.mk (some d) none (Ins.ldn n (Opd.t s))
def aY(d s:Nat):Op2:=Op2.mk (some d) none (Ins.lenS (Opd.t s))
def bE(d n s:Nat):Op2:=Op2.mk (some d) none (Ins.fa n (Opd.t s))
def aV(d s n:Nat):Op2:=Op2.mk (some d) none (Ins.ext (Opd.t s) n)
def aG(d f:Nat)(l:List Opd):Op2:=Op2.mk (some d) none (Ins.call (Opd.c (AV.func f [])) l)
def aN(d:Nat)(o:BinOp)(x y:Nat):Op2:=Op2.mk (some d) none (Ins.bin o false false (Opd.t x) (Opd.t y))
def ap(d:Nat)(o:BinOp)(x:Nat)(y:Int):Op2:=Op2.mk (some d) none (Ins.bin o false false (Opd.t x) (Opd.c (AV.int IntKind.i64 y)))
def br(n p v:Nat):Op2:=Op2.mk none none (Ins.st n (Opd.t p) (Opd.t v))
def be(d g:Nat)(i:Ins):Op2:=Op2.mk (some d) (some (g,false)) i
def an(d g:Nat)(i:Ins):Op2:=Op2.mk (some d) (some (g,true)) i
def aq(n:Nat)(x y:C2):C2:=C2.cond (Opd.t n) x y
def ab(l:List Op2)(x:C2):C2:=C2.seq (C2.ops 0 l) x
def ba:AV:=AV.int IntKind.i64 0
theorem aH:(∀(d:Nat)(i:Ins),cO d i=Op2.mk (some d) none i)/\(∀(d g:Nat)(b:Bool)(i:Ins),cG d g b i=Op2.mk (some d) (some (g,b)) i)/\(∀(k:Int),cN k=Opd.c (AV.int IntKind.i64 k))/\(∀(n:Nat),cM n=Ins.mov (Opd.t n))/\(∀(n:Nat),cD n=Ins.ld1 (Opd.t n))/\(∀(n:Nat),cF n=Opd.c (AV.func n []))/\(∀(o:BinOp)(x y:Opd),cB o x y=Ins.bin o false false x y)/\(a9=Opd.c (AV.bool false))/\(cK=Opd.c (AV.bool true))/\(∀(d s:Nat),aa d s=Op2.mk (some d) none (Ins.mov (Opd.t s)))/\(∀(d s:Nat),aD d s=Op2.mk (some d) none (Ins.ld1 (Opd.t s)))/\(∀(d n s:Nat),bj d n s=Op2.mk (some d) none (Ins.ldn n (Opd.t s)))/\(∀(d s:Nat),aY d s=Op2.mk (some d) none (Ins.lenS (Opd.t s)))/\(∀(d n s:Nat),bE d n s=Op2.mk (some d) none (Ins.fa n (Opd.t s)))/\(∀(d s n:Nat),aV d s n=Op2.mk (some d) none (Ins.ext (Opd.t s) n))/\(∀(d f:Nat)(l:List Opd),aG d f l=Op2.mk (some d) none (Ins.call (Opd.c (AV.func f [])) l))/\(∀(d:Nat)(o:BinOp)(x y:Nat),aN d o x y=Op2.mk (some d) none (Ins.bin o false false (Opd.t x) (Opd.t y)))/\(∀(d:Nat)(o:BinOp)(x:Nat)(y:Int),ap d o x y=Op2.mk (some d) none (Ins.bin o false false (Opd.t x) (Opd.c (AV.int IntKind.i64 y))))/\(∀(n p v:Nat),br n p v=Op2.mk none none (Ins.st n (Opd.t p) (Opd.t v)))/\(∀(d g:Nat)(i:Ins),be d g i=Op2.mk (some d) (some (g,false)) i)/\(∀(d g:Nat)(i:Ins),an d g i=Op2.mk (some d) (some (g,true)) i)/\(∀(n:Nat)(x y:C2),aq n x y=C2.cond (Opd.t n) x y)/\(∀(l:List Op2)(x:C2),ab l x=C2.seq (C2.ops 0 l) x)/\(ba=AV.int IntKind.i64 0):=⟨λ_ _=>rfl,λ_ _ _ _=>rfl,λ_=>rfl,λ_=>rfl,λ_=>rfl,λ_=>rfl,λ_ _ _=>rfl,rfl,rfl,λ_ _=>rfl,λ_ _=>rfl,λ_ _ _=>rfl,λ_ _=>rfl,λ_ _ _=>rfl,λ_ _ _=>rfl,λ_ _ _=>rfl,λ_ _ _ _=>rfl,λ_ _ _ _=>rfl,λ_ _ _=>rfl,λ_ _ _=>rfl,λ_ _ _=>rfl,λ_ _ _=>rfl,λ_ _=>rfl,rfl⟩
theorem mkI{P:Program}{f:FuncId}{F:F2}{fn:Func}(h1:P.funcs[f]?=some fn)(h2:xY P fn=some F:=by kernel_rfl):Is P f F:=Is.mk' h1 h2
theorem follows:Tryz.prog.follows .mixedOrders=true:=by rfl
abbrev pU:=@Go.Abs.Pure Tryz.prog
theorem pO{f:FuncId}{F:F2}{args:List AV}{r:AV}(hf:Is Tryz.prog f F)(hb:aK Tryz.prog F.body (T0 args) bP 0 λe T H nx=>aS e.ends (bn T H (λx=>Snap H x r) F.res))(hl:args.length<=F.n:=by exact Nat.le_of_ble_eq_true rfl):Go.Abs.Pure Tryz.prog f args r:=Go.Abs.Pure.of_c2 follows hf hl hb
theorem fO{f:FuncId}{F:F2}{args:List AV}{H:Hp}{nx:Nat}{K:AV->Hp->Nat->Prop}(hf:Is Tryz.prog f F)(hb:aK Tryz.prog F.body (T0 args) H nx λe T H nx=>aS e.ends (bn T H (λx=>K x H nx) F.res))(hl:args.length<=F.n:=by exact Nat.le_of_ble_eq_true rfl):Go.Abs.Fn Tryz.prog f args H nx K:=Go.Abs.Fn.of_c2 follows hf hl hb
theorem qO{f:FuncId}{F:F2}{args:List AV}{r:AV}(hf:Is Tryz.prog f F)(hb:aK Tryz.prog F.body (T0 args) bP 0 λe T H nx=>aS e.ends (bn T H (λx=>SnapF H x r) F.res))(hl:args.length<=F.n:=by exact Nat.le_of_ble_eq_true rfl):Go.Abs.PureF Tryz.prog f args r:=Go.Abs.PureF.of_c2 follows hf hl hb
def b3:F2:=(F2.mk 60 [RV.t 4] (ab [cO 2 (box (t 0)),cO 4 (mov a9)] ((ab [bj 13 1 2,aG 14 11 [t 13,c AV.esl],cO 15 (un UnOp.not (t 14))] (aq 15 (ab [aG 16 12 [],aa 4 16] ret) skip)).seq (ab [bj 18 1 2,aG 19 13 [t 18],aa 17 19,aV 20 17 0,aV 21 17 1,aa 5 20,aa 6 21] (ab [bj 23 1 2,aG 24 14 [t 23],aa 22 24,aV 25 22 0,aV 26 22 1,aa 7 25,aa 8 26] (ab [bj 28 1 2,aa 29 1,aG 30 15 [t 28,t 29],aa 27 30,aV 31 27 0,aV 32 27 1,aa 9 31,aa 10 32] (ab [bj 34 1 2,aa 35 1,aG 36 16 [t 34,t 35],aa 33 36,aV 37 33 0,aV 38 33 1,aa 11 37,aa 12 38] (ab [aG 39 12 [],aa 40 39,an 41 40 (cM 5),an 42 40 (cM 7),an 43 40 (call (cF 17) [t 41,t 42]),cO 44 (pick (t 40) (t 43) a9),aa 45 44,an 46 45 (cM 6),an 47 45 (cM 8),an 48 45 (cB .eql (t 46) (t 47)),cO 49 (pick (t 45) (t 48) a9),aa 50 49,an 51 50 (cM 9),an 52 50 (cM 11),an 53 50 (bin BinOp.eql true false (t 51) (t 52)),cO 54 (pick (t 50) (t 53) a9),aa 55 54,an 56 55 (cM 10),an 57 55 (cM 12),an 58 55 (cB .eql (t 56) (t 57)),cO 59 (pick (t 55) (t 58) a9),aa 4 59] ret))))))))
def b8:F2:=(F2.mk 55 [RV.t 6] (ab [cO 3 (box (t 0)),cO 6 (mov a9)] (((mix 1 [bj 11 1 3,aa 12 2,aa 13 2,aY 14 13,cO 15 (mn (t 14) [cN ((8))]),cO 16 (sls 1 (t 12) none (some (t 15)) none),aG 17 11 [t 11,t 16],cO 18 (un UnOp.not (t 17)),aa 19 18,be 20 19 (cM 2),be 21 19 (lenS (t 20)),be 22 19 (cB .gtr (t 21) (cN 8)),be 23 19 (cM 22),an 24 23 (cM 2),an 25 23 (lenS (t 24)),an 26 23 (cB .leq (t 25) (cN 1024)),be 27 19 (pick (t 23) (t 26) a9),cO 28 (pick (t 19) cK (t 27))] [1,2,3,4,5,0,6,7,8,9,10,11,12,13,14,15,16,17]).seq (aq 28 (ab [aG 29 12 [],aa 6 29] ret) skip)).seq (ab [bj 31 1 3,aa 32 1,aa 33 2,aG 34 31 [t 31,t 32,t 33],aa 30 34,aV 35 30 0,aV 36 30 1,aa 7 35,aa 8 36] (ab [bj 38 1 3,aa 39 1,aa 40 2,aG 41 32 [t 38,t 39,t 40],aa 37 41,aV 42 37 0,aV 43 37 1,aa 9 42,aa 10 43] (ab [aG 44 12 [],aa 45 44,an 46 45 (cM 7),an 47 45 (cM 9),an 48 45 (bin BinOp.eql true false (t 46) (t 47)),cO 49 (pick (t 45) (t 48) a9),aa 50 49,an 51 50 (cM 8),an 52 50 (cM 10),an 53 50 (cB .eql (t 51) (t 52)),cO 54 (pick (t 50) (t 53) a9),aa 6 54] ret))))))
theorem is8:Is Tryz.prog 8 b8:=mkI Tryz.func8
def b11:F2:=(F2.mk 40 [RV.t 4] (ab [cO 2 (box (t 0)),cO 4 (mov a9)] ((ab [aa 10 1,aY 11 10,cO 12 (mov (cN 0))] (block 0 (ab [aN 13 .lss 12 11] ((aq 13 skip (exit 0)).seq ((block 1 (ab [cO 14 (ixaS 1 (t 10) (t 12)),aD 15 14,aa 6 15] (ab [aa 16 6,aG 17 40 [t 16],cO 18 (un UnOp.not (t 17))] (aq 18 (ab [cO 4 (mov a9)] ret) skip)))).seq (ops 0 [ap 19 .add 12 1,aa 12 19])))).loop)).seq (ab [cO 7 (mov (cN 0))] ((ab [bE 20 0 2,aD 21 20,aY 22 21,cO 23 (mov (cN 0))] (block 2 (ab [aN 24 .lss 23 22] ((aq 24 skip (exit 2)).seq ((block 3 (ab [cO 25 (ixaS 1 (t 21) (t 23)),aD 26 25,aa 9 26] (ops 0 [aa 27 7,aa 28 9,aY 29 28,cO 30 (mn (t 29) [cN ((10))]),cO 31 (cB .shl (cN 1) (t 30)),aN 32 .add 27 31,aa 7 32]))).seq (ops 0 [ap 33 .add 23 1,aa 23 33])))).loop)).seq (ab [bj 34 1 2,aG 35 41 [t 34],aa 36 35,an 37 36 (cM 7),an 38 36 (cB .leq (t 37) (cN 400)),cO 39 (pick (t 36) (t 38) a9),aa 4 39] ret))))))
theorem NH:Is Tryz.prog 11 b11:=mkI Tryz.func11
def b12:F2:=(F2.mk 193 [RV.t 0] (ab [cO 0 (mov a9)] (ab [cO 21 (bldS 1 2 [ba] [(0,1,cN ((0))),(1,1,cN ((1)))]),aG 22 42 [t 21],cO 23 (bldS 1 2 [ba] [(0,1,cN ((0))),(1,1,cN ((2)))]),aG 24 42 [t 23],cO 25 (bldS 1 2 [ba] [(0,1,cN ((1))),(1,1,cN ((2)))]),aG 26 42 [t 25],cO 27 (bldS 1 3 [AV.esl] [(0,1,t 22),(1,1,t 24),(2,1,t 26)]),aa 1 27] (ab [aa 28 1,cO 29 (bld [AV.esl] [(0,1,t 28)]),cO 30 (bldS 1 3 [ba] [(0,1,cN ((0))),(1,1,cN ((1))),(2,1,cN ((2)))]),aG 31 42 [t 30],cO 32 (bldS 1 1 [AV.esl] [(0,1,t 31)]),cO 33 (bld [AV.esl] [(0,1,t 32)]),cO 2 (alloc (AV.agg [AV.esl])),cO 3 (alloc (AV.agg [AV.esl])),br 1 2 29,br 1 3 33] (ab [cO 34 (bldS 1 3 [ba] [(0,1,cN ((0))),(1,1,cN ((1))),(2,1,cN ((2)))]),aG 35 42 [t 34],cO 36 (bldS 1 3 [ba] [(0,1,cN ((0))),(1,1,cN ((1))),(2,1,cN ((3)))]),aG 37 42 [t 36],cO 38 (bldS 1 3 [ba] [(0,1,cN ((0))),(1,1,cN ((2))),(2,1,cN ((3)))]),aG 39 42 [t 38],cO 40 (bldS 1 3 [ba] [(0,1,cN ((1))),(1,1,cN ((2))),(2,1,cN ((3)))]),aG 41 42 [t 40],cO 42 (bldS 1 4 [AV.esl] [(0,1,t 35),(1,1,t 37),(2,1,t 39),(3,1,t 41)]),cO 43 (bld [AV.esl] [(0,1,t 42)]),cO 4 (alloc (AV.agg [AV.esl])),br 1 4 43] (ab [bj 45 1 2,aG 46 13 [t 45],aa 44 46,aV 47 44 0,aV 48 44 1,aa 5 47,aa 6 48] (ab [bj 50 1 3,aG 51 13 [t 50],aa 49 51,aV 52 49 0,aV 53 49 1,aa 7 52,aa 8 53] (ab [bj 55 1 4,aG 56 13 [t 55],aa 54 56,aV 57 54 0,aV 58 54 1,aa 9 57,aa 10 58] (ab [bj 60 1 2,aG 61 18 ([t 60,cN ((1))]),aa 59 61,aV 62 59 0,aV 63 59 1,aa 11 62,aa 12 63] ((ab [aa 64 6,aa 65 8,aN 66 .add 64 65,aa 67 10,aN 68 .add 66 67,aa 69 12,aN 70 .add 68 69,ap 71 .neq 70 0,aa 72 71,be 73 72 (cM 5),be 74 72 (bldS 1 2 [ba] [(0,1,cN ((1))),(1,1,cN ((1)))]),be 75 72 (call (cF 17) [t 73,t 74]),be 76 72 (un UnOp.not (t 75)),cO 77 (pick (t 72) cK (t 76)),aa 78 77,be 79 78 (cM 7),be 80 78 (bldS 1 3 [ba] [(0,1,cN ((1))),(1,1,cN ((0))),(2,1,cN ((0)))]),be 81 78 (call (cF 17) [t 79,t 80]),be 82 78 (un UnOp.not (t 81)),cO 83 (pick (t 78) cK (t 82)),aa 84 83,be 85 84 (cM 9),be 86 84 (bldS 1 3 [ba] [(0,1,cN ((1))),(1,1,cN ((0))),(2,1,cN ((1)))]),be 87 84 (call (cF 17) [t 85,t 86]),be 88 84 (un UnOp.not (t 87)),cO 89 (pick (t 84) cK (t 88)),aa 90 89,be 91 90 (cM 11),be 92 90 (lenS (t 91)),be 93 90 (cB .neq (t 92) (cN 1)),cO 94 (pick (t 90) cK (t 93)),aa 95 94,be 96 95 (cM 11),be 97 95 (ixaS 1 (t 96) (cN 0)),be 98 95 (cD 97),be 99 95 (cM 1),be 100 95 (call (cF 23) [t 98,t 99]),be 101 95 (un UnOp.not (t 100)),cO 102 (pick (t 95) cK (t 101))] (aq 102 (ab [cO 0 (mov a9)] ret) skip)).seq (ab [bj 104 1 2,aa 105 1,aG 106 21 [t 104,t 105],aa 103 106,aV 107 103 0,aV 108 103 1,aV 109 103 2,aV 110 103 3,aa 13 107,aa 14 108,aa 15 109,aa 6 110] (ab [bj 112 1 3,aa 113 1,aG 114 21 [t 112,t 113],aa 111 114,aV 115 111 0,aV 116 111 1,aV 117 111 2,aV 118 111 3,aa 16 115,aa 17 116,aa 18 117,aa 8 118] (ab [bj 120 1 4,aG 121 15 ([t 120,cN ((1))]),aa 119 121,aV 122 119 0,aV 123 119 1,aa 19 122,aa 10 123] (ab [bj 125 1 4,aG 126 15 ([t 125,cN ((2))]),aa 124 126,aV 127 124 0,aV 128 124 1,aa 20 127,aa 12 128] ((ab [aa 129 6,aa 130 8,aN 131 .add 129 130,aa 132 10,aN 133 .add 131 132,aa 134 12,aN 135 .add 133 134,ap 136 .neq 135 0,aa 137 136,be 138 137 (cM 15),cO 139 (pick (t 137) cK (t 138)),aa 140 139,be 141 140 (cM 18),be 142 140 (un UnOp.not (t 141)),cO 143 (pick (t 140) cK (t 142)),aa 144 143,be 145 144 (cM 19),be 146 144 (un UnOp.not (t 145)),cO 147 (pick (t 144) cK (t 146)),aa 148 147,be 149 148 (cM 20),cO 150 (pick (t 148) cK (t 149)),aa 151 150,be 152 151 (cM 16),be 153 151 (bldS 1 3 [ba] [(0,1,cN ((0))),(1,1,cN ((1))),(2,1,cN ((2)))]),be 154 151 (call (cF 42) [t 153]),be 155 151 (bldS 1 1 [AV.esl] [(0,1,t 154)]),be 156 151 (call (cF 23) [t 152,t 155]),be 157 151 (un UnOp.not (t 156)),cO 158 (pick (t 151) cK (t 157))] (aq 158 (ab [cO 0 (mov a9)] ret) skip)).seq ((mix 1 [bj 159 1 2,aa 160 1,aa 161 14,aG 162 27 [t 159,t 160,t 161],ap 163 .eql 162 0,aa 164 163,an 165 164 (ldn 1 (t 2)),an 166 164 (cM 1),an 167 164 (cM 1),an 168 164 (sls 1 (t 167) (some (cN 2)) none none),an 169 164 (call (cF 27) [t 165,t 166,t 168]),an 170 164 (cB .eql (t 169) (cN 0)),cO 171 (pick (t 164) (t 170) a9),aa 172 171,an 173 172 (ldn 1 (t 3)),an 174 172 (cM 1),an 175 172 (cM 1),an 176 172 (sls 1 (t 175) (some (cN 2)) none none),an 177 172 (call (cF 27) [t 173,t 174,t 176]),an 178 172 (cB .eql (t 177) (cN 18)),cO 179 (pick (t 172) (t 178) a9),aa 180 179,an 181 180 (ldn 1 (t 3)),an 182 180 (cM 1),an 183 180 (cM 16),an 184 180 (call (cF 25) [t 181,t 182,t 183]),an 185 180 (cB .eql (t 184) (cN 0)),cO 186 (pick (t 180) (t 185) a9),aa 187 186,an 188 187 (ldn 1 (t 2)),an 189 187 (cM 1),an 190 187 (call (cF 25) [t 188,t 189,c AV.esl]),an 191 187 (cB .eql (t 190) (cN 18)),cO 192 (pick (t 187) (t 191) a9),aa 0 192] [1,2,0,3,4,5,7,8,9,6,10,11,12,13,15,16,17,14,18,19,20,21,23,24,22,25,26,27,28,30,29,31,32,33,34]).seq ret))))))))))))))))
theorem N9:Is Tryz.prog 12 b12:=mkI Tryz.func12
def b13:F2:=(F2.mk 14 [RV.t 2,RV.t 3] (ab [cO 1 (box (t 0)),cO 2 (mov (c AV.esl)),cO 3 (mov (cN 0))] ((ab [bj 5 1 1,aG 6 43 [t 5],aa 4 6] (ab [aa 7 4,ap 8 .neq 7 0] (aq 8 (ab [aa 9 4,cO 2 (mov (c AV.esl)),aa 3 9] ret) skip))).seq (ab [bj 10 1 1,aG 11 44 [t 10],aV 12 11 0,aV 13 11 1,aa 2 12,aa 3 13] ret))))
theorem ND:Is Tryz.prog 13 b13:=mkI Tryz.func13
def b15:F2:=(F2.mk 47 [RV.t 4,RV.t 5] (ab [cO 2 (box (t 0)),cO 4 (mov a9),cO 5 (mov (cN 0))] ((ab [bj 9 1 2,aG 10 43 [t 9],aa 6 10] (ab [aa 11 6,ap 12 .neq 11 0] (aq 12 (ab [aa 13 6,cO 4 (mov a9),aa 5 13] ret) skip))).seq ((ab [aa 14 1,cO 15 (cB .lss (t 14) (cN ((-1)))),aa 16 15,be 17 16 (cM 1),be 18 16 (cB .geq (t 17) (cN 8)),cO 19 (pick (t 16) cK (t 18))] (aq 19 (ab [cO 4 (mov a9),cO 5 (mov (cN 2))] ret) skip)).seq (ab [bj 21 1 2,aG 22 44 [t 21],aa 20 22,aV 23 20 0,aV 24 20 1,aa 7 23,aa 8 24] ((ab [aa 25 8,ap 26 .neq 25 0,aa 27 26,be 28 27 (cM 7),be 29 27 (lenS (t 28)),be 30 27 (cB .eql (t 29) (cN 0)),cO 31 (pick (t 27) cK (t 30))] (aq 31 (ab [aa 32 8,cO 4 (mov a9),aa 5 32] ret) skip)).seq (ab [aa 33 7,cO 34 (ixaS 1 (t 33) (cN 0)),aD 35 34,ap 36 .sub 35 1,cO 37 (ixaS 1 (t 33) (cN 0)),br 1 37 36] (ab [aa 38 7,aa 39 1,ap 40 .add 39 1,aa 41 7,aY 42 41,cO 43 (mn (t 40) [t 42]),cO 44 (sls 1 (t 38) none (some (t 43)) none),aG 45 48 ([t 44,c (AV.func 49 [])]),cO 46 (un UnOp.not (t 45)),aa 4 46,cO 5 (mov (cN 0))] ret))))))))
theorem NC:Is Tryz.prog 15 b15:=mkI Tryz.func15
def b17:F2:=(F2.mk 26 [RV.t 4] (ab [cO 4 (mov a9)] ((ab [aa 6 0,aY 7 6,aa 8 1,aY 9 8,aN 10 .neq 7 9] (aq 10 (ab [cO 4 (mov a9)] ret) skip)).seq ((ab [aa 11 0,aY 12 11,cO 13 (mov (cN 0))] (block 0 (ab [aN 14 .lss 13 12] ((aq 14 skip (exit 0)).seq ((block 1 (ab [aa 15 13,aa 5 15] ((ops 1 [aa 16 0,aa 17 5,cO 18 (ixaS 1 (t 16) (t 17)),aD 19 18,aa 20 1,aa 21 5,cO 22 (ixaS 1 (t 20) (t 21)),aD 23 22,aN 24 .neq 19 23]).seq (aq 24 (ab [cO 4 (mov a9)] ret) skip)))).seq (ops 0 [ap 25 .add 13 1,aa 13 25])))).loop)).seq (ab [cO 4 (mov cK)] ret)))))
theorem NN:Is Tryz.prog 17 b17:=mkI Tryz.func17
def b18:F2:=(F2.mk 46 [RV.c1 4,RV.c1 5] (ab [cO 2 (box (t 0)),cO 3 (box (t 1)),cO 4 (alloc AV.esl),cO 5 (alloc (ba))] ((ab [bj 12 1 2,aG 13 43 [t 12],aa 6 13] (ab [aa 14 6,ap 15 .neq 14 0] (aq 15 (ab [aa 16 6,Op2.mk none none (Ins.st 1 (t 4) (c AV.esl)),br 1 5 16] ret) skip))).seq ((ab [aD 17 3,ap 18 .lss 17 0,aa 19 18,be 20 19 (cD 3),be 21 19 (cB .geq (t 20) (cN 8)),cO 22 (pick (t 19) cK (t 21))] (aq 22 (ab [Op2.mk none none (Ins.st 1 (t 4) (c AV.esl)),Op2.mk none none (Ins.st 1 (t 5) (cN 2))] ret) skip)).seq (ab [cO 7 (alloc AV.esl)] ((ab [bj 23 1 2,aD 24 3,aG 25 50 [t 23,t 24]] (block 0 (rangeF (t 25) [26,27] (ab [aa 8 26] (ops 0 [aa 9 27])) (block 1 ((ab [aa 28 9,ap 29 .neq 28 0] (aq 29 (ab [aa 30 9,Op2.mk none none (Ins.st 1 (t 4) (c AV.esl)),br 1 5 30] ret) skip)).seq (ab [bj 32 1 2,aD 33 3,aa 34 8,aG 35 34 [t 32,t 33,t 34],aa 31 35,aV 36 31 0,aV 37 31 1,aa 10 36,aa 11 37] ((ab [aa 38 11,ap 39 .neq 38 0] (aq 39 (ab [aa 40 11,Op2.mk none none (Ins.st 1 (t 4) (c AV.esl)),br 1 5 40] ret) skip)).seq (ops 0 [aD 41 7,aa 42 10,cO 43 (bldS 1 1 [AV.esl] [(0,1,t 42)]),cO 44 (app 1 24 (t 41) (t 43)),br 1 7 44])))))))).seq (ab [aD 45 7,br 1 4 45,Op2.mk none none (Ins.st 1 (t 5) (cN 0))] ret)))))))
theorem Oi:Is Tryz.prog 18 b18:=mkI Tryz.func18
def b21:F2:=(F2.mk 84 [RV.t 4,RV.t 5,RV.t 6,RV.t 7] (ab [cO 2 (box (t 0)),cO 4 (mov (c AV.esl)),cO 5 (mov (c AV.esl)),cO 6 (mov a9),cO 7 (mov (cN 0))] ((ab [bj 19 1 2,aG 20 43 [t 19],aa 8 20] (ab [aa 21 8,ap 22 .neq 21 0] (aq 22 (ab [aa 23 8,cO 4 (mov (c AV.esl)),cO 5 (mov (c AV.esl)),cO 6 (mov a9),aa 7 23] ret) skip))).seq (ab [bj 25 1 2,aa 26 1,aG 27 57 [t 25,t 26],aa 24 27,aV 28 24 0,aV 29 24 1,aa 9 28,aa 10 29] ((ab [aa 30 10,ap 31 .neq 30 0] (aq 31 (ab [aa 32 10,cO 4 (mov (c AV.esl)),cO 5 (mov (c AV.esl)),cO 6 (mov a9),aa 7 32] ret) skip)).seq ((ab [aa 33 1,aY 34 33,ap 35 .eql 34 0] (aq 35 (ab [cO 4 (mov (c AV.esl)),cO 5 (mov (c AV.esl)),cO 6 (mov cK),cO 7 (mov (cN 0))] ret) skip)).seq (ab [aa 36 1,cO 37 (ixaS 1 (t 36) (cN 0)),aD 38 37,aY 39 38,ap 40 .sub 39 1,aa 11 40] (ab [bj 42 1 2,aa 43 11,ap 44 .add 43 1,aG 45 58 [t 42,t 44],aa 41 45,aV 46 41 0,aV 47 41 1,cO 12 (alloc (AV.agg [ba,AV.esl])),br 2 12 46,aa 10 47] ((ab [aa 48 10,ap 49 .neq 48 0] (aq 49 (ab [aa 50 10,cO 4 (mov (c AV.esl)),cO 5 (mov (c AV.esl)),cO 6 (mov a9),aa 7 50] ret) skip)).seq (ab [bj 52 2 12,aa 53 9,aG 54 59 [t 52,t 53],aa 51 54,aV 55 51 0,aV 56 51 1,aV 57 51 2,aV 58 51 3,aa 13 55,aa 14 56,aa 15 57,aa 10 58] ((ab [aa 59 10,ap 60 .neq 59 0] (aq 60 (ab [aa 61 10,cO 4 (mov (c AV.esl)),cO 5 (mov (c AV.esl)),cO 6 (mov a9),aa 7 61] ret) skip)).seq ((ab [aa 62 15] (aq 62 (ab [bj 64 1 2,aa 65 11,ap 66 .add 65 1,aa 67 13,aG 68 34 [t 64,t 66,t 67],aa 63 68,aV 69 63 0,aV 70 63 1,aa 16 69,aa 17 70] (ab [aa 71 16,aa 72 17,ap 73 .eql 72 0,aa 74 17,aa 4 71,cO 5 (mov (c AV.esl)),aa 6 73,aa 7 74] ret)) skip)).seq (ab [bj 76 1 2,aa 77 11,aa 78 14,aG 79 34 [t 76,t 77,t 78],aa 75 79,aV 80 75 0,aV 81 75 1,aa 18 80,aa 10 81] (ab [aa 82 18,aa 83 10,cO 4 (mov (c AV.esl)),aa 5 82,cO 6 (mov a9),aa 7 83] ret))))))))))))))
theorem Nh:Is Tryz.prog 21 b21:=mkI Tryz.func21
def b23:F2:=(F2.mk 27 [RV.t 4] (ab [cO 4 (mov a9)] ((ab [aa 6 0,aY 7 6,aa 8 1,aY 9 8,aN 10 .neq 7 9] (aq 10 (ab [cO 4 (mov a9)] ret) skip)).seq ((ab [cO 5 (mov (cN 0))] (block 0 ((ab [aa 11 5,aa 12 0,aY 13 12,aN 14 .lss 11 13] (aq 14 skip (exit 0))).seq ((block 1 ((mixS 1 [aa 17 0,aa 18 5,cO 19 (ixaS 1 (t 17) (t 18)),aD 20 19,aa 21 1,aa 22 5,cO 23 (ixaS 1 (t 21) (t 22)),aD 24 23,aG 25 63 [t 20,t 24],cO 26 (un UnOp.not (t 25))] [(0,0),(1,0),(2,0),(3,0),(4,0),(5,0),(6,0),(7,0),(8,2),(9,0)]).seq (aq 26 (ab [cO 4 (mov a9)] ret) skip))).seq (ops 0 [aa 15 5,ap 16 .add 15 1,aa 5 16]))).loop)).seq (ab [cO 4 (mov cK)] ret)))))
theorem N4:Is Tryz.prog 23 b23:=mkI Tryz.func23
def b25:F2:=(F2.mk 55 [RV.t 6] (ab [cO 3 (box (t 0)),cO 6 (mov (cN 0))] ((ab [bj 13 1 3,aa 14 1,aa 15 2,aG 16 67 [t 13,t 14,t 15],aa 12 16,aV 17 12 0,aV 18 12 1,aV 19 12 2,aa 7 17,aa 8 18,aa 9 19] (ab [aa 20 9,ap 21 .neq 20 0] (aq 21 (ab [aa 22 9,aa 6 22] ret) skip))).seq (((ops 1 [aa 23 1,aY 24 23,ap 25 .gtr 24 0,aa 26 25,an 27 26 (cM 2),an 28 26 (lenS (t 27)),an 29 26 (cB .gtr (t 28) (cN 0)),cO 30 (pick (t 26) (t 29) a9),aa 31 30,an 32 31 (cM 2),an 33 31 (ixaS 1 (t 32) (cN 0)),an 34 31 (cD 33),an 35 31 (lenS (t 34)),an 36 31 (cM 1),an 37 31 (ixaS 1 (t 36) (cN 0)),an 38 31 (cD 37),an 39 31 (lenS (t 38)),an 40 31 (cB .add (t 39) (cN 1)),an 41 31 (cB .neq (t 35) (t 40)),cO 42 (pick (t 31) (t 41) a9)]).seq (aq 42 (ab [cO 6 (mov (cN 15))] ret) skip)).seq (ab [aa 44 2,aG 45 29 [t 44],aa 43 45,aV 46 43 0,aV 47 43 1,aa 10 46,aa 11 47] ((ab [aa 48 11,ap 49 .neq 48 0] (aq 49 (ab [aa 50 11,aa 6 50] ret) skip)).seq ((ab [aa 51 10,aa 52 1,aG 53 68 ([t 51,t 52,c (AV.func 69 [])]),cO 54 (un UnOp.not (t 53))] (aq 54 (ab [cO 6 (mov (cN 18))] ret) skip)).seq (ab [cO 6 (mov (cN 0))] ret))))))))
theorem NR:Is Tryz.prog 25 b25:=mkI Tryz.func25
def b27:F2:=(F2.mk 55 [RV.t 6] (ab [cO 3 (box (t 0)),cO 6 (mov (cN 0))] (ab [bj 12 1 3,aa 13 1,aa 14 2,aG 15 67 [t 12,t 13,t 14],aa 11 15,aV 16 11 0,aV 17 11 1,aV 18 11 2,aa 7 16,aa 8 17,aa 9 18] ((ab [aa 19 9,ap 20 .neq 19 0] (aq 20 (ab [aa 21 9,aa 6 21] ret) skip)).seq ((ab [aa 22 1,aY 23 22,ap 24 .eql 23 0,aa 25 24,be 26 25 (cM 2),be 27 25 (lenS (t 26)),be 28 25 (cB .eql (t 27) (cN 0)),cO 29 (pick (t 25) cK (t 28))] (aq 29 (ab [cO 6 (mov (cN 18))] ret) skip)).seq (((ops 1 [aa 30 1,cO 31 (ixaS 1 (t 30) (cN 0)),aD 32 31,aY 33 32,aa 34 2,cO 35 (ixaS 1 (t 34) (cN 0)),aD 36 35,aY 37 36,aN 38 .neq 33 37]).seq (aq 38 (ab [cO 6 (mov (cN 15))] ret) skip)).seq ((ops 1 [bj 40 1 3,aa 41 1,cO 42 (ixaS 1 (t 41) (cN 0)),aD 43 42,aY 44 43,aG 45 58 [t 40,t 44],aa 39 45,aV 46 39 0,aV 47 39 1,cO 10 (alloc (AV.agg [ba,AV.esl])),br 2 10 46,aa 9 47]).seq ((ab [aa 48 9,ap 49 .neq 48 0] (aq 49 (ab [aa 50 9,aa 6 50] ret) skip)).seq (ab [bj 51 2 10,aa 52 7,aa 53 8,aG 54 71 [t 51,t 52,t 53],aa 6 54] ret)))))))))
theorem Nj:Is Tryz.prog 27 b27:=mkI Tryz.func27
def b28:F2:=(F2.mk 68 [RV.t 2] (ab [cO 1 (box (t 0)),cO 2 (mov (cN 0))] (ab [bE 8 0 1,aD 9 8,aa 3 9] ((ab [aa 10 3,aY 11 10,ap 12 .gtr 11 4096] (aq 12 (ab [cO 2 (mov (cN 5))] ret) skip)).seq ((ab [cO 4 (mov (cN 0))] (block 0 ((ab [aa 13 4,aa 14 3,aY 15 14,aN 16 .lss 13 15] (aq 16 skip (exit 0))).seq ((block 1 ((ab [aa 19 3,aa 20 4,cO 21 (ixaS 1 (t 19) (t 20)),aD 22 21,aG 23 72 [t 22],aa 5 23] (ab [aa 24 5,ap 25 .neq 24 0] (aq 25 (ab [aa 26 5,aa 2 26] ret) skip))).seq ((mixS 1 [aa 27 4,ap 28 .gtr 27 0,aa 29 28,an 30 29 (cM 3),an 31 29 (cM 4),an 32 29 (cB .sub (t 31) (cN 1)),an 33 29 (ixaS 1 (t 30) (t 32)),an 34 29 (cD 33),an 35 29 (cM 3),an 36 29 (cM 4),an 37 29 (ixaS 1 (t 35) (t 36)),an 38 29 (cD 37),an 39 29 (call (cF 73) [t 34,t 38]),an 40 29 (cB .geq (t 39) (cN 0)),cO 41 (pick (t 29) (t 40) a9)] [(0,0),(1,0),(2,0),(3,0),(4,0),(5,0),(6,0),(7,0),(8,0),(9,0),(10,0),(11,0),(12,2),(13,0),(14,0)]).seq (aq 41 (ab [cO 2 (mov (cN 14))] ret) skip)))).seq (ops 0 [aa 17 4,ap 18 .add 17 1,aa 4 18]))).loop)).seq ((ab [cO 6 (mov (cN 0))] (block 2 ((ab [aa 42 6,aa 43 3,aY 44 43,aN 45 .lss 42 44] (aq 45 skip (exit 2))).seq ((block 3 (ab [cO 7 (mov (cN 0))] (block 4 ((ab [aa 48 7,aa 49 3,aY 50 49,aN 51 .lss 48 50] (aq 51 skip (exit 4))).seq ((block 5 ((mixS 1 [aa 54 6,aa 55 7,aN 56 .neq 54 55,aa 57 56,an 58 57 (cM 3),an 59 57 (cM 6),an 60 57 (ixaS 1 (t 58) (t 59)),an 61 57 (cD 60),an 62 57 (cM 3),an 63 57 (cM 7),an 64 57 (ixaS 1 (t 62) (t 63)),an 65 57 (cD 64),an 66 57 (call (cF 74) [t 61,t 65]),cO 67 (pick (t 57) (t 66) a9)] [(0,0),(1,0),(2,0),(3,0),(4,0),(5,0),(6,0),(7,0),(8,0),(9,0),(10,0),(11,0),(12,2),(13,0)]).seq (aq 67 (ab [cO 2 (mov (cN 7))] ret) skip))).seq (ops 0 [aa 52 7,ap 53 .add 52 1,aa 7 53]))).loop))).seq (ops 0 [aa 46 6,ap 47 .add 46 1,aa 6 47]))).loop)).seq (ab [cO 2 (mov (cN 0))] ret)))))))
theorem Nf:Is Tryz.prog 28 b28:=mkI Tryz.func28
def b29:F2:=(F2.mk 15 [RV.t 2,RV.t 3] (ab [cO 2 (mov (c AV.esl)),cO 3 (mov (cN 0))] ((ab [aa 5 0,aG 6 75 [t 5],aa 4 6] (ab [aa 7 4,ap 8 .neq 7 0] (aq 8 (ab [aa 9 4,cO 2 (mov (c AV.esl)),aa 3 9] ret) skip))).seq (ab [aa 10 0,aG 11 77 [t 10],aG 12 76 [t 11],aV 13 12 0,aV 14 12 1,aa 2 13,aa 3 14] ret))))
theorem Nr:Is Tryz.prog 29 b29:=mkI Tryz.func29
def b30:F2:=(F2.mk 60 [RV.t 4,RV.t 5] (ab [cO 2 (box (t 0)),cO 4 (mov (c AV.esl)),cO 5 (mov (cN 0))] ((ab [bj 15 1 2,aG 16 78 [t 15],aa 6 16] (ab [aa 17 6,ap 18 .neq 17 0] (aq 18 (ab [aa 19 6,cO 4 (mov (c AV.esl)),aa 5 19] ret) skip))).seq ((ab [aa 20 1,aG 21 75 [t 20],aa 7 21] (ab [aa 22 7,ap 23 .neq 22 0] (aq 23 (ab [aa 24 7,cO 4 (mov (c AV.esl)),aa 5 24] ret) skip))).seq ((ab [aa 25 1,aY 26 25,ap 27 .eql 26 0] (aq 27 (ab [cO 4 (mov (c AV.esl)),cO 5 (mov (cN 0))] ret) skip)).seq ((mixS 1 [bj 29 1 2,aa 30 1,cO 31 (ixaS 1 (t 30) (cN 0)),aD 32 31,aY 33 32,aG 34 79 [t 29,t 33],aa 28 34,aV 35 28 0,aV 36 28 1,aa 8 35,aa 9 36] [(0,0),(1,0),(2,0),(3,0),(4,0),(5,2),(6,0),(7,0),(8,0),(9,0),(10,0)]).seq ((ab [aa 37 9,ap 38 .neq 37 0] (aq 38 (ab [aa 39 9,cO 4 (mov (c AV.esl)),aa 5 39] ret) skip)).seq (ab [cO 10 (mov (c AV.esl))] ((ab [aa 40 1,aY 41 40,cO 42 (mov (cN 0))] (block 0 (ab [aN 43 .lss 42 41] ((aq 43 skip (exit 0)).seq ((block 1 (ab [cO 44 (ixaS 1 (t 40) (t 42)),aD 45 44,aa 12 45] (ab [aa 47 8,aa 48 12,aG 49 80 [t 47,t 48],aa 46 49,aV 50 46 0,aV 51 46 1,aa 13 50,aa 14 51] ((ab [aa 52 14,cO 53 (un UnOp.not (t 52))] (aq 53 (ab [cO 4 (mov (c AV.esl)),cO 5 (mov (cN 6))] ret) skip)).seq (ops 0 [aa 54 10,aa 55 13,cO 56 (bldS 1 1 [ba] [(0,1,t 55)]),cO 57 (app 1 8 (t 54) (t 56)),aa 10 57]))))).seq (ops 0 [ap 58 .add 42 1,aa 42 58])))).loop)).seq (ab [aa 59 10,aa 4 59,cO 5 (mov (cN 0))] ret))))))))))
theorem NW:Is Tryz.prog 30 b30:=mkI Tryz.func30
def b31:F2:=(F2.mk 105 [RV.t 6,RV.t 7] (ab [cO 3 (box (t 0)),cO 6 (mov a9),cO 7 (mov (cN 0))] ((ab [bj 20 1 3,aG 21 43 [t 20],aa 8 21] (ab [aa 22 8,ap 23 .neq 22 0] (aq 23 (ab [aa 24 8,cO 6 (mov a9),aa 7 24] ret) skip))).seq ((block 0 (ab [aa 26 1,ap 27 .lss 26 0,aa 28 27,be 29 28 (cM 1),be 30 28 (cB .geq (t 29) (cN 8)),cO 31 (pick (t 28) cK (t 30)),aa 25 31] (aq 25 (ab [cO 6 (mov a9),cO 7 (mov (cN 2))] ret) (ab [aa 33 2,aY 34 33,ap 35 .gtr 34 1024,aa 32 35] (aq 32 (ab [cO 6 (mov a9),cO 7 (mov (cN 5))] ret) skip))))).seq (ab [cO 9 (mov (c AV.esl))] ((ab [aa 36 2,aY 37 36,cO 38 (mov (cN 0))] (block 1 (ab [aN 39 .lss 38 37] ((aq 39 skip (exit 1)).seq ((block 2 (ab [cO 40 (ixaS 1 (t 36) (t 38)),aD 41 40,aa 11 41] (ab [bj 43 1 3,aa 44 11,aG 45 57 [t 43,t 44],aa 42 45,aV 46 42 0,aV 47 42 1,aa 12 46,aa 13 47] ((ab [aa 48 13,ap 49 .eql 48 0,aa 50 49,be 51 50 (cM 13),be 52 50 (cB .eql (t 51) (cN 3)),cO 53 (pick (t 50) cK (t 52)),aa 54 53,an 55 54 (cM 11),an 56 54 (lenS (t 55)),an 57 54 (cB .gtr (t 56) (cN 0)),cO 58 (pick (t 54) (t 57) a9),aa 59 58,an 60 59 (cM 11),an 61 59 (ixaS 1 (t 60) (cN 0)),an 62 59 (cD 61),an 63 59 (lenS (t 62)),an 64 59 (cM 1),an 65 59 (cB .add (t 64) (cN 1)),an 66 59 (cB .neq (t 63) (t 65)),cO 67 (pick (t 59) (t 66) a9)] (aq 67 (ab [cO 6 (mov a9),cO 7 (mov (cN 15))] ret) skip)).seq ((ab [aa 68 13,ap 69 .neq 68 0] (aq 69 (ab [aa 70 13,cO 6 (mov a9),aa 7 70] ret) skip)).seq (ops 0 [aa 71 9,aa 72 12,cO 73 (bldS 1 1 [AV.esl] [(0,1,t 72)]),cO 74 (app 1 24 (t 71) (t 73)),aa 9 74])))))).seq (ops 0 [ap 75 .add 38 1,aa 38 75])))).loop)).seq (ab [bj 77 1 3,aa 78 1,aG 79 81 [t 77,t 78],aa 76 79,aV 80 76 0,aV 81 76 1,aa 14 80,aa 15 81] ((ab [aa 82 15,ap 83 .neq 82 0] (aq 83 (ab [aa 84 15,cO 6 (mov a9),aa 7 84] ret) skip)).seq ((ab [aa 85 9,aY 86 85,cO 87 (mov (cN 0))] (block 3 (ab [aN 88 .lss 87 86] ((aq 88 skip (exit 3)).seq ((block 4 (ab [cO 89 (ixaS 1 (t 85) (t 87)),aD 90 89,aa 17 90] (ab [aa 92 14,aa 93 17,aG 94 82 [t 92,t 93],aa 91 94,aV 95 91 0,aV 96 91 1,aa 18 95,aa 19 96] (ab [aa 97 19,ap 98 .neq 97 0,aa 99 98,be 100 99 (cM 18),be 101 99 (un UnOp.not (t 100)),cO 102 (pick (t 99) cK (t 101))] (aq 102 (ab [aa 103 19,cO 6 (mov a9),aa 7 103] ret) skip))))).seq (ops 0 [ap 104 .add 87 1,aa 87 104])))).loop)).seq (ab [cO 6 (mov cK),cO 7 (mov (cN 0))] ret))))))))))
theorem MI:Is Tryz.prog 31 b31:=mkI Tryz.func31
def b32:F2:=(F2.mk 78 [RV.t 6,RV.t 7] (ab [cO 3 (box (t 0)),cO 6 (mov a9),cO 7 (mov (cN 0))] ((ab [bj 13 1 3,aG 14 45 [t 13],aa 8 14] (ab [aa 15 8,ap 16 .neq 15 0] (aq 16 (ab [aa 17 8,cO 6 (mov a9),aa 7 17] ret) skip))).seq ((ab [aa 18 1,ap 19 .lss 18 0,aa 20 19,be 21 20 (cM 1),be 22 20 (cB .geq (t 21) (cN 8)),cO 23 (pick (t 20) cK (t 22))] (aq 23 (ab [cO 6 (mov a9),cO 7 (mov (cN 2))] ret) skip)).seq ((ab [aa 24 2,aY 25 24,ap 26 .gtr 25 1024] (aq 26 (ab [cO 6 (mov a9),cO 7 (mov (cN 5))] ret) skip)).seq (ab [cO 9 (mov (c AV.esl))] ((ab [cO 10 (mov (cN 0))] (block 0 ((ab [aa 27 10,aa 28 2,aY 29 28,aN 30 .lss 27 29] (aq 30 skip (exit 0))).seq ((block 1 ((mixS 1 [bj 34 1 3,aa 35 2,aa 36 10,cO 37 (ixaS 1 (t 35) (t 36)),aD 38 37,aG 39 60 [t 34,t 38],aa 33 39,aV 40 33 0,aV 41 33 1,aa 11 40,aa 12 41] [(0,0),(1,0),(2,0),(3,0),(4,0),(5,2),(6,0),(7,0),(8,0),(9,0),(10,0)]).seq ((ab [aa 42 12,ap 43 .neq 42 0] (aq 43 (ab [aa 44 12,cO 6 (mov a9),aa 7 44] ret) skip)).seq ((ab [aa 45 2,aa 46 10,cO 47 (ixaS 1 (t 45) (t 46)),aD 48 47,aY 49 48,ap 50 .gtr 49 0,aa 51 50,an 52 51 (cM 2),an 53 51 (cM 10),an 54 51 (ixaS 1 (t 52) (t 53)),an 55 51 (cD 54),an 56 51 (ixaS 1 (t 55) (cN 0)),an 57 51 (cD 56),an 58 51 (lenS (t 57)),an 59 51 (cM 1),an 60 51 (cB .add (t 59) (cN 1)),an 61 51 (cB .neq (t 58) (t 60)),cO 62 (pick (t 51) (t 61) a9)] (aq 62 (ab [cO 6 (mov a9),cO 7 (mov (cN 15))] ret) skip)).seq ((ab [aa 63 2,aa 64 10,cO 65 (ixaS 1 (t 63) (t 64)),aD 66 65,aG 67 61 [t 66],aY 68 67,ap 69 .gtr 68 0] (aq 69 (ab [cO 6 (mov a9),cO 7 (mov (cN 3))] ret) skip)).seq (ops 0 [aa 70 9,aa 71 11,cO 72 (bldS 1 1 [AV.esl] [(0,1,t 71)]),cO 73 (app 1 24 (t 70) (t 72)),aa 9 73])))))).seq (ops 0 [aa 31 10,ap 32 .add 31 1,aa 10 32]))).loop)).seq (ab [bj 74 1 3,aa 75 1,aa 76 9,aG 77 54 [t 74,t 75,t 76],aa 6 77,cO 7 (mov (cN 0))] ret))))))))
theorem Kh:Is Tryz.prog 32 b32:=mkI Tryz.func32
def b33:F2:=(F2.mk 14 [RV.t 2,RV.t 3] (ab [cO 2 (mov a9),cO 3 (mov (cN 0))] ((ab [aa 5 0,aG 6 75 [t 5],aa 4 6] (ab [aa 7 4,ap 8 .neq 7 0] (aq 8 (ab [aa 9 4,cO 2 (mov a9),aa 3 9] ret) skip))).seq (ab [aa 10 0,aG 11 77 [t 10],aY 12 11,ap 13 .eql 12 0,aa 2 13,cO 3 (mov (cN 0))] ret))))
theorem Ol:Is Tryz.prog 33 b33:=mkI Tryz.func33
def b34:F2:=(F2.mk 72 [RV.t 6,RV.t 7] (ab [cO 3 (box (t 0)),cO 6 (mov (c AV.esl)),cO 7 (mov (cN 0))] ((ab [bj 14 1 3,aG 15 78 [t 14],aa 8 15] (ab [aa 16 8,ap 17 .neq 16 0] (aq 17 (ab [aa 18 8,cO 6 (mov (c AV.esl)),aa 7 18] ret) skip))).seq ((ab [aa 19 1,ap 20 .lss 19 0,aa 21 20,be 22 21 (cM 1),be 23 21 (cB .geq (t 22) (cN 8)),cO 24 (pick (t 21) cK (t 23))] (aq 24 (ab [cO 6 (mov (c AV.esl)),cO 7 (mov (cN 2))] ret) skip)).seq (ab [bj 26 1 3,aa 27 1,aG 28 83 [t 26,t 27],aa 25 28,aV 29 25 0,aV 30 25 1,aa 9 29,aa 10 30] ((ab [aa 31 10,ap 32 .neq 31 0] (aq 32 (ab [aa 33 10,cO 6 (mov (c AV.esl)),aa 7 33] ret) skip)).seq (ab [cO 11 (mov (c AV.esl))] ((ab [aa 34 2,aY 35 34,cO 36 (mov (cN 0))] (block 0 (ab [aN 37 .lss 36 35] ((aq 37 skip (exit 0)).seq ((block 1 (ab [aa 38 36,cO 39 (ixaS 1 (t 34) (t 36)),aD 40 39,aa 12 38,aa 13 40] ((block 2 (ab [aa 42 13,ap 43 .lss 42 0,aa 44 43,be 45 44 (cM 13),be 46 44 (cM 9),be 47 44 (lenS (t 46)),be 48 44 (cB .geq (t 45) (t 47)),cO 49 (pick (t 44) cK (t 48)),aa 41 49] (aq 41 (ab [cO 6 (mov (c AV.esl)),cO 7 (mov (cN 2))] ret) (ab [aa 51 12,ap 52 .gtr 51 0,aa 53 52,an 54 53 (cM 13),an 55 53 (cM 2),an 56 53 (cM 12),an 57 53 (cB .sub (t 56) (cN 1)),an 58 53 (ixaS 1 (t 55) (t 57)),an 59 53 (cD 58),an 60 53 (cB .leq (t 54) (t 59)),cO 61 (pick (t 53) (t 60) a9),aa 50 61] (aq 50 (ab [cO 6 (mov (c AV.esl)),cO 7 (mov (cN 14))] ret) skip))))).seq (ops 0 [aa 62 11,aa 63 9,aa 64 13,cO 65 (ixaS 1 (t 63) (t 64)),aD 66 65,cO 67 (bldS 1 1 [AV.esl] [(0,1,t 66)]),cO 68 (app 1 24 (t 62) (t 67)),aa 11 68])))).seq (ops 0 [ap 69 .add 36 1,aa 36 69])))).loop)).seq (ab [aa 70 11,aG 71 84 [t 70],aa 6 71,cO 7 (mov (cN 0))] ret)))))))))
theorem Nq:Is Tryz.prog 34 b34:=mkI Tryz.func34
def b37:F2:=(F2.mk 40 [RV.t 2,RV.t 3] (ab [cO 1 (box (t 0)),cO 2 (mov (cN 0)),cO 3 (mov (cN 0))] ((ab [bj 9 1 1,aG 10 78 [t 9],aa 4 10] (ab [aa 11 4,ap 12 .neq 11 0] (aq 12 (ab [aa 13 4,cO 2 (mov (cN 0)),aa 3 13] ret) skip))).seq (ab [cO 5 (mov (cN 0))] ((ab [cO 6 (mov (cN 1))] (block 0 ((ab [aa 14 6,ap 15 .leq 14 8] (aq 15 skip (exit 0))).seq ((block 1 (ab [bE 19 0 1,aD 20 19,aa 21 6,aG 22 87 [t 20,t 21],aa 18 22,aV 23 18 0,aV 24 18 1,aa 7 23,aa 8 24] ((ab [aa 25 8,ap 26 .neq 25 0] (aq 26 (ab [aa 27 8,cO 2 (mov (cN 0)),aa 3 27] ret) skip)).seq (ab [aa 28 6,ap 29 .rem 28 2,ap 30 .eql 29 1] (aq 30 (ops 0 [aa 31 5,aa 32 7,aY 33 32,aN 34 .add 31 33,aa 5 34]) (ops 0 [aa 35 5,aa 36 7,aY 37 36,aN 38 .sub 35 37,aa 5 38])))))).seq (ops 0 [aa 16 6,ap 17 .add 16 1,aa 6 17]))).loop)).seq (ab [aa 39 5,aa 2 39,cO 3 (mov (cN 0))] ret))))))
theorem K1:Is Tryz.prog 37 b37:=mkI Tryz.func37
def b40:F2:=(F2.mk 28 [RV.t 2] (ab [cO 2 (mov a9)] ((ab [cO 3 (mov (cN 0))] (block 0 ((ab [aa 4 3,aa 5 0,aY 6 5,aN 7 .lss 4 6,aa 8 7,an 9 8 (cM 3),an 10 8 (cB .lss (t 9) (cN 50)),cO 11 (pick (t 8) (t 10) a9)] (aq 11 skip (exit 0))).seq ((block 1 (ab [aa 14 0,aa 15 3,cO 16 (ixaS 1 (t 14) (t 15)),aD 17 16,aY 18 17,ap 19 .gtr 18 10] (aq 19 (ab [cO 2 (mov a9)] ret) skip))).seq (ops 0 [aa 12 3,ap 13 .add 12 1,aa 3 13]))).loop)).seq (ab [aa 20 0,aY 21 20,ap 22 .leq 21 40,aa 23 22,be 24 23 (cM 0),be 25 23 (lenS (t 24)),be 26 23 (cB .gtr (t 25) (cN 4096)),cO 27 (pick (t 23) cK (t 26)),aa 2 27] ret))))
theorem NG:Is Tryz.prog 40 b40:=mkI Tryz.func40
def b41:F2:=(F2.mk 6 [RV.t 2] (ab [cO 1 (box (t 0)),cO 2 (mov a9)] (ab [bE 3 0 1,aD 4 3,aG 5 95 [t 4],aa 2 5] ret)))
theorem N5:Is Tryz.prog 41 b41:=mkI Tryz.func41
def b42:F2:=(F2.mk 19 [RV.t 2] (ab [cO 2 (mov (c AV.esl))] (ab [cO 3 (mov (c AV.esl))] ((ab [aa 6 0,aY 7 6,cO 8 (mov (cN 0))] (block 0 (ab [aN 9 .lss 8 7] ((aq 9 skip (exit 0)).seq ((block 1 (ab [cO 10 (ixaS 1 (t 6) (t 8)),aD 11 10,aa 5 11] (ops 0 [aa 12 3,aa 13 5,cO 14 (bld [ba,ba] [(0,1,t 13)]),cO 15 (bldS 2 1 [ba,ba] [(0,2,t 14)]),cO 16 (app 2 16 (t 12) (t 15)),aa 3 16]))).seq (ops 0 [ap 17 .add 8 1,aa 8 17])))).loop)).seq (ab [aa 18 3,aa 2 18] ret)))))
theorem Od:Is Tryz.prog 42 b42:=mkI Tryz.func42
def b43:F2:=(F2.mk 11 [RV.t 2] (ab [cO 1 (box (t 0)),cO 2 (mov (cN 0))] (ab [bj 6 1 1,aG 7 37 [t 6],aa 5 7,aV 8 5 0,aV 9 5 1,aa 3 8,aa 4 9] (ab [aa 10 4,aa 2 10] ret))))
theorem IX:Is Tryz.prog 43 b43:=mkI Tryz.func43
def b44:F2:=(F2.mk 79 [RV.t 2,RV.t 3] (ab [cO 1 (box (t 0)),cO 2 (mov (c AV.esl)),cO 3 (mov (cN 0))] (ab [bj 16 1 1,aG 17 96 [t 16],aa 15 17,aV 18 15 0,aV 19 15 1,aV 20 15 2,aa 4 18,aa 5 19,aa 6 20] ((ab [aa 21 6,ap 22 .neq 21 0] (aq 22 (ab [aa 23 6,cO 2 (mov (c AV.esl)),aa 3 23] ret) skip)).seq (ab [cO 24 (mkm none),aa 7 24] ((ab [aa 25 4,ap 26 .add 25 2,cO 27 (mov (cN 0))] (block 0 (ab [aN 28 .lss 27 26] ((aq 28 skip (exit 0)).seq ((block 1 (ab [aa 29 27,aa 8 29] (ab [bj 31 1 1,aa 32 8,aG 33 58 [t 31,t 32],aa 30 33,aV 34 30 0,aV 35 30 1,cO 9 (alloc (AV.agg [ba,AV.esl])),br 2 9 34,aa 10 35] ((ab [aa 36 10,ap 37 .neq 36 0] (aq 37 (ab [aa 38 10,cO 2 (mov (c AV.esl)),aa 3 38] ret) skip)).seq (ab [aa 40 7,aa 41 8,bj 42 2 9,aG 43 97 [t 42],aa 39 43,aV 44 39 0,aV 45 39 1,Op2.mk none none (mput (one int) (t 40) (t 41) (t 44)),aa 10 45] (ab [aa 46 10,ap 47 .neq 46 0] (aq 47 (ab [aa 48 10,cO 2 (mov (c AV.esl)),aa 3 48] ret) skip))))))).seq (ops 0 [ap 49 .add 27 1,aa 27 49])))).loop)).seq (ab [cO 11 (mov (c AV.esl))] ((ab [aa 50 4,ap 51 .add 50 1,cO 52 (mov (cN 0))] (block 2 (ab [aN 53 .lss 52 51] ((aq 53 skip (exit 2)).seq ((block 3 (ab [aa 54 52,aa 12 54] (ab [bj 56 1 1,aa 57 12,aG 58 98 [t 56,t 57],aa 55 58,aV 59 55 0,aV 60 55 1,aa 13 59,aa 14 60] ((ab [aa 61 14,ap 62 .neq 61 0] (aq 62 (ab [aa 63 14,cO 2 (mov (c AV.esl)),aa 3 63] ret) skip)).seq (ops 0 [aa 64 11,aa 65 13,aa 66 7,aa 67 12,cO 68 (Ins.mget (one int) (ba) false (t 66) (t 67)),aN 69 .sub 65 68,aa 70 7,aa 71 12,ap 72 .add 71 1,cO 73 (Ins.mget (one int) (ba) false (t 70) (t 72)),aN 74 .sub 69 73,cO 75 (bldS 1 1 [ba] [(0,1,t 74)]),cO 76 (app 1 8 (t 64) (t 75)),aa 11 76]))))).seq (ops 0 [ap 77 .add 52 1,aa 52 77])))).loop)).seq (ab [aa 78 11,aa 2 78,cO 3 (mov (cN 0))] ret)))))))))
theorem KH:Is Tryz.prog 44 b44:=mkI Tryz.func44
def b45:F2:=(F2.mk 25 [RV.t 2] (ab [cO 1 (box (t 0)),cO 2 (mov (cN 0))] ((ab [bj 7 1 1,aG 8 28 [t 7],aa 3 8] (ab [aa 9 3,ap 10 .neq 9 0] (aq 10 (ab [aa 11 3,aa 2 11] ret) skip))).seq ((ab [cO 4 (mov (cN 1))] (block 0 ((ab [aa 12 4,ap 13 .leq 12 8] (aq 13 skip (exit 0))).seq ((block 1 (ab [bj 17 1 1,aa 18 4,aG 19 99 [t 17,t 18],aa 16 19,aV 20 16 0,aV 21 16 1,aa 5 20,aa 6 21] (ab [aa 22 6,ap 23 .neq 22 0] (aq 23 (ab [aa 24 6,aa 2 24] ret) skip)))).seq (ops 0 [aa 14 4,ap 15 .add 14 1,aa 4 15]))).loop)).seq (ab [cO 2 (mov (cN 0))] ret)))))
theorem Nk:Is Tryz.prog 45 b45:=mkI Tryz.func45
def b48:F2:=(F2.mk 9 [RV.t 4] (ab [cO 4 (mov a9)] (ab [aa 5 0,aa 6 1,aG 7 101 [t 5,t 6],ap 8 .geq 7 0,aa 4 8] ret)))
theorem Ot:Is Tryz.prog 48 b48:=mkI Tryz.func48
def b49:F2:=(F2.mk 5 [RV.t 2] (ab [cO 2 (mov a9)] (ab [aa 3 0,ap 4 .neq 3 0,aa 2 4] ret)))
theorem N7:Is Tryz.prog 49 b49:=mkI Tryz.func49
def b50:F2:=(F2.mk 6 [RV.t 4] (ab [cO 2 (box (t 0)),cO 3 (box (t 1)),cO 4 (mov (c AV.nilf))] (ab [cO 5 (mkfn 102 [t 2,t 3]),aa 4 5] ret)))
theorem NM:Is Tryz.prog 50 b50:=mkI Tryz.func50
def b51:F2:=(F2.mk 44 [RV.t 4] (ab [cO 2 (box (t 0)),cO 4 (mov (c AV.esl))] (ab [cO 5 (mov (c AV.esl))] ((ab [cO 6 (mov (cN 0))] (block 0 ((ab [aa 9 6,bE 10 0 2,aD 11 10,aY 12 11,aN 13 .lss 9 12] (aq 13 skip (exit 0))).seq ((block 1 ((ab [aa 16 1,bE 17 0 2,aD 18 17,aa 19 6,cO 20 (ixaS 1 (t 18) (t 19)),aD 21 20,aY 22 21,aN 23 .gtr 16 22] (aq 23 (exit 1) skip)).seq (ab [bE 24 0 2,aD 25 24,aa 26 6,cO 27 (ixaS 1 (t 25) (t 26)),aD 28 27,aa 29 1,aG 30 104 [t 28,t 29],aa 7 30] (ab [cO 8 (mov (cN 0))] (block 2 ((ab [aa 31 8,aa 32 7,aY 33 32,aN 34 .lss 31 33] (aq 34 skip (exit 2))).seq ((block 3 (ops 0 [aa 37 5,aa 38 7,aa 39 8,cO 40 (ixaS 1 (t 38) (t 39)),aD 41 40,aG 42 105 [t 37,t 41],aa 5 42])).seq (ops 0 [aa 35 8,ap 36 .add 35 1,aa 8 36]))).loop))))).seq (ops 0 [aa 14 6,ap 15 .add 14 1,aa 6 15]))).loop)).seq (ab [aa 43 5,aa 4 43] ret)))))
theorem Ni:Is Tryz.prog 51 b51:=mkI Tryz.func51
def b53:F2:=(F2.mk 20 [RV.cn 4 2] (ab [cO 2 (box (t 0)),cO 4 (alloc (AV.agg [ba,AV.esl]))] (ab [bj 6 1 2,aa 7 1,ap 8 .add 7 1,aG 9 51 [t 6,t 8],aa 5 9] ((ab [aa 10 1,ap 11 .eql 10 0] (aq 11 (ab [aa 12 5,aY 13 12,cO 14 (bld [ba,AV.esl] [(0,1,t 13)]),br 2 4 14] ret) skip)).seq (ab [aa 15 5,bj 16 1 2,aa 17 1,aG 18 51 [t 16,t 17],aG 19 110 [t 15,t 18],br 2 4 19] ret)))))
theorem Ob:Is Tryz.prog 53 b53:=mkI Tryz.func53
def b54:F2:=(F2.mk 32 [RV.t 6] (ab [cO 3 (box (t 0)),cO 6 (mov a9)] (ab [bj 9 1 3,aa 10 1,ap 11 .add 10 1,aG 12 53 [t 9,t 11],aG 13 111 [t 12],cO 7 (alloc (AV.agg [ba,AV.esl])),br 2 7 13] (ab [bj 14 2 7,aG 15 106 [t 14],cO 16 (part1 1 (t 15)),aY 17 16,aa 8 17] (ab [bE 18 1 7,aD 19 18,aa 20 2,cO 21 (app 1 24 (t 19) (t 20)),bE 22 1 7,br 1 22 21] (ab [bj 23 2 7,aG 24 106 [t 23],cO 25 (part1 1 (t 24)),aY 26 25,aa 27 8,aa 28 2,aY 29 28,aN 30 .add 27 29,aN 31 .eql 26 30,aa 6 31] ret))))))
theorem NV:Is Tryz.prog 54 b54:=mkI Tryz.func54
def b57:F2:=(F2.mk 31 [RV.t 4,RV.t 5] (ab [cO 2 (box (t 0)),cO 4 (mov (c AV.esl)),cO 5 (mov (cN 0))] (ab [bj 10 1 2,aa 11 1,aG 12 30 [t 10,t 11],aa 9 12,aV 13 9 0,aV 14 9 1,aa 6 13,aa 7 14] ((ab [aa 15 7,ap 16 .neq 15 0] (aq 16 (ab [aa 17 7,cO 4 (mov (c AV.esl)),aa 5 17] ret) skip)).seq (ab [aa 19 1,aG 20 33 [t 19],aa 18 20,aV 21 18 0,aV 22 18 1,aa 8 21,aa 7 22] ((ab [aa 23 7,ap 24 .eql 23 0,aa 25 24,an 26 25 (cM 8),an 27 25 (un UnOp.not (t 26)),cO 28 (pick (t 25) (t 27) a9)] (aq 28 (ab [cO 4 (mov (c AV.esl)),cO 5 (mov (cN 3))] ret) skip)).seq (ab [aa 29 6,aa 30 7,aa 4 29,aa 5 30] ret)))))))
theorem N6:Is Tryz.prog 57 b57:=mkI Tryz.func57
def b58:F2:=(F2.mk 26 [RV.cn 4 2,RV.t 5] (ab [cO 2 (box (t 0)),cO 4 (alloc (AV.agg [ba,AV.esl])),cO 5 (mov (cN 0))] ((ab [aa 8 1,ap 9 .lss 8 8] (aq 9 (ab [bj 10 1 2,aa 11 1,aG 12 112 [t 10,t 11],aV 13 12 0,aV 14 12 1,br 2 4 13,aa 5 14] ret) skip)).seq (ab [bj 16 1 2,aa 17 1,ap 18 .sub 17 1,aG 19 98 [t 16,t 18],aa 15 19,aV 20 15 0,aV 21 15 1,aa 6 20,aa 7 21] (ab [aa 22 6,cO 23 (mks 1 24 [AV.esl] (t 22) (t 22)),cO 24 (bld [ba,AV.esl] [(1,1,t 23)]),aa 25 7,br 2 4 24,aa 5 25] ret)))))
theorem Ny:Is Tryz.prog 58 b58:=mkI Tryz.func58
def b59:F2:=(F2.mk 65 [RV.t 4,RV.t 5,RV.t 6,RV.t 7] (ab [cO 2 (box (t 0)),cO 4 (mov (c AV.esl)),cO 5 (mov (c AV.esl)),cO 6 (mov a9),cO 7 (mov (cN 0))] ((ab [bj 17 2 2,aG 18 113 [t 17],aa 8 18] (ab [aa 19 8,ap 20 .neq 19 0] (aq 20 (ab [aa 21 8,cO 4 (mov (c AV.esl)),cO 5 (mov (c AV.esl)),cO 6 (mov a9),aa 7 21] ret) skip))).seq ((ab [aa 22 1,bE 23 1 2,aD 24 23,aY 25 24,aG 26 114 [t 22,t 25],aa 9 26] (ab [aa 27 9,ap 28 .neq 27 0] (aq 28 (ab [aa 29 9,cO 4 (mov (c AV.esl)),cO 5 (mov (c AV.esl)),cO 6 (mov a9),aa 7 29] ret) skip))).seq (ab [bj 31 2 2,aG 32 115 [t 31],aa 30 32,aV 33 30 0,aV 34 30 1,aa 10 33,aa 11 34] ((ab [aa 35 11,aY 36 35,cO 37 (mov (cN 0))] (block 0 (ab [aN 38 .lss 37 36] ((aq 38 skip (exit 0)).seq ((block 1 (ab [cO 39 (ixaS 1 (t 35) (t 37)),aD 40 39,aa 13 40] (ab [aa 41 13,aa 42 1,aG 43 116 [t 41,t 42]] (aq 43 (ab [aa 44 13,cO 4 (mov (c AV.esl)),aa 5 44,cO 6 (mov a9),cO 7 (mov (cN 0))] ret) skip)))).seq (ops 0 [ap 45 .add 37 1,aa 37 45])))).loop)).seq (ab [cO 14 (mov (c AV.esl))] ((ab [aa 46 10,aY 47 46,cO 48 (mov (cN 0))] (block 2 (ab [aN 49 .lss 48 47] ((aq 49 skip (exit 2)).seq ((block 3 (ab [cO 50 (ixaS 2 (t 46) (t 48)),bj 51 2 50,cO 16 (alloc (AV.agg [AV.esl,AV.esl])),br 2 16 51] (ab [bE 52 1 16,aD 53 52,aa 54 1,aG 55 116 [t 53,t 54]] (aq 55 (ops 0 [aa 56 14,bE 57 0 16,aD 58 57,cO 59 (ixaS 1 (t 58) (cN 0)),aD 60 59,cO 61 (bldS 1 1 [ba] [(0,1,t 60)]),cO 62 (app 1 8 (t 56) (t 61)),aa 14 62]) skip)))).seq (ops 0 [ap 63 .add 48 1,aa 48 63])))).loop)).seq (ab [aa 64 14,aa 4 64,cO 5 (mov (c AV.esl)),cO 6 (mov cK),cO 7 (mov (cN 0))] ret)))))))))
theorem Oj:Is Tryz.prog 59 b59:=mkI Tryz.func59
def b60:F2:=(F2.mk 46 [RV.t 4,RV.t 5] (ab [cO 2 (box (t 0)),cO 4 (mov (c AV.esl)),cO 5 (mov (cN 0))] ((ab [bj 12 1 2,aG 13 28 [t 12],aa 6 13] (ab [aa 14 6,ap 15 .neq 14 0] (aq 15 (ab [aa 16 6,cO 4 (mov (c AV.esl)),aa 5 16] ret) skip))).seq ((ab [aa 17 1,aG 18 117 [t 17],aa 7 18] (ab [aa 19 7,ap 20 .neq 19 0] (aq 20 (ab [aa 21 7,cO 4 (mov (c AV.esl)),aa 5 21] ret) skip))).seq ((ab [aa 22 1,aY 23 22,ap 24 .eql 23 0] (aq 24 (ab [cO 4 (mov (c AV.esl)),cO 5 (mov (cN 0))] ret) skip)).seq ((mixS 1 [bj 26 1 2,aa 27 1,cO 28 (ixaS 1 (t 27) (cN 0)),aD 29 28,aY 30 29,aG 31 99 [t 26,t 30],aa 25 31,aV 32 25 0,aV 33 25 1,aa 8 32,aa 9 33] [(0,0),(1,0),(2,0),(3,0),(4,0),(5,2),(6,0),(7,0),(8,0),(9,0),(10,0)]).seq ((ab [aa 34 9,ap 35 .neq 34 0] (aq 35 (ab [aa 36 9,cO 4 (mov (c AV.esl)),aa 5 36] ret) skip)).seq (ab [aa 38 8,aa 39 1,aG 40 118 [t 38,t 39],aa 37 40,aV 41 37 0,aV 42 37 1,aa 10 41,aa 11 42] ((ab [aa 43 11,cO 44 (un UnOp.not (t 43))] (aq 44 (ab [cO 4 (mov (c AV.esl)),cO 5 (mov (cN 6))] ret) skip)).seq (ab [aa 45 10,aa 4 45,cO 5 (mov (cN 0))] ret))))))))))
theorem NL:Is Tryz.prog 60 b60:=mkI Tryz.func60
def b61:F2:=(F2.mk 19 [RV.t 2] (ab [cO 2 (mov (c AV.esl))] (ab [cO 3 (mov (c AV.esl))] ((ab [cO 4 (mov (cN 0))] (block 0 ((ab [aa 5 4,aa 6 0,aY 7 6,aN 8 .lss 5 7] (aq 8 skip (exit 0))).seq ((block 1 (ops 0 [aa 11 3,aa 12 0,aa 13 4,cO 14 (ixaS 1 (t 12) (t 13)),aD 15 14,aG 16 66 [t 15],aG 17 119 [t 11,t 16],aa 3 17])).seq (ops 0 [aa 9 4,ap 10 .add 9 1,aa 4 10]))).loop)).seq (ab [aa 18 3,aa 2 18] ret)))))
theorem Nw:Is Tryz.prog 61 b61:=mkI Tryz.func61
def b63:F2:=(F2.mk 9 [RV.t 4] (ab [cO 4 (mov a9)] (ab [aa 5 0,aa 6 1,aG 7 73 [t 5,t 6],ap 8 .eql 7 0,aa 4 8] ret)))
theorem NB:Is Tryz.prog 63 b63:=mkI Tryz.func63
def b66:F2:=(F2.mk 11 [RV.t 2] (ab [cO 2 (mov (c AV.esl))] ((ab [aa 3 0,aY 4 3,ap 5 .lss 4 2] (aq 5 (ab [cO 2 (mov (c AV.esl))] ret) skip)).seq (ab [aa 6 0,aa 7 0,aY 8 7,ap 9 .sub 8 1,aG 10 104 [t 6,t 9],aa 2 10] ret))))
theorem Oo:Is Tryz.prog 66 b66:=mkI Tryz.func66
def b67:F2:=(F2.mk 36 [RV.t 6,RV.t 7,RV.t 8] (ab [cO 3 (box (t 0)),cO 6 (mov (c AV.esl)),cO 7 (mov (c AV.esl)),cO 8 (mov (cN 0))] ((ab [bj 13 1 3,aG 14 43 [t 13],aa 9 14] (ab [aa 15 9,ap 16 .neq 15 0] (aq 16 (ab [aa 17 9,cO 6 (mov (c AV.esl)),cO 7 (mov (c AV.esl)),aa 8 17] ret) skip))).seq (ab [bj 19 1 3,aa 20 1,aG 21 30 [t 19,t 20],aa 18 21,aV 22 18 0,aV 23 18 1,aa 10 22,aa 11 23] ((ab [aa 24 11,ap 25 .neq 24 0] (aq 25 (ab [aa 26 11,cO 6 (mov (c AV.esl)),cO 7 (mov (c AV.esl)),aa 8 26] ret) skip)).seq (ab [bj 28 1 3,aa 29 2,aG 30 30 [t 28,t 29],aa 27 30,aV 31 27 0,aV 32 27 1,aa 12 31,aa 11 32] (ab [aa 33 10,aa 34 12,aa 35 11,aa 6 33,aa 7 34,aa 8 35] ret)))))))
theorem Oe:Is Tryz.prog 67 b67:=mkI Tryz.func67
def b68:F2:=(F2.mk 32 [RV.t 6] (ab [cO 6 (mov a9)] ((ab [aa 10 0,aY 11 10,aa 12 1,aY 13 12,aN 14 .neq 11 13] (aq 14 (ab [cO 6 (mov a9)] ret) skip)).seq ((ab [aa 15 0,aY 16 15,cO 17 (mov (cN 0))] (block 0 (ab [aN 18 .lss 17 16] ((aq 18 skip (exit 0)).seq ((block 1 (ab [aa 19 17,cO 20 (ixaS 1 (t 15) (t 17)),aD 21 20,aa 7 19,aa 8 21] (ab [aa 22 1,aa 23 7,cO 24 (ixaS 1 (t 22) (t 23)),aD 25 24,aa 9 25] (ab [aa 26 2,aa 27 8,aa 28 9,cO 29 (call (t 26) [t 27,t 28]),cO 30 (un UnOp.not (t 29))] (aq 30 (ab [cO 6 (mov a9)] ret) skip))))).seq (ops 0 [ap 31 .add 17 1,aa 17 31])))).loop)).seq (ab [cO 6 (mov cK)] ret)))))
theorem N1:Is Tryz.prog 68 b68:=mkI Tryz.func68
def b69:F2:=(F2.mk 9 [RV.t 4] (ab [cO 4 (mov a9)] (ab [aa 5 0,aa 6 1,aG 7 70 [t 5,t 6],ap 8 .eql 7 0,aa 4 8] ret)))
theorem Oc:Is Tryz.prog 69 b69:=mkI Tryz.func69
def b70:F2:=(F2.mk 8 [RV.t 4] (ab [cO 4 (mov (cN 0))] (ab [aa 5 0,aa 6 1,aG 7 122 ([t 5,t 6,c (AV.func 123 [])]),aa 4 7] ret)))
theorem Oq:Is Tryz.prog 70 b70:=mkI Tryz.func70
def b71:F2:=(F2.mk 57 [RV.t 6] (ab [cO 3 (box (t 0)),cO 6 (mov (cN 0))] ((ab [bj 13 2 3,aG 14 113 [t 13],aa 7 14] (ab [aa 15 7,ap 16 .neq 15 0] (aq 16 (ab [aa 17 7,aa 6 17] ret) skip))).seq ((ab [aa 18 1,bE 19 1 3,aD 20 19,aY 21 20,aG 22 114 [t 18,t 21],aa 8 22] (ab [aa 23 8,ap 24 .neq 23 0] (aq 24 (ab [aa 25 8,aa 6 25] ret) skip))).seq ((ab [aa 26 2,bE 27 1 3,aD 28 27,aY 29 28,aG 30 114 [t 26,t 29],aa 9 30] (ab [aa 31 9,ap 32 .neq 31 0] (aq 32 (ab [aa 33 9,aa 6 33] ret) skip))).seq (ab [cO 10 (mov (c AV.esl))] ((ab [aa 34 2,aY 35 34,cO 36 (mov (cN 0))] (block 0 (ab [aN 37 .lss 36 35] ((aq 37 skip (exit 0)).seq ((block 1 (ab [cO 38 (ixaS 1 (t 34) (t 36)),aD 39 38,aa 12 39] (ops 0 [aa 40 10,bE 41 1 3,aD 42 41,aa 43 12,cO 44 (ixaS 1 (t 42) (t 43)),aD 45 44,aG 46 124 [t 40,t 45],aa 10 46]))).seq (ops 0 [ap 47 .add 36 1,aa 36 47])))).loop)).seq ((ab [aa 48 10,aY 49 48,ap 50 .gtr 49 0,aa 51 50,be 52 51 (cM 2),be 53 51 (cM 1),be 54 51 (call (cF 116) [t 52,t 53]),be 55 51 (un UnOp.not (t 54)),cO 56 (pick (t 51) cK (t 55))] (aq 56 (ab [cO 6 (mov (cN 18))] ret) skip)).seq (ab [cO 6 (mov (cN 0))] ret)))))))))
theorem Ns:Is Tryz.prog 71 b71:=mkI Tryz.func71
def b72:F2:=(F2.mk 39 [RV.t 2] (ab [cO 2 (mov (cN 0))] ((block 0 (ab [aa 5 0,aY 6 5,ap 7 .eql 6 0,aa 4 7] (aq 4 (ab [cO 2 (mov (cN 16))] ret) (ab [aa 9 0,aY 10 9,ap 11 .gtr 10 8,aa 8 11] (aq 8 (ab [cO 2 (mov (cN 5))] ret) skip))))).seq ((ab [cO 3 (mov (cN 0))] (block 1 ((ab [aa 12 3,aa 13 0,aY 14 13,aN 15 .lss 12 14] (aq 15 skip (exit 1))).seq ((block 2 ((ab [aa 18 0,aa 19 3,cO 20 (ixaS 2 (t 18) (t 19)),bj 21 2 20,aG 22 125 [t 21],cO 23 (un UnOp.not (t 22))] (aq 23 (ab [cO 2 (mov (cN 2))] ret) skip)).seq ((mixS 1 [aa 24 3,ap 25 .gtr 24 0,aa 26 25,an 27 26 (cM 0),an 28 26 (cM 3),an 29 26 (cB .sub (t 28) (cN 1)),an 30 26 (ixaS 2 (t 27) (t 29)),an 31 26 (ldn 2 (t 30)),an 32 26 (cM 0),an 33 26 (cM 3),an 34 26 (ixaS 2 (t 32) (t 33)),an 35 26 (ldn 2 (t 34)),an 36 26 (call (cF 126) [t 31,t 35]),an 37 26 (cB .geq (t 36) (cN 0)),cO 38 (pick (t 26) (t 37) a9)] [(0,0),(1,0),(2,0),(3,0),(4,0),(5,0),(6,0),(7,0),(8,0),(9,0),(10,0),(11,0),(12,2),(13,0),(14,0)]).seq (aq 38 (ab [cO 2 (mov (cN 14))] ret) skip)))).seq (ops 0 [aa 16 3,ap 17 .add 16 1,aa 3 17]))).loop)).seq (ab [cO 2 (mov (cN 0))] ret)))))
theorem NT:Is Tryz.prog 72 b72:=mkI Tryz.func72
def b73:F2:=(F2.mk 43 [RV.t 4] (ab [cO 4 (mov (cN 0))] ((ab [cO 5 (mov (cN 0))] (block 0 ((ab [aa 7 5,aa 8 0,aY 9 8,aN 10 .lss 7 9,aa 11 10,an 12 11 (cM 5),an 13 11 (cM 1),an 14 11 (lenS (t 13)),an 15 11 (cB .lss (t 12) (t 14)),cO 16 (pick (t 11) (t 15) a9)] (aq 16 skip (exit 0))).seq ((block 1 ((mixS 1 [aa 19 0,aa 20 5,cO 21 (ixaS 2 (t 19) (t 20)),bj 22 2 21,aa 23 1,aa 24 5,cO 25 (ixaS 2 (t 23) (t 24)),bj 26 2 25,aG 27 126 [t 22,t 26],aa 6 27] [(0,0),(1,0),(2,0),(3,0),(4,0),(5,0),(6,0),(7,0),(8,2),(9,0)]).seq (ab [aa 28 6,ap 29 .neq 28 0] (aq 29 (ab [aa 30 6,aa 4 30] ret) skip)))).seq (ops 0 [aa 17 5,ap 18 .add 17 1,aa 5 18]))).loop)).seq ((block 2 (ab [aa 32 0,aY 33 32,aa 34 1,aY 35 34,aN 36 .lss 33 35,aa 31 36] (aq 31 (ab [cO 4 (mov (cN ((-1))))] ret) (ab [aa 38 0,aY 39 38,aa 40 1,aY 41 40,aN 42 .gtr 39 41,aa 37 42] (aq 37 (ab [cO 4 (mov (cN 1))] ret) skip))))).seq (ab [cO 4 (mov (cN 0))] ret)))))
theorem NF:Is Tryz.prog 73 b73:=mkI Tryz.func73
def b74:F2:=(F2.mk 19 [RV.t 4] (ab [cO 4 (mov a9)] ((ab [cO 5 (mov (cN 0))] (block 0 ((ab [aa 6 5,aa 7 0,aY 8 7,aN 9 .lss 6 8] (aq 9 skip (exit 0))).seq ((block 1 (ab [aa 12 1,aa 13 0,aa 14 5,cO 15 (ixaS 2 (t 13) (t 14)),bj 16 2 15,aG 17 127 [t 12,t 16],cO 18 (un UnOp.not (t 17))] (aq 18 (ab [cO 4 (mov a9)] ret) skip))).seq (ops 0 [aa 10 5,ap 11 .add 10 1,aa 5 11]))).loop)).seq (ab [cO 4 (mov cK)] ret))))
theorem Nl:Is Tryz.prog 74 b74:=mkI Tryz.func74
def b75:F2:=(F2.mk 43 [RV.t 2] (ab [cO 2 (mov (cN 0))] ((ab [aa 6 0,aY 7 6,ap 8 .gtr 7 4096] (aq 8 (ab [cO 2 (mov (cN 5))] ret) skip)).seq ((ab [aa 9 0,aY 10 9,cO 11 (mov (cN 0))] (block 0 (ab [aN 12 .lss 11 10] ((aq 12 skip (exit 0)).seq ((block 1 (ab [aa 13 11,cO 14 (ixaS 1 (t 9) (t 11)),aD 15 14,aa 3 13,aa 4 15] ((ab [aa 16 4,aG 17 128 [t 16],aa 5 17] (ab [aa 18 5,ap 19 .neq 18 0] (aq 19 (ab [aa 20 5,aa 2 20] ret) skip))).seq (block 2 (ab [aa 22 4,aY 23 22,aa 24 0,cO 25 (ixaS 1 (t 24) (cN 0)),aD 26 25,aY 27 26,aN 28 .neq 23 27,aa 21 28] (aq 21 (ab [cO 2 (mov (cN 15))] ret) (ab [aa 30 3,ap 31 .gtr 30 0,aa 32 31,an 33 32 (cM 0),an 34 32 (cM 3),an 35 32 (cB .sub (t 34) (cN 1)),an 36 32 (ixaS 1 (t 33) (t 35)),an 37 32 (cD 36),an 38 32 (cM 4),an 39 32 (call (cF 70) [t 37,t 38]),an 40 32 (cB .geq (t 39) (cN 0)),cO 41 (pick (t 32) (t 40) a9),aa 29 41] (aq 29 (ab [cO 2 (mov (cN 14))] ret) skip)))))))).seq (ops 0 [ap 42 .add 11 1,aa 11 42])))).loop)).seq (ab [cO 2 (mov (cN 0))] ret)))))
theorem Np:Is Tryz.prog 75 b75:=mkI Tryz.func75
def b76:F2:=(F2.mk 9 [RV.t 2,RV.t 3] (ab [cO 2 (mov (c AV.esl)),cO 3 (mov (cN 0))] ((ab [aa 4 0,aY 5 4,ap 6 .gtr 5 4096] (aq 6 (ab [cO 2 (mov (c AV.esl)),cO 3 (mov (cN 5))] ret) skip)).seq (ab [aa 7 0,aG 8 84 [t 7],aa 2 8,cO 3 (mov (cN 0))] ret))))
theorem NP:Is Tryz.prog 76 b76:=mkI Tryz.func76
def b77:F2:=(F2.mk 52 [RV.t 2] (ab [cO 2 (mov (c AV.esl))] (ab [cO 13 (mkm none),cO 3 (alloc AV.nilm),br 1 3 13] ((ab [aa 14 0,aY 15 14,cO 16 (mov (cN 0))] (block 0 (ab [aN 17 .lss 16 15] ((aq 17 skip (exit 0)).seq ((block 1 (ab [cO 18 (ixaS 1 (t 14) (t 16)),aD 19 18,aa 5 19] (ab [aa 20 5,aG 21 129 [t 20]] (block 2 (rangeF (t 21) [22] (ops 0 [aa 6 22]) (block 3 (ab [cO 7 (alloc (AV.agg [ba,ba,ba,ba,ba,ba,ba,ba,ba,ba,ba,ba,ba,ba,ba,ba]))] (ab [cO 23 (slp 8 2 (t 7)),aa 24 6,cO 25 (cpy 2 (t 23) (t 24))] (ab [aD 27 3,bj 28 16 7,cO 29 (Ins.mget (MK.st [int,int,int,int,int,int,int,int,int,int,int,int,int,int,int,int]) AV.esl true (t 27) (t 28)),aa 26 29,aV 30 26 0,aV 31 26 1,aa 8 30,aa 9 31] (ab [aa 32 9] (aq 32 (ops 0 [aD 33 3,bj 34 16 7,Op2.mk none none (mdel (MK.st [int,int,int,int,int,int,int,int,int,int,int,int,int,int,int,int]) (t 33) (t 34))]) (ops 0 [aD 35 3,bj 36 16 7,aa 37 6,Op2.mk none none (mput (MK.st [int,int,int,int,int,int,int,int,int,int,int,int,int,int,int,int]) (t 35) (t 36) (t 37))])))))))))))).seq (ops 0 [ap 38 .add 16 1,aa 16 38])))).loop)).seq (ab [cO 10 (mov (c AV.esl))] ((ab [aD 39 3,cO 40 (mrng (t 39))] (block 4 (ab [cO 41 (mnxt (t 40)),aV 42 41 0] ((aq 42 skip (exit 4)).seq (block 5 (ab [cO 43 (ment (t 40)),aV 44 43 1,aa 12 44] (ops 0 [aa 45 10,aa 46 12,cO 47 (bldS 1 1 [AV.esl] [(0,1,t 46)]),cO 48 (app 1 24 (t 45) (t 47)),aa 10 48]))))).loop)).seq (ab [aa 49 10,aG 50 130 ([t 49,c (AV.func 70 [])])] (ab [aa 51 10,aa 2 51] ret))))))))
theorem NU:Is Tryz.prog 77 b77:=mkI Tryz.func77
def b78:F2:=(F2.mk 60 [RV.t 2] (ab [cO 1 (box (t 0)),cO 2 (mov (cN 0))] ((ab [bE 9 0 1,aD 10 9,aY 11 10,ap 12 .gtr 11 4096] (aq 12 (ab [cO 2 (mov (cN 5))] ret) skip)).seq ((ab [bE 13 0 1,aD 14 13,aY 15 14,cO 16 (mov (cN 0))] (block 0 (ab [aN 17 .lss 16 15] ((aq 17 skip (exit 0)).seq ((block 1 (ab [aa 18 16,cO 19 (ixaS 1 (t 14) (t 16)),aD 20 19,aa 3 18,aa 4 20] ((ab [aa 21 4,aG 22 128 [t 21],aa 5 22] (ab [aa 23 5,ap 24 .neq 23 0] (aq 24 (ab [aa 25 5,aa 2 25] ret) skip))).seq (ab [aa 26 3,ap 27 .gtr 26 0,aa 28 27,an 29 28 (fa 0 (t 1)),an 30 28 (cD 29),an 31 28 (cM 3),an 32 28 (cB .sub (t 31) (cN 1)),an 33 28 (ixaS 1 (t 30) (t 32)),an 34 28 (cD 33),an 35 28 (cM 4),an 36 28 (call (cF 70) [t 34,t 35]),an 37 28 (cB .geq (t 36) (cN 0)),cO 38 (pick (t 28) (t 37) a9)] (aq 38 (ab [cO 2 (mov (cN 14))] ret) skip))))).seq (ops 0 [ap 39 .add 16 1,aa 16 39])))).loop)).seq (ab [bE 40 0 1,aD 41 40,aG 42 92 [t 41],aa 6 42] ((ab [bE 43 0 1,aD 44 43,aY 45 44,cO 46 (mov (cN 0))] (block 2 (ab [aN 47 .lss 46 45] ((aq 47 skip (exit 2)).seq ((block 3 (ab [cO 48 (ixaS 1 (t 44) (t 46)),aD 49 48,aa 8 49] ((mixS 9 [bE 50 0 1,aD 51 50,aa 52 6,aa 53 8,cO 54 (ixaS 2 (t 53) (cN 0)),bj 55 2 54,cO 56 (Ins.mget (MK.st [int,int]) AV.esl false (t 52) (t 55)),aa 57 8,aG 58 131 [t 51,t 56,t 57]] [(0,0),(1,0),(2,0),(3,0),(4,0),(5,0),(7,0),(6,1),(8,2)]).seq (aq 58 (ab [cO 2 (mov (cN 7))] ret) skip)))).seq (ops 0 [ap 59 .add 46 1,aa 46 59])))).loop)).seq (ab [cO 2 (mov (cN 0))] ret)))))))
theorem Oa:Is Tryz.prog 78 b78:=mkI Tryz.func78
def b79:F2:=(F2.mk 24 [RV.t 4,RV.t 5] (ab [cO 2 (box (t 0)),cO 4 (mov (c AV.esl)),cO 5 (mov (cN 0))] ((ab [bj 7 1 2,aG 8 78 [t 7],aa 6 8] (ab [aa 9 6,ap 10 .neq 9 0] (aq 10 (ab [aa 11 6,cO 4 (mov (c AV.esl)),aa 5 11] ret) skip))).seq ((ab [aa 12 1,ap 13 .lss 12 1,aa 14 13,be 15 14 (cM 1),be 16 14 (cB .gtr (t 15) (cN 8)),cO 17 (pick (t 14) cK (t 16))] (aq 17 (ab [cO 4 (mov (c AV.esl)),cO 5 (mov (cN 2))] ret) skip)).seq (ab [bE 18 0 2,aD 19 18,aa 20 1,aG 21 87 [t 19,t 20],aV 22 21 0,aV 23 21 1,aa 4 22,aa 5 23] ret)))))
theorem Nt:Is Tryz.prog 79 b79:=mkI Tryz.func79
def b80:F2:=(F2.mk 11 [RV.t 4,RV.t 5] (ab [cO 4 (mov (cN 0)),cO 5 (mov a9)] (ab [aa 6 0,aa 7 1,aG 8 132 ([t 6,t 7,c (AV.func 70 [])]),aV 9 8 0,aV 10 8 1,aa 4 9,aa 5 10] ret)))
theorem NS:Is Tryz.prog 80 b80:=mkI Tryz.func80
def b81:F2:=(F2.mk 51 [RV.t 4,RV.t 5] (ab [cO 2 (box (t 0)),cO 4 (mov (c AV.nilp)),cO 5 (mov (cN 0))] (ab [bj 11 1 2,aa 12 1,ap 13 .add 12 1,aG 14 58 [t 11,t 13],aa 10 14,aV 15 10 0,aV 16 10 1,cO 6 (alloc (AV.agg [ba,AV.esl])),br 2 6 15,aa 7 16] ((ab [aa 17 7,ap 18 .neq 17 0] (aq 18 (ab [aa 19 7,cO 4 (mov (c AV.nilp)),aa 5 19] ret) skip)).seq (ab [bj 21 1 2,aa 22 1,aG 23 98 [t 21,t 22],aa 20 23,aV 24 20 0,aV 25 20 1,aa 8 24,aa 7 25] ((ab [aa 26 7,ap 27 .neq 26 0] (aq 27 (ab [aa 28 7,cO 4 (mov (c AV.nilp)),aa 5 28] ret) skip)).seq (ab [bj 30 2 6,aG 31 133 [t 30],aa 29 31,aV 32 29 0,aV 33 29 1,cO 9 (alloc (AV.agg [ba,AV.esl])),br 2 9 32,aa 7 33] ((ab [aa 34 7,ap 35 .neq 34 0] (aq 35 (ab [aa 36 7,cO 4 (mov (c AV.nilp)),aa 5 36] ret) skip)).seq (ab [aa 37 8,bE 38 0 9,br 1 38 37] (ab [bj 40 2 9,aG 41 134 [t 40],aa 39 41,aV 42 39 0,aV 43 39 1,br 2 9 42,aa 7 43] (ab [bj 44 2 9,bE 45 1 9,aD 46 45,aY 47 46,cO 48 (bld [ba,AV.esl,ba] [(0,2,t 44),(2,1,t 47)]),cO 49 (box (t 48)),aa 50 7,aa 4 49,aa 5 50] ret)))))))))))
theorem Nn:Is Tryz.prog 81 b81:=mkI Tryz.func81
def b82:F2:=(F2.mk 48 [RV.t 4,RV.t 5] (ab [cO 4 (mov a9),cO 5 (mov (cN 0))] ((mixF [aa 9 0,cO 10 (nilck (t 9)),bE 11 0 10,bE 12 0 11,aD 13 12,aa 14 0,cO 15 (nilck (t 14)),bE 16 0 15,bE 17 1 16,aD 18 17,aG 19 135 [t 18],aa 20 1,cO 21 (bldS 1 1 [AV.esl] [(0,1,t 20)]),cO 22 (app 1 24 (t 19) (t 21)),cO 23 (bld [ba,AV.esl] [(0,1,t 13),(1,1,t 22)]),cO 6 (alloc (AV.agg [ba,AV.esl])),br 2 6 23] (15,1) [(0,0),(1,0),(2,0),(3,0),(4,0),(5,0),(6,0),(7,0),(8,0),(9,0),(11,0),(12,3),(10,1),(13,1),(14,0)] [(16,2)]).seq (ab [bj 25 2 6,aG 26 97 [t 25],aa 24 26,aV 27 24 0,aV 28 24 1,aa 7 27,aa 8 28] ((ab [aa 29 8,ap 30 .neq 29 0,aa 31 30,be 32 31 (cM 7),be 33 31 (cM 0),be 34 31 (nilck (t 33)),be 35 31 (fa 2 (t 34)),be 36 31 (cD 35),be 37 31 (cB .eql (t 32) (t 36)),cO 38 (pick (t 31) cK (t 37))] (aq 38 (ab [aa 39 8,cO 4 (mov a9),aa 5 39] ret) skip)).seq (ab [aa 40 0,aa 41 0,bj 42 2 6,aa 43 7,cO 44 (nilck (t 40)),bE 45 0 44,br 2 45 42,cO 46 (nilck (t 41)),bE 47 2 46,br 1 47 43] (ab [cO 4 (mov cK),cO 5 (mov (cN 0))] ret)))))))
theorem N2:Is Tryz.prog 82 b82:=mkI Tryz.func82
def b83:F2:=(F2.mk 14 [RV.t 4,RV.t 5] (ab [cO 2 (box (t 0)),cO 4 (mov (c AV.esl)),cO 5 (mov (cN 0))] ((ab [aa 6 1,ap 7 .lss 6 0] (aq 7 (ab [cO 4 (mov (c AV.esl)),cO 5 (mov (cN 0))] ret) skip)).seq (ab [bj 8 1 2,aa 9 1,ap 10 .add 9 1,aG 11 79 [t 8,t 10],aV 12 11 0,aV 13 11 1,aa 4 12,aa 5 13] ret))))
theorem N0:Is Tryz.prog 83 b83:=mkI Tryz.func83
def b84:F2:=(F2.mk 19 [RV.t 2] (ab [cO 2 (mov (c AV.esl))] (ab [cO 3 (mov (c AV.esl))] ((ab [aa 6 0,aY 7 6,cO 8 (mov (cN 0))] (block 0 (ab [aN 9 .lss 8 7] ((aq 9 skip (exit 0)).seq ((block 1 (ab [cO 10 (ixaS 1 (t 6) (t 8)),aD 11 10,aa 5 11] (ops 0 [aa 12 3,aa 13 5,aG 14 136 [t 13],cO 15 (bldS 1 1 [AV.esl] [(0,1,t 14)]),cO 16 (app 1 24 (t 12) (t 15)),aa 3 16]))).seq (ops 0 [ap 17 .add 8 1,aa 8 17])))).loop)).seq (ab [aa 18 3,aa 2 18] ret)))))
theorem NA:Is Tryz.prog 84 b84:=mkI Tryz.func84
def b87:F2:=(F2.mk 60 [RV.t 4,RV.t 5] (ab [cO 4 (mov (c AV.esl)),cO 5 (mov (cN 0))] (ab [cO 14 (mkm none),aa 6 14] (ab [cO 7 (mov (c AV.esl))] ((ab [aa 15 0,aY 16 15,cO 17 (mov (cN 0))] (block 0 (ab [aN 18 .lss 17 16] ((aq 18 skip (exit 0)).seq ((block 1 (ab [cO 19 (ixaS 1 (t 15) (t 17)),aD 20 19,aa 9 20] ((ab [aa 21 9,aY 22 21,aa 23 1,aN 24 .lss 22 23] (aq 24 (exit 1) skip)).seq (ab [aa 26 9,aa 27 1,aG 28 137 [t 26,t 27],aa 25 28,aV 29 25 0,aV 30 25 1,aa 10 29,aa 11 30] ((ab [aa 31 11,ap 32 .neq 31 0] (aq 32 (ab [aa 33 11,cO 4 (mov (c AV.esl)),aa 5 33] ret) skip)).seq ((ab [aa 34 10,aY 35 34,cO 36 (mov (cN 0))] (block 2 (ab [aN 37 .lss 36 35] ((aq 37 skip (exit 2)).seq ((block 3 (ab [cO 38 (ixaS 1 (t 34) (t 36)),aD 39 38,aa 13 39] (ab [aa 40 6,aa 41 13,aG 42 138 [t 41],cO 43 (Ins.mget (MK.st [int,int,int,int,int,int,int,int,int,int,int,int,int,int,int,int]) (AV.bool false) false (t 40) (t 42)),cO 44 (un UnOp.not (t 43))] (aq 44 (ab [aa 45 6,aa 46 13,aG 47 138 [t 46],Op2.mk none none (mput (MK.st [int,int,int,int,int,int,int,int,int,int,int,int,int,int,int,int]) (t 45) (t 47) cK)] (ops 0 [aa 48 7,aa 49 13,cO 50 (bldS 1 1 [AV.esl] [(0,1,t 49)]),cO 51 (app 1 24 (t 48) (t 50)),aa 7 51])) skip)))).seq (ops 0 [ap 52 .add 36 1,aa 36 52])))).loop)).seq (ab [aa 53 7,aY 54 53,ap 55 .gtr 54 4096] (aq 55 (ab [cO 4 (mov (c AV.esl)),cO 5 (mov (cN 17))] ret) skip)))))))).seq (ops 0 [ap 56 .add 17 1,aa 17 56])))).loop)).seq (ab [aa 57 7,aG 58 130 ([t 57,c (AV.func 70 [])])] (ab [aa 59 7,aa 4 59,cO 5 (mov (cN 0))] ret)))))))
theorem NQ:Is Tryz.prog 87 b87:=mkI Tryz.func87
def b92:F2:=(F2.mk 33 [RV.t 2] (ab [cO 2 (mov (c AV.nilm))] (ab [cO 8 (mkm none),aa 3 8] ((ab [aa 9 0,aY 10 9,cO 11 (mov (cN 0))] (block 0 (ab [aN 12 .lss 11 10] ((aq 12 skip (exit 0)).seq ((block 1 (ab [aa 13 11,cO 14 (ixaS 1 (t 9) (t 11)),aD 15 14,aa 4 13,aa 5 15] (ab [aa 16 5,aY 17 16,cO 18 (mov (cN 0))] (block 2 (ab [aN 19 .lss 18 17] ((aq 19 skip (exit 2)).seq ((block 3 (ab [cO 20 (ixaS 2 (t 16) (t 18)),bj 21 2 20,cO 7 (alloc (AV.agg [ba,ba])),br 2 7 21] (ops 0 [aa 22 3,bj 23 2 7,aa 25 4,cO 26 (bldS 1 1 [ba] [(0,1,t 25)]),cO 27 (mplc (MK.st [int,int]) AV.esl (t 22) (t 23)),aV 24 27 0,cO 28 (app 1 8 (t 24) (t 26)),aV 29 27 1,Op2.mk none none (mpst (t 22) (t 29) (t 28))]))).seq (ops 0 [ap 30 .add 18 1,aa 18 30])))).loop)))).seq (ops 0 [ap 31 .add 11 1,aa 11 31])))).loop)).seq (ab [aa 32 3,aa 2 32] ret)))))
theorem N8:Is Tryz.prog 92 b92:=mkI Tryz.func92
def b94:F2:=(F2.mk 33 [RV.t 2,RV.t 3] (ab [cO 1 (box (t 0)),cO 2 (mov (cN 0)),cO 3 (mov a9)] (ab [cO 4 (mov (cN 8)),cO 5 (mov (cN 0))] ((ab [bE 8 0 1,aD 9 8,aY 10 9,cO 11 (mov (cN 0))] (block 0 (ab [aN 12 .lss 11 10] ((aq 12 skip (exit 0)).seq ((block 1 (ab [cO 13 (ixaS 1 (t 9) (t 11)),aD 14 13,aa 7 14] (ops 0 [aa 15 4,aa 16 7,aY 17 16,cO 18 (mn (t 15) [t 17]),aa 19 5,aa 20 7,aY 21 20,cO 22 (mx (t 19) [t 21]),aa 4 18,aa 5 22]))).seq (ops 0 [ap 23 .add 11 1,aa 11 23])))).loop)).seq (ab [aa 24 5,ap 25 .sub 24 1,aa 26 5,ap 27 .eql 26 0,aa 28 27,be 29 28 (cM 4),be 30 28 (cM 5),be 31 28 (cB .eql (t 29) (t 30)),cO 32 (pick (t 28) cK (t 31)),aa 2 25,aa 3 32] ret)))))
theorem Nv:Is Tryz.prog 94 b94:=mkI Tryz.func94
def b95:F2:=(F2.mk 19 [RV.t 2] (ab [cO 2 (mov a9)] ((ab [aa 4 0,aY 5 4,ap 6 .gtr 5 30] (aq 6 (ab [cO 2 (mov a9)] ret) skip)).seq ((ab [cO 3 (mov (cN 0))] (block 0 ((ab [aa 7 3,aa 8 0,aY 9 8,aN 10 .lss 7 9] (aq 10 skip (exit 0))).seq ((block 1 (ab [aa 13 0,aa 14 3,cO 15 (ixaS 1 (t 13) (t 14)),aD 16 15,aG 17 145 [t 16],cO 18 (un UnOp.not (t 17))] (aq 18 (ab [cO 2 (mov a9)] ret) skip))).seq (ops 0 [aa 11 3,ap 12 .add 11 1,aa 3 12]))).loop)).seq (ab [cO 2 (mov cK)] ret)))))
theorem Oh:Is Tryz.prog 95 b95:=mkI Tryz.func95
def b96:F2:=(F2.mk 20 [RV.t 2,RV.t 3,RV.t 4] (ab [cO 1 (box (t 0)),cO 2 (mov (cN 0)),cO 3 (mov a9),cO 4 (mov (cN 0))] ((ab [bj 8 1 1,aG 9 78 [t 8],aa 5 9] (ab [aa 10 5,ap 11 .neq 10 0] (aq 11 (ab [aa 12 5,cO 2 (mov (cN 0)),cO 3 (mov a9),aa 4 12] ret) skip))).seq (ab [bj 14 1 1,aG 15 94 [t 14],aa 13 15,aV 16 13 0,aV 17 13 1,aa 6 16,aa 7 17] (ab [aa 18 6,aa 19 7,aa 2 18,aa 3 19,cO 4 (mov (cN 0))] ret)))))
theorem NY:Is Tryz.prog 96 b96:=mkI Tryz.func96
def b97:F2:=(F2.mk 15 [RV.t 2,RV.t 3] (ab [cO 1 (box (t 0)),cO 2 (mov (cN 0)),cO 3 (mov (cN 0))] (ab [bj 7 2 1,aG 8 134 [t 7],aa 6 8,aV 9 6 0,aV 10 6 1,cO 4 (alloc (AV.agg [ba,AV.esl])),br 2 4 9,aa 5 10] (ab [bE 11 1 4,aD 12 11,aY 13 12,aa 14 5,aa 2 13,aa 3 14] ret))))
theorem NI:Is Tryz.prog 97 b97:=mkI Tryz.func97
def b98:F2:=(F2.mk 24 [RV.t 4,RV.t 5] (ab [cO 2 (box (t 0)),cO 4 (mov (cN 0)),cO 5 (mov (cN 0))] ((ab [aa 8 1,ap 9 .lss 8 0,aa 10 9,be 11 10 (cM 1),be 12 10 (cB .geq (t 11) (cN 8)),cO 13 (pick (t 10) cK (t 12))] (aq 13 (ab [cO 4 (mov (cN 0)),cO 5 (mov (cN 0))] ret) skip)).seq (ab [bj 15 1 2,aa 16 1,ap 17 .add 16 1,aG 18 79 [t 15,t 17],aa 14 18,aV 19 14 0,aV 20 14 1,aa 6 19,aa 7 20] (ab [aa 21 6,aY 22 21,aa 23 7,aa 4 22,aa 5 23] ret)))))
theorem Og:Is Tryz.prog 98 b98:=mkI Tryz.func98
def b99:F2:=(F2.mk 26 [RV.t 4,RV.t 5] (ab [cO 2 (box (t 0)),cO 4 (mov (c AV.esl)),cO 5 (mov (cN 0))] ((ab [bj 8 1 2,aG 9 28 [t 8],aa 6 9] (ab [aa 10 6,ap 11 .neq 10 0] (aq 11 (ab [aa 12 6,cO 4 (mov (c AV.esl)),aa 5 12] ret) skip))).seq ((ab [aa 13 1,ap 14 .lss 13 1,aa 15 14,be 16 15 (cM 1),be 17 15 (cB .gtr (t 16) (cN 8)),cO 18 (pick (t 15) cK (t 17))] (aq 18 (ab [cO 4 (mov (c AV.esl)),cO 5 (mov (cN 2))] ret) skip)).seq (ab [bj 19 1 2,aa 20 1,aG 21 51 [t 19,t 20],aa 7 21] ((ab [aa 22 7,aY 23 22,ap 24 .gtr 23 4096] (aq 24 (ab [cO 4 (mov (c AV.esl)),cO 5 (mov (cN 17))] ret) skip)).seq (ab [aa 25 7,aa 4 25,cO 5 (mov (cN 0))] ret)))))))
theorem Nx:Is Tryz.prog 99 b99:=mkI Tryz.func99
def LO:F2:=(F2.mk 19 [RV.t 4] (ab [cO 4 (mov (cN 0))] ((ab [aa 6 0,aY 7 6,cO 8 (mov (cN 0))] (block 0 (ab [aN 9 .lss 8 7] ((aq 9 skip (exit 0)).seq ((block 1 (ab [aa 10 8,aa 5 10] (ab [aa 11 1,aa 12 0,aa 13 5,cO 14 (ixaS 1 (t 12) (t 13)),aD 15 14,cO 16 (call (t 11) [t 15])] (aq 16 (ab [aa 17 5,aa 4 17] ret) skip)))).seq (ops 0 [ap 18 .add 8 1,aa 8 18])))).loop)).seq (ab [cO 4 (mov (cN ((-1))))] ret))))
theorem Lx:Is Tryz.prog 101 LO:=mkI Tryz.func101
def L7:F2:=(F2.mk 64 [] (ab [bj 13 1 1,aD 14 2,aG 15 81 [t 13,t 14],aa 12 15,aV 16 12 0,aV 17 12 1,aa 4 16,aa 5 17] (ab [cO 6 (alloc (AV.agg [ba,AV.esl]))] ((ab [aa 18 5,ap 19 .eql 18 0] (aq 19 (ab [cO 7 (alloc (AV.agg [ba,AV.esl]))] (ab [bj 21 1 1,aD 22 2,aG 23 58 [t 21,t 22],aa 20 23,aV 24 20 0,aV 25 20 1,br 2 7 24,aa 5 25] (ab [aa 26 5,ap 27 .eql 26 0] (aq 27 (ops 0 [bj 29 2 7,aG 30 103 [t 29],aa 28 30,aV 31 28 0,aV 32 28 1,br 2 6 31,aa 5 32]) skip)))) skip)).seq ((ab [aa 33 5,ap 34 .neq 33 0] (aq 34 (ab [aa 35 0,aa 36 5,cO 37 (call (t 35) [c AV.esl,t 36])] ret) skip)).seq (ab [bE 38 1 6,aD 39 38,aY 40 39,cO 41 (mov (cN 0))] (block 0 (ab [aN 42 .lss 41 40] ((aq 42 skip (exit 0)).seq ((block 1 (ab [cO 43 (ixaS 1 (t 39) (t 41)),aD 44 43,aa 9 44] (ab [aa 46 4,aa 47 9,aG 48 82 [t 46,t 47],aa 45 48,aV 49 45 0,aV 50 45 1,aa 10 49,aa 11 50] (ab [aa 51 10,aa 52 51,be 53 52 (cM 11),be 54 52 (cB .neq (t 53) (cN 0)),cO 55 (pick (t 52) cK (t 54)),aa 56 55,an 57 56 (cM 0),an 58 56 (cM 9),an 59 56 (cM 11),an 60 56 (call (t 57) [t 58,t 59]),an 61 56 (un UnOp.not (t 60)),cO 62 (pick (t 56) (t 61) a9)] (aq 62 ret skip))))).seq (ops 0 [ap 63 .add 41 1,aa 41 63])))).loop)))))))
theorem Mj:Is Tryz.prog 102 L7:=mkI Tryz.func102
def Lc:F2:=(F2.mk 76 [RV.cn 2 2,RV.t 3] (ab [cO 1 (box (t 0)),cO 2 (alloc (AV.agg [ba,AV.esl])),cO 3 (mov (cN 0))] (ab [bj 15 2 1,aG 16 134 [t 15],aa 14 16,aV 17 14 0,aV 18 14 1,cO 4 (alloc (AV.agg [ba,AV.esl])),br 2 4 17,aa 5 18] ((ab [aa 19 5,ap 20 .neq 19 0] (aq 20 (ab [cO 21 (bld [ba,AV.esl] []),aa 22 5,br 2 2 21,aa 3 22] ret) skip)).seq (ab [bE 23 0 1,aD 24 23,cO 25 (bld [ba,AV.esl] [(0,1,t 24)]),cO 6 (alloc (AV.agg [ba,AV.esl])),br 2 6 25] (ab [cO 26 (mkm none),aa 7 26] ((ab [bE 27 1 4,aD 28 27,aY 29 28,cO 30 (mov (cN 0))] (block 0 (ab [aN 31 .lss 30 29] ((aq 31 skip (exit 0)).seq ((block 1 (ab [cO 32 (ixaS 1 (t 28) (t 30)),aD 33 32,aa 9 33] (ops 0 [aa 34 7,aa 35 9,cO 36 (ixaS 1 (t 35) (cN 0)),aD 37 36,Op2.mk none none (mput (one int) (t 34) (t 37) cK)]))).seq (ops 0 [ap 38 .add 30 1,aa 30 38])))).loop)).seq ((ab [bE 39 0 1,aD 40 39,cO 41 (mov (cN 0))] (block 2 (ab [aN 42 .lss 41 40] ((aq 42 skip (exit 2)).seq ((block 3 (ab [aa 43 41,aa 10 43] ((ab [aa 44 7,aa 45 10,cO 46 (Ins.mget (one int) (AV.bool false) false (t 44) (t 45))] (aq 46 (exit 3) skip)).seq (ab [aa 47 10,cO 48 (bldS 1 1 [ba] [(0,1,t 47)]),aa 11 48] ((ab [bE 49 1 4,aD 50 49,aY 51 50,cO 52 (mov (cN 0))] (block 4 (ab [aN 53 .lss 52 51] ((aq 53 skip (exit 4)).seq ((block 5 (ab [cO 54 (ixaS 1 (t 50) (t 52)),aD 55 54,aa 13 55] (ab [aa 56 13,aa 57 10,aG 58 146 [t 56,t 57]] (aq 58 (ops 0 [aa 59 11,aa 60 13,cO 61 (ixaS 1 (t 60) (cN 0)),aD 62 61,cO 63 (bldS 1 1 [ba] [(0,1,t 62)]),cO 64 (app 1 8 (t 59) (t 63)),aa 11 64]) skip)))).seq (ops 0 [ap 65 .add 52 1,aa 52 65])))).loop)).seq (ab [aa 66 11,aG 67 147 [t 66]] (ops 0 [bE 68 1 6,aD 69 68,aa 70 11,cO 71 (bldS 1 1 [AV.esl] [(0,1,t 70)]),cO 72 (app 1 24 (t 69) (t 71)),bE 73 1 6,br 1 73 72]))))))).seq (ops 0 [ap 74 .add 41 1,aa 41 74])))).loop)).seq (ab [bj 75 2 6,br 2 2 75,cO 3 (mov (cN 0))] ret)))))))))
theorem KL:Is Tryz.prog 103 Lc:=mkI Tryz.func103
def JR:F2:=(F2.mk 47 [RV.t 4] (ab [cO 4 (mov (c AV.esl))] ((ab [aa 9 1,ap 10 .eql 9 0] (aq 10 (ab [cO 11 (bldS 1 1 [AV.esl] [(0,1,c AV.esl)]),aa 4 11] ret) skip)).seq (ab [cO 5 (mov (c AV.esl))] ((ab [cO 6 (mov (cN 0))] (block 0 ((ab [aa 12 6,aa 13 1,aN 14 .add 12 13,aa 15 0,aY 16 15,aN 17 .leq 14 16] (aq 17 skip (exit 0))).seq ((block 1 (ab [aa 20 0,aa 21 6,ap 22 .add 21 1,cO 23 (sls 2 (t 20) (some (t 22)) none none),aa 24 1,ap 25 .sub 24 1,aG 26 104 [t 23,t 25],aa 7 26] (ab [cO 8 (mov (cN 0))] (block 2 ((ab [aa 27 8,aa 28 7,aY 29 28,aN 30 .lss 27 29] (aq 30 skip (exit 2))).seq ((block 3 (mixS 9 [aa 33 5,aa 34 0,aa 35 6,cO 36 (ixaS 2 (t 34) (t 35)),bj 37 2 36,cO 38 (bldS 2 1 [ba,ba] [(0,2,t 37)]),aa 39 7,aa 40 8,cO 41 (ixaS 1 (t 39) (t 40)),aD 42 41,cO 43 (app 2 16 (t 38) (t 42)),cO 44 (bldS 1 1 [AV.esl] [(0,1,t 43)]),cO 45 (app 1 24 (t 33) (t 44)),aa 5 45] [(0,0),(1,0),(2,0),(3,0),(4,0),(6,0),(7,0),(8,0),(9,0),(5,1),(10,2),(11,3),(12,2),(13,0)])).seq (ops 0 [aa 31 8,ap 32 .add 31 1,aa 8 32]))).loop)))).seq (ops 0 [aa 18 6,ap 19 .add 18 1,aa 6 19]))).loop)).seq (ab [aa 46 5,aa 4 46] ret))))))
theorem H8:Is Tryz.prog 104 JR:=mkI Tryz.func104
def Mm:F2:=(F2.mk 48 [RV.t 4] (ab [cO 4 (mov (c AV.esl))] (ab [cO 5 (mov (c AV.esl))] (ab [cO 6 (mov a9)] ((ab [cO 7 (mov (cN 0))] (block 0 ((ab [aa 9 7,aa 10 0,aY 11 10,aN 12 .lss 9 11] (aq 12 skip (exit 0))).seq ((block 1 (ab [aa 15 1,aa 16 0,aa 17 7,cO 18 (ixaS 1 (t 16) (t 17)),aD 19 18,aG 20 73 [t 15,t 19],aa 8 20] ((ab [aa 21 8,ap 22 .eql 21 0] (aq 22 (ab [aa 23 0,aa 4 23] ret) skip)).seq ((ab [aa 24 6,cO 25 (un UnOp.not (t 24)),aa 26 25,an 27 26 (cM 8),an 28 26 (cB .lss (t 27) (cN 0)),cO 29 (pick (t 26) (t 28) a9)] (aq 29 (ops 0 [aa 30 5,aa 31 1,cO 32 (bldS 1 1 [AV.esl] [(0,1,t 31)]),cO 33 (app 1 24 (t 30) (t 32)),aa 5 33,cO 6 (mov cK)]) skip)).seq (ops 0 [aa 34 5,aa 35 0,aa 36 7,cO 37 (ixaS 1 (t 35) (t 36)),aD 38 37,cO 39 (bldS 1 1 [AV.esl] [(0,1,t 38)]),cO 40 (app 1 24 (t 34) (t 39)),aa 5 40]))))).seq (ops 0 [aa 13 7,ap 14 .add 13 1,aa 7 14]))).loop)).seq ((ab [aa 41 6,cO 42 (un UnOp.not (t 41))] (aq 42 (ops 0 [aa 43 5,aa 44 1,cO 45 (bldS 1 1 [AV.esl] [(0,1,t 44)]),cO 46 (app 1 24 (t 43) (t 45)),aa 5 46]) skip)).seq (ab [aa 47 5,aa 4 47] ret)))))))
theorem MF:Is Tryz.prog 105 Mm:=mkI Tryz.func105
def JG:F2:=(F2.mk 81 [RV.cn 2 2] (ab [cO 1 (box (t 0)),cO 2 (alloc (AV.agg [ba,AV.esl]))] (ab [cO 3 (mov (c AV.esl))] (ab [aa 9 3,bE 10 1 1,aD 11 10,cO 12 (app 1 24 (t 9) (t 11)),aa 3 12] (ab [cO 4 (mov (cN 0))] ((ab [cO 5 (mov (cN 0))] (block 0 ((ab [aa 13 5,bE 14 0 1,aD 15 14,aN 16 .lss 13 15] (aq 16 skip (exit 0))).seq ((block 1 (ab [aa 19 3,aa 20 4,aa 21 5,aG 22 148 [t 19,t 20,t 21],aa 6 22] ((ab [aa 23 6,ap 24 .lss 23 0] (aq 24 (exit 1) skip)).seq ((ops 1 [aa 25 3,aa 26 4,aa 27 3,aa 28 6,aa 29 3,aa 30 6,cO 31 (ixaS 1 (t 29) (t 30)),aD 32 31,aa 33 3,aa 34 4,cO 35 (ixaS 1 (t 33) (t 34)),aD 36 35,cO 37 (ixaS 1 (t 25) (t 26)),br 1 37 32,cO 38 (ixaS 1 (t 27) (t 28)),br 1 38 36]).seq ((ab [cO 7 (mov (cN 0))] (block 2 ((ab [aa 39 7,aa 40 3,aY 41 40,aN 42 .lss 39 41] (aq 42 skip (exit 2))).seq ((block 3 (ab [aa 45 7,aa 46 4,aN 47 .neq 45 46,aa 48 47,an 49 48 (cM 3),an 50 48 (cM 7),an 51 48 (ixaS 1 (t 49) (t 50)),an 52 48 (cD 51),an 53 48 (cM 5),an 54 48 (call (cF 108) [t 52,t 53]),cO 55 (pick (t 48) (t 54) a9)] (aq 55 (mixS 1 [aa 56 3,aa 57 7,aa 58 3,aa 59 7,cO 60 (ixaS 1 (t 58) (t 59)),aD 61 60,aa 62 3,aa 63 4,cO 64 (ixaS 1 (t 62) (t 63)),aD 65 64,aG 66 109 [t 61,t 65],cO 67 (ixaS 1 (t 56) (t 57)),br 1 67 66] [(0,0),(1,0),(2,0),(3,0),(4,0),(5,0),(6,0),(7,0),(8,0),(9,0),(10,2),(11,0),(12,2)]) skip))).seq (ops 0 [aa 43 7,ap 44 .add 43 1,aa 7 44]))).loop)).seq (ops 0 [aa 68 4,ap 69 .add 68 1,aa 4 69])))))).seq (ops 0 [aa 17 5,ap 18 .add 17 1,aa 5 18]))).loop)).seq (ab [bE 70 0 1,aD 71 70,cO 72 (bld [ba,AV.esl] [(0,1,t 71)]),cO 8 (alloc (AV.agg [ba,AV.esl])),br 2 8 72] ((ops 1 [bE 73 1 8,aD 74 73,aa 75 3,aa 76 4,cO 77 (sls 1 (t 75) none (some (t 76)) none),cO 78 (app 1 24 (t 74) (t 77)),bE 79 1 8,br 1 79 78]).seq (ab [bj 80 2 8,br 2 2 80] ret)))))))))
theorem Im:Is Tryz.prog 106 JG:=mkI Tryz.func106
def Kv:F2:=(F2.mk 18 [RV.t 4] (ab [cO 4 (mov a9)] ((ab [cO 5 (mov (cN 0))] (block 0 ((ab [aa 6 5,aa 7 0,aY 8 7,aN 9 .lss 6 8] (aq 9 skip (exit 0))).seq ((block 1 (ab [aa 12 0,aa 13 5,cO 14 (ixaS 1 (t 12) (t 13)),aD 15 14,aa 16 1,aN 17 .eql 15 16] (aq 17 (ab [cO 4 (mov cK)] ret) skip))).seq (ops 0 [aa 10 5,ap 11 .add 10 1,aa 5 11]))).loop)).seq (ab [cO 4 (mov a9)] ret))))
theorem Nb:Is Tryz.prog 108 Kv:=mkI Tryz.func108
def Ma:F2:=(F2.mk 77 [RV.t 4] (ab [cO 4 (mov (c AV.esl))] (ab [cO 5 (mov (c AV.esl))] (ab [cO 6 (mov (cN 0)),cO 7 (mov (cN 0))] ((block 0 ((ab [aa 8 6,aa 9 0,aY 10 9,aN 11 .lss 8 10,aa 12 11,be 13 12 (cM 7),be 14 12 (cM 1),be 15 12 (lenS (t 14)),be 16 12 (cB .lss (t 13) (t 15)),cO 17 (pick (t 12) cK (t 16))] (aq 17 skip (exit 0))).seq (block 1 ((ops 1 [aa 18 7,aa 19 1,aY 20 19,aN 21 .eql 18 20,aa 22 21,be 23 22 (cM 6),be 24 22 (cM 0),be 25 22 (lenS (t 24)),be 26 22 (cB .lss (t 23) (t 25)),be 27 22 (cM 26),an 28 27 (cM 0),an 29 27 (cM 6),an 30 27 (ixaS 1 (t 28) (t 29)),an 31 27 (cD 30),an 32 27 (cM 1),an 33 27 (cM 7),an 34 27 (ixaS 1 (t 32) (t 33)),an 35 27 (cD 34),an 36 27 (cB .lss (t 31) (t 35)),be 37 22 (pick (t 27) (t 36) a9),cO 38 (pick (t 22) cK (t 37))]).seq (aq 38 (ab [aa 39 5,aa 40 0,aa 41 6,cO 42 (ixaS 1 (t 40) (t 41)),aD 43 42,cO 44 (bldS 1 1 [ba] [(0,1,t 43)]),cO 45 (app 1 8 (t 39) (t 44)),aa 5 45] (ops 0 [aa 46 6,ap 47 .add 46 1,aa 6 47])) ((ops 1 [aa 48 6,aa 49 0,aY 50 49,aN 51 .eql 48 50,aa 52 51,be 53 52 (cM 1),be 54 52 (cM 7),be 55 52 (ixaS 1 (t 53) (t 54)),be 56 52 (cD 55),be 57 52 (cM 0),be 58 52 (cM 6),be 59 52 (ixaS 1 (t 57) (t 58)),be 60 52 (cD 59),be 61 52 (cB .lss (t 56) (t 60)),cO 62 (pick (t 52) cK (t 61))]).seq (aq 62 (ab [aa 63 5,aa 64 1,aa 65 7,cO 66 (ixaS 1 (t 64) (t 65)),aD 67 66,cO 68 (bldS 1 1 [ba] [(0,1,t 67)]),cO 69 (app 1 8 (t 63) (t 68)),aa 5 69] (ops 0 [aa 70 7,ap 71 .add 70 1,aa 7 71])) (ab [aa 72 6,ap 73 .add 72 1,aa 6 73] (ops 0 [aa 74 7,ap 75 .add 74 1,aa 7 75])))))))).loop).seq (ab [aa 76 5,aa 4 76] ret))))))
theorem KR:Is Tryz.prog 109 Ma:=mkI Tryz.func109
def Kk:F2:=(F2.mk 44 [RV.cn 4 2] (ab [cO 4 (alloc (AV.agg [ba,AV.esl]))] (ab [aa 9 0,aY 10 9,cO 11 (bld [ba,AV.esl] [(0,1,t 10)]),cO 5 (alloc (AV.agg [ba,AV.esl])),br 2 5 11] ((ab [cO 6 (mov (cN 0))] (block 0 ((ab [aa 12 6,aa 13 1,aY 14 13,aN 15 .lss 12 14] (aq 15 skip (exit 0))).seq ((block 1 (ab [cO 7 (mov (c AV.esl))] ((ab [cO 8 (mov (cN 0))] (block 2 ((ab [aa 18 8,aa 19 0,aY 20 19,aN 21 .lss 18 20] (aq 21 skip (exit 2))).seq ((block 3 ((mixS 1 [aa 24 1,aa 25 6,cO 26 (ixaS 1 (t 24) (t 25)),aD 27 26,aa 28 0,aa 29 8,cO 30 (ixaS 1 (t 28) (t 29)),aD 31 30,aG 32 74 [t 27,t 31]] [(0,0),(1,0),(2,0),(3,0),(4,0),(5,0),(6,0),(7,0),(8,2)]).seq (aq 32 (ops 0 [aa 33 7,aa 34 8,cO 35 (bldS 1 1 [ba] [(0,1,t 34)]),cO 36 (app 1 8 (t 33) (t 35)),aa 7 36]) skip))).seq (ops 0 [aa 22 8,ap 23 .add 22 1,aa 8 23]))).loop)).seq (ops 0 [bE 37 1 5,aD 38 37,aa 39 7,cO 40 (bldS 1 1 [AV.esl] [(0,1,t 39)]),cO 41 (app 1 24 (t 38) (t 40)),bE 42 1 5,br 1 42 41])))).seq (ops 0 [aa 16 6,ap 17 .add 16 1,aa 6 17]))).loop)).seq (ab [bj 43 2 5,br 2 4 43] ret)))))
theorem Lo:Is Tryz.prog 110 Kk:=mkI Tryz.func110
def J1:F2:=(F2.mk 42 [RV.cn 2 2] (ab [cO 1 (box (t 0)),cO 2 (alloc (AV.agg [ba,AV.esl]))] (ab [bE 7 1 1,aD 8 7,aY 9 8,cO 10 (bld [ba,AV.esl] [(0,1,t 9)]),cO 3 (alloc (AV.agg [ba,AV.esl])),br 2 3 10] ((ab [cO 4 (mov (cN 0))] (block 0 ((ab [aa 11 4,bE 12 0 1,aD 13 12,aN 14 .lss 11 13] (aq 14 skip (exit 0))).seq ((block 1 (ab [cO 5 (mov (c AV.esl))] ((ab [cO 6 (mov (cN 0))] (block 2 ((ab [aa 17 6,bE 18 1 1,aD 19 18,aY 20 19,aN 21 .lss 17 20] (aq 21 skip (exit 2))).seq ((block 3 (ab [bE 24 1 1,aD 25 24,aa 26 6,cO 27 (ixaS 1 (t 25) (t 26)),aD 28 27,aa 29 4,aG 30 108 [t 28,t 29]] (aq 30 (ops 0 [aa 31 5,aa 32 6,cO 33 (bldS 1 1 [ba] [(0,1,t 32)]),cO 34 (app 1 8 (t 31) (t 33)),aa 5 34]) skip))).seq (ops 0 [aa 22 6,ap 23 .add 22 1,aa 6 23]))).loop)).seq (ops 0 [bE 35 1 3,aD 36 35,aa 37 5,cO 38 (bldS 1 1 [AV.esl] [(0,1,t 37)]),cO 39 (app 1 24 (t 36) (t 38)),bE 40 1 3,br 1 40 39])))).seq (ops 0 [aa 15 4,ap 16 .add 15 1,aa 4 16]))).loop)).seq (ab [bj 41 2 3,br 2 2 41] ret)))))
theorem MQ:Is Tryz.prog 111 J1:=mkI Tryz.func111
def Lj:F2:=(F2.mk 87 [RV.cn 4 2,RV.t 5] (ab [cO 2 (box (t 0)),cO 4 (alloc (AV.agg [ba,AV.esl])),cO 5 (mov (cN 0))] ((ab [bj 16 1 2,aG 17 78 [t 16],aa 6 17] (ab [aa 18 6,ap 19 .neq 18 0] (aq 19 (ab [cO 20 (bld [ba,AV.esl] []),aa 21 6,br 2 4 20,aa 5 21] ret) skip))).seq ((ab [aa 22 1,ap 23 .lss 22 0,aa 24 23,be 25 24 (cM 1),be 26 24 (cB .geq (t 25) (cN 8)),cO 27 (pick (t 24) cK (t 26))] (aq 27 (ab [cO 28 (bld [ba,AV.esl] []),br 2 4 28,cO 5 (mov (cN 2))] ret) skip)).seq (ab [bj 30 1 2,aa 31 1,aG 32 83 [t 30,t 31],aa 29 32,aV 33 29 0,aV 34 29 1,aa 7 33,aa 8 34] ((ab [aa 35 8,ap 36 .neq 35 0] (aq 36 (ab [cO 37 (bld [ba,AV.esl] []),aa 38 8,br 2 4 37,aa 5 38] ret) skip)).seq (ab [bj 40 1 2,aa 41 1,ap 42 .sub 41 1,aG 43 83 [t 40,t 42],aa 39 43,aV 44 39 0,aV 45 39 1,cO 9 (alloc AV.esl),br 1 9 44,aa 8 45] ((ab [aa 46 8,ap 47 .neq 46 0] (aq 47 (ab [cO 48 (bld [ba,AV.esl] []),aa 49 8,br 2 4 48,aa 5 49] ret) skip)).seq (ab [aa 50 7,aY 51 50,aD 52 9,aY 53 52,cO 54 (mks 1 24 [AV.esl] (t 53) (t 53)),cO 55 (bld [ba,AV.esl] [(0,1,t 51),(1,1,t 54)]),cO 10 (alloc (AV.agg [ba,AV.esl])),br 2 10 55] ((ab [aa 56 7,aY 57 56,cO 58 (mov (cN 0))] (block 0 (ab [aN 59 .lss 58 57] ((aq 59 skip (exit 0)).seq ((block 1 (ab [aa 60 58,cO 61 (ixaS 1 (t 56) (t 58)),aD 62 61,cO 11 (alloc (ba)),br 1 11 60,aa 12 62] (ab [aa 63 12,aG 64 129 [t 63]] (block 2 (rangeF (t 64) [65] (ops 0 [aa 13 65]) (block 3 (ab [aD 67 9,aa 68 13,aG 69 80 [t 67,t 68],aa 66 69,aV 70 66 0,aV 71 66 1,aa 14 70,aa 15 71] (ab [aa 72 15] (aq 72 (mixS 2 [bE 73 1 10,aD 74 73,aa 75 14,bE 76 1 10,aD 77 76,aa 78 14,cO 79 (ixaS 1 (t 77) (t 78)),aD 80 79,aD 81 11,cO 82 (bldS 1 1 [ba] [(0,1,t 81)]),cO 83 (app 1 8 (t 80) (t 82)),cO 84 (ixaS 1 (t 74) (t 75)),br 1 84 83] [(0,0),(1,0),(2,0),(3,0),(4,0),(5,0),(6,0),(7,0),(8,0),(9,1),(10,1),(11,0),(12,2)]) skip))))))))).seq (ops 0 [ap 85 .add 58 1,aa 58 85])))).loop)).seq (ab [bj 86 2 10,br 2 4 86,cO 5 (mov (cN 0))] ret)))))))))))
theorem Lw:Is Tryz.prog 112 Lj:=mkI Tryz.func112
def KQ:F2:=(F2.mk 35 [RV.t 2] (ab [cO 1 (box (t 0)),cO 2 (mov (cN 0))] ((block 0 (ab [bE 7 0 1,aD 8 7,ap 9 .lss 8 0,aa 10 9,be 11 10 (fa 0 (t 1)),be 12 10 (cD 11),be 13 10 (cB .gtr (t 12) (cN 4096)),cO 14 (pick (t 10) cK (t 13)),aa 6 14] (aq 6 (ab [cO 2 (mov (cN 2))] ret) (ab [bE 16 1 1,aD 17 16,aY 18 17,ap 19 .gtr 18 4096,aa 15 19] (aq 15 (ab [cO 2 (mov (cN 5))] ret) skip))))).seq ((ab [bE 20 1 1,aD 21 20,aY 22 21,cO 23 (mov (cN 0))] (block 1 (ab [aN 24 .lss 23 22] ((aq 24 skip (exit 1)).seq ((block 2 (ab [cO 25 (ixaS 1 (t 21) (t 23)),aD 26 25,aa 4 26] (ab [aa 27 4,bE 28 0 1,aD 29 28,aG 30 114 [t 27,t 29],aa 5 30] (ab [aa 31 5,ap 32 .neq 31 0] (aq 32 (ab [aa 33 5,aa 2 33] ret) skip))))).seq (ops 0 [ap 34 .add 23 1,aa 23 34])))).loop)).seq (ab [cO 2 (mov (cN 0))] ret)))))
theorem M5:Is Tryz.prog 113 KQ:=mkI Tryz.func113
def Mb:F2:=(F2.mk 35 [RV.t 4] (ab [cO 4 (mov (cN 0))] ((ab [aa 7 0,aY 8 7,cO 9 (mov (cN 0))] (block 0 (ab [aN 10 .lss 9 8] ((aq 10 skip (exit 0)).seq ((block 1 (ab [aa 11 9,cO 12 (ixaS 1 (t 7) (t 9)),aD 13 12,aa 5 11,aa 6 13] (block 2 (ab [aa 15 6,ap 16 .lss 15 0,aa 17 16,be 18 17 (cM 6),be 19 17 (cM 1),be 20 17 (cB .geq (t 18) (t 19)),cO 21 (pick (t 17) cK (t 20)),aa 14 21] (aq 14 (ab [cO 4 (mov (cN 2))] ret) (ab [aa 23 5,ap 24 .gtr 23 0,aa 25 24,an 26 25 (cM 0),an 27 25 (cM 5),an 28 25 (cB .sub (t 27) (cN 1)),an 29 25 (ixaS 1 (t 26) (t 28)),an 30 25 (cD 29),an 31 25 (cM 6),an 32 25 (cB .geq (t 30) (t 31)),cO 33 (pick (t 25) (t 32) a9),aa 22 33] (aq 22 (ab [cO 4 (mov (cN 14))] ret) skip))))))).seq (ops 0 [ap 34 .add 9 1,aa 9 34])))).loop)).seq (ab [cO 4 (mov (cN 0))] ret))))
theorem MB:Is Tryz.prog 114 Mb:=mkI Tryz.func114
def LP:F2:=(F2.mk 95 [RV.t 2,RV.t 3] (ab [cO 1 (box (t 0)),cO 2 (mov (c AV.esl)),cO 3 (mov (c AV.esl))] (ab [cO 16 (mkm none),cO 4 (alloc AV.nilm),br 1 4 16] (ab [cO 17 (mkfn 149 [t 4]),aa 5 17] (ab [cO 6 (mov (c AV.esl))] ((ab [bE 18 1 1,aD 19 18,aY 20 19,cO 21 (mov (cN 0))] (block 0 (ab [aN 22 .lss 21 20] ((aq 22 skip (exit 0)).seq ((block 1 (ab [aa 23 21,cO 24 (ixaS 1 (t 19) (t 21)),aD 25 24,aa 7 23,aa 8 25] (ab [aa 26 5,aa 27 8,aG 28 150 [t 27],aa 29 7,cO 30 (bldS 1 1 [ba] [(0,1,t 29)]),cO 31 (bld [AV.esl,AV.esl] [(0,1,t 28),(1,1,t 30)]),cO 32 (call (t 26) [t 31]),cO 9 (alloc (AV.agg [AV.esl,AV.esl])),br 2 9 32] ((ab [bE 33 0 9,aD 34 33,aY 35 34,ap 36 .eql 35 0] (aq 36 (ab [aa 37 6,bE 38 1 9,aD 39 38,cO 40 (bldS 1 1 [AV.esl] [(0,1,t 39)]),cO 41 (app 1 24 (t 37) (t 40)),aa 6 41] (exit 1)) skip)).seq ((ab [aD 42 4,cO 43 (mrng (t 42))] (block 2 (ab [cO 44 (mnxt (t 43)),aV 45 44 0] ((aq 45 skip (exit 2)).seq (block 3 (ab [cO 46 (ment (t 43)),aV 47 46 0,aV 48 46 1,cO 11 (alloc (AV.agg [AV.esl,AV.esl])),aa 10 47,br 2 11 48] ((mixS 1 [bE 49 0 11,aD 50 49,bE 51 0 9,aD 52 51,cO 53 (ixaS 1 (t 52) (cN 0)),aD 54 53,aG 55 146 [t 50,t 54]] [(0,0),(1,0),(2,0),(3,0),(4,0),(5,0),(6,2)]).seq (aq 55 (mixS 9 [aD 56 4,aa 57 10,bE 58 0 11,aD 59 58,bE 60 0 9,aD 61 60,aG 62 124 [t 59,t 61],bE 63 1 11,aD 64 63,bE 65 1 9,aD 66 65,aG 67 124 [t 64,t 66],cO 68 (bld [AV.esl,AV.esl] [(0,1,t 62),(1,1,t 67)]),Op2.mk none none (mput (one int) (t 56) (t 57) (t 68))] [(0,0),(1,0),(2,0),(3,0),(4,0),(5,0),(7,0),(8,0),(9,0),(10,0),(6,1),(11,1),(12,0),(13,2)]) skip)))))).loop)).seq (mixS 9 [aD 69 4,bE 70 0 9,aD 71 70,cO 72 (ixaS 1 (t 71) (cN 0)),aD 73 72,bj 74 2 9,Op2.mk none none (mput (one int) (t 69) (t 73) (t 74))] [(0,0),(1,0),(2,0),(3,0),(4,0),(5,0),(6,2)])))))).seq (ops 0 [ap 75 .add 21 1,aa 21 75])))).loop)).seq (ab [cO 12 (mov (c AV.esl))] ((ab [bE 76 0 1,aD 77 76,cO 78 (mov (cN 0))] (block 4 (ab [aN 79 .lss 78 77] ((aq 79 skip (exit 4)).seq ((block 5 (ab [aa 80 78,aa 13 80] (ab [aD 82 4,aa 83 13,cO 84 (Ins.mget (one int) (AV.agg [AV.esl,AV.esl]) true (t 82) (t 83)),aa 81 84,aV 85 81 0,aV 86 81 1,cO 14 (alloc (AV.agg [AV.esl,AV.esl])),br 2 14 85,aa 15 86] (ab [aa 87 15] (aq 87 (ops 0 [aa 88 12,bj 89 2 14,cO 90 (bldS 2 1 [AV.esl,AV.esl] [(0,2,t 89)]),cO 91 (app 2 48 (t 88) (t 90)),aa 12 91]) skip))))).seq (ops 0 [ap 92 .add 78 1,aa 78 92])))).loop)).seq (ab [aa 93 12,aa 94 6,aa 2 93,aa 3 94] ret)))))))))
theorem Lv:Is Tryz.prog 115 LP:=mkI Tryz.func115
def Lg:F2:=(F2.mk 18 [RV.t 4] (ab [cO 4 (mov a9)] (ab [aa 5 0,aY 6 5,aa 7 1,aY 8 7,aN 9 .add 6 8,aa 10 0,aa 11 1,aG 12 124 [t 10,t 11],aY 13 12,aN 14 .sub 9 13,ap 15 .quo 14 2,ap 16 .rem 15 2,ap 17 .eql 16 1,aa 4 17] ret)))
theorem Me:Is Tryz.prog 116 Lg:=mkI Tryz.func116
def MX:F2:=(F2.mk 47 [RV.t 2] (ab [cO 2 (mov (cN 0))] ((ab [aa 5 0,aY 6 5,ap 7 .gtr 6 4096] (aq 7 (ab [cO 2 (mov (cN 5))] ret) skip)).seq ((ab [cO 3 (mov (cN 0))] (block 0 ((ab [aa 8 3,aa 9 0,aY 10 9,aN 11 .lss 8 10] (aq 11 skip (exit 0))).seq ((block 1 ((ab [aa 14 0,aa 15 3,cO 16 (ixaS 1 (t 14) (t 15)),aD 17 16,aG 18 72 [t 17],aa 4 18] (ab [aa 19 4,ap 20 .neq 19 0] (aq 20 (ab [aa 21 4,aa 2 21] ret) skip))).seq (((ops 1 [aa 22 0,aa 23 3,cO 24 (ixaS 1 (t 22) (t 23)),aD 25 24,aY 26 25,aa 27 0,cO 28 (ixaS 1 (t 27) (cN 0)),aD 29 28,aY 30 29,aN 31 .neq 26 30]).seq (aq 31 (ab [cO 2 (mov (cN 15))] ret) skip)).seq ((mixS 1 [aa 32 3,ap 33 .gtr 32 0,aa 34 33,an 35 34 (cM 0),an 36 34 (cM 3),an 37 34 (cB .sub (t 36) (cN 1)),an 38 34 (ixaS 1 (t 35) (t 37)),an 39 34 (cD 38),an 40 34 (cM 0),an 41 34 (cM 3),an 42 34 (ixaS 1 (t 40) (t 41)),an 43 34 (cD 42),an 44 34 (call (cF 73) [t 39,t 43]),an 45 34 (cB .geq (t 44) (cN 0)),cO 46 (pick (t 34) (t 45) a9)] [(0,0),(1,0),(2,0),(3,0),(4,0),(5,0),(6,0),(7,0),(8,0),(9,0),(10,0),(11,0),(12,2),(13,0),(14,0)]).seq (aq 46 (ab [cO 2 (mov (cN 14))] ret) skip))))).seq (ops 0 [aa 12 3,ap 13 .add 12 1,aa 3 13]))).loop)).seq (ab [cO 2 (mov (cN 0))] ret)))))
theorem L4:Is Tryz.prog 117 MX:=mkI Tryz.func117
def Ke:F2:=(F2.mk 28 [RV.t 4,RV.t 5] (ab [cO 4 (mov (c AV.esl)),cO 5 (mov a9)] (ab [cO 6 (mov (c AV.esl))] ((ab [cO 7 (mov (cN 0))] (block 0 ((ab [aa 9 7,aa 10 1,aY 11 10,aN 12 .lss 9 11] (aq 12 skip (exit 0))).seq ((block 1 (ab [aa 15 0,aa 16 1,aa 17 7,cO 18 (ixaS 1 (t 16) (t 17)),aD 19 18,aG 20 121 [t 15,t 19],aa 8 20] ((ab [aa 21 8,ap 22 .lss 21 0] (aq 22 (ab [cO 4 (mov (c AV.esl)),cO 5 (mov a9)] ret) skip)).seq (ops 0 [aa 23 6,aa 24 8,cO 25 (bldS 1 1 [ba] [(0,1,t 24)]),cO 26 (app 1 8 (t 23) (t 25)),aa 6 26])))).seq (ops 0 [aa 13 7,ap 14 .add 13 1,aa 7 14]))).loop)).seq (ab [aa 27 6,aa 4 27,cO 5 (mov cK)] ret)))))
theorem MC:Is Tryz.prog 118 Ke:=mkI Tryz.func118
def KW:F2:=(F2.mk 79 [RV.t 4] (ab [cO 4 (mov (c AV.esl))] (ab [cO 5 (mov (c AV.esl))] (ab [cO 6 (mov (cN 0)),cO 7 (mov (cN 0))] ((block 0 ((ab [aa 8 6,aa 9 0,aY 10 9,aN 11 .lss 8 10,aa 12 11,be 13 12 (cM 7),be 14 12 (cM 1),be 15 12 (lenS (t 14)),be 16 12 (cB .lss (t 13) (t 15)),cO 17 (pick (t 12) cK (t 16))] (aq 17 skip (exit 0))).seq (block 1 ((mixS 1 [aa 18 7,aa 19 1,aY 20 19,aN 21 .eql 18 20,aa 22 21,be 23 22 (cM 6),be 24 22 (cM 0),be 25 22 (lenS (t 24)),be 26 22 (cB .lss (t 23) (t 25)),be 27 22 (cM 26),an 28 27 (cM 0),an 29 27 (cM 6),an 30 27 (ixaS 1 (t 28) (t 29)),an 31 27 (cD 30),an 32 27 (cM 1),an 33 27 (cM 7),an 34 27 (ixaS 1 (t 32) (t 33)),an 35 27 (cD 34),an 36 27 (call (cF 73) [t 31,t 35]),an 37 27 (cB .lss (t 36) (cN 0)),be 38 22 (pick (t 27) (t 37) a9),cO 39 (pick (t 22) cK (t 38))] [(0,0),(1,0),(2,0),(3,0),(4,0),(5,0),(6,0),(7,0),(8,0),(9,0),(10,0),(11,0),(12,0),(13,0),(14,0),(15,0),(16,0),(17,0),(18,2),(19,0),(20,0),(21,0)]).seq (aq 39 (ab [aa 40 5,aa 41 0,aa 42 6,cO 43 (ixaS 1 (t 41) (t 42)),aD 44 43,cO 45 (bldS 1 1 [AV.esl] [(0,1,t 44)]),cO 46 (app 1 24 (t 40) (t 45)),aa 5 46] (ops 0 [aa 47 6,ap 48 .add 47 1,aa 6 48])) ((mixS 1 [aa 49 6,aa 50 0,aY 51 50,aN 52 .eql 49 51,aa 53 52,be 54 53 (cM 1),be 55 53 (cM 7),be 56 53 (ixaS 1 (t 54) (t 55)),be 57 53 (cD 56),be 58 53 (cM 0),be 59 53 (cM 6),be 60 53 (ixaS 1 (t 58) (t 59)),be 61 53 (cD 60),be 62 53 (call (cF 73) [t 57,t 61]),be 63 53 (cB .lss (t 62) (cN 0)),cO 64 (pick (t 53) cK (t 63))] [(0,0),(1,0),(2,0),(3,0),(4,0),(5,0),(6,0),(7,0),(8,0),(9,0),(10,0),(11,0),(12,0),(13,2),(14,0),(15,0)]).seq (aq 64 (ab [aa 65 5,aa 66 1,aa 67 7,cO 68 (ixaS 1 (t 66) (t 67)),aD 69 68,cO 70 (bldS 1 1 [AV.esl] [(0,1,t 69)]),cO 71 (app 1 24 (t 65) (t 70)),aa 5 71] (ops 0 [aa 72 7,ap 73 .add 72 1,aa 7 73])) (ab [aa 74 6,ap 75 .add 74 1,aa 6 75] (ops 0 [aa 76 7,ap 77 .add 76 1,aa 7 77])))))))).loop).seq (ab [aa 78 5,aa 4 78] ret))))))
theorem Mu:Is Tryz.prog 119 KW:=mkI Tryz.func119
def LD:F2:=(F2.mk 19 [RV.t 4] (ab [cO 4 (mov (cN 0))] ((ab [cO 5 (mov (cN 0))] (block 0 ((ab [aa 6 5,aa 7 0,aY 8 7,aN 9 .lss 6 8] (aq 9 skip (exit 0))).seq ((block 1 (ab [aa 12 0,aa 13 5,cO 14 (ixaS 1 (t 12) (t 13)),aD 15 14,aa 16 1,aG 17 63 [t 15,t 16]] (aq 17 (ab [aa 18 5,aa 4 18] ret) skip))).seq (ops 0 [aa 10 5,ap 11 .add 10 1,aa 5 11]))).loop)).seq (ab [cO 4 (mov (cN ((-1))))] ret))))
theorem MV:Is Tryz.prog 121 LD:=mkI Tryz.func121
def KV:F2:=(F2.mk 39 [RV.t 6] (ab [cO 6 (mov (cN 0))] ((ab [aa 11 0,aY 12 11,cO 13 (mov (cN 0))] (block 0 (ab [aN 14 .lss 13 12] ((aq 14 skip (exit 0)).seq ((block 1 (ab [aa 15 13,cO 16 (ixaS 2 (t 11) (t 13)),bj 17 2 16,cO 8 (alloc (AV.agg [ba,ba])),aa 7 15,br 2 8 17] ((ab [aa 18 7,aa 19 1,aY 20 19,aN 21 .geq 18 20] (aq 21 (ab [cO 6 (mov (cN 1))] ret) skip)).seq (ab [aa 22 1,aa 23 7,cO 24 (ixaS 2 (t 22) (t 23)),bj 25 2 24,cO 9 (alloc (AV.agg [ba,ba])),br 2 9 25] (ab [aa 26 2,bj 27 2 8,bj 28 2 9,cO 29 (call (t 26) [t 27,t 28]),aa 10 29] (ab [aa 30 10,ap 31 .neq 30 0] (aq 31 (ab [aa 32 10,aa 6 32] ret) skip))))))).seq (ops 0 [ap 33 .add 13 1,aa 13 33])))).loop)).seq ((ab [aa 34 0,aY 35 34,aa 36 1,aY 37 36,aN 38 .lss 35 37] (aq 38 (ab [cO 6 (mov (cN ((-1))))] ret) skip)).seq (ab [cO 6 (mov (cN 0))] ret)))))
theorem L9:Is Tryz.prog 122 KV:=mkI Tryz.func122
def M9:F2:=(F2.mk 17 [RV.t 4] (ab [cO 2 (box (t 0)),cO 3 (box (t 1)),cO 4 (mov (cN 0))] ((mixS 1 [bE 5 0 2,aD 6 5,bE 7 0 3,aD 8 7,aG 9 152 [t 6,t 8],bE 10 1 2,aD 11 10,bE 12 1 3,aD 13 12,aG 14 152 [t 11,t 13],cO 15 (bldS 1 2 [ba] [(0,1,t 9),(1,1,t 14)]),aG 16 151 [t 15],aa 4 16] [(0,0),(1,0),(2,0),(3,0),(5,0),(6,0),(7,0),(8,0),(4,1),(9,2),(10,2),(11,2),(12,0)]).seq ret)))
theorem Lh:Is Tryz.prog 123 M9:=mkI Tryz.func123
def LF:F2:=(F2.mk 61 [RV.t 4] (ab [cO 4 (mov (c AV.esl))] (ab [aa 6 0,aY 7 6,aa 8 1,aY 9 8,aN 10 .add 7 9,cO 11 (mks 1 8 [ba] (cN 0) (t 10)),aa 5 11] ((block 0 ((ab [aa 12 0,aY 13 12,ap 14 .gtr 13 0,aa 15 14,an 16 15 (cM 1),an 17 15 (lenS (t 16)),an 18 15 (cB .gtr (t 17) (cN 0)),cO 19 (pick (t 15) (t 18) a9)] (aq 19 skip (exit 0))).seq (block 1 (block 2 ((ops 1 [aa 25 0,cO 26 (ixaS 1 (t 25) (cN 0)),aD 27 26,aa 28 1,cO 29 (ixaS 1 (t 28) (cN 0)),aD 30 29,aN 31 .lss 27 30,aa 24 31]).seq (aq 24 (ops 1 [aa 32 5,aa 33 0,cO 34 (ixaS 1 (t 33) (cN 0)),aD 35 34,cO 36 (bldS 1 1 [ba] [(0,1,t 35)]),cO 37 (app 1 8 (t 32) (t 36)),aa 38 0,cO 39 (sls 1 (t 38) (some (cN 1)) none none),aa 5 37,aa 0 39]) ((ops 1 [aa 41 0,cO 42 (ixaS 1 (t 41) (cN 0)),aD 43 42,aa 44 1,cO 45 (ixaS 1 (t 44) (cN 0)),aD 46 45,aN 47 .gtr 43 46,aa 40 47]).seq (aq 40 (ops 1 [aa 48 5,aa 49 1,cO 50 (ixaS 1 (t 49) (cN 0)),aD 51 50,cO 52 (bldS 1 1 [ba] [(0,1,t 51)]),cO 53 (app 1 8 (t 48) (t 52)),aa 54 1,cO 55 (sls 1 (t 54) (some (cN 1)) none none),aa 5 53,aa 1 55]) (ops 1 [aa 20 0,cO 21 (sls 1 (t 20) (some (cN 1)) none none),aa 22 1,cO 23 (sls 1 (t 22) (some (cN 1)) none none),aa 0 21,aa 1 23])))))))).loop).seq (ab [aa 56 5,aa 57 0,cO 58 (app 1 8 (t 56) (t 57)),aa 59 1,cO 60 (app 1 8 (t 58) (t 59)),aa 4 60] ret)))))
theorem Kr:Is Tryz.prog 124 LF:=mkI Tryz.func124
def LA:F2:=(F2.mk 21 [RV.t 2] (ab [cO 1 (box (t 0)),cO 2 (mov a9)] (ab [bE 3 0 1,aD 4 3,ap 5 .geq 4 0,aa 6 5,an 7 6 (fa 0 (t 1)),an 8 6 (cD 7),an 9 6 (cB .lss (t 8) (cN 8)),cO 10 (pick (t 6) (t 9) a9),aa 11 10,an 12 11 (fa 1 (t 1)),an 13 11 (cD 12),an 14 11 (cB .geq (t 13) (cN 0)),cO 15 (pick (t 11) (t 14) a9),aa 16 15,an 17 16 (fa 1 (t 1)),an 18 16 (cD 17),an 19 16 (cB .leq (t 18) (cN 1048576)),cO 20 (pick (t 16) (t 19) a9),aa 2 20] ret)))
theorem KA:Is Tryz.prog 125 LA:=mkI Tryz.func125
def KG:F2:=(F2.mk 29 [RV.t 4] (ab [cO 2 (box (t 0)),cO 3 (box (t 1)),cO 4 (mov (cN 0))] ((block 0 (ab [bE 6 0 2,aD 7 6,bE 8 0 3,aD 9 8,aN 10 .lss 7 9,aa 5 10] (aq 5 (ab [cO 4 (mov (cN ((-1))))] ret) (ab [bE 12 0 2,aD 13 12,bE 14 0 3,aD 15 14,aN 16 .gtr 13 15,aa 11 16] (aq 11 (ab [cO 4 (mov (cN 1))] ret) (ab [bE 18 1 2,aD 19 18,bE 20 1 3,aD 21 20,aN 22 .lss 19 21,aa 17 22] (aq 17 (ab [cO 4 (mov (cN ((-1))))] ret) (ab [bE 24 1 2,aD 25 24,bE 26 1 3,aD 27 26,aN 28 .gtr 25 27,aa 23 28] (aq 23 (ab [cO 4 (mov (cN 1))] ret) skip))))))))).seq (ab [cO 4 (mov (cN 0))] ret))))
theorem J0:Is Tryz.prog 126 KG:=mkI Tryz.func126
def Mg:F2:=(F2.mk 18 [RV.t 4] (ab [cO 3 (box (t 1)),cO 4 (mov a9)] ((ab [cO 5 (mov (cN 0))] (block 0 ((ab [aa 6 5,aa 7 0,aY 8 7,aN 9 .lss 6 8] (aq 9 skip (exit 0))).seq ((block 1 ((ops 1 [aa 12 0,aa 13 5,cO 14 (ixaS 2 (t 12) (t 13)),bj 15 2 14,bj 16 2 3,cO 17 (binS BinOp.eql [int,int] (t 15) (t 16))]).seq (aq 17 (ab [cO 4 (mov cK)] ret) skip))).seq (ops 0 [aa 10 5,ap 11 .add 10 1,aa 5 11]))).loop)).seq (ab [cO 4 (mov a9)] ret))))
theorem J9:Is Tryz.prog 127 Mg:=mkI Tryz.func127
def MO:F2:=(F2.mk 36 [RV.t 2] (ab [cO 2 (mov (cN 0))] ((block 0 (ab [aa 6 0,aY 7 6,ap 8 .eql 7 0,aa 5 8] (aq 5 (ab [cO 2 (mov (cN 16))] ret) (ab [aa 10 0,aY 11 10,ap 12 .gtr 11 8,aa 9 12] (aq 9 (ab [cO 2 (mov (cN 5))] ret) skip))))).seq ((ab [aa 13 0,aY 14 13,cO 15 (mov (cN 0))] (block 1 (ab [aN 16 .lss 15 14] ((aq 16 skip (exit 1)).seq ((block 2 (ab [aa 17 15,cO 18 (ixaS 2 (t 13) (t 15)),bj 19 2 18,cO 4 (alloc (AV.agg [ba,ba])),aa 3 17,br 2 4 19] ((ab [bj 20 2 4,aG 21 153 [t 20],cO 22 (un UnOp.not (t 21))] (aq 22 (ab [cO 2 (mov (cN 2))] ret) skip)).seq ((mixS 1 [aa 23 3,ap 24 .gtr 23 0,aa 25 24,an 26 25 (cM 0),an 27 25 (cM 3),an 28 25 (cB .sub (t 27) (cN 1)),an 29 25 (ixaS 2 (t 26) (t 28)),an 30 25 (ldn 2 (t 29)),an 31 25 (ldn 2 (t 4)),an 32 25 (call (cF 123) [t 30,t 31]),an 33 25 (cB .geq (t 32) (cN 0)),cO 34 (pick (t 25) (t 33) a9)] [(0,0),(1,0),(2,0),(3,0),(4,0),(5,0),(6,0),(7,0),(8,0),(9,2),(10,0),(11,0)]).seq (aq 34 (ab [cO 2 (mov (cN 14))] ret) skip))))).seq (ops 0 [ap 35 .add 15 1,aa 15 35])))).loop)).seq (ab [cO 2 (mov (cN 0))] ret)))))
theorem K6:Is Tryz.prog 128 MO:=mkI Tryz.func128
def LV:F2:=(F2.mk 4 [RV.t 2] (ab [cO 1 (box (t 0)),cO 2 (mov (c AV.nilf))] (ab [cO 3 (mkfn 154 [t 1]),aa 2 3] ret)))
theorem Kc:Is Tryz.prog 129 LV:=mkI Tryz.func129
def Jc:F2:=(F2.mk 14 [] (ab [aa 5 0,aY 6 5,aa 4 6] (ops 0 [aa 7 0,aa 8 4,aa 9 4,cO 10 (conv IntKind.u64 (t 9)),aG 11 156 [t 10],aa 12 1,aG 13 155 ([t 7,cN ((0)),t 8,t 11,t 12])])))
theorem Ir:Is Tryz.prog 130 Jc:=mkI Tryz.func130
def LQ:F2:=(F2.mk 10 [RV.t 6] (ab [cO 3 (box (t 0)),cO 5 (box (t 2)),cO 6 (mov a9)] (ab [aa 7 1,cO 8 (mkfn 157 [t 3,t 5]),aG 9 48 [t 7,t 8],aa 6 9] ret)))
theorem Mz:Is Tryz.prog 131 LQ:=mkI Tryz.func131
def Mw:F2:=(F2.mk 49 [RV.t 6,RV.t 7] (ab [cO 6 (mov (cN 0)),cO 7 (mov a9)] (ab [aa 12 0,aY 13 12,aa 8 13] (ab [aa 14 8,cO 9 (mov (cN 0)),aa 10 14] ((block 0 ((ab [aa 15 9,aa 16 10,aN 17 .lss 15 16] (aq 17 skip (exit 0))).seq (block 1 (ab [aa 18 9,aa 19 10,aN 20 .add 18 19,cO 21 (conv IntKind.u64 (t 20)),cO 22 (cB .shr (t 21) (c (AV.int IntKind.u64 (1)))),cO 23 (conv IntKind.i64 (t 22)),aa 11 23] (ab [aa 24 2,aa 25 0,aa 26 11,cO 27 (ixaS 1 (t 25) (t 26)),aD 28 27,aa 29 1,cO 30 (call (t 24) [t 28,t 29]),ap 31 .lss 30 0] (aq 31 (ops 0 [aa 32 11,ap 33 .add 32 1,aa 9 33]) (ops 0 [aa 34 11,aa 10 34])))))).loop).seq (ab [aa 35 9,aa 36 9,aa 37 8,aN 38 .lss 36 37,aa 39 38,an 40 39 (cM 2),an 41 39 (cM 0),an 42 39 (cM 9),an 43 39 (ixaS 1 (t 41) (t 42)),an 44 39 (cD 43),an 45 39 (cM 1),an 46 39 (call (t 40) [t 44,t 45]),an 47 39 (cB .eql (t 46) (cN 0)),cO 48 (pick (t 39) (t 47) a9),aa 6 35,aa 7 48] ret))))))
theorem Mi:Is Tryz.prog 132 Mw:=mkI Tryz.func132
def Mq:F2:=(F2.mk 52 [RV.cn 2 2,RV.t 3] (ab [cO 1 (box (t 0)),cO 2 (alloc (AV.agg [ba,AV.esl])),cO 3 (mov (cN 0))] ((ab [bj 10 2 1,aG 11 113 [t 10],aa 4 11] (ab [aa 12 4,ap 13 .neq 12 0] (aq 13 (ab [cO 14 (bld [ba,AV.esl] []),aa 15 4,br 2 2 14,aa 3 15] ret) skip))).seq ((ops 1 [bE 16 1 1,aD 17 16,aY 18 17,bE 19 0 1,aD 20 19,cO 21 (mks 1 24 [AV.esl] (t 20) (t 20)),cO 22 (bld [ba,AV.esl] [(0,1,t 18),(1,1,t 21)]),cO 5 (alloc (AV.agg [ba,AV.esl])),br 2 5 22]).seq ((ab [bE 23 1 1,aD 24 23,aY 25 24,cO 26 (mov (cN 0))] (block 0 (ab [aN 27 .lss 26 25] ((aq 27 skip (exit 0)).seq ((block 1 (ab [aa 28 26,cO 29 (ixaS 1 (t 24) (t 26)),aD 30 29,aa 6 28,aa 7 30] (ab [aa 31 7,aY 32 31,cO 33 (mov (cN 0))] (block 2 (ab [aN 34 .lss 33 32] ((aq 34 skip (exit 2)).seq ((block 3 (ab [cO 35 (ixaS 1 (t 31) (t 33)),aD 36 35,aa 9 36] (mixS 2 [bE 37 1 5,aD 38 37,aa 39 9,bE 40 1 5,aD 41 40,aa 42 9,cO 43 (ixaS 1 (t 41) (t 42)),aD 44 43,aa 45 6,cO 46 (bldS 1 1 [ba] [(0,1,t 45)]),cO 47 (app 1 8 (t 44) (t 46)),cO 48 (ixaS 1 (t 38) (t 39)),br 1 48 47] [(0,0),(1,0),(2,0),(3,0),(4,0),(5,0),(6,0),(7,0),(8,0),(9,1),(10,1),(11,0),(12,2)]))).seq (ops 0 [ap 49 .add 33 1,aa 33 49])))).loop)))).seq (ops 0 [ap 50 .add 26 1,aa 26 50])))).loop)).seq (ab [bj 51 2 5,br 2 2 51,cO 3 (mov (cN 0))] ret))))))
theorem LG:Is Tryz.prog 133 Mq:=mkI Tryz.func133
def Lr:F2:=(F2.mk 39 [RV.cn 2 2,RV.t 3] (ab [cO 1 (box (t 0)),cO 2 (alloc (AV.agg [ba,AV.esl])),cO 3 (mov (cN 0))] ((ab [bj 10 2 1,aG 11 113 [t 10],aa 4 11] (ab [aa 12 4,ap 13 .neq 12 0] (aq 13 (ab [cO 14 (bld [ba,AV.esl] []),aa 15 4,br 2 2 14,aa 3 15] ret) skip))).seq (ab [bE 16 0 1,aD 17 16,cO 18 (bld [ba,AV.esl] [(0,1,t 17)]),cO 5 (alloc (AV.agg [ba,AV.esl])),br 2 5 18] (ab [bj 20 2 1,aG 21 115 [t 20],aa 19 21,aV 22 19 0,aV 23 19 1,aa 6 22,aa 7 23] ((ab [aa 24 6,aY 25 24,cO 26 (mov (cN 0))] (block 0 (ab [aN 27 .lss 26 25] ((aq 27 skip (exit 0)).seq ((block 1 (ab [cO 28 (ixaS 2 (t 24) (t 26)),bj 29 2 28,cO 9 (alloc (AV.agg [AV.esl,AV.esl])),br 2 9 29] (ops 0 [bE 30 1 5,aD 31 30,bE 32 0 9,aD 33 32,cO 34 (bldS 1 1 [AV.esl] [(0,1,t 33)]),cO 35 (app 1 24 (t 31) (t 34)),bE 36 1 5,br 1 36 35]))).seq (ops 0 [ap 37 .add 26 1,aa 26 37])))).loop)).seq (ab [bj 38 2 5,br 2 2 38,cO 3 (mov (cN 0))] ret)))))))
theorem ME:Is Tryz.prog 134 Lr:=mkI Tryz.func134
def K7:F2:=(F2.mk 8 [RV.t 2] (ab [cO 2 (mov (c AV.esl))] ((ab [aa 3 0,cO 4 (snil false (t 3))] (aq 4 (ab [cO 2 (mov (c AV.esl))] ret) skip)).seq (ab [cO 5 (bldS 1 0 [AV.esl] []),aa 6 0,cO 7 (app 1 24 (t 5) (t 6)),aa 2 7] ret))))
theorem MJ:Is Tryz.prog 135 K7:=mkI Tryz.func135
def JA:F2:=(F2.mk 8 [RV.t 2] (ab [cO 2 (mov (c AV.esl))] ((ab [aa 3 0,cO 4 (snil false (t 3))] (aq 4 (ab [cO 2 (mov (c AV.esl))] ret) skip)).seq (ab [cO 5 (bldS 2 0 [ba,ba] []),aa 6 0,cO 7 (app 2 16 (t 5) (t 6)),aa 2 7] ret))))
theorem Iq:Is Tryz.prog 136 JA:=mkI Tryz.func136
def Kz:F2:=(F2.mk 24 [RV.t 4,RV.t 5] (ab [cO 4 (mov (c AV.esl)),cO 5 (mov (cN 0))] ((ab [aa 7 0,aG 8 128 [t 7],aa 6 8] (ab [aa 9 6,ap 10 .neq 9 0] (aq 10 (ab [aa 11 6,cO 4 (mov (c AV.esl)),aa 5 11] ret) skip))).seq ((ab [aa 12 1,ap 13 .lss 12 1,aa 14 13,be 15 14 (cM 1),be 16 14 (cM 0),be 17 14 (lenS (t 16)),be 18 14 (cB .gtr (t 15) (t 17)),cO 19 (pick (t 14) cK (t 18))] (aq 19 (ab [cO 4 (mov (c AV.esl)),cO 5 (mov (cN 2))] ret) skip)).seq (ab [aa 20 0,aa 21 1,aG 22 160 [t 20,t 21],aG 23 159 [t 22],aa 4 23,cO 5 (mov (cN 0))] ret)))))
theorem Ls:Is Tryz.prog 137 Kz:=mkI Tryz.func137
def LL:F2:=(F2.mk 16 [RV.cn 2 16] (ab [cO 2 (alloc (AV.agg [ba,ba,ba,ba,ba,ba,ba,ba,ba,ba,ba,ba,ba,ba,ba,ba]))] (ab [cO 3 (alloc (AV.agg [ba,ba,ba,ba,ba,ba,ba,ba,ba,ba,ba,ba,ba,ba,ba,ba]))] ((ab [cO 5 (mov (cN 0))] (block 0 (ab [ap 6 .lss 5 8] ((aq 6 skip (exit 0)).seq ((block 1 (ab [aa 7 5,aa 4 7] (ops 0 [aa 8 4,cO 9 (ixaA 8 2 (t 3) (t 8)),bE 10 0 9,Op2.mk none none (Ins.st 1 (t 10) (cN ((-1))))]))).seq (ops 0 [ap 11 .add 5 1,aa 5 11])))).loop)).seq (ab [cO 12 (slp 8 2 (t 3)),aa 13 0,cO 14 (cpy 2 (t 12) (t 13))] (ab [bj 15 16 3,br 16 2 15] ret))))))
theorem Li:Is Tryz.prog 138 LL:=mkI Tryz.func138
def M3:F2:=(F2.mk 36 [RV.t 2] (ab [cO 2 (mov (c AV.esl))] (ab [cO 3 (mov (cN 0))] ((ab [aa 9 0,aY 10 9,cO 11 (mov (cN 0))] (block 0 (ab [aN 12 .lss 11 10] ((aq 12 skip (exit 0)).seq ((block 1 (ab [cO 13 (ixaS 1 (t 9) (t 11)),aD 14 13,aa 5 14] (ab [aa 15 3,aa 16 5,aY 17 16,aN 18 .add 15 17,aa 3 18] (ab [aa 19 3,ap 20 .lss 19 0] (aq 20 (ops 0 [cO 21 dead,Op2.mk none none dead]) skip))))).seq (ops 0 [ap 22 .add 11 1,aa 11 22])))).loop)).seq (ab [aa 23 3,aG 24 161 [c AV.esl,t 23],aa 6 24] ((ab [aa 25 0,aY 26 25,cO 27 (mov (cN 0))] (block 2 (ab [aN 28 .lss 27 26] ((aq 28 skip (exit 2)).seq ((block 3 (ab [cO 29 (ixaS 1 (t 25) (t 27)),aD 30 29,aa 8 30] (ops 0 [aa 31 6,aa 32 8,cO 33 (app 2 16 (t 31) (t 32)),aa 6 33]))).seq (ops 0 [ap 34 .add 27 1,aa 27 34])))).loop)).seq (ab [aa 35 6,aa 2 35] ret)))))))
theorem Lz:Is Tryz.prog 141 M3:=mkI Tryz.func141
def M8:F2:=(F2.mk 6 [RV.t 2] (ab [cO 2 (mov a9)] (ab [aa 3 0,aY 4 3,ap 5 .leq 4 10,aa 2 5] ret)))
theorem KB:Is Tryz.prog 145 M8:=mkI Tryz.func145
def Mv:F2:=(F2.mk 14 [RV.t 4] (ab [cO 4 (mov a9)] (ab [aa 8 0,aa 9 1,aG 10 163 [t 8,t 9],aa 7 10,aV 11 7 0,aV 12 7 1,aa 5 11,aa 6 12] (ab [aa 13 6,aa 4 13] ret))))
theorem MM:Is Tryz.prog 146 Mv:=mkI Tryz.func146
def Ly:F2:=(F2.mk 11 [] (ab [aa 3 0,aY 4 3,aa 2 4] (ops 0 [aa 5 0,aa 6 2,aa 7 2,cO 8 (conv IntKind.u64 (t 7)),aG 9 156 [t 8],aG 10 164 ([t 5,cN ((0)),t 6,t 9])])))
theorem Ks:Is Tryz.prog 147 Ly:=mkI Tryz.func147
def LN:F2:=(F2.mk 22 [RV.t 6] (ab [cO 6 (mov (cN 0))] ((ab [aa 8 1,aa 7 8] (block 0 ((ab [aa 9 7,aa 10 0,aY 11 10,aN 12 .lss 9 11] (aq 12 skip (exit 0))).seq ((block 1 (ab [aa 15 0,aa 16 7,cO 17 (ixaS 1 (t 15) (t 16)),aD 18 17,aa 19 2,aG 20 108 [t 18,t 19]] (aq 20 (ab [aa 21 7,aa 6 21] ret) skip))).seq (ops 0 [aa 13 7,ap 14 .add 13 1,aa 7 14]))).loop)).seq (ab [cO 6 (mov (cN ((-1))))] ret))))
theorem La:Is Tryz.prog 148 LN:=mkI Tryz.func148
def Lb:F2:=(F2.mk 38 [RV.cn 3 2] (ab [cO 2 (box (t 0)),cO 3 (alloc (AV.agg [AV.esl,AV.esl]))] ((ab [cO 4 (mov (cN 0))] (block 0 ((ab [aa 7 4,bE 8 0 2,aD 9 8,aY 10 9,aN 11 .lss 7 10] (aq 11 skip (exit 0))).seq (block 1 ((mixS 9 [aD 13 1,bE 14 0 2,aD 15 14,aa 16 4,cO 17 (ixaS 1 (t 15) (t 16)),aD 18 17,cO 19 (Ins.mget (one int) (AV.agg [AV.esl,AV.esl]) true (t 13) (t 18)),aa 12 19,aV 20 12 0,aV 21 12 1,cO 5 (alloc (AV.agg [AV.esl,AV.esl])),br 2 5 20,aa 6 21] [(0,0),(1,0),(2,0),(3,0),(4,0),(5,0),(6,4),(7,0),(8,0),(9,0),(10,1),(11,2),(12,0)]).seq ((ab [aa 22 6,cO 23 (un UnOp.not (t 22))] (aq 23 (ab [aa 24 4,ap 25 .add 24 1,aa 4 25] (exit 1)) skip)).seq (mixS 1 [bE 26 0 2,aD 27 26,bE 28 0 5,aD 29 28,aG 30 124 [t 27,t 29],bE 31 1 2,aD 32 31,bE 33 1 5,aD 34 33,aG 35 124 [t 32,t 34],cO 36 (bld [AV.esl,AV.esl] [(0,1,t 30),(1,1,t 35)]),br 2 2 36] [(0,0),(1,0),(2,0),(3,0),(5,0),(6,0),(7,0),(8,0),(4,1),(9,2),(10,0),(11,2)]))))).loop)).seq (ab [bj 37 2 2,br 2 3 37] ret))))
theorem Kn:Is Tryz.prog 149 Lb:=mkI Tryz.func149
def Mf:F2:=(F2.mk 8 [RV.t 2] (ab [cO 2 (mov (c AV.esl))] ((ab [aa 3 0,cO 4 (snil false (t 3))] (aq 4 (ab [cO 2 (mov (c AV.esl))] ret) skip)).seq (ab [cO 5 (bldS 1 0 [ba] []),aa 6 0,cO 7 (app 1 8 (t 5) (t 6)),aa 2 7] ret))))
theorem LU:Is Tryz.prog 150 Mf:=mkI Tryz.func150
def LK:F2:=(F2.mk 18 [RV.t 2] (ab [cO 2 (mov (cN 0))] (ab [cO 3 (mov (cN 0))] ((ab [aa 6 0,aY 7 6,cO 8 (mov (cN 0))] (block 0 (ab [aN 9 .lss 8 7] ((aq 9 skip (exit 0)).seq ((block 1 (ab [cO 10 (ixaS 1 (t 6) (t 8)),aD 11 10,aa 5 11] (ab [aa 12 5,aa 13 3,aN 14 .neq 12 13] (aq 14 (ab [aa 15 5,aa 2 15] ret) skip)))).seq (ops 0 [ap 16 .add 8 1,aa 8 16])))).loop)).seq (ab [aa 17 3,aa 2 17] ret)))))
theorem Ko:Is Tryz.prog 151 LK:=mkI Tryz.func151
def Kw:F2:=(F2.mk 20 [RV.t 4] (ab [cO 4 (mov (cN 0))] (ab [aa 7 0,aG 8 165 [t 7],aa 5 8] (ab [aa 9 1,aG 10 165 [t 9],aa 6 10] ((ab [aa 11 5] (aq 11 ((ab [aa 12 6] (aq 12 (ab [cO 4 (mov (cN 0))] ret) skip)).seq (ab [cO 4 (mov (cN ((-1))))] ret)) skip)).seq ((ab [aa 13 6] (aq 13 (ab [cO 4 (mov (cN 1))] ret) skip)).seq ((ab [aa 14 0,aa 15 1,aN 16 .lss 14 15] (aq 16 (ab [cO 4 (mov (cN ((-1))))] ret) skip)).seq ((ab [aa 17 0,aa 18 1,aN 19 .gtr 17 18] (aq 19 (ab [cO 4 (mov (cN 1))] ret) skip)).seq (ab [cO 4 (mov (cN 0))] ret)))))))))
theorem KZ:Is Tryz.prog 152 Kw:=mkI Tryz.func152
def Mn:F2:=(F2.mk 21 [RV.t 2] (ab [cO 1 (box (t 0)),cO 2 (mov a9)] (ab [bE 3 0 1,aD 4 3,ap 5 .geq 4 0,aa 6 5,an 7 6 (fa 0 (t 1)),an 8 6 (cD 7),an 9 6 (cB .lss (t 8) (cN 8)),cO 10 (pick (t 6) (t 9) a9),aa 11 10,an 12 11 (fa 1 (t 1)),an 13 11 (cD 12),an 14 11 (cB .geq (t 13) (cN 0)),cO 15 (pick (t 11) (t 14) a9),aa 16 15,an 17 16 (fa 1 (t 1)),an 18 16 (cD 17),an 19 16 (cB .leq (t 18) (cN 1048576)),cO 20 (pick (t 16) (t 19) a9),aa 2 20] ret)))
theorem ML:Is Tryz.prog 153 Mn:=mkI Tryz.func153
def Ky:F2:=(F2.mk 27 [] (ab [aD 4 1,aY 5 4,cO 6 (mov (cN 0))] (block 0 (ab [aN 7 .lss 6 5] ((aq 7 skip (exit 0)).seq ((block 1 (ab [aa 8 6,aa 3 8] ((mixS 1 [aD 9 1,aY 10 9,ap 11 .gtr 10 1,aa 12 11,an 13 12 (cM 0),an 14 12 (cD 1),an 15 12 (cM 3),an 16 12 (sls 2 (t 14) none (some (t 15)) none),an 17 12 (cD 1),an 18 12 (cM 3),an 19 12 (cB .add (t 18) (cN 1)),an 20 12 (sls 2 (t 17) (some (t 19)) none none),an 21 12 (bldS 1 2 [AV.esl] [(0,1,t 16),(1,1,t 20)]),an 22 12 (call (cF 141) [t 21]),an 23 12 (call (t 13) [t 22]),an 24 12 (un UnOp.not (t 23)),cO 25 (pick (t 12) (t 24) a9)] [(0,0),(1,0),(2,0),(3,0),(4,0),(5,0),(6,0),(7,0),(8,0),(9,0),(10,0),(11,0),(12,2),(13,2),(14,2),(15,0),(16,0)]).seq (aq 25 ret skip)))).seq (ops 0 [ap 26 .add 6 1,aa 6 26])))).loop)))
theorem Kp:Is Tryz.prog 154 Ky:=mkI Tryz.func154
def Jj:F2:=(F2.mk 148 [] (ab [cO 10 (mov cK)] (ab [cO 11 (mov cK)] (block 0 (block 1 (ab [aa 21 2,aa 22 1,aN 23 .sub 21 22,aa 12 23] ((ab [aa 24 12,ap 25 .leq 24 12] (aq 25 (ab [aa 26 0,aa 27 1,aa 28 2,aa 29 4,aG 30 166 [t 26,t 27,t 28,t 29]] ret) skip)).seq ((ab [aa 31 3,ap 32 .eql 31 0] (aq 32 (ab [aa 33 0,aa 34 1,aa 35 2,aa 36 4,aG 37 167 [t 33,t 34,t 35,t 36]] ret) skip)).seq ((ab [aa 38 10,cO 39 (un UnOp.not (t 38))] (aq 39 (ab [aa 40 0,aa 41 1,aa 42 2,aa 43 4,aG 44 168 [t 40,t 41,t 42,t 43]] (ops 0 [aa 45 3,ap 46 .sub 45 1,aa 3 46])) skip)).seq (ab [aa 48 0,aa 49 1,aa 50 2,aa 51 4,aG 52 169 [t 48,t 49,t 50,t 51],aa 47 52,aV 53 47 0,aV 54 47 1,aa 13 53,aa 14 54] ((ab [aa 55 14,ap 56 .eql 55 2] (aq 56 (ab [aa 57 0,aa 58 1,aa 59 2,aa 60 4,aG 61 170 [t 57,t 58,t 59,t 60]] (ab [aa 62 2,ap 63 .sub 62 1,aa 64 13,aa 65 1,aN 66 .sub 64 65,aN 67 .sub 63 66,aa 13 67] (ops 0 [cO 14 (mov (cN 1))]))) skip)).seq ((ab [aa 68 10,aa 69 68,an 70 69 (cM 11),cO 71 (pick (t 69) (t 70) a9),aa 72 71,an 73 72 (cM 14),an 74 72 (cB .eql (t 73) (cN 1)),cO 75 (pick (t 72) (t 74) a9)] (aq 75 (ab [aa 76 0,aa 77 1,aa 78 2,aa 79 4,aG 80 171 [t 76,t 77,t 78,t 79]] (aq 80 ret skip)) skip)).seq (((mixS 1 [aa 81 1,ap 82 .gtr 81 0,aa 83 82,an 84 83 (cM 4),an 85 83 (cM 0),an 86 83 (cM 1),an 87 83 (cB .sub (t 86) (cN 1)),an 88 83 (ixaS 1 (t 85) (t 87)),an 89 83 (cD 88),an 90 83 (cM 0),an 91 83 (cM 13),an 92 83 (ixaS 1 (t 90) (t 91)),an 93 83 (cD 92),an 94 83 (call (t 84) [t 89,t 93]),an 95 83 (cB .lss (t 94) (cN 0)),an 96 83 (un UnOp.not (t 95)),cO 97 (pick (t 83) (t 96) a9)] [(0,0),(1,0),(2,0),(3,0),(4,0),(5,0),(6,0),(7,0),(8,0),(9,0),(10,0),(11,0),(12,0),(13,2),(14,0),(15,0),(16,0)]).seq (aq 97 (ab [aa 98 0,aa 99 1,aa 100 2,aa 101 13,aa 102 4,aG 103 172 [t 98,t 99,t 100,t 101,t 102],aa 15 103] (ab [aa 104 15,aa 1 104] (exit 1))) skip)).seq (ab [aa 106 0,aa 107 1,aa 108 2,aa 109 13,aa 110 4,aG 111 173 [t 106,t 107,t 108,t 109,t 110],aa 105 111,aV 112 105 0,aV 113 105 1,aa 16 112,aa 17 113] (ab [aa 114 17,aa 11 114] (ab [aa 115 16,aa 116 1,aN 117 .sub 115 116,aa 118 2,aa 119 16,aN 120 .sub 118 119,aa 18 117,aa 19 120] (ab [aa 121 12,ap 122 .quo 121 8,aa 20 122] (ab [aa 123 18,aa 124 19,aN 125 .lss 123 124] (aq 125 (ab [aa 126 18,aa 127 20,aN 128 .geq 126 127,aa 10 128] (ab [aa 129 0,aa 130 1,aa 131 16,aa 132 3,aa 133 4,aG 134 155 [t 129,t 130,t 131,t 132,t 133]] (ops 0 [aa 135 16,ap 136 .add 135 1,aa 1 136]))) (ab [aa 137 19,aa 138 20,aN 139 .geq 137 138,aa 10 139] (ab [aa 140 0,aa 141 16,ap 142 .add 141 1,aa 143 2,aa 144 3,aa 145 4,aG 146 155 [t 140,t 142,t 143,t 144,t 145]] (ops 0 [aa 147 16,aa 2 147])))))))))))))))))).loop))))
theorem Iz:Is Tryz.prog 155 Jj:=mkI Tryz.func155
def IU:F2:=(F2.mk 8 [RV.t 2] (ab [cO 2 (mov (cN 0))] ((C2.cond a9 (ab [aa 3 0,cO 4 (conv IntKind.u32 (t 3)),aG 5 174 [t 4],aa 2 5] ret) skip).seq (ab [aa 6 0,aG 7 175 [t 6],aa 2 7] ret))))
theorem Ig:Is Tryz.prog 156 IU:=mkI Tryz.func156
def MH:F2:=(F2.mk 21 [RV.t 4] (ab [cO 4 (mov a9)] ((mixS 1 [aD 5 1,aa 6 0,cO 7 (ixaS 1 (t 5) (t 6)),aD 8 7,aY 9 8,aD 10 2,aY 11 10,aN 12 .gtr 9 11,aa 13 12,an 14 13 (cD 2),an 15 13 (cD 1),an 16 13 (cM 0),an 17 13 (ixaS 1 (t 15) (t 16)),an 18 13 (cD 17),an 19 13 (call (cF 158) [t 14,t 18]),cO 20 (pick (t 13) (t 19) a9),aa 4 20] [(0,0),(1,0),(2,0),(3,0),(4,0),(5,0),(6,0),(7,0),(8,0),(9,0),(10,0),(11,0),(12,0),(13,0),(14,2),(15,0),(16,0)]).seq ret)))
theorem Mr:Is Tryz.prog 157 MH:=mkI Tryz.func157
def MG:F2:=(F2.mk 29 [RV.t 4] (ab [cO 4 (mov a9)] ((ab [aa 7 0,aY 8 7,cO 9 (mov (cN 0))] (block 0 (ab [aN 10 .lss 9 8] ((aq 10 skip (exit 0)).seq ((block 1 (ab [cO 11 (ixaS 2 (t 7) (t 9)),bj 12 2 11,cO 6 (alloc (AV.agg [ba,ba])),br 2 6 12] ((block 2 (((ops 1 [aa 13 1,aY 14 13,ap 15 .gtr 14 0,aa 16 15,an 17 16 (cM 1),an 18 16 (ixaS 2 (t 17) (cN 0)),an 19 16 (ldn 2 (t 18)),an 20 16 (ldn 2 (t 6)),an 21 16 (binS BinOp.neq [int,int] (t 19) (t 20)),cO 22 (pick (t 16) (t 21) a9)]).seq (aq 22 skip (exit 2))).seq (block 3 (ops 0 [aa 23 1,cO 24 (sls 2 (t 23) (some (cN 1)) none none),aa 1 24]))).loop).seq (ab [aa 25 1,aY 26 25,ap 27 .eql 26 0] (aq 27 (ab [cO 4 (mov a9)] ret) skip))))).seq (ops 0 [ap 28 .add 9 1,aa 9 28])))).loop)).seq (ab [cO 4 (mov cK)] ret))))
theorem LI:Is Tryz.prog 158 MG:=mkI Tryz.func158
def Lp:F2:=(F2.mk 5 [RV.t 2] (ab [cO 2 (mov (c AV.esl))] (ab [aa 3 0,aG 4 176 [c AV.esl,t 3],aa 2 4] ret)))
theorem My:Is Tryz.prog 159 Lp:=mkI Tryz.func159
def M4:F2:=(F2.mk 6 [RV.t 4] (ab [cO 2 (box (t 0)),cO 3 (box (t 1)),cO 4 (mov (c AV.nilf))] (ab [cO 5 (mkfn 177 [t 3,t 2]),aa 4 5] ret)))
theorem L2:Is Tryz.prog 160 M4:=mkI Tryz.func160
def Mh:F2:=(F2.mk 27 [RV.t 4] (ab [cO 4 (mov (c AV.esl))] ((ab [aa 5 1,ap 6 .lss 5 0] (aq 6 (ops 0 [cO 7 dead,Op2.mk none none dead]) skip)).seq ((ab [aa 8 1,aa 9 0,cO 10 (capE (t 9)),aa 11 0,aY 12 11,aN 13 .sub 10 12,aN 14 .sub 8 13,aa 1 14] (ab [aa 15 1,ap 16 .gtr 15 0] (aq 16 (ops 0 [aa 17 0,aa 18 0,cO 19 (capE (t 18)),cO 20 (sls 2 (t 17) none (some (t 19)) none),aa 21 1,cO 22 (apz 2 16 [ba,ba] (t 20) (t 21)),aa 23 0,aY 24 23,cO 25 (sls 2 (t 22) none (some (t 24)) none),aa 0 25]) skip))).seq (ab [aa 26 0,aa 4 26] ret)))))
theorem L1:Is Tryz.prog 161 Mh:=mkI Tryz.func161
def LJ:F2:=(F2.mk 54 [RV.t 4,RV.t 5] (ab [cO 4 (mov (cN 0)),cO 5 (mov a9)] (ab [aa 10 0,aY 11 10,aa 6 11] (ab [aa 12 6,cO 7 (mov (cN 0)),aa 8 12] ((block 0 ((ab [aa 13 7,aa 14 8,aN 15 .lss 13 14] (aq 15 skip (exit 0))).seq (block 1 (ab [aa 16 7,aa 17 8,aN 18 .add 16 17,cO 19 (conv IntKind.u64 (t 18)),cO 20 (cB .shr (t 19) (c (AV.int IntKind.u64 (1)))),cO 21 (conv IntKind.i64 (t 20)),aa 9 21] (ab [aa 22 0,aa 23 9,cO 24 (ixaS 1 (t 22) (t 23)),aD 25 24,aa 26 1,aG 27 187 [t 25,t 26]] (aq 27 (ops 0 [aa 28 9,ap 29 .add 28 1,aa 7 29]) (ops 0 [aa 30 9,aa 8 30])))))).loop).seq (ab [aa 31 7,aa 32 7,aa 33 6,aN 34 .lss 32 33,aa 35 34,an 36 35 (cM 0),an 37 35 (cM 7),an 38 35 (ixaS 1 (t 36) (t 37)),an 39 35 (cD 38),an 40 35 (cM 1),an 41 35 (cB .eql (t 39) (t 40)),an 42 35 (cM 41),be 43 42 (cM 0),be 44 42 (cM 7),be 45 42 (ixaS 1 (t 43) (t 44)),be 46 42 (cD 45),be 47 42 (call (cF 188) [t 46]),be 48 42 (cM 47),an 49 48 (cM 1),an 50 48 (call (cF 188) [t 49]),be 51 42 (pick (t 48) (t 50) a9),an 52 35 (pick (t 42) cK (t 51)),cO 53 (pick (t 35) (t 52) a9),aa 4 31,aa 5 53] ret))))))
theorem K0:Is Tryz.prog 163 LJ:=mkI Tryz.func163
def Ml:F2:=(F2.mk 134 [] (ab [cO 8 (mov cK)] (ab [cO 9 (mov cK)] (block 0 (block 1 (ab [aa 19 2,aa 20 1,aN 21 .sub 19 20,aa 10 21] ((ab [aa 22 10,ap 23 .leq 22 12] (aq 23 (ab [aa 24 0,aa 25 1,aa 26 2,aG 27 189 [t 24,t 25,t 26]] ret) skip)).seq ((ab [aa 28 3,ap 29 .eql 28 0] (aq 29 (ab [aa 30 0,aa 31 1,aa 32 2,aG 33 190 [t 30,t 31,t 32]] ret) skip)).seq ((ab [aa 34 8,cO 35 (un UnOp.not (t 34))] (aq 35 (ab [aa 36 0,aa 37 1,aa 38 2,aG 39 191 [t 36,t 37,t 38]] (ops 0 [aa 40 3,ap 41 .sub 40 1,aa 3 41])) skip)).seq (ab [aa 43 0,aa 44 1,aa 45 2,aG 46 192 [t 43,t 44,t 45],aa 42 46,aV 47 42 0,aV 48 42 1,aa 11 47,aa 12 48] ((ab [aa 49 12,ap 50 .eql 49 2] (aq 50 (ab [aa 51 0,aa 52 1,aa 53 2,aG 54 193 [t 51,t 52,t 53]] (ab [aa 55 2,ap 56 .sub 55 1,aa 57 11,aa 58 1,aN 59 .sub 57 58,aN 60 .sub 56 59,aa 11 60] (ops 0 [cO 12 (mov (cN 1))]))) skip)).seq ((ab [aa 61 8,aa 62 61,an 63 62 (cM 9),cO 64 (pick (t 62) (t 63) a9),aa 65 64,an 66 65 (cM 12),an 67 65 (cB .eql (t 66) (cN 1)),cO 68 (pick (t 65) (t 67) a9)] (aq 68 (ab [aa 69 0,aa 70 1,aa 71 2,aG 72 194 [t 69,t 70,t 71]] (aq 72 ret skip)) skip)).seq (((mixS 1 [aa 73 1,ap 74 .gtr 73 0,aa 75 74,an 76 75 (cM 0),an 77 75 (cM 1),an 78 75 (cB .sub (t 77) (cN 1)),an 79 75 (ixaS 1 (t 76) (t 78)),an 80 75 (cD 79),an 81 75 (cM 0),an 82 75 (cM 11),an 83 75 (ixaS 1 (t 81) (t 82)),an 84 75 (cD 83),an 85 75 (call (cF 187) [t 80,t 84]),an 86 75 (un UnOp.not (t 85)),cO 87 (pick (t 75) (t 86) a9)] [(0,0),(1,0),(2,0),(3,0),(4,0),(5,0),(6,0),(7,0),(8,0),(9,0),(10,0),(11,0),(12,2),(13,0),(14,0)]).seq (aq 87 (ab [aa 88 0,aa 89 1,aa 90 2,aa 91 11,aG 92 195 [t 88,t 89,t 90,t 91],aa 13 92] (ab [aa 93 13,aa 1 93] (exit 1))) skip)).seq (ab [aa 95 0,aa 96 1,aa 97 2,aa 98 11,aG 99 196 [t 95,t 96,t 97,t 98],aa 94 99,aV 100 94 0,aV 101 94 1,aa 14 100,aa 15 101] (ab [aa 102 15,aa 9 102] (ab [aa 103 14,aa 104 1,aN 105 .sub 103 104,aa 106 2,aa 107 14,aN 108 .sub 106 107,aa 16 105,aa 17 108] (ab [aa 109 10,ap 110 .quo 109 8,aa 18 110] (ab [aa 111 16,aa 112 17,aN 113 .lss 111 112] (aq 113 (ab [aa 114 16,aa 115 18,aN 116 .geq 114 115,aa 8 116] (ab [aa 117 0,aa 118 1,aa 119 14,aa 120 3,aG 121 164 [t 117,t 118,t 119,t 120]] (ops 0 [aa 122 14,ap 123 .add 122 1,aa 1 123]))) (ab [aa 124 17,aa 125 18,aN 126 .geq 124 125,aa 8 126] (ab [aa 127 0,aa 128 14,ap 129 .add 128 1,aa 130 2,aa 131 3,aG 132 164 [t 127,t 129,t 130,t 131]] (ops 0 [aa 133 14,aa 2 133])))))))))))))))))).loop))))
theorem L8:Is Tryz.prog 164 Ml:=mkI Tryz.func164
def MW:F2:=(F2.mk 6 [RV.t 2] (ab [cO 2 (mov a9)] (ab [aa 3 0,aa 4 0,aN 5 .neq 3 4,aa 2 5] ret)))
theorem KF:Is Tryz.prog 165 MW:=mkI Tryz.func165
def IH:F2:=(F2.mk 53 [] (ab [aa 10 1,ap 11 .add 10 1,aa 8 11] (block 0 ((ab [aa 12 8,aa 13 2,aN 14 .lss 12 13] (aq 14 skip (exit 0))).seq ((block 1 (ab [aa 17 8,aa 9 17] (block 2 (((mixS 1 [aa 18 9,aa 19 1,aN 20 .gtr 18 19,aa 21 20,an 22 21 (cM 3),an 23 21 (cM 0),an 24 21 (cM 9),an 25 21 (ixaS 1 (t 23) (t 24)),an 26 21 (cD 25),an 27 21 (cM 0),an 28 21 (cM 9),an 29 21 (cB .sub (t 28) (cN 1)),an 30 21 (ixaS 1 (t 27) (t 29)),an 31 21 (cD 30),an 32 21 (call (t 22) [t 26,t 31]),an 33 21 (cB .lss (t 32) (cN 0)),cO 34 (pick (t 21) (t 33) a9)] [(0,0),(1,0),(2,0),(3,0),(4,0),(5,0),(6,0),(7,0),(8,0),(9,0),(10,0),(11,0),(12,0),(13,0),(14,2),(15,0),(16,0)]).seq (aq 34 skip (exit 2))).seq ((block 3 (ops 1 [aa 37 0,aa 38 9,aa 39 0,aa 40 9,ap 41 .sub 40 1,aa 42 0,aa 43 9,ap 44 .sub 43 1,cO 45 (ixaS 1 (t 42) (t 44)),aD 46 45,aa 47 0,aa 48 9,cO 49 (ixaS 1 (t 47) (t 48)),aD 50 49,cO 51 (ixaS 1 (t 37) (t 38)),br 1 51 46,cO 52 (ixaS 1 (t 39) (t 41)),br 1 52 50])).seq (ops 0 [aa 35 9,ap 36 .sub 35 1,aa 9 36]))).loop))).seq (ops 0 [aa 15 8,ap 16 .add 15 1,aa 8 16]))).loop)))
theorem H9:Is Tryz.prog 166 IH:=mkI Tryz.func166
def Kf:F2:=(F2.mk 60 [] (ab [aa 13 1,aa 8 13] (ab [cO 9 (mov (cN 0))] (ab [aa 14 2,aa 15 1,aN 16 .sub 14 15,aa 10 16] ((ab [aa 17 10,ap 18 .sub 17 1,ap 19 .quo 18 2,aa 11 19] (block 0 ((ab [aa 20 11,ap 21 .geq 20 0] (aq 21 skip (exit 0))).seq ((block 1 (ops 0 [aa 24 0,aa 25 11,aa 26 10,aa 27 8,aa 28 3,aG 29 197 [t 24,t 25,t 26,t 27,t 28]])).seq (ops 0 [aa 22 11,ap 23 .sub 22 1,aa 11 23]))).loop)).seq (ab [aa 30 10,ap 31 .sub 30 1,aa 12 31] (block 2 ((ab [aa 32 12,ap 33 .geq 32 0] (aq 33 skip (exit 2))).seq ((block 3 ((ops 1 [aa 36 0,aa 37 8,aa 38 0,aa 39 8,aa 40 12,aN 41 .add 39 40,aa 42 0,aa 43 8,aa 44 12,aN 45 .add 43 44,cO 46 (ixaS 1 (t 42) (t 45)),aD 47 46,aa 48 0,aa 49 8,cO 50 (ixaS 1 (t 48) (t 49)),aD 51 50,cO 52 (ixaS 1 (t 36) (t 37)),br 1 52 47,cO 53 (ixaS 1 (t 38) (t 41)),br 1 53 51]).seq (ops 0 [aa 54 0,aa 55 9,aa 56 12,aa 57 8,aa 58 3,aG 59 197 [t 54,t 55,t 56,t 57,t 58]]))).seq (ops 0 [aa 34 12,ap 35 .sub 34 1,aa 12 35]))).loop)))))))
theorem Lk:Is Tryz.prog 167 Kf:=mkI Tryz.func167
def MP:F2:=(F2.mk 67 [] (ab [aa 13 2,aa 14 1,aN 15 .sub 13 14,aa 8 15] (ab [aa 16 8,ap 17 .geq 16 8] (aq 17 (ab [aa 18 8,cO 19 (conv IntKind.u64 (t 18)),cO 9 (alloc (AV.int IntKind.u64 (0))),br 1 9 19] (ab [aa 20 8,aG 21 198 [t 20],aa 10 21] (ab [aa 22 1,aa 23 8,ap 24 .quo 23 4,ap 25 .mul 24 2,aN 26 .add 22 25,ap 27 .sub 26 1,aa 11 27] (block 0 ((ab [aa 28 11,aa 29 1,aa 30 8,ap 31 .quo 30 4,ap 32 .mul 31 2,aN 33 .add 29 32,ap 34 .add 33 1,aN 35 .leq 28 34] (aq 35 skip (exit 0))).seq ((block 1 (ab [aG 38 199 [t 9],aa 39 10,cO 40 (cB .sub (t 39) (c (AV.int IntKind.u64 (1)))),aN 41 .and 38 40,cO 42 (conv IntKind.i64 (t 41)),aa 12 42] ((ab [aa 43 12,aa 44 8,aN 45 .geq 43 44] (aq 45 (ops 0 [aa 46 12,aa 47 8,aN 48 .sub 46 47,aa 12 48]) skip)).seq (ops 1 [aa 49 0,aa 50 11,aa 51 0,aa 52 1,aa 53 12,aN 54 .add 52 53,aa 55 0,aa 56 1,aa 57 12,aN 58 .add 56 57,cO 59 (ixaS 1 (t 55) (t 58)),aD 60 59,aa 61 0,aa 62 11,cO 63 (ixaS 1 (t 61) (t 62)),aD 64 63,cO 65 (ixaS 1 (t 49) (t 50)),br 1 65 60,cO 66 (ixaS 1 (t 51) (t 54)),br 1 66 64])))).seq (ops 0 [aa 36 11,ap 37 .add 36 1,aa 11 37]))).loop)))) skip))))
theorem KD:Is Tryz.prog 168 MP:=mkI Tryz.func168
def KT:F2:=(F2.mk 63 [RV.t 8,RV.t 9] (ab [cO 8 (mov (cN 0)),cO 9 (mov (cN 0))] (ab [aa 15 2,aa 16 1,aN 17 .sub 15 16,aa 10 17] (ab [cO 11 (alloc (ba))] (ab [aa 18 1,aa 19 10,ap 20 .quo 19 4,ap 21 .mul 20 1,aN 22 .add 18 21,aa 12 22] (ab [aa 23 1,aa 24 10,ap 25 .quo 24 4,ap 26 .mul 25 2,aN 27 .add 23 26,aa 13 27] (ab [aa 28 1,aa 29 10,ap 30 .quo 29 4,ap 31 .mul 30 3,aN 32 .add 28 31,aa 14 32] ((ab [aa 33 10,ap 34 .geq 33 8] (aq 34 ((ab [aa 35 10,ap 36 .geq 35 50] (aq 36 (ab [aa 37 0,aa 38 12,aa 39 3,aG 40 200 [t 37,t 38,t 11,t 39],aa 12 40] (ab [aa 41 0,aa 42 13,aa 43 3,aG 44 200 [t 41,t 42,t 11,t 43],aa 13 44] (ops 0 [aa 45 0,aa 46 14,aa 47 3,aG 48 200 [t 45,t 46,t 11,t 47],aa 14 48]))) skip)).seq (ops 0 [aa 49 0,aa 50 12,aa 51 13,aa 52 14,aa 53 3,aG 54 201 [t 49,t 50,t 51,t 52,t 11,t 53],aa 13 54])) skip)).seq (ab [aD 55 11] (block 0 (ab [ap 58 .eql 55 0,aa 57 58] (aq 57 (ab [aa 59 13,aa 8 59,cO 9 (mov (cN 1))] ret) (ab [ap 61 .eql 55 12,aa 60 61] (aq 60 (ab [aa 62 13,aa 8 62,cO 9 (mov (cN 2))] ret) (ab [aa 56 13,aa 8 56,cO 9 (mov (cN 0))] ret)))))))))))))))
theorem Lf:Is Tryz.prog 169 KT:=mkI Tryz.func169
def LR:F2:=(F2.mk 34 [] (ab [aa 10 1,aa 8 10] (ab [aa 11 2,ap 12 .sub 11 1,aa 9 12] (block 0 ((ab [aa 13 8,aa 14 9,aN 15 .lss 13 14] (aq 15 skip (exit 0))).seq (block 1 ((ops 1 [aa 16 0,aa 17 8,aa 18 0,aa 19 9,aa 20 0,aa 21 9,cO 22 (ixaS 1 (t 20) (t 21)),aD 23 22,aa 24 0,aa 25 8,cO 26 (ixaS 1 (t 24) (t 25)),aD 27 26,cO 28 (ixaS 1 (t 16) (t 17)),br 1 28 23,cO 29 (ixaS 1 (t 18) (t 19)),br 1 29 27]).seq (ab [aa 30 8,ap 31 .add 30 1,aa 8 31] (ops 0 [aa 32 9,ap 33 .sub 32 1,aa 9 33]))))).loop))))
theorem L5:Is Tryz.prog 170 LR:=mkI Tryz.func170
def L0:F2:=(F2.mk 141 [RV.t 8] (ab [cO 8 (mov a9)] (ab [aa 13 1,ap 14 .add 13 1,aa 9 14] ((ab [cO 10 (mov (cN 0))] (block 0 ((ab [aa 15 10,ap 16 .lss 15 5] (aq 16 skip (exit 0))).seq ((block 1 ((block 2 (((mixS 1 [aa 19 9,aa 20 2,aN 21 .lss 19 20,aa 22 21,an 23 22 (cM 3),an 24 22 (cM 0),an 25 22 (cM 9),an 26 22 (ixaS 1 (t 24) (t 25)),an 27 22 (cD 26),an 28 22 (cM 0),an 29 22 (cM 9),an 30 22 (cB .sub (t 29) (cN 1)),an 31 22 (ixaS 1 (t 28) (t 30)),an 32 22 (cD 31),an 33 22 (call (t 23) [t 27,t 32]),an 34 22 (cB .lss (t 33) (cN 0)),an 35 22 (un UnOp.not (t 34)),cO 36 (pick (t 22) (t 35) a9)] [(0,0),(1,0),(2,0),(3,0),(4,0),(5,0),(6,0),(7,0),(8,0),(9,0),(10,0),(11,0),(12,0),(13,0),(14,2),(15,0),(16,0),(17,0)]).seq (aq 36 skip (exit 2))).seq (block 3 (ops 0 [aa 37 9,ap 38 .add 37 1,aa 9 38]))).loop).seq ((ab [aa 39 9,aa 40 2,aN 41 .eql 39 40] (aq 41 (ab [cO 8 (mov cK)] ret) skip)).seq ((ab [aa 42 2,aa 43 1,aN 44 .sub 42 43,ap 45 .lss 44 50] (aq 45 (ab [cO 8 (mov a9)] ret) skip)).seq ((ops 1 [aa 46 0,aa 47 9,aa 48 0,aa 49 9,ap 50 .sub 49 1,aa 51 0,aa 52 9,ap 53 .sub 52 1,cO 54 (ixaS 1 (t 51) (t 53)),aD 55 54,aa 56 0,aa 57 9,cO 58 (ixaS 1 (t 56) (t 57)),aD 59 58,cO 60 (ixaS 1 (t 46) (t 47)),br 1 60 55,cO 61 (ixaS 1 (t 48) (t 50)),br 1 61 59]).seq ((ab [aa 62 9,aa 63 1,aN 64 .sub 62 63,ap 65 .geq 64 2] (aq 65 (ab [aa 66 9,ap 67 .sub 66 1,aa 11 67] (block 4 ((ab [aa 68 11,ap 69 .geq 68 1] (aq 69 skip (exit 4))).seq ((block 5 (((mixS 1 [aa 72 3,aa 73 0,aa 74 11,cO 75 (ixaS 1 (t 73) (t 74)),aD 76 75,aa 77 0,aa 78 11,ap 79 .sub 78 1,cO 80 (ixaS 1 (t 77) (t 79)),aD 81 80,cO 82 (call (t 72) [t 76,t 81]),ap 83 .lss 82 0,cO 84 (un UnOp.not (t 83))] [(0,0),(1,0),(2,0),(3,0),(4,0),(5,0),(6,0),(7,0),(8,0),(9,0),(10,2),(11,0),(12,0)]).seq (aq 84 (exit 4) skip)).seq (ops 1 [aa 85 0,aa 86 11,aa 87 0,aa 88 11,ap 89 .sub 88 1,aa 90 0,aa 91 11,ap 92 .sub 91 1,cO 93 (ixaS 1 (t 90) (t 92)),aD 94 93,aa 95 0,aa 96 11,cO 97 (ixaS 1 (t 95) (t 96)),aD 98 97,cO 99 (ixaS 1 (t 85) (t 86)),br 1 99 94,cO 100 (ixaS 1 (t 87) (t 89)),br 1 100 98]))).seq (ops 0 [aa 70 11,ap 71 .sub 70 1,aa 11 71]))).loop)) skip)).seq (ab [aa 101 2,aa 102 9,aN 103 .sub 101 102,ap 104 .geq 103 2] (aq 104 (ab [aa 105 9,ap 106 .add 105 1,aa 12 106] (block 6 ((ab [aa 107 12,aa 108 2,aN 109 .lss 107 108] (aq 109 skip (exit 6))).seq ((block 7 (((mixS 1 [aa 112 3,aa 113 0,aa 114 12,cO 115 (ixaS 1 (t 113) (t 114)),aD 116 115,aa 117 0,aa 118 12,ap 119 .sub 118 1,cO 120 (ixaS 1 (t 117) (t 119)),aD 121 120,cO 122 (call (t 112) [t 116,t 121]),ap 123 .lss 122 0,cO 124 (un UnOp.not (t 123))] [(0,0),(1,0),(2,0),(3,0),(4,0),(5,0),(6,0),(7,0),(8,0),(9,0),(10,2),(11,0),(12,0)]).seq (aq 124 (exit 6) skip)).seq (ops 1 [aa 125 0,aa 126 12,aa 127 0,aa 128 12,ap 129 .sub 128 1,aa 130 0,aa 131 12,ap 132 .sub 131 1,cO 133 (ixaS 1 (t 130) (t 132)),aD 134 133,aa 135 0,aa 136 12,cO 137 (ixaS 1 (t 135) (t 136)),aD 138 137,cO 139 (ixaS 1 (t 125) (t 126)),br 1 139 134,cO 140 (ixaS 1 (t 127) (t 129)),br 1 140 138]))).seq (ops 0 [aa 110 12,ap 111 .add 110 1,aa 12 111]))).loop)) skip)))))))).seq (ops 0 [aa 17 10,ap 18 .add 17 1,aa 10 18]))).loop)).seq (ab [cO 8 (mov a9)] ret)))))
theorem MZ:Is Tryz.prog 171 L0:=mkI Tryz.func171
def Ka:F2:=(F2.mk 90 [RV.t 10] (ab [cO 10 (mov (cN 0))] ((ops 1 [aa 13 0,aa 14 1,aa 15 0,aa 16 3,aa 17 0,aa 18 3,cO 19 (ixaS 1 (t 17) (t 18)),aD 20 19,aa 21 0,aa 22 1,cO 23 (ixaS 1 (t 21) (t 22)),aD 24 23,cO 25 (ixaS 1 (t 13) (t 14)),br 1 25 20,cO 26 (ixaS 1 (t 15) (t 16)),br 1 26 24]).seq (ab [aa 27 1,ap 28 .add 27 1,aa 29 2,ap 30 .sub 29 1,aa 11 28,aa 12 30] ((block 0 (block 1 ((block 2 (((mixS 1 [aa 31 11,aa 32 12,aN 33 .leq 31 32,aa 34 33,an 35 34 (cM 4),an 36 34 (cM 0),an 37 34 (cM 1),an 38 34 (ixaS 1 (t 36) (t 37)),an 39 34 (cD 38),an 40 34 (cM 0),an 41 34 (cM 11),an 42 34 (ixaS 1 (t 40) (t 41)),an 43 34 (cD 42),an 44 34 (call (t 35) [t 39,t 43]),an 45 34 (cB .lss (t 44) (cN 0)),an 46 34 (un UnOp.not (t 45)),cO 47 (pick (t 34) (t 46) a9)] [(0,0),(1,0),(2,0),(3,0),(4,0),(5,0),(6,0),(7,0),(8,0),(9,0),(10,0),(11,0),(12,0),(13,2),(14,0),(15,0),(16,0)]).seq (aq 47 skip (exit 2))).seq (block 3 (ops 0 [aa 48 11,ap 49 .add 48 1,aa 11 49]))).loop).seq ((block 4 (((mixS 1 [aa 50 11,aa 51 12,aN 52 .leq 50 51,aa 53 52,an 54 53 (cM 4),an 55 53 (cM 0),an 56 53 (cM 1),an 57 53 (ixaS 1 (t 55) (t 56)),an 58 53 (cD 57),an 59 53 (cM 0),an 60 53 (cM 12),an 61 53 (ixaS 1 (t 59) (t 60)),an 62 53 (cD 61),an 63 53 (call (t 54) [t 58,t 62]),an 64 53 (cB .lss (t 63) (cN 0)),cO 65 (pick (t 53) (t 64) a9)] [(0,0),(1,0),(2,0),(3,0),(4,0),(5,0),(6,0),(7,0),(8,0),(9,0),(10,0),(11,0),(12,0),(13,2),(14,0),(15,0)]).seq (aq 65 skip (exit 4))).seq (block 5 (ops 0 [aa 66 12,ap 67 .sub 66 1,aa 12 67]))).loop).seq ((ab [aa 68 11,aa 69 12,aN 70 .gtr 68 69] (aq 70 (exit 0) skip)).seq ((ops 1 [aa 71 0,aa 72 11,aa 73 0,aa 74 12,aa 75 0,aa 76 12,cO 77 (ixaS 1 (t 75) (t 76)),aD 78 77,aa 79 0,aa 80 11,cO 81 (ixaS 1 (t 79) (t 80)),aD 82 81,cO 83 (ixaS 1 (t 71) (t 72)),br 1 83 78,cO 84 (ixaS 1 (t 73) (t 74)),br 1 84 82]).seq (ab [aa 85 11,ap 86 .add 85 1,aa 11 86] (ops 0 [aa 87 12,ap 88 .sub 87 1,aa 12 88]))))))).loop).seq (ab [aa 89 11,aa 10 89] ret))))))
theorem KM:Is Tryz.prog 172 Ka:=mkI Tryz.func172
def J5:F2:=(F2.mk 178 [RV.t 10,RV.t 11] (ab [cO 10 (mov (cN 0)),cO 11 (mov a9)] ((ops 1 [aa 14 0,aa 15 1,aa 16 0,aa 17 3,aa 18 0,aa 19 3,cO 20 (ixaS 1 (t 18) (t 19)),aD 21 20,aa 22 0,aa 23 1,cO 24 (ixaS 1 (t 22) (t 23)),aD 25 24,cO 26 (ixaS 1 (t 14) (t 15)),br 1 26 21,cO 27 (ixaS 1 (t 16) (t 17)),br 1 27 25]).seq (ab [aa 28 1,ap 29 .add 28 1,aa 30 2,ap 31 .sub 30 1,aa 12 29,aa 13 31] ((block 0 (((mixS 1 [aa 32 12,aa 33 13,aN 34 .leq 32 33,aa 35 34,an 36 35 (cM 4),an 37 35 (cM 0),an 38 35 (cM 12),an 39 35 (ixaS 1 (t 37) (t 38)),an 40 35 (cD 39),an 41 35 (cM 0),an 42 35 (cM 1),an 43 35 (ixaS 1 (t 41) (t 42)),an 44 35 (cD 43),an 45 35 (call (t 36) [t 40,t 44]),an 46 35 (cB .lss (t 45) (cN 0)),cO 47 (pick (t 35) (t 46) a9)] [(0,0),(1,0),(2,0),(3,0),(4,0),(5,0),(6,0),(7,0),(8,0),(9,0),(10,0),(11,0),(12,0),(13,2),(14,0),(15,0)]).seq (aq 47 skip (exit 0))).seq (block 1 (ops 0 [aa 48 12,ap 49 .add 48 1,aa 12 49]))).loop).seq ((block 2 (((mixS 1 [aa 50 12,aa 51 13,aN 52 .leq 50 51,aa 53 52,an 54 53 (cM 4),an 55 53 (cM 0),an 56 53 (cM 13),an 57 53 (ixaS 1 (t 55) (t 56)),an 58 53 (cD 57),an 59 53 (cM 0),an 60 53 (cM 1),an 61 53 (ixaS 1 (t 59) (t 60)),an 62 53 (cD 61),an 63 53 (call (t 54) [t 58,t 62]),an 64 53 (cB .lss (t 63) (cN 0)),an 65 53 (un UnOp.not (t 64)),cO 66 (pick (t 53) (t 65) a9)] [(0,0),(1,0),(2,0),(3,0),(4,0),(5,0),(6,0),(7,0),(8,0),(9,0),(10,0),(11,0),(12,0),(13,2),(14,0),(15,0),(16,0)]).seq (aq 66 skip (exit 2))).seq (block 3 (ops 0 [aa 67 13,ap 68 .sub 67 1,aa 13 68]))).loop).seq ((ab [aa 69 12,aa 70 13,aN 71 .gtr 69 70] (aq 71 ((ops 1 [aa 72 0,aa 73 13,aa 74 0,aa 75 1,aa 76 0,aa 77 1,cO 78 (ixaS 1 (t 76) (t 77)),aD 79 78,aa 80 0,aa 81 13,cO 82 (ixaS 1 (t 80) (t 81)),aD 83 82,cO 84 (ixaS 1 (t 72) (t 73)),br 1 84 79,cO 85 (ixaS 1 (t 74) (t 75)),br 1 85 83]).seq (ab [aa 86 13,aa 10 86,cO 11 (mov cK)] ret)) skip)).seq ((ops 1 [aa 87 0,aa 88 12,aa 89 0,aa 90 13,aa 91 0,aa 92 13,cO 93 (ixaS 1 (t 91) (t 92)),aD 94 93,aa 95 0,aa 96 12,cO 97 (ixaS 1 (t 95) (t 96)),aD 98 97,cO 99 (ixaS 1 (t 87) (t 88)),br 1 99 94,cO 100 (ixaS 1 (t 89) (t 90)),br 1 100 98]).seq (ab [aa 101 12,ap 102 .add 101 1,aa 12 102] (ab [aa 103 13,ap 104 .sub 103 1,aa 13 104] ((block 4 (block 5 ((block 6 (((mixS 1 [aa 105 12,aa 106 13,aN 107 .leq 105 106,aa 108 107,an 109 108 (cM 4),an 110 108 (cM 0),an 111 108 (cM 12),an 112 108 (ixaS 1 (t 110) (t 111)),an 113 108 (cD 112),an 114 108 (cM 0),an 115 108 (cM 1),an 116 108 (ixaS 1 (t 114) (t 115)),an 117 108 (cD 116),an 118 108 (call (t 109) [t 113,t 117]),an 119 108 (cB .lss (t 118) (cN 0)),cO 120 (pick (t 108) (t 119) a9)] [(0,0),(1,0),(2,0),(3,0),(4,0),(5,0),(6,0),(7,0),(8,0),(9,0),(10,0),(11,0),(12,0),(13,2),(14,0),(15,0)]).seq (aq 120 skip (exit 6))).seq (block 7 (ops 0 [aa 121 12,ap 122 .add 121 1,aa 12 122]))).loop).seq ((block 8 (((mixS 1 [aa 123 12,aa 124 13,aN 125 .leq 123 124,aa 126 125,an 127 126 (cM 4),an 128 126 (cM 0),an 129 126 (cM 13),an 130 126 (ixaS 1 (t 128) (t 129)),an 131 126 (cD 130),an 132 126 (cM 0),an 133 126 (cM 1),an 134 126 (ixaS 1 (t 132) (t 133)),an 135 126 (cD 134),an 136 126 (call (t 127) [t 131,t 135]),an 137 126 (cB .lss (t 136) (cN 0)),an 138 126 (un UnOp.not (t 137)),cO 139 (pick (t 126) (t 138) a9)] [(0,0),(1,0),(2,0),(3,0),(4,0),(5,0),(6,0),(7,0),(8,0),(9,0),(10,0),(11,0),(12,0),(13,2),(14,0),(15,0),(16,0)]).seq (aq 139 skip (exit 8))).seq (block 9 (ops 0 [aa 140 13,ap 141 .sub 140 1,aa 13 141]))).loop).seq ((ab [aa 142 12,aa 143 13,aN 144 .gtr 142 143] (aq 144 (exit 4) skip)).seq ((ops 1 [aa 145 0,aa 146 12,aa 147 0,aa 148 13,aa 149 0,aa 150 13,cO 151 (ixaS 1 (t 149) (t 150)),aD 152 151,aa 153 0,aa 154 12,cO 155 (ixaS 1 (t 153) (t 154)),aD 156 155,cO 157 (ixaS 1 (t 145) (t 146)),br 1 157 152,cO 158 (ixaS 1 (t 147) (t 148)),br 1 158 156]).seq (ab [aa 159 12,ap 160 .add 159 1,aa 12 160] (ops 0 [aa 161 13,ap 162 .sub 161 1,aa 13 162]))))))).loop).seq ((ops 1 [aa 163 0,aa 164 13,aa 165 0,aa 166 1,aa 167 0,aa 168 1,cO 169 (ixaS 1 (t 167) (t 168)),aD 170 169,aa 171 0,aa 172 13,cO 173 (ixaS 1 (t 171) (t 172)),aD 174 173,cO 175 (ixaS 1 (t 163) (t 164)),br 1 175 170,cO 176 (ixaS 1 (t 165) (t 166)),br 1 176 174]).seq (ab [aa 177 13,aa 10 177,cO 11 (mov a9)] ret)))))))))))))
theorem MY:Is Tryz.prog 173 J5:=mkI Tryz.func173
def IB:F2:=(F2.mk 25 [RV.t 2] (ab [cO 2 (mov (cN 0))] ((ab [aa 3 0,cO 4 (cB .geq (t 3) (c (AV.int IntKind.u64 (4294967296))))] (aq 4 (ab [aa 5 0,cO 6 (cB .shr (t 5) (c (AV.int IntKind.u64 (32)))),aa 0 6] (ops 0 [cO 2 (mov (cN 32))])) skip)).seq ((ab [aa 7 0,cO 8 (cB .geq (t 7) (c (AV.int IntKind.u64 (65536))))] (aq 8 (ab [aa 9 0,cO 10 (cB .shr (t 9) (c (AV.int IntKind.u64 (16)))),aa 0 10] (ops 0 [aa 11 2,ap 12 .add 11 16,aa 2 12])) skip)).seq ((ab [aa 13 0,cO 14 (cB .geq (t 13) (c (AV.int IntKind.u64 (256))))] (aq 14 (ab [aa 15 0,cO 16 (cB .shr (t 15) (c (AV.int IntKind.u64 (8)))),aa 0 16] (ops 0 [aa 17 2,ap 18 .add 17 8,aa 2 18])) skip)).seq (ab [aa 19 2,aa 20 0,cO 21 (conv IntKind.u8 (t 20)),cO 22 (ixStr (c (AV.str (ByteArray.mk (Array.mk [0,1,2,2,3,3,3,3,4,4,4,4,4,4,4,4,5,5,5,5,5,5,5,5,5,5,5,5,5,5,5,5,6,6,6,6,6,6,6,6,6,6,6,6,6,6,6,6,6,6,6,6,6,6,6,6,6,6,6,6,6,6,6,6,7,7,7,7,7,7,7,7,7,7,7,7,7,7,7,7,7,7,7,7,7,7,7,7,7,7,7,7,7,7,7,7,7,7,7,7,7,7,7,7,7,7,7,7,7,7,7,7,7,7,7,7,7,7,7,7,7,7,7,7,7,7,7,7,8,8,8,8,8,8,8,8,8,8,8,8,8,8,8,8,8,8,8,8,8,8,8,8,8,8,8,8,8,8,8,8,8,8,8,8,8,8,8,8,8,8,8,8,8,8,8,8,8,8,8,8,8,8,8,8,8,8,8,8,8,8,8,8,8,8,8,8,8,8,8,8,8,8,8,8,8,8,8,8,8,8,8,8,8,8,8,8,8,8,8,8,8,8,8,8,8,8,8,8,8,8,8,8,8,8,8,8,8,8,8,8,8,8,8,8,8,8,8,8,8,8,8,8,8,8,8,8])))) (t 21)),cO 23 (conv IntKind.i64 (t 22)),aN 24 .add 19 23,aa 2 24] ret))))))
theorem Ij:Is Tryz.prog 175 IB:=mkI Tryz.func175
def Ms:F2:=(F2.mk 13 [RV.t 4] (ab [cO 2 (box (t 0)),cO 4 (mov (c AV.esl))] ((ab [aa 6 1] (block 0 (rangeF (t 6) [7] (ops 0 [aa 5 7]) (block 1 (ops 0 [aD 8 2,aa 9 5,cO 10 (bldS 1 1 [AV.esl] [(0,1,t 9)]),cO 11 (app 1 24 (t 8) (t 10)),br 1 2 11]))))).seq (ab [aD 12 2,aa 4 12] ret))))
theorem MN:Is Tryz.prog 176 Ms:=mkI Tryz.func176
def K8:F2:=(F2.mk 10 [] (ab [cO 3 (box (t 0))] (ab [cO 4 (alloc AV.nilf)] (ab [cO 5 (mkfn 178 [t 1,t 3,t 2,t 4]),br 1 4 5] (mixS 1 [aD 6 4,aD 7 1,cO 8 (mks 2 16 [ba,ba] (cN 0) (t 7)),cO 9 (call (t 6) [cN ((0)),t 8])] [(0,0),(1,0),(2,1),(3,2)])))))
theorem LZ:Is Tryz.prog 177 K8:=mkI Tryz.func177
def JV:F2:=(F2.mk 37 [RV.t 8] (ab [cO 8 (mov a9)] ((ab [aa 10 1,aY 11 10,aD 12 2,aN 13 .eql 11 12] (aq 13 ((mixS 1 [aD 14 3,aa 15 1,aG 16 136 [t 15],cO 17 (call (t 14) [t 16]),aa 8 17] [(0,0),(1,0),(2,1),(3,2),(4,0)]).seq ret) skip)).seq ((ab [aa 18 0,aa 9 18] (block 0 ((ab [aa 19 9,aD 20 4,aY 21 20,aN 22 .lss 19 21] (aq 22 skip (exit 0))).seq ((block 1 ((mixS 2 [aD 25 5,aa 26 9,ap 27 .add 26 1,aa 28 1,aD 29 4,aa 30 9,cO 31 (ixaS 2 (t 29) (t 30)),bj 32 2 31,cO 33 (bldS 2 1 [ba,ba] [(0,2,t 32)]),cO 34 (app 2 16 (t 28) (t 33)),cO 35 (call (t 25) [t 27,t 34]),cO 36 (un UnOp.not (t 35))] [(0,0),(1,0),(2,0),(3,0),(4,0),(5,0),(6,0),(7,0),(8,1),(9,1),(10,2),(11,0)]).seq (aq 36 (ab [cO 8 (mov a9)] ret) skip))).seq (ops 0 [aa 23 9,ap 24 .add 23 1,aa 9 24]))).loop)).seq (ab [cO 8 (mov cK)] ret)))))
theorem HX:Is Tryz.prog 178 JV:=mkI Tryz.func178
def Jy:F2:=(F2.mk 17 [RV.t 4] (ab [cO 4 (mov a9)] (ab [aa 5 0,aG 6 165 [t 5],aa 7 6,an 8 7 (cM 1),an 9 7 (call (cF 165) [t 8]),an 10 7 (un UnOp.not (t 9)),cO 11 (pick (t 7) (t 10) a9),aa 12 11,be 13 12 (cM 0),be 14 12 (cM 1),be 15 12 (cB .lss (t 13) (t 14)),cO 16 (pick (t 12) cK (t 15)),aa 4 16] ret)))
theorem Ia:Is Tryz.prog 187 Jy:=mkI Tryz.func187
def LC:F2:=(F2.mk 6 [RV.t 2] (ab [cO 2 (mov a9)] (ab [aa 3 0,aa 4 0,aN 5 .neq 3 4,aa 2 5] ret)))
theorem KC:Is Tryz.prog 188 LC:=mkI Tryz.func188
def Lq:F2:=(F2.mk 49 [] (ab [aa 8 1,ap 9 .add 8 1,aa 6 9] (block 0 ((ab [aa 10 6,aa 11 2,aN 12 .lss 10 11] (aq 12 skip (exit 0))).seq ((block 1 (ab [aa 15 6,aa 7 15] (block 2 (((mixS 1 [aa 16 7,aa 17 1,aN 18 .gtr 16 17,aa 19 18,an 20 19 (cM 0),an 21 19 (cM 7),an 22 19 (ixaS 1 (t 20) (t 21)),an 23 19 (cD 22),an 24 19 (cM 0),an 25 19 (cM 7),an 26 19 (cB .sub (t 25) (cN 1)),an 27 19 (ixaS 1 (t 24) (t 26)),an 28 19 (cD 27),an 29 19 (call (cF 187) [t 23,t 28]),cO 30 (pick (t 19) (t 29) a9)] [(0,0),(1,0),(2,0),(3,0),(4,0),(5,0),(6,0),(7,0),(8,0),(9,0),(10,0),(11,0),(12,0),(13,2),(14,0)]).seq (aq 30 skip (exit 2))).seq ((block 3 (ops 1 [aa 33 0,aa 34 7,aa 35 0,aa 36 7,ap 37 .sub 36 1,aa 38 0,aa 39 7,ap 40 .sub 39 1,cO 41 (ixaS 1 (t 38) (t 40)),aD 42 41,aa 43 0,aa 44 7,cO 45 (ixaS 1 (t 43) (t 44)),aD 46 45,cO 47 (ixaS 1 (t 33) (t 34)),br 1 47 42,cO 48 (ixaS 1 (t 35) (t 37)),br 1 48 46])).seq (ops 0 [aa 31 7,ap 32 .sub 31 1,aa 7 32]))).loop))).seq (ops 0 [aa 13 6,ap 14 .add 13 1,aa 6 14]))).loop)))
theorem Na:Is Tryz.prog 189 Lq:=mkI Tryz.func189
def Kj:F2:=(F2.mk 82 [] (ab [aa 12 1,aa 10 12] (block 0 (block 1 (ab [aa 13 10,cO 14 (cB .mul (cN 2) (t 13)),ap 15 .add 14 1,aa 11 15] ((ab [aa 16 11,aa 17 2,aN 18 .geq 16 17] (aq 18 (exit 0) skip)).seq (((mixS 1 [aa 19 11,ap 20 .add 19 1,aa 21 2,aN 22 .lss 20 21,aa 23 22,an 24 23 (cM 4),an 25 23 (cM 0),an 26 23 (cM 3),an 27 23 (cM 11),an 28 23 (cB .add (t 26) (t 27)),an 29 23 (ixaS 1 (t 25) (t 28)),an 30 23 (cD 29),an 31 23 (cM 0),an 32 23 (cM 3),an 33 23 (cM 11),an 34 23 (cB .add (t 32) (t 33)),an 35 23 (cB .add (t 34) (cN 1)),an 36 23 (ixaS 1 (t 31) (t 35)),an 37 23 (cD 36),an 38 23 (call (t 24) [t 30,t 37]),an 39 23 (cB .lss (t 38) (cN 0)),cO 40 (pick (t 23) (t 39) a9)] [(0,0),(1,0),(2,0),(3,0),(4,0),(5,0),(6,0),(7,0),(8,0),(9,0),(10,0),(11,0),(12,0),(13,0),(14,0),(15,0),(16,0),(17,0),(18,0),(19,2),(20,0),(21,0)]).seq (aq 40 (ops 0 [aa 41 11,ap 42 .add 41 1,aa 11 42]) skip)).seq (((mixS 1 [aa 43 4,aa 44 0,aa 45 3,aa 46 10,aN 47 .add 45 46,cO 48 (ixaS 1 (t 44) (t 47)),aD 49 48,aa 50 0,aa 51 3,aa 52 11,aN 53 .add 51 52,cO 54 (ixaS 1 (t 50) (t 53)),aD 55 54,cO 56 (call (t 43) [t 49,t 55]),ap 57 .lss 56 0,cO 58 (un UnOp.not (t 57))] [(0,0),(1,0),(2,0),(3,0),(4,0),(5,0),(6,0),(7,0),(8,0),(9,0),(10,0),(11,0),(12,0),(13,2),(14,0),(15,0)]).seq (aq 58 ret skip)).seq ((ops 1 [aa 59 0,aa 60 3,aa 61 10,aN 62 .add 60 61,aa 63 0,aa 64 3,aa 65 11,aN 66 .add 64 65,aa 67 0,aa 68 3,aa 69 11,aN 70 .add 68 69,cO 71 (ixaS 1 (t 67) (t 70)),aD 72 71,aa 73 0,aa 74 3,aa 75 10,aN 76 .add 74 75,cO 77 (ixaS 1 (t 73) (t 76)),aD 78 77,cO 79 (ixaS 1 (t 59) (t 62)),br 1 79 72,cO 80 (ixaS 1 (t 63) (t 66)),br 1 80 78]).seq (ops 0 [aa 81 11,aa 10 81]))))))).loop)))
theorem KI:Is Tryz.prog 197 Kj:=mkI Tryz.func197
def Lu:F2:=(F2.mk 7 [RV.t 2] (ab [cO 2 (mov (c (AV.int IntKind.u64 (0))))] (ab [aa 3 0,cO 4 (conv IntKind.u64 (t 3)),aG 5 156 [t 4],cO 6 (cB .shl (c (AV.int IntKind.u64 (1))) (t 5)),aa 2 6] ret)))
theorem MR:Is Tryz.prog 198 Lu:=mkI Tryz.func198
def Ll:F2:=(F2.mk 33 [RV.t 2] (ab [cO 2 (mov (c (AV.int IntKind.u64 (0))))] ((ops 1 [aa 3 0,cO 4 (nilck (t 3)),aD 5 4,aa 6 0,cO 7 (nilck (t 6)),aD 8 7,cO 9 (cB .shl (t 8) (c (AV.int IntKind.u64 (13)))),aN 10 .xor 5 9,cO 11 (nilck (t 3)),br 1 11 10]).seq ((ops 1 [aa 12 0,cO 13 (nilck (t 12)),aD 14 13,aa 15 0,cO 16 (nilck (t 15)),aD 17 16,cO 18 (cB .shr (t 17) (c (AV.int IntKind.u64 (7)))),aN 19 .xor 14 18,cO 20 (nilck (t 12)),br 1 20 19]).seq ((ops 1 [aa 21 0,cO 22 (nilck (t 21)),aD 23 22,aa 24 0,cO 25 (nilck (t 24)),aD 26 25,cO 27 (cB .shl (t 26) (c (AV.int IntKind.u64 (17)))),aN 28 .xor 23 27,cO 29 (nilck (t 21)),br 1 29 28]).seq (ab [aa 30 0,cO 31 (nilck (t 30)),aD 32 31,aa 2 32] ret))))))
theorem K4:Is Tryz.prog 199 Ll:=mkI Tryz.func199
def Kt:F2:=(F2.mk 18 [RV.t 8] (ab [cO 8 (mov (cN 0))] (ab [aa 9 0,aa 10 1,ap 11 .sub 10 1,aa 12 1,aa 13 1,ap 14 .add 13 1,aa 15 2,aa 16 3,aG 17 201 [t 9,t 11,t 12,t 14,t 15,t 16],aa 8 17] ret)))
theorem Kg:Is Tryz.prog 200 Kt:=mkI Tryz.func200
def KX:F2:=(F2.mk 41 [RV.t 12] (ab [cO 12 (mov (cN 0))] (ab [aa 14 0,aa 15 1,aa 16 2,aa 17 4,aa 18 5,aG 19 208 [t 14,t 15,t 16,t 17,t 18],aa 13 19,aV 20 13 0,aV 21 13 1,aa 1 20,aa 2 21] (ab [aa 23 0,aa 24 2,aa 25 3,aa 26 4,aa 27 5,aG 28 208 [t 23,t 24,t 25,t 26,t 27],aa 22 28,aV 29 22 0,aV 30 22 1,aa 2 29,aa 3 30] (ab [aa 32 0,aa 33 1,aa 34 2,aa 35 4,aa 36 5,aG 37 208 [t 32,t 33,t 34,t 35,t 36],aa 31 37,aV 38 31 0,aV 39 31 1,aa 1 38,aa 2 39] (ab [aa 40 2,aa 12 40] ret))))))
theorem L3:Is Tryz.prog 201 KX:=mkI Tryz.func201
def K3:F2:=(F2.mk 32 [RV.t 10,RV.t 11] (ab [cO 10 (mov (cN 0)),cO 11 (mov (cN 0))] (((mixS 1 [aa 12 4,aa 13 0,aa 14 2,cO 15 (ixaS 1 (t 13) (t 14)),aD 16 15,aa 17 0,aa 18 1,cO 19 (ixaS 1 (t 17) (t 18)),aD 20 19,cO 21 (call (t 12) [t 16,t 20]),ap 22 .lss 21 0] [(0,0),(1,0),(2,0),(3,0),(4,0),(5,0),(6,0),(7,0),(8,0),(9,2),(10,0)]).seq (aq 22 (ab [aa 23 3,cO 24 (nilck (t 23)),aD 25 24,ap 26 .add 25 1,cO 27 (nilck (t 23)),br 1 27 26] (ab [aa 28 2,aa 29 1,aa 10 28,aa 11 29] ret)) skip)).seq (ab [aa 30 1,aa 31 2,aa 10 30,aa 11 31] ret))))
theorem Kx:Is Tryz.prog 208 K3:=mkI Tryz.func208
end Go.Proofs.YtekdaafnjdlenaaGreat
namespace Go.Proofs.YtekdaafnjdlenaaGreat
open Go Go.Abs
open Nat (reduceEqDiff reduceAdd reduceLeDiff)
def swp{α:Type}[Inhabited α](L:List α)(i j:Nat):List α:=(L.set i (L.getD j default)).set j (L.getD i default)
structure PermR{α:Type}[Inhabited α](a b:Nat)(L L':List α):Prop where
 len:L'.length=L.length
 out:∀i,i<a\/b<=i->L'.getD i default=L.getD i default
 perm:L'.Perm L
section
variable{α:Type}[Inhabited α]{a b a' b':Nat}{L L' L'':List α}
theorem dQ{l:List α}{i j:Nat}{x:α}(h:i<l.length):(l.set i x).getD j default=if i=j then x else l.getD j default:=by
 simp only[List.getD,List.getElem?_set];split
 ·rename_i e;subst e;simp[h]
 ·rfl
theorem B5(i j:Nat):(swp L i j).length=L.length:=by simp[swp]
theorem fj{i j:Nat}(hi:i<L.length)(hj:j<L.length)(k:Nat):(swp L i j).getD k default=if k=j then L.getD i default else if k=i then L.getD j default else L.getD k default:=by
 unfold swp;rw[dQ (by simpa using hj),dQ hi];by_cases e:k=j
 ·subst e;simp
 ·rw[if_neg (λh=>e h.symm),if_neg e];by_cases e2:k=i
  ·subst e2;simp
  ·rw[if_neg (λh=>e2 h.symm),if_neg e2]
theorem Fe{i j:Nat}(hi:i<L.length)(hj:j<L.length):(swp L i j).Perm L:=by
 unfold swp;have e1:L.getD i default=L[i]:=by simp[List.getD,hi]
 have e2:L.getD j default=L[j]:=by simp[List.getD,hj]
 rw[e1,e2];exact List.set_set_perm hi hj
theorem PermR.refl:PermR a b L L:=⟨rfl,λ_ _=>rfl,List.Perm.refl _⟩
theorem PermR.trans(h:PermR a b L L')(k:PermR a b L' L''):PermR a b L L'':=⟨k.len.trans h.len,λi hi=>(k.out i hi).trans (h.out i hi),k.perm.trans h.perm⟩
theorem PermR.mono(h:PermR a' b' L L')(h1:a<=a')(h2:b'<=b):PermR a b L L':=⟨h.len,λi hi=>h.out i (by omega),h.perm⟩
theorem PermR.swap{i j:Nat}(h1:a<=i/\i<b)(h2:a<=j/\j<b)(hb:b<=L.length):PermR a b L (swp L i j):=
 ⟨B5 i j,λk hk=>by rw[fj (by omega) (by omega),if_neg (by omega),if_neg (by omega)],Fe (by omega) (by omega)⟩
theorem yC{l m:List α}(hl:l.length=m.length)(h:∀i,i<l.length->l.getD i default=m.getD i default):l=m:=
 List.ext_getElem hl (fun i h1 h2=>by
  have:=h i h1;simpa[List.getD,h1,h2] using this)
theorem PermR.mid(h:PermR a b L L')(hab:a<=b)(hb:b<=L.length):((L'.drop a).take (b-a)).Perm ((L.drop a).take (b-a)):=by
 have e1:∀M:List α,b<=M.length->M=M.take a++((M.drop a).take (b-a)++M.drop b):=λM hM=>by
  have:M.drop b=(M.drop a).drop (b-a):=by rw[List.drop_drop];congr 1;omega
  rw[this,Eu,Eu]
 have t:L'.take a=L.take a:=yC (by simp [h.len]) (fun i hi=>by
  have hi':i<a:=by simp at hi;omega
  rw[qm hi',qm hi'];exact h.out i (.inl hi'))
 have d:L'.drop b=L.drop b:=yC (by simp [h.len]) (fun i hi=>by
  have e:∀M:List α,(M.drop b).getD i default=M.getD (b+i) default:=λM=>by simp[List.getD,nB]
  rw[e,e];exact h.out (b+i) (.inr (by omega)))
 have p:=h.perm;rw[e1 L' (by rw[h.len];exact hb),e1 L hb,t,d] at p;exact(List.perm_append_right_iff _).1 ((List.perm_append_left_iff _).1 p)
theorem Bq{M:List α}{x:α}(hab:a<=b)(hb:b<=M.length):x∈(M.drop a).take (b-a)↔ ∃i,a<=i/\i<b/\M.getD i default=x:=by
 constructor
 ·intro h;obtain⟨j,hj,e⟩:=jK h;have hj':j<b-a:=by simp at hj;omega
  refine⟨a+j,by omega,by omega,?_⟩;rw[<-e];simp[List.getD,List.getElem_take,List.getElem_drop,show a+j<M.length by omega]
 ·rintro⟨i,h1,h2,rfl⟩;rw[List.mem_iff_getElem?];refine⟨i-a,?_⟩;rw[jg,if_pos (by omega),nB,show a+(i-a)=i by omega];simp[List.getD,show i<M.length by omega]
theorem PermR.all{p:α->Prop}(h:PermR a b L L')(hab:a<=b)(hb:b<=L.length)(hp:∀i,a<=i->i<b->p (L.getD i default)):∀i,a<=i->i<b->p (L'.getD i default):=by
 intro i h1 h2;have hm:L'.getD i default∈(L'.drop a).take (b-a):=(Bq hab (by rw[h.len];exact hb)).2 ⟨i,h1,h2,rfl⟩;obtain⟨j,k1,k2,e⟩:=(Bq hab hb).1 ((h.mid hab hb).mem_iff.1 hm);rw[<-e];exact hp j k1 k2
end
structure Ord{α:Type}(K:α->α->Int):Prop where
 irr:∀x,¬K x x<0
 asym:∀x y,K x y<0->¬K y x<0
 negtr:∀x y z,¬K y x<0->¬K z y<0->¬K z x<0
def bu{α:Type}[Inhabited α](K:α->α->Int)(a b:Nat)(L:List α):Prop:=∀i j,a<=i->i<j->j<b->¬K (L.getD j default) (L.getD i default)<0
theorem bu.one{α:Type}[Inhabited α]{K:α->α->Int}{a b:Nat}{L:List α}(h:b<=a+1):bu K a b L:=λi j h1 h2 h3=>by omega
structure LinK{α:Type}(K:α->α->Int):Prop where
 ord:Ord K
 eq:∀x y,¬K x y<0->¬K y x<0->x=y
def ce{α:Type}(K:α->α->Int)(l:List α):Prop:=l.Pairwise λx y=>K x y<0
def li{α:Type}(K:α->α->Int):List α->α->List α
 |[],v=>[v]
 |a::l,v=>if K v a<0 then v::a::l else a::li K l v
section
variable{α:Type}[DecidableEq α]{K:α->α->Int}
def mb(K:α->α->Int)(acc:List α)(v:α):List α:=if v∈acc then acc else li K acc v
def qh(K:α->α->Int)(acc l:List α):List α:=l.foldl (mb K) acc
def mi(K:α->α->Int)(l:List α):List α:=qh K [] l
omit [DecidableEq α] in
theorem ce.nil:ce K ([]:List α):=qB
omit [DecidableEq α] in
theorem ce.nodup{l:List α}(hK:LinK K)(h:ce K l):l.Nodup:=yR (λ{a b} h e=>by subst e;exact hK.ord.irr a h) h
omit [DecidableEq α] in
theorem LinK.tri(hK:LinK K)(x y:α):K x y<0\/x=y\/K y x<0:=by
 by_cases h1:K x y<0
 ·exact .inl h1
 ·by_cases h2:K y x<0
  ·exact .inr (.inr h2)
  ·exact .inr (.inl (hK.eq x y h1 h2))
omit [DecidableEq α] in
theorem LinK.trans(hK:LinK K){x y z:α}(h1:K x y<0)(h2:K y z<0):K x z<0:=by
 refine Decidable.byContradiction λhn=>?_;exact hK.ord.negtr z x y hn (hK.ord.asym _ _ h1) h2
omit [DecidableEq α] in
theorem nw{a b:List α}(hK:LinK K)(ha:ce K a)(hb:ce K b)(h:∀x,x∈a↔x∈b):a=b:=by
 classical
 have hp:a.Perm b:=(List.perm_ext_iff_of_nodup (ha.nodup hK) (hb.nodup hK)).2 h;exact List.Perm.eq_of_pairwise (λx y _ _ h1 h2=>absurd h2 (hK.ord.asym _ _ h1)) ha hb hp
omit [DecidableEq α] in
theorem zP{l:List α}{v x:α}:x∈li K l v↔x∈l\/x=v:=by
 induction l with
 |nil=>simp[li]
 |cons a l ih=>
  unfold li;split
  ·simp only[da];exact⟨λh=>h.elim .inr .inl,λh=>h.elim .inr .inl⟩
  ·rw[da,ih,da,or_assoc]
omit [DecidableEq α] in
theorem D9{l:List α}{v:α}(hK:LinK K)(h:ce K l)(hv:v∉l):ce K (li K l v):=by
 induction l with
 |nil=>exact List.pairwise_singleton _ _
 |cons a l ih=>
  unfold ce at h;rw[iz] at h;unfold li;split
  ·rename_i hlt
   exact iz.2 ⟨fun y hy=>by
    rcases da.1 hy with rfl|hy
    ·exact hlt
    ·exact hK.trans hlt (h.1 y hy),iz.2 h⟩
  ·rename_i hlt;refine iz.2 ⟨λy hy=>?_,ih h.2 λhm=>hv (ec _ hm)⟩;rcases zP.1 hy with hy|rfl
   ·exact h.1 y hy
   ·rcases hK.tri y a with k|k|k
    ·exact absurd k hlt
    ·exact absurd (k▸dg) hv
    ·exact k
omit [DecidableEq α] in
theorem yU{l:List α}{v:α}:(li K l v).length=l.length+1:=by
 induction l with
 |nil=>rfl
 |cons a l ih=>unfold li;split<;>simp[ih]
theorem FK{acc:List α}{v x:α}:x∈mb K acc v↔x∈acc\/x=v:=by
 unfold mb;split
 ·rename_i h;exact⟨.inl,λh2=>h2.elim id (λe=>e▸h)⟩
 ·exact zP
theorem F7{acc:List α}{v:α}(hK:LinK K)(h:ce K acc):ce K (mb K acc v):=by
 unfold mb;split
 ·exact h
 ·rename_i hn;exact D9 hK h hn
theorem DZ{acc:List α}{v:α}:(mb K acc v).length<=acc.length+1:=by
 unfold mb;split
 ·omega
 ·rw[yU];exact aR _
theorem zc:∀{l acc:List α}{x:α},x∈qh K acc l↔x∈acc\/x∈l
 |[],acc,x=>by simp[qh]
 |v::l,acc,x=>by
  rw[show qh K acc (v::l)=qh K (mb K acc v) l from rfl,zc,FK,da,or_assoc]
theorem zq(hK:LinK K):∀{l acc:List α},ce K acc->ce K (qh K acc l)
 |[],_,h=>h
 |v::l,acc,h=>zq hK (l:=l) (F7 hK (v:=v) h)
theorem yX:∀{l acc:List α},(qh K acc l).length<=acc.length+l.length
 |[],acc=>by simp[qh]
 |v::l,acc=>by
  rw[show qh K acc (v::l)=qh K (mb K acc v) l from rfl];have:=yX (l:=l) (acc:=mb K acc v);have:=DZ (K:=K) (acc:=acc) (v:=v);rw[bK];omega
theorem DS{acc l:List α}{v:α}:qh K acc (l++[v])=mb K (qh K acc l) v:=by
 unfold qh;rw[List.foldl_append];rfl
theorem sB(hK:LinK K)(l:List α):ce K (mi K l):=zq hK qB
theorem mF{l:List α}{x:α}:x∈mi K l↔x∈l:=by
 unfold mi;rw[zc];simp
theorem pc{l:List α}:(mi K l).length<=l.length:=by
 have:=yX (K:=K) (l:=l) (acc:=[]);unfold mi;rw[fo] at this;omega
theorem GL(hK:LinK K){l:List α}(h:ce K l):mi K l=l:=nw hK (sB hK l) h λ_=>mF
theorem CS{l:List α}{v:α}:mi K (l++[v])=mb K (mi K l) v:=DS
theorem yK{l:List α}:mi K l=[]↔l=[]:=by
 constructor
 ·intro h;cases l with
  |nil=>rfl
  |cons a l=>
   have:a∈mi K (a::l):=mF.2 (dg ..);rw[h] at this;exact absurd this (by simp)
 ·rintro rfl;rfl
end
section
variable{α:Type}[Inhabited α][DecidableEq α]
end
abbrev Shn{α:Type}(l:List α):Prop:=l.length<=17592186044416
structure Vtx where
 color:Int
 label:Int
 deriving Inhabited,DecidableEq
abbrev Spx:=List Vtx
def DW(v:Vtx):List AV:=[.int .i64 v.color,.int .i64 v.label]
abbrev dF(v:Vtx):AV:=.agg [.int .i64 v.color,.int .i64 v.label]
def aA(l:Spx):AV:=jf 2 dF l
def am(l:List Spx):AV:=jf 1 aA l
def cX(l:Spx):List AV:=l.flatMap DW
theorem FF(v:Vtx):Dat (dF v):=Dat.agg (DatL.cons .int (DatL.cons .int DatL.nil))
theorem cS (l:Spx):Dat (aA l):=sg (fun x _ c hc=>by
 simp only[dF,AV.cells,da,List.not_mem_nil,or_false] at hc;rcases hc with rfl|rfl<;>exact .int)
theorem bA (l:List Spx):Dat (am l):=sg (fun x _ c hc=>by
 simp only[aA,jf,AV.cells,cW] at hc;subst hc;exact cS x)
instance datI_encX{v:Vtx}:DatI (dF v):=⟨FF v⟩
instance datI_encXs{l:Spx}:DatI (aA l):=⟨cS l⟩
instance datI_encXss{l:List Spx}:DatI (am l):=⟨bA l⟩
theorem aJ{l:Spx}:(aA l).cells=[aA l]:=rfl
theorem aZ{l:Spx}:(aA l).one=true:=rfl
theorem af{l:List Spx}:(am l).cells=[am l]:=rfl
theorem ai{l:List Spx}:(am l).one=true:=rfl
theorem A9{l:Spx}{k:IntKind}{n:Int}:eu 2 (aA l) (.int k n)=if 0<=n/\n<l.length then some (.iptr [.int .i64 (l.getD n.toNat default).color,.int .i64 (l.getD n.toNat default).label] 0) else none:=mX
theorem ao{l:Spx}:dx (aA l)=some (.int .i64 l.length):=lm
theorem rm{l:List Spx}{k:IntKind}{n:Int}:eu 1 (am l) (.int k n)=if 0<=n/\n<l.length then some (.iptr [aA (l.getD n.toNat default)] 0) else none:=mX
theorem ae{l:List Spx}:dx (am l)=some (.int .i64 l.length):=lm
theorem ix2{l:Spx}{k:Nat}(h:k<l.length):eu 2 (aA l) (.int .i64 (k:Int))=some (.iptr [.int .i64 (l.getD k default).color,.int .i64 (l.getD k default).label] 0):=by
 rw[A9,if_pos ⟨by omega,by omega⟩,cz]
theorem dH{l:List Spx}{k:Nat}(h:k<l.length):eu 1 (am l) (.int .i64 (k:Int))=some (.iptr [aA (l.getD k default)] 0):=by
 rw[rm,if_pos ⟨by omega,by omega⟩,cz]
theorem gX(l:Spx):(cX l).length=l.length*2:=by
 induction l with
 |nil=>rfl
 |cons a l ih=>rw[cX,ut,cA,bK,show(l.flatMap DW).length=l.length*2 from ih];show 2+_=_;omega
theorem mY(l m:Spx):cX (l++m)=cX l++cX m:=List.flatMap_append
theorem IT(v:Vtx):cX [v]=[.int .i64 v.color,.int .i64 v.label]:=rfl
theorem Bc(l:Spx):(l.map dF).flatMap AV.cells=cX l:=by
 induction l with
 |nil=>rfl
 |cons a l ih=>rw[fX,ut,ih];rfl
theorem Gk{H:Hp}{s:AV}{l:Spx}(h:Row H 2 s (cX l)):Snap H s (aA l):=by
 refine Row.snap (elems:=l.map dF) (by rw[Bc];exact h) (λy hy=>?_) (by omega) (λy hy c hx=>?_)
 ·obtain⟨n,_,rfl⟩:=bG.1 hy;rfl
 ·obtain⟨n,_,rfl⟩:=bG.1 hy;simp only[dF,AV.cells,da,List.not_mem_nil,or_false] at hx;rcases hx with rfl|rfl<;>exact .int
theorem gj{H:Hp}{s:AV}{l:List Spx}(h:Row H 1 s (l.map aA)):Snap H s (am l):=h.snapL' (λ_=>rfl) (λx _=>cS x)
theorem vq{H:Hp}{l:Spx}:gg 2 H (aA l)=some (l.length,cX l):=by
 unfold aA jf;rw[jP,Bc];simp
theorem kR(l:Spx):AV.ones (cX l)=true:=by
 unfold AV.ones;rw[eB];intro x hx;obtain⟨v,_,hv⟩:=List.mem_flatMap.1 hx;simp only[DW,da,List.not_mem_nil,or_false] at hv;rcases hv with rfl|rfl<;>rfl
def cJ(v w:Vtx):Int:=if v.color<w.color then-1 else if v.color>w.color then 1 else if v.label<w.label then-1 else if v.label>w.label then 1 else 0
def bh:Spx->Spx->Int
 |[],[]=>0
 |[],_::_=>-1
 |_::_,[]=>1
 |a::l,b::m=>if cJ a b≠0 then cJ a b else bh l m
theorem oJ{v w:Vtx}:cJ v w<0↔v.color<w.color\/(v.color=w.color/\v.label<w.label):=by
 unfold cJ;(repeat' split)<;>constructor<;>intro h<;>omega
theorem oB{v w:Vtx}:v=w↔v.color=w.color/\v.label=w.label:=by
 obtain⟨a,b⟩:=v;obtain⟨c,d⟩:=w;simp
theorem jp{v w:Vtx}:cJ v w=0↔v=w:=by
 rw[oB];unfold cJ;(repeat' split)<;>constructor<;>intro h<;>omega
theorem u9(v w:Vtx):cJ w v=- cJ v w:=by
 unfold cJ;(repeat' split)<;>omega
theorem z9:LinK cJ where
 ord:={irr:=λx=>by rw[oJ];omega,asym:=λx y h=>by rw[oJ] at *;omega,negtr:=λx y z h1 h2=>by rw[oJ] at *;omega}
 eq:=λx y h1 h2=>by rw[oJ] at *;rw[oB];omega
theorem f9:∀l:Spx,bh l l=0
 |[]=>rfl
 |a::l=>by rw[bh,jp.2 rfl,if_neg (by simp)];exact f9 l
theorem pu:∀{l m:Spx},bh l m=0->l=m
 |[],[],_=>rfl
 |[],_::_,h=>by simp[bh] at h
 |_::_,[],h=>by simp[bh] at h
 |a::l,b::m,h=>by
  rw[bh] at h;by_cases e:cJ a b=0
  ·rw[if_neg (λh=>h e)] at h;rw[jp.1 e,pu h]
  ·rw[if_pos e] at h;exact absurd h e
theorem vK{l m:Spx}:bh l m=0↔l=m:=⟨pu,λh=>by rw[h];exact f9 _⟩
theorem qg:∀l m:Spx,bh m l=- bh l m
 |[],[]=>rfl
 |[],_::_=>rfl
 |_::_,[]=>rfl
 |a::l,b::m=>by
  rw[bh,bh,u9 a b];by_cases e:cJ a b=0
  ·rw[e,if_neg (by simp),if_neg (by simp)];exact qg l m
  ·rw[if_pos (by omega),if_pos e]
theorem sj:∀(x y z:Spx),¬bh y x<0->¬bh z y<0->¬bh z x<0
 |[],_,[],_,_=>by simp[bh]
 |[],_,_::_,_,_=>by simp[bh]
 |_::_,[],_,h,_=>by simp[bh] at h
 |_::_,_::_,[],_,h=>by simp[bh] at h
 |a::x,b::y,c::z,h1,h2=>by
  rw[bh] at h1 h2 |-;have n:=z9.ord.negtr a b c;by_cases e1:cJ b a=0
  ·have e1':=jp.1 e1;subst e1';rw[if_neg (λh=>h e1)] at h1;by_cases e2:cJ c b=0
   ·rw[if_neg (λh=>h e2)] at h2 |-;exact sj x y z h1 h2
   ·rw[if_pos e2] at h2 |-;exact h2
  ·rw[if_pos e1] at h1;by_cases e2:cJ c b=0
   ·have e2':=jp.1 e2;subst e2';rw[if_pos e1];exact h1
   ·rw[if_pos e2] at h2;have h3:=n h1 h2;by_cases e3:cJ c a=0
    ·exfalso;have e3':=jp.1 e3;subst e3';have:=u9 b c;omega
    ·rw[if_pos e3];exact h3
theorem lO:LinK bh where
 ord:={irr:=λx=>by rw[f9];omega,asym:=λx y h=>by rw[qg];omega,negtr:=sj}
 eq:=λx y h1 h2=>by
  have:=qg x y;exact pu (by omega)
theorem vS{l m:Spx}{k:Nat}(h1:k<l.length)(h2:k<m.length):bh (l.drop k) (m.drop k)=if cJ (l.getD k default) (m.getD k default)≠0 then cJ (l.getD k default) (m.getD k default) else bh (l.drop (k+1)) (m.drop (k+1)):=by
 rw[eW h1,eW h2,bh]
theorem tM{l m:Spx}{k:Nat}(h:l.length<=k\/m.length<=k)(hk:k<=l.length/\k<=m.length):bh (l.drop k) (m.drop k)=if l.length<m.length then-1 else if m.length<l.length then 1 else 0:=by
 by_cases e1:l.length=k
 ·rw[E5 (show l.length<=k by omega)];by_cases e2:m.length=k
  ·rw[E5 (by omega),if_neg (by omega),if_neg (by omega)];rfl
  ·rw[eW (l:=m) (k:=k) (by omega),if_pos (by omega)];rfl
 ·have e2:m.length=k:=by omega
  rw[eW (l:=l) (k:=k) (by omega),E5 (show m.length<=k by omega),if_neg (by omega),if_pos (by omega)];rfl
def dj(f:Nat->Int):Nat->Int
 |0=>0
 |n+1=>if dj f n≠0 then dj f n else f n
theorem cT{f:Nat->Int}:∀{n:Nat},(∀i,i<n->f i=0)->dj f n=0
 |0,_=>rfl
 |n+1,h=>by
  have:=cT (f:=f) (n:=n) (λi hi=>h i (by omega));rw[dj,this,if_neg (by simp)];exact h n (by omega)
theorem ci{f:Nat->Int}:∀{n k:Nat},k<n->(∀i,i<k->f i=0)->f k≠0->dj f n=f k
 |0,k,h,_,_=>absurd h (by omega)
 |n+1,k,h,h0,hk=>by
  rw[dj];by_cases e:k=n
  ·subst e;rw[cT h0,if_neg (by simp)]
  ·rw[ci (n:=n) (by omega) h0 hk,if_pos hk]
theorem gK{f:Nat->Int}:∀{n:Nat},dj f n=0->∀i,i<n->f i=0
 |0,_,i,h=>absurd h (by omega)
 |n+1,h,i,hi=>by
  rw[dj] at h;by_cases e:dj f n=0
  ·rw[e,if_neg (by simp)] at h;by_cases ei:i=n
   ·subst ei;exact h
   ·exact gK e i (by omega)
  ·rw[if_pos e] at h;exact absurd h e
def fP(v:Vtx):Bool:=decide (0<=v.color)&&decide (v.color<8)&&(decide (0<=v.label)&&decide (v.label<=1048576))
def nQ(l:Spx)(k:Nat):Int:=if fP (l.getD k default)=false then 2 else if 0<k/\0<=cJ (l.getD (k-1) default) (l.getD k default) then 14 else 0
def bQ(l:Spx):Int:=if l.length=0 then 16 else if 8<l.length then 5 else dj (nQ l) l.length
theorem cE{l:Spx}(h:bQ l=0):1<=l.length/\l.length<=8/\ce cJ l/\∀v∈l,fP v=true:=by
 unfold bQ at h;split at h
 ·exact absurd h (by decide)
 split at h
 ·exact absurd h (by decide)
 rename_i h1 h2;have hz:=gK h
 have h3:∀k,k<l.length->fP (l.getD k default)=true/\(0<k->cJ (l.getD (k-1) default) (l.getD k default)<0):=λk hk=>by
  have:=hz k hk;unfold nQ at this;split at this
  ·exact absurd this (by decide)
  rename_i g1;split at this
  ·exact absurd this (by decide)
  rename_i g2;exact⟨by simpa using g1,λh0=>by omega⟩
 refine⟨by omega,by omega,?_,λv hv=>?_⟩
 ·have step:∀j i,i<j->j<l.length->cJ (l.getD i default) (l.getD j default)<0:=by
    intro j
    induction j with
    |zero=>intro i h;omega
    |succ j ih=>
     intro i hi hj;have hs:=(h3 (j+1) hj).2 (by omega);rw[rF] at hs;by_cases e:i=j
     ·subst e;exact hs
     ·exact z9.trans (ih i (by omega) (by omega)) hs
  unfold ce;rw[k9];intro i j hi hj hij;have:=step j i hij hj;simpa[List.getD,hi,hj] using this
 ·obtain⟨i,hi,rfl⟩:=jK hv;have:=(h3 i hi).1;simpa[List.getD,hi] using this
theorem eO{α:Type}[Inhabited α]{K:α->α->Int}{l:List α}(h:ce K l){i j:Nat}(hij:i<j)(hj:j<l.length):K (l.getD i default) (l.getD j default)<0:=by
 have:=k9.1 h i j (by omega) hj hij;simpa[List.getD,hj,show i<l.length by omega] using this
theorem yJ{l:Spx}(h1:1<=l.length/\l.length<=8)(h2:ce cJ l)(h3:∀v∈l,fP v=true):bQ l=0:=by
 unfold bQ;rw[if_neg (by omega),if_neg (by omega)];refine cT λk hk=>?_;unfold nQ;rw[h3 _ (bk hk),if_neg (by simp),if_neg];rintro⟨h0,h4⟩;have:=eO h2 (i:=k-1) (j:=k) (by omega) hk;omega
def c3i(a b:Int):Int:=if a<b then-1 else if a>b then 1 else 0
theorem GV(v w:Vtx):(if c3i v.color w.color≠0 then c3i v.color w.color else c3i v.label w.label)=cJ v w:=by
 unfold c3i cJ;by_cases h1:v.color<w.color
 ·rw[if_pos h1,if_pos h1,if_pos (by simp)]
 ·rw[if_neg h1,if_neg h1];by_cases h2:v.color>w.color
  ·rw[if_pos h2,if_pos h2,if_pos (by simp)]
  ·rw[if_neg h2,if_neg h2,if_neg (by simp)]
theorem Bf(a b c d:Int):dC [.int,.int] [.int .i64 a,.int .i64 b] [.int .i64 c,.int .i64 d]=some (decide (a=c/\b=d)):=by
 have e:∀x y:Int,(x==y)=decide (x=y):=λx y=>rfl;by_cases h1:a=c
 ·by_cases h2:b=d
  ·subst h1 h2;simp[dC,jx]
  ·subst h1;simp only[dC,jx,if_true,e,aO h2,decide_true,h2,and_false,decide_false]
 ·simp only[dC,jx,if_true,e,aO h1,h1,false_and,decide_false]
theorem acq(a b c d:Int):oE .eql [.int,.int] [.int .i64 a,.int .i64 b] [.int .i64 c,.int .i64 d]=some (.bool (decide (a=c/\b=d))):=by
 unfold oE;rw[Bf]
theorem acn(a b c d:Int):oE .neq [.int,.int] [.int .i64 a,.int .i64 b] [.int .i64 c,.int .i64 d]=some (.bool (!decide (a=c/\b=d))):=by
 unfold oE;rw[Bf]
theorem xR(v w:Vtx):decide (v.color=w.color/\v.label=w.label)=decide (v=w):=decide_eq_decide.2 oB.symm
theorem qu{H:Hp}{d:Nat}{x y:AV}:gg 2 (ar H d [x,y]) (.msl d 2 2 0 1)=some (1,[x,y]):=ft (n:=2) (len:=1) (off:=0) (cs:=[x,y]) ah rfl (by simp)
theorem bI{α:Type}[Inhabited α]{l:List α}{k:Nat}(h:k<l.length):l.take (k+1)=l.take k++[l.getD k default]:=by
 rw[List.take_add_one];simp[List.getD,h]
section
variable{α:Type}{K:α->α->Int}{v x:α}{l:List α}
theorem yN(h:l.any (λy=>decide (K v y<0))=true):li K (l++[x]) v=li K l v++[x]:=by
 induction l with
 |nil=>cases h
 |cons a l ih=>
  rw[List.cons_append,li,li];split
  ·rfl
  ·rename_i ha;rw[List.any_cons,aO ha,Bool.false_or] at h;rw[ih h];rfl
theorem CZ(h:l.any (λy=>decide (K v y<0))=false):li K l v=l++[v]:=by
 induction l with
 |nil=>rfl
 |cons a l ih=>
  rw[List.any_cons,Bool.or_eq_false_iff] at h;rw[li,if_neg (of_decide_eq_false h.1),ih h.2];rfl
theorem Dq(h:l.any (λy=>decide (K v y<0))=false)(hx:K v x<0):li K (l++[x]) v=l++[v]++[x]:=by
 induction l with
 |nil=>rw[List.nil_append,li,if_pos hx];rfl
 |cons a l ih=>
  rw[List.any_cons,Bool.or_eq_false_iff] at h;rw[List.cons_append,li,if_neg (of_decide_eq_false h.1),ih h.2];rfl
theorem FG{p:α->Bool}:(l++[x]).any p=(l.any p || p x):=by rw[List.any_append];simp
end
def eh(a b:Spx):Bool:=a.all λv=>decide (v∈b)
section
attribute [local irreducible] aK ak bg a6 aQ aS aE aU a8 bn Go.Abs.Fn a5 Go.Abs.Pure au aM Yl
theorem jv(n:Int):pU 165 [.int .i64 n] (.bool false):=by
 refine pO KF ?_;simp only[MW,aH];refine wnZ and_self ?_;exact cf (aO (λh=>h rfl))
theorem Ex(a b:Int):pU 152 [.int .i64 a,.int .i64 b] (.int .i64 (c3i a b)):=by
 refine pO KZ ?_;simp only[Kw,aH];have h1:=jv a;have h2:=jv b;unfold c3i
 repeat' (first|refine zW ?_|apply a_n|apply a_r|refine zO ?_|refine vZ ?_|refine cZ ?_ (hp:=by first|exact h1|exact h2)|refine cFZ ?_|(refine zGZ ?_ ?_<;>(intro _hg;try (exfalso;omega)))|refine bS rfl ?_|refine r1Z ?_|fail)
 all_goals (refine d6 ?_)
 ·rw[if_pos (by omega)]
 ·rw[if_neg (by omega),if_pos (by omega)]
 ·rw[if_neg (by omega),if_neg (by omega)]
theorem LX(a b:Int):pU 151 [aC [a,b]] (.int .i64 (if a≠0 then a else b)):=by
 refine pO Ko ?_;simp only[LK,aH];refine wnZ and_self ?_;refine Cj (λk=>[(3,.int .i64 0),(6,aC [a,b]),(7,.int .i64 2),(8,.int .i64 k)]) 2 (λk=>[a,b].getD k default=0) (by(iterate 4 refine And.intro rfl ?_);trivial) ?_;intro k hk hz;rcases(by omega:k=0\/k=1\/k=2) with rfl|rfl|rfl
 ·have e:[a,b].getD 0 default=a:=rfl;have ix:eu 1 (aC [a,b]) (.int .i64 ((0:Nat):Int))=some (.iptr [.int .i64 a] 0):=rfl;by_cases h0:a=0
  ·have z:decide (a≠0)=false:=aO (λh=>h h0);refine wnZ (aI @ix @z) ?_;exact⟨by omega,h0,by(iterate 4 refine And.intro rfl ?_);trivial,rfl,rfl⟩
  ·have z:decide (a≠0)=true:=aL h0;refine wnZ (aI @ix @z) ?_;rw[if_pos h0];exact .int _ _
 ·have h0:a=0:=hz 0 (by omega);have ix:eu 1 (aC [a,b]) (.int .i64 ((1:Nat):Int))=some (.iptr [.int .i64 b] 0):=rfl;rw[if_neg (λh=>h h0)];by_cases h1:b=0
  ·have z:decide (b≠0)=false:=aO (λh=>h h1);refine wnZ (aI @ix @z) ?_;exact⟨by omega,h1,by(iterate 4 refine And.intro rfl ?_);trivial,rfl,rfl⟩
  ·have z:decide (b≠0)=true:=aL h1;refine wnZ (aI @ix @z) ?_;exact .int _ _
 ·have h0:a=0:=hz 0 (by omega);have h1:b=0:=hz 1 (by omega);rw[if_neg (λh=>h h0),h1];refine wnZ and_self ?_;exact .int _ _
theorem Bp(v w:Vtx):pU 123 [dF v,dF w] (.int .i64 (cJ v w)):=by
 refine pO Lh ?_;simp only[M9,aH];have h1:=Ex v.color w.color;have h2:=Ex v.label w.label;have h3:=LX (c3i v.color w.color) (c3i v.label w.label);rw[GV] at h3;refine wkZ and_self ?_;refine ef ev0 (by((try simp only[bZ,ZA,reduceEqDiff,↓reduceIte,reduceAdd,reduceLeDiff]);(try with_reducible rfl));rfl) h3 (aF (ag (ea ah rfl rfl) aj) rfl) ?_;refine wnZ and_self ?_;exact .int _ _
theorem uc(v w:Vtx):pU 126 [dF v,dF w] (.int .i64 (cJ v w)):=by
 refine pO J0 ?_;simp only[KG,aH];unfold cJ
 repeat' (first|refine zW ?_|apply a_n|apply a_r|refine zO ?_|refine vZ ?_|refine bxZ ?_|(refine zGZ ?_ ?_<;>(intro _hg;try (exfalso;omega)))|refine bS rfl ?_|refine r1Z ?_|fail)
 all_goals (refine d6 ?_;(repeat' split)<;>omega)
theorem AR(v:Vtx):pU 153 [dF v] (.bool (fP v)):=by
 refine pO ML ?_;simp only[Mn,aH];unfold fP
 repeat' (first|refine zW ?_|apply a_n|refine zO ?_|refine vZ ?_|refine bxZ ?_|refine gTZ ?_|refine gFZ ?_|(refine zGZ ?_ ?_<;>(intro _hg;try (exfalso;omega)))|refine bS rfl ?_|refine r1Z ?_|fail)
 all_goals (refine cf ?_;rw[Bool.eq_iff_iff];simp only[dN,xt,jO,false_iff];omega)
theorem DG(v:Vtx):pU 125 [dF v] (.bool (fP v)):=by
 refine pO KA ?_;simp only[LA,aH];unfold fP
 repeat' (first|refine zW ?_|apply a_n|refine zO ?_|refine vZ ?_|refine bxZ ?_|refine gTZ ?_|refine gFZ ?_|(refine zGZ ?_ ?_<;>(intro _hg;try (exfalso;omega)))|refine bS rfl ?_|refine r1Z ?_|fail)
 all_goals (refine cf ?_;rw[Bool.eq_iff_iff];simp only[dN,xt,jO,false_iff];omega)
theorem zy(l m:Spx)(hl:Shn l)(hm:Shn m):pU 122 [aA l,aA m,.func 123 []] (.int .i64 (bh l m)):=by
 refine pO L9 ?_;simp only[KV,aH];have hl':l.length<=17592186044416:=hl;have hm':m.length<=17592186044416:=hm;refine wnZ @ao ?_;refine bN (X:=Nat) (λk=>[(0,aA l),(1,aA m),(2,.func 123 []),(11,aA l),(12,.int .i64 l.length),(13,.int .i64 k)]) (λk H nx=>k<=l.length/\k<=m.length/\bh l m=bh (l.drop k) (m.drop k)) (λk=>l.length-k) 0 ⟨bw _,bw _,rfl⟩ ag0 ?_;rintro k H nx ⟨h1,h2,h3⟩;by_cases hk:k<l.length
 rotate_left
 ·rw[h3,tM (by omega) ⟨h1,h2⟩];have zz:=@ao;repeat' (first|refine zW ?_|apply a_n|apply a_x|apply a_r|refine zO ?_|refine vY ?_|(refine zGY ?_ ?_<;>(intro _hg;try (exfalso;omega)))|refine bS rfl ?_|refine r1Y ?_|fail)
  all_goals (refine d6 ?_)
  ·rw[if_pos (by omega)]
  ·rw[if_neg (by omega),if_neg (by omega)]
 have ix:=ix2 hk;by_cases hk2:k<m.length
 rotate_left
 ·rw[h3,tM (by omega) ⟨h1,h2⟩,if_neg (by omega),if_pos (by omega)];refine wnY (aI @ao @ix) ?_
  all_goals exact d6 rfl
 have iy:=ix2 hk2;have hc:=Bp (l.getD k default) (m.getD k default);have hd:=vS hk hk2;by_cases he:cJ (l.getD k default) (m.getD k default)=0
 ·rw[if_neg (λh=>h he)] at hd;rw[he] at hc;have z:decide ((0:Int)≠0)=false:=rfl;refine wnY (zI4 @ao @ix @iy @z) ?_;exact⟨k+1,by omega,⟨by omega,by omega,h3.trans hd⟩,ag0⟩
 ·rw[if_pos he] at hd;have z:decide (cJ (l.getD k default) (m.getD k default)≠0)=true:=aL he;rw[h3,hd];refine wnY (zI4 @ao @ix @iy @z) ?_;exact .int _ _
theorem gR(l m:Spx)(hl:Shn l)(hm:Shn m):pU 70 [aA l,aA m] (.int .i64 (bh l m)):=by
 refine pO Oq ?_;simp only[b70,aH];have h:=zy l m hl hm;refine wnZ and_self ?_;exact .int _ _
theorem fW(l m:Spx)(hl:Shn l)(hm:Shn m):pU 73 [aA l,aA m] (.int .i64 (bh l m)):=by
 refine pO NF ?_;simp only[b73,aH];have hl':l.length<=17592186044416:=hl;have hm':m.length<=17592186044416:=hm;refine wnZ and_self ?_;refine bN (X:=Nat) (λk=>[(0,aA l),(1,aA m),(5,.int .i64 k)]) (λk H nx=>k<=l.length/\k<=m.length/\bh l m=bh (l.drop k) (m.drop k)) (λk=>l.length-k) 0 ⟨bw _,bw _,rfl⟩ ag0 ?_;rintro k H nx ⟨h1,h2,h3⟩;by_cases hk:k<l.length/\k<m.length
 rotate_left
 ·rw[h3,tM (by omega) ⟨h1,h2⟩];have zz:=@ao;repeat' (first|refine zW ?_|apply a_n|apply a_x|apply a_r|refine zO ?_|refine vY ?_|refine gTY ?_|refine gFY ?_|refine cFY ?_|(refine zGY ?_ ?_<;>(intro _hg;try (exfalso;omega)))|refine bS rfl ?_|refine r1Y ?_|fail)
  all_goals (refine d6 ?_;(repeat' split)<;>omega)
 have ix:=ix2 hk.1;have iy:=ix2 hk.2;have hc:=uc (l.getD k default) (m.getD k default);have hd:=vS hk.1 hk.2;by_cases he:cJ (l.getD k default) (m.getD k default)=0
 ·rw[if_neg (λh=>h he)] at hd;rw[he] at hc;have z:decide ((0:Int)≠0)=false:=rfl;refine wkY (zI4 @ao @ix @iy @z) ?_;exact⟨k+1,by omega,⟨by omega,by omega,h3.trans hd⟩,ag0⟩
 ·rw[if_pos he] at hd;have z:decide (cJ (l.getD k default) (m.getD k default)≠0)=true:=aL he;rw[h3,hd];refine wkY (zI4 @ao @ix @iy @z) ?_;exact .int _ _
theorem Bz(l m:Spx)(hl:Shn l)(hm:Shn m):pU 63 [aA l,aA m] (.bool (decide (l=m))):=by
 refine pO NB ?_;simp only[b63,aH];have h:=fW l m hl hm;refine wnZ and_self ?_;exact cf (decide_eq_decide.2 vK)
theorem ri{l:Spx}{k:Nat}:nQ l k=if fP (l.getD k default)=false then 2 else if 0<k/\0<=cJ (l.getD (k-1) default) (l.getD k default) then 14 else 0:=rfl
theorem pD(l:Spx)(hl:Shn l):pU 128 [aA l] (.int .i64 (bQ l)):=by
 refine pO K6 ?_;simp only[MO,aH];have hl':l.length<=17592186044416:=hl;by_cases h0:l.length=0
 ·rw[show bQ l=16 by unfold bQ;rw[if_pos h0]];refine wnZ @ao ?_
  all_goals exact d6 rfl
 by_cases h8:8<l.length
 ·rw[show bQ l=5 by unfold bQ;rw[if_neg h0,if_pos h8]];refine wnZ @ao ?_
  all_goals exact d6 rfl
 rw[show bQ l=dj (nQ l) l.length by unfold bQ;rw[if_neg h0,if_neg h8]];refine wnZ @ao ?_;refine bN (X:=Nat) (λk=>[(0,aA l),(13,aA l),(14,.int .i64 l.length),(15,.int .i64 k)]) (λk H nx=>k<=l.length/\∀i,i<k->nQ l i=0) (λk=>l.length-k) 0 ⟨bw _,λi h=>absurd h (by omega)⟩ ag0 ?_;rintro k H nx ⟨h1,h2⟩;by_cases hk:k<l.length
 rotate_left
 ·rw[cT λi hi=>h2 i (by omega)];refine wnY @ao ?_;exact .int _ _
 have ix:=ix2 hk;have hp:=AR (l.getD k default);have hs:=ri (l:=l) (k:=k);cases hr:fP (l.getD k default)
 ·rw[hr] at hp;rw[hr,if_pos rfl] at hs;rw[ci hk h2 (by rw[hs];decide),hs];refine wnY (aI @ao @ix) ?_;exact .int _ _
 rw[hr] at hp;rw[hr,if_neg (by decide)] at hs;by_cases hk0:0<k
 rotate_left
 ·rw[if_neg (λh=>hk0 h.1)] at hs;have zk:decide (0<(k:Int))=false:=aO (by omega);refine wkY (zI3 @ao @ix @zk) ?_
  exact ⟨k + 1,by omega,⟨by omega,fun i hi=>by
   rcases gN.1 hi with h|rfl
   ·exact h2 i h
   ·exact hs⟩,ag0⟩
 have zk:decide (0<(k:Int))=true:=aL (by omega)
 have iy:eu 2 (aA l) (.int .i64 ((k:Int)-1))=some (.iptr [.int .i64 (l.getD (k-1) default).color,.int .i64 (l.getD (k-1) default).label] 0):=by
  have:=ix2 (l:=l) (k:=k-1) (by omega)
  rwa [show((k-1:Nat):Int)=(k:Int)-1 by omega] at this
 have hc:=Bp (l.getD (k-1) default) (l.getD k default);by_cases hv:0<=cJ (l.getD (k-1) default) (l.getD k default)
 ·have z:decide (0<=cJ (l.getD (k-1) default) (l.getD k default))=true:=aL hv;rw[if_pos ⟨hk0,hv⟩] at hs;rw[ci hk h2 (by rw[hs];decide),hs];refine wkY (zI5 @ao @ix @iy @zk @z) ?_;exact .int _ _
 ·have z:decide (0<=cJ (l.getD (k-1) default) (l.getD k default))=false:=aO hv;rw[if_neg (λh=>hv h.2)] at hs;refine wkY (zI5 @ao @ix @iy @zk @z) ?_
  exact ⟨k + 1,by omega,⟨by omega,fun i hi=>by
   rcases gN.1 hi with h|rfl
   ·exact h2 i h
   ·exact hs⟩,ag0⟩
theorem wx(l:Spx)(hl:Shn l):pU 72 [aA l] (.int .i64 (bQ l)):=by
 refine pO NT ?_;simp only[b72,aH];have hl':l.length<=17592186044416:=hl;by_cases h0:l.length=0
 ·rw[show bQ l=16 by unfold bQ;rw[if_pos h0]];refine wnZ @ao ?_
  all_goals exact d6 rfl
 by_cases h8:8<l.length
 ·rw[show bQ l=5 by unfold bQ;rw[if_neg h0,if_pos h8]];refine wnZ @ao ?_
  all_goals exact d6 rfl
 rw[show bQ l=dj (nQ l) l.length by unfold bQ;rw[if_neg h0,if_neg h8]];refine wnZ @ao ?_;refine bN (X:=Nat) (λk=>[(0,aA l),(3,.int .i64 k)]) (λk H nx=>k<=l.length/\∀i,i<k->nQ l i=0) (λk=>l.length-k) 0 ⟨bw _,λi h=>absurd h (by omega)⟩ ag0 ?_;rintro k H nx ⟨h1,h2⟩;by_cases hk:k<l.length
 rotate_left
 ·rw[cT λi hi=>h2 i (by omega)];refine wnY @ao ?_;exact .int _ _
 have ix:=ix2 hk;have hp:=DG (l.getD k default);have hs:=ri (l:=l) (k:=k);cases hr:fP (l.getD k default)
 ·rw[hr] at hp;rw[hr,if_pos rfl] at hs;rw[ci hk h2 (by rw[hs];decide),hs];refine wnY (aI @ao @ix) ?_;exact .int _ _
 rw[hr] at hp;rw[hr,if_neg (by decide)] at hs;by_cases hk0:0<k
 rotate_left
 ·rw[if_neg (λh=>hk0 h.1)] at hs;have zk:decide (0<(k:Int))=false:=aO (by omega);refine wkY (zI3 @ao @ix @zk) ?_
  exact ⟨k + 1,by omega,⟨by omega,fun i hi=>by
   rcases gN.1 hi with h|rfl
   ·exact h2 i h
   ·exact hs⟩,ag0⟩
 have zk:decide (0<(k:Int))=true:=aL (by omega)
 have iy:eu 2 (aA l) (.int .i64 ((k:Int)-1))=some (.iptr [.int .i64 (l.getD (k-1) default).color,.int .i64 (l.getD (k-1) default).label] 0):=by
  have:=ix2 (l:=l) (k:=k-1) (by omega)
  rwa [show((k-1:Nat):Int)=(k:Int)-1 by omega] at this
 have hc:=uc (l.getD (k-1) default) (l.getD k default);by_cases hv:0<=cJ (l.getD (k-1) default) (l.getD k default)
 ·have z:decide (0<=cJ (l.getD (k-1) default) (l.getD k default))=true:=aL hv;rw[if_pos ⟨hk0,hv⟩] at hs;rw[ci hk h2 (by rw[hs];decide),hs];refine wkY (zI5 @ao @ix @iy @zk @z) ?_;exact .int _ _
 ·have z:decide (0<=cJ (l.getD (k-1) default) (l.getD k default))=false:=aO hv;rw[if_neg (λh=>hv h.2)] at hs;refine wkY (zI5 @ao @ix @iy @zk @z) ?_
  exact ⟨k + 1,by omega,⟨by omega,fun i hi=>by
   rcases gN.1 hi with h|rfl
   ·exact h2 i h
   ·exact hs⟩,ag0⟩
theorem MU(l:Spx)(v:Vtx)(hl:Shn l):pU 127 [aA l,dF v] (.bool (decide (v∈l))):=by
 refine pO J9 ?_;simp only[Mg,aH];have hl':l.length<=17592186044416:=hl;refine wnZ @ao ?_;refine Cj (λk=>[(0,aA l),(3,.ptr 0 2 0),(5,.int .i64 k)]) l.length (λk=>l.getD k default≠v) (by simp (disch:=omega) only[agr,ZG,reduceEqDiff,↓reduceIte,bK,fo,cp,reduceAdd]) ?_;intro k hk hz;by_cases hk2:k<l.length
 rotate_left
 ·refine wnZ @ao ?_;exact cf (Dg λi hi=>hz i (by omega)).symm
 have ix:=ix2 hk2;have hd:=xR (l.getD k default) v;by_cases he:l.getD k default=v
 ·rw[aL he] at hd;rw[ET hk2 he];refine wnZ (zI4 @ao @ix @acq @hd) ?_;exact .bool _
 ·rw[aO he] at hd;refine wnZ (zI4 @ao @ix @acq @hd) ?_;exact⟨hk2,he,ag0,rfl,rfl⟩
theorem xT(a b:Spx)(ha:Shn a)(hb:Shn b):pU 74 [aA a,aA b] (.bool (eh a b)):=by
 refine pO Nl ?_;simp only[b74,aH];have ha':a.length<=17592186044416:=ha;refine wnZ @ao ?_;refine Cj (λk=>[(0,aA a),(1,aA b),(5,.int .i64 k)]) a.length (λk=>decide (a.getD k default∈b)=true) ag0 ?_;intro k hk hz;by_cases hk2:k<a.length
 rotate_left
 ·refine wnZ @ao ?_;exact cf (iC λi hi=>hz i (by omega)).symm
 have ix:=ix2 hk2;have hh:=MU b (a.getD k default) hb;cases hm:decide (a.getD k default∈b)
 ·rw[hm] at hh;rw[show eh a b=false from gQ hk2 hm];refine wnZ (aI @ao @ix) ?_;exact .bool _
 ·rw[hm] at hh;refine wnZ (aI @ao @ix) ?_;exact⟨hk2,rfl,ag0,rfl,rfl⟩
theorem CG(x y:List Spx)(hx:Shn x)(hy:Shn y)(hxs:∀v∈x,Shn v)(hys:∀v∈y,Shn v):pU 23 [am x,am y] (.bool (decide (x=y))):=by
 refine pO N4 ?_;simp only[b23,aH];have hx':x.length<=17592186044416:=hx;have hy':y.length<=17592186044416:=hy;by_cases hlen:x.length=y.length
 rotate_left
 ·have z:decide ((x.length:Int)≠y.length)=true:=aL (by omega);rw[aO (λe=>hlen (by rw[e]))];refine wnZ (aI @ae @z) ?_;exact .bool _
 have z:decide ((x.length:Int)≠y.length)=false:=aO (by omega);refine wnZ (aI @ae @z) ?_;refine bN (X:=Nat) (λk=>[(0,am x),(1,am y),(5,.int .i64 k)]) (λk H nx=>k<=x.length/\∀i,i<k->x.getD i default=y.getD i default) (λk=>x.length-k) 0 ⟨bw _,λi h=>absurd h (by omega)⟩ ag0 ?_;rintro k H nx ⟨hk,hz⟩;by_cases hk2:k<x.length
 rotate_left
 ·refine wnY @ae ?_;refine cf ?_
  symm;rw[xt]
  refine List.ext_getElem hlen λi h3 h4=>?_;have:=hz i (by omega);simpa[List.getD,h3,h4] using this
 have ix:=dH hk2;have iy:=dH (l:=y) (k:=k) (by omega);have hc:=Bz (x.getD k default) (y.getD k default) (hxs _ (bk hk2)) (hys _ (bk (by omega)));by_cases he:x.getD k default=y.getD k default
 ·rw[aL he] at hc;refine wkY (zI3 @ae @ix @iy) ?_
  exact ⟨k + 1,by omega,⟨by omega,fun i hi=>by
   rcases gN.1 hi with h|rfl
   ·exact hz i h
   ·exact he⟩,ag0⟩
 ·rw[aO he] at hc;rw[aO (p:=x=y) (λe=>he (by rw[e]))];refine wkY (zI3 @ae @ix @iy) ?_;exact .bool _
def kY(c:List Spx):Bool:=decide (c.length<=30)&&c.all λs=>decide (s.length<=10)
theorem Hy(l:Spx)(hl:Shn l):pU 145 [aA l] (.bool (decide (l.length<=10))):=by
 refine pO KB ?_;simp only[M8,aH];refine wnZ @ao ?_;exact cf (decide_eq_decide.2 (by omega))
theorem Fk(c:List Spx)(hc:Shn c)(hs:∀s∈c,Shn s):pU 95 [am c] (.bool (kY c)):=by
 refine pO Oh ?_;simp only[b95,aH];have hc':c.length<=17592186044416:=hc;unfold kY;by_cases h:c.length<=30
 rotate_left
 ·have z:decide (30<(c.length:Int))=true:=aL (by omega);rw[aO h,Bool.false_and];refine wnZ (aI @ae @z) ?_;exact .bool _
 have z:decide (30<(c.length:Int))=false:=aO (by omega);rw[aL h,Bool.true_and];refine wnZ (aI @ae @z) ?_;refine Cj (λk=>[(0,am c),(3,.int .i64 k)]) c.length (λk=>decide ((c.getD k default).length<=10)=true) ag0 ?_;intro k hk hz;by_cases hk2:k<c.length
 rotate_left
 ·refine wnZ @ae ?_;exact cf (iC λi hi=>hz i (by omega)).symm
 have ix:=dH hk2;have hf:=Hy (c.getD k default) (hs _ (bk hk2));cases hm:decide ((c.getD k default).length<=10)
 ·rw[hm] at hf;rw[gQ hk2 hm];refine wnZ (aI @ae @ix) ?_;exact .bool _
 ·rw[hm] at hf;refine wnZ (aI @ae @ix) ?_;exact⟨hk2,rfl,ag0,rfl,rfl⟩
abbrev bH(c:List Spx):AV:=.agg [am c]
theorem cI(c:List Spx):Dat (bH c):=Dat.agg (DatL.cons (bA c) DatL.nil)
instance datI_encCx{c:List Spx}:DatI (bH c):=⟨cI c⟩
theorem Gz(c:List Spx)(hc:Shn c)(hs:∀s∈c,Shn s):pU 41 [bH c] (.bool (kY c)):=by
 refine pO N5 ?_;simp only[b41,aH];have h:=Fk c hc hs;refine wnZ (aI @ai @af) ?_;exact .bool _
end
end Go.Proofs.YtekdaafnjdlenaaGreat
