/- Contracts of functions and plain laws, for all inputs that the theorems name. -/
import Derived.Test.YtekdaafnjdlenaaGreatXG2
import Derived.ChangeArms
import Derived.Carry
import Derived.Deep.Slices
import Derived.Lib.SmallJoins
import Derived.Test.YtekdaafnjdlenaaGreatProg
import Derived.KernelRfl

set_option linter.unusedSimpArgs false
set_option linter.unusedVariables false
set_option maxHeartbeats 4000000
namespace Go.Abs
open Go.RowKit
variable{P:Program}{T:Tm}{H:Hp}{nx:Nat}
theorem Ky{K:CP}(h:K .normal T H nx):aO P .skip T H nx K:=h
theorem KL{K:CP}{i:Nat}(h:K (.exit i) T H nx):aO P (.exit i) T H nx K:=h
theorem NP{K:CP}(h:K .ret T H nx):aO P .ret T H nx K:=h
theorem Kv{K:CP}{l:List Op2}(h:am P .text l T H nx λT H nx=>K .normal T H nx):aO P (.ops 0 l) T H nx K:=⟨T,H,nx,_,Gh.refl _ _ _,h⟩
theorem w_mix1{K:CP}{l:List Op2}{C:List Nat}(h:am P .draw l T H nx λT H nx=>K .normal T H nx):aO P (.mix 1 l C) T H nx K:=.inl ⟨by decide,T,H,nx,_,Gh.refl _ _ _,h⟩
theorem qE{K:CP}{l:List Op2}{C:List Nat}(h:am P (.fresh nx) l T H nx λT H nx=>K .normal T H nx):aO P (.mix 2 l C) T H nx K:=.inl ⟨by decide,T,H,nx,_,Gh.refl _ _ _,h⟩
theorem Kh{K:CP}{m:Nat}{l alt:List Op2}{C:List Nat}(ha:(C.map λk=>l.getD k ⟨none,none,.dead⟩)=alt)(h:am P .text alt T H nx λT H nx=>K .normal T H nx):aO P (.mix m l C) T H nx K:=by
 subst ha;exact .inr ⟨T,H,nx,_,Gh.refl _ _ _,h⟩
theorem xY{K:CP}{l alt:List Op2}{C:List Nat}(ha:(C.map λk=>l.getD k ⟨none,none,.dead⟩)=alt)(h:am P .text alt T H nx λT H nx=>K .normal T H nx):aO P (.mix 9 l C) T H nx K:=Kh ha h
theorem IB{K:CP}{l:List Op2}{C:List (Nat×Nat)}(h:am P .draw l T H nx λT H nx=>K .normal T H nx):aO P (.mixS 1 l C) T H nx K:=.inl ⟨by decide,T,H,nx,_,Gh.refl _ _ _,h⟩
theorem H8{K:CP}{l:List Op2}{C:List (Nat×Nat)}(h:am P (.fresh nx) l T H nx λT H nx=>K .normal T H nx):aO P (.mixS 2 l C) T H nx K:=.inl ⟨by decide,T,H,nx,_,Gh.refl _ _ _,h⟩
theorem ym(S:Hp){K:CP}{m:Nat}{l:List Op2}{alt:List (Op2×Nat)}{C:List (Nat×Nat)}(ha:(C.map λk=>(l.getD k.1 ⟨none,none,.dead⟩,k.2))=alt)(hs:Sub S H)(h:bg P S alt T H nx λT H nx=>K .normal T H nx):aO P (.mixS m l C) T H nx K:=by
 subst ha;exact .inr ⟨T,H,nx,_,S,Gh.refl _ _ _,hs,h⟩
theorem K0(S:Hp){K:CP}{l:List Op2}{f:Nat×Nat}{C D:List (Nat×Nat)}(hs:Sub S H)(h:ik P S (l.getD f.1 ⟨none,none,.dead⟩,f.2) (D.map λk=>(l.getD k.1 ⟨none,none,.dead⟩,k.2)) (C.map λk=>(l.getD k.1 ⟨none,none,.dead⟩,k.2)) T H nx λT H nx=>K .normal T H nx):aO P (.mixF l f C D) T H nx K:=⟨T,H,nx,_,S,Gh.refl _ _ _,hs,h⟩
theorem LK{S:Hp}{K:SP}{f:Op2×Nat}{l2:List (Op2×Nat)}(h:bg P S (f::l2) T H nx K):ik P S f l2 [] T H nx K:=h
theorem JB{S:Hp}{K:SP}{f:Op2×Nat}{l l2:List (Op2×Nat)}{o:Op2}{k:Nat}(h:bg P S [(o,k)] T H nx λT H nx=>ik P S f l2 l T H nx K)(hk:¬(k=1\/k=2):=by decide):ik P S f l2 ((o,k)::l) T H nx K:=⟨λq=>absurd q hk,h⟩
theorem LR{S:Hp}{K:SP}{f x:Op2×Nat}{l l2:List (Op2×Nat)}(h1:bg P S (f::x::(l++l2)) T H nx K)(h2:bg P S [x] T H nx λT H nx=>ik P S f l2 l T H nx K):ik P S f l2 (x::l) T H nx K:=⟨λ_=>h1,h2⟩
theorem wg{S:Hp}{K:SP}(h:K T H nx):bg P S [] T H nx K:=h
theorem JM{S:Hp}{K:SP}{l:List (Op2×Nat)}{d:Option Nat}{i:Ins}{r:AV}(h:ca T S i=some r)(k:bg P S l (aW T d r) H nx K):bg P S ((⟨d,none,i⟩,0)::l) T H nx K:=by
 show aE (ca T S i) λr=>bg P S l (aW T d r) H nx K;rw[h];exact k
theorem JF{S:Hp}{K:SP}{l:List (Op2×Nat)}{d:Option Nat}{len:Nat}{z cs:List AV}{parts:List (Nat×Nat×Opd)}{pv:List (Nat×Nat×AV)}(hp:parts.map (λp=>(p.1,p.2.1,ov T p.2.2))=pv)(hc:eU (bH (.agg z) len) pv=some cs)(hl:len≠0)(hn:cs.length=len)(ho:cs.all AV.one=true)
    (k:bg P S l (aW T d (.sl 1 cs)) H nx K):bg P S ((⟨d,none,.bldS 1 len z parts⟩,3)::l) T H nx K:=by
 show aE (vV T (.bldS 1 len z parts)) _
 have:vV T (.bldS 1 len z parts)=some (.sl 1 cs):=by
  simp only[vV,jY,hl,if_false,hp,hc,s0,ar,if_true,hn];rw[if_pos ⟨trivial,hl,ho⟩]
 rw[this];exact k
theorem Lu{S:Hp}{K:SP}{l:List (Op2×Nat)}{d:Option Nat}{i:Ins}{r:AV}(h:ilk T S i=some r)(k:bg P S l (aW T d r) H nx K):bg P S ((⟨d,none,i⟩,4)::l) T H nx K:=by
 show aE (ilk T S i) λr=>bg P S l (aW T d r) H nx K;rw[h];exact k
theorem d8{S:Hp}{K:SP}{l:List (Op2×Nat)}{d:Option Nat}{i:Ins}(k:am P .text [⟨d,none,i⟩] T H nx λT H nx=>Sub S H/\bg P S l T H nx K):bg P S ((⟨d,none,i⟩,1)::l) T H nx K:=by
 have k:bf P .text i T H nx λr H nx=>Sub S H/\bg P S l (aW T d r) H nx K:=k;show bf P .text i T H nx λr H' nx'=>(0=0->Sub S H')/\bg P S l (aW T d r) H' nx' K;exact n5 k (λ_ _ _ h=>⟨λ_=>h.1,h.2⟩)
theorem kg{S:Hp}{K:SP}{l:List (Op2×Nat)}{d:Option Nat}{i:Ins}(k:am P .text [⟨d,none,i⟩] T H nx λT H nx=>bg P S l T H nx K):bg P S ((⟨d,none,i⟩,2)::l) T H nx K:=by
 have k:bf P .text i T H nx λr H nx=>bg P S l (aW T d r) H nx K:=k;show bf P .text i T H nx λr H' nx'=>(1=0->Sub S H')/\bg P S l (aW T d r) H' nx' K;exact n5 k (λ_ _ _ h=>⟨λhh=>absurd hh (by decide),h⟩)
theorem K8{K:CP}{l:List Op2}(h:am P .draw l T H nx λT H nx=>K .normal T H nx):aO P (.ops 1 l) T H nx K:=⟨T,H,nx,_,Gh.refl _ _ _,h⟩
theorem Km{K:CP}{l:List Op2}(h:am P (.fresh nx) l T H nx λT H nx=>K .normal T H nx):aO P (.ops 2 l) T H nx K:=⟨T,H,nx,_,Gh.refl _ _ _,h⟩
theorem dJ{K:CP}{x y:C2}(h:aO P x T H nx λe T H nx=>aR e (aO P y T H nx K) (K e T H nx)):aO P (.seq x y) T H nx K:=h
theorem gv{K:CP}{i:Nat}{b:C2}(h:aO P b T H nx λe T H nx=>K (qY i e) T H nx):aO P (.block i b) T H nx K:=h
theorem Bq{K:CP}{c:Opd}{x y:C2}{b:Bool}(hc:ov T c=.bool b)(h1:b=true->aO P x T H nx K)(h2:b=false->aO P y T H nx K):aO P (.cond c x y) T H nx K:=by
 simp only[aO,hc];exact⟨h1,h2⟩
theorem CU{K:CP}{c:Opd}{x y:C2}(hc:ov T c=.bool true)(h1:aO P x T H nx K):aO P (.cond c x y) T H nx K:=
 Bq hc (λ_=>h1) (λh=>by cases h)
theorem Dk{K:CP}{c:Opd}{x y:C2}(hc:ov T c=.bool false)(h2:aO P y T H nx K):aO P (.cond c x y) T H nx K:=
 Bq hc (λh=>by cases h) (λ_=>h2)
theorem Kz{K:CP}{b:C2}(h:aZ (aO P b) T H nx K):aO P (.loop b) T H nx K:=h
theorem a_n{A B:Prop}(h:A):aR .normal A B:=h
theorem a_x{A B:Prop}{i:Nat}(h:B):aR (.exit i) A B:=h
theorem a_r{A B:Prop}(h:B):aR .ret A B:=h
theorem jM{dm:DM}{K:SP}(h:K T H nx):am P dm [] T H nx K:=h
theorem oC{dm:DM}{K:SP}{l:List Op2}{d:Option Nat}{i:Ins}{r:AV}(hi:ic i=.val)(hd:dm2 dm T i=true)(h:ca T H i=some r)(k:am P dm l (aW T d r) H nx K):am P dm (⟨d,none,i⟩::l) T H nx K:=by
 show bf P dm i T H nx λr H nx=>am P dm l (aW T d r) H nx K;unfold bf;rw[hi];exact⟨hd,by rw[h];exact k⟩
theorem oJ{dm:DM}{K:SP}{l:List Op2}{d:Option Nat}{i:Ins}{r:AV}{H':Hp}{nx':Nat}(hi:ic i=.eff)(hd:dm2 dm T i=true)(h:jY T H nx i=some (r,H',nx'))(k:am P dm l (aW T d r) H' nx' K):am P dm (⟨d,none,i⟩::l) T H nx K:=by
 show bf P dm i T H nx λr H nx=>am P dm l (aW T d r) H nx K;unfold bf;rw[hi];exact⟨hd,by rw[h];exact k⟩
theorem B3{K:SP}{l:List Op2}{d:Option Nat}{f:Opd}{args:List Opd}{g:FuncId}{caps:List AV}(hf:ov T f=.func g caps)(k:Fn P g (args.map (ov T)++caps) H nx λr H nx=>am P .text l (aW T d r) H nx K):
    am P .text (⟨d,none,.call f args⟩::l) T H nx K:=by
 left;show aE (pP (ov T f)) _;rw[hf];exact k
theorem Dh{dm:DM}(hdm:dm.isText=false){K:SP}{l:List Op2}{d:Option Nat}{f:Opd}{args:List Opd}{g:FuncId}{caps:List AV}(hf:ov T f=.func g caps)(k:aY P g (args.map (ov T)++caps) H λr=>am P dm l (aW T d r) H nx K):
    am P dm (⟨d,none,.call f args⟩::l) T H nx K:=by
 left;show aE (pP (ov T f)) _;rw[hf];show(match dm.isText with|false=>_|true=>_);rw[hdm];exact k
theorem yC{K:SP}{l:List Op2}{d:Option Nat}{f:Opd}{args:List Opd}{b:Nat}{xs:List AV}(hf:ov T f=.yld b)(ha:args.map (ov T)=xs)(k:Yl P b xs H nx λr H nx=>am P .text l (aW T d r) H nx K):
    am P .text (⟨d,none,.call f args⟩::l) T H nx K:=by
 right;exact⟨rfl,.inl ⟨b,hf,by rw[ha];exact k⟩⟩
theorem mq{K:SP}{l:List Op2}{d:Option Nat}{i:Ins}(hi:ic i=.sp)(k:isp i T H nx λr H nx=>am P .text l (aW T d r) H nx K):am P .text (⟨d,none,i⟩::l) T H nx K:=by
 show bf P .text i T H nx λr H nx=>am P .text l (aW T d r) H nx K;unfold bf;rw[hi];exact⟨rfl,k⟩
theorem ws{K:SP}{l:List Op2}{d:Option Nat}(k:am P .text l (aW T d (.mp nx)) (ar H nx [.omap [] []]) (nx+1) K):am P .text (⟨d,none,.mkm none⟩::l) T H nx K:=mq rfl ⟨.inl rfl,.inl k⟩
theorem qz{K:SP}{l:List Op2}{d:Option Nat}{kk:MK}{m key x:Opd}{b:Nat}{ks vs:List AV}{kv xv:AV}{r:Option Nat}(hm:ov T m=.mp b)(hb:H b=some [.omap ks vs])(hk:ov T key=kv)(hx:ov T x=xv)(hfit:jU kk kv=true)(hr:dA kk kv ks=some r)
    (k:am P .text l (aW T d (.tup [])) (ar H b [.omap (da kv r ks) (gQ xv r vs)]) nx K):am P .text (⟨d,none,.mput kk m key x⟩::l) T H nx K:=by
 subst hk hx;exact mq rfl (.inl ⟨b,ks,vs,r,hm,hb,hfit,hr,k⟩)
theorem jF{K:SP}{l:List Op2}{d:Option Nat}{kk:MK}{z:AV}{ok:Bool}{m key:Opd}{b:Nat}{ks vs:List AV}{kv:AV}{r:Option Nat}(hm:ov T m=.mp b)(hb:H b=some [.omap ks vs])(hk:ov T key=kv)(hfit:jU kk kv=true)(hr:dA kk kv ks=some r)
    (k:am P .text l (aW T d (mget z ok r vs)) H nx K):am P .text (⟨d,none,.mget kk z ok m key⟩::l) T H nx K:=by
 subst hk;exact mq rfl (.inl ⟨b,ks,vs,r,hm,hb,hfit,hr,k⟩)
theorem Hh{K:SP}{l:List Op2}{d:Option Nat}{kk:MK}{z:AV}{m key:Opd}{b:Nat}{ks vs:List AV}{kv:AV}{r:Option Nat}(hm:ov T m=.mp b)(hb:H b=some [.omap ks vs])(hk:ov T key=kv)(hfit:jU kk kv=true)(hr:dA kk kv ks=some r)
    (k:am P .text l (aW T d (.tup [DJ z r vs,.int .i64 (Br r ks)])) (ar H b [.omap (da kv r ks) (n9 z r vs)]) nx K):am P .text (⟨d,none,.mplc kk z m key⟩::l) T H nx K:=by
 subst hk;exact mq rfl ⟨b,ks,vs,r,hm,hb,hfit,hr,k⟩
theorem FM{K:SP}{l:List Op2}{d:Option Nat}{m s x:Opd}{b i:Nat}{ks vs:List AV}{xv:AV}(hm:ov T m=.mp b)(hb:H b=some [.omap ks vs])(hi:ov T s=.int .i64 (i:Int))(hlt:i<ks.length)(hx:ov T x=xv)
    (k:am P .text l (aW T d (.tup [])) (ar H b [.omap ks (vs.set i xv)]) nx K):am P .text (⟨d,none,.mpst m s x⟩::l) T H nx K:=by
 subst hx;exact mq rfl ⟨b,ks,vs,i,hm,hb,hi,hlt,k⟩
theorem KC{K:SP}{l:List Op2}{d:Option Nat}{m:Opd}{b:Nat}{ks vs:List AV}(hm:ov T m=.mp b)(hb:H b=some [.omap ks vs])(k:am P .text l (aW T d (.itr nx)) (ar H nx [.oiter b ks.length []]) (nx+1) K):am P .text (⟨d,none,.mrng m⟩::l) T H nx K:=mq rfl (.inl ⟨b,ks,vs,hm,hb,k⟩)
theorem K9{K:SP}{l:List Op2}{d:Option Nat}{it:Opd}{b m n0:Nat}{seen:List Nat}{ks vs:List AV}(hi:ov T it=.itr b)(hb:H b=some [.oiter m n0 seen])(hm:H m=some [.omap ks vs])(hkn:ks.length=n0)
    (h1:∀i,i<ks.length->i∉seen->am P .text l (aW T d (.tup [.bool true,ks.getD i .undef,vs.getD i .undef])) (ar H b [.oiter m n0 (seen++[i])]) nx K)
    (h2:(∀i,i<n0->i<ks.length->i∈seen)->am P .text l (aW T d (.tup [.bool false])) H nx K):am P .text (⟨d,none,.mnxt it⟩::l) T H nx K:=mq rfl (.inl ⟨b,m,n0,seen,ks,vs,hi,hb,hm,hkn,h1,h2⟩)
theorem KB{K:SP}{l:List Op2}{d:Option Nat}{it:Opd}{b m n0 i:Nat}{seen:List Nat}{ks vs:List AV}(hi:ov T it=.itr b)(hb:H b=some [.oiter m n0 seen])(hm:H m=some [.omap ks vs])(hkn:ks.length=n0)(hl:seen.getLast?=some i)(hlt:i<ks.length)
    (k:am P .text l (aW T d (.tup [ks.getD i .undef,vs.getD i .undef])) H nx K):am P .text (⟨d,none,.ment it⟩::l) T H nx K:=mq rfl (.inl ⟨b,m,n0,i,seen,ks,vs,hi,hb,hm,hkn,hl,hlt,k⟩)
theorem Kf{K:SP}{l:List Op2}{d:Option Nat}(k:am P .text l (aW T d (.mp nx)) (ar H nx [.bmap [] [] [] 0]) (nx+1) K):am P .text (⟨d,none,.mkm none⟩::l) T H nx K:=mq rfl ⟨.inl rfl,.inr k⟩
theorem Jr{K:SP}{l:List Op2}{d:Option Nat}{kk:MK}{m key x:Opd}{b:Nat}{ks vs:List AV}{bs:List Nat}{ck:Nat}{kv xv:AV}{r:Option Nat}(hm:ov T m=.mp b)(hb:H b=some [.bmap ks vs bs ck])(hk:ov T key=kv)(hx:ov T x=xv)(hfit:jU kk kv=true)(hr:dA kk kv ks=some r)
    (k:am P .text l (aW T d (.tup [])) (ar H b [.bmap (da kv r ks) (gQ xv r vs) (rF ck r bs) (we ck r)]) nx K):am P .text (⟨d,none,.mput kk m key x⟩::l) T H nx K:=by
 subst hk hx;exact mq rfl (.inr ⟨b,ks,vs,bs,ck,r,hm,hb,hfit,hr,k⟩)
theorem KE{K:SP}{l:List Op2}{d:Option Nat}{kk:MK}{m key:Opd}{b:Nat}{ks vs:List AV}{bs:List Nat}{ck:Nat}{kv:AV}{r:Option Nat}(hm:ov T m=.mp b)(hb:H b=some [.bmap ks vs bs ck])(hk:ov T key=kv)(hfit:jU kk kv=true)(hr:dA kk kv ks=some r)
    (k:am P .text l (aW T d (.tup [])) (ar H b [.bmap (mh r ks) (mh r vs) (mh r bs) ck]) nx K):am P .text (⟨d,none,.mdel kk m key⟩::l) T H nx K:=by
 subst hk;exact mq rfl ⟨b,ks,vs,bs,ck,r,hm,hb,hfit,hr,k⟩
theorem CI{K:SP}{l:List Op2}{d:Option Nat}{kk:MK}{z:AV}{ok:Bool}{m key:Opd}{b:Nat}{ks vs:List AV}{bs:List Nat}{ck:Nat}{kv:AV}{r:Option Nat}(hm:ov T m=.mp b)(hb:H b=some [.bmap ks vs bs ck])(hk:ov T key=kv)(hfit:jU kk kv=true)(hr:dA kk kv ks=some r)
    (k:am P .text l (aW T d (mget z ok r vs)) H nx K):am P .text (⟨d,none,.mget kk z ok m key⟩::l) T H nx K:=by
 subst hk;exact mq rfl (.inr ⟨b,ks,vs,bs,ck,r,hm,hb,hfit,hr,k⟩)
theorem IZ{K:SP}{l:List Op2}{d:Option Nat}{m:Opd}{b:Nat}{ks vs:List AV}{bs:List Nat}{ck:Nat}(hm:ov T m=.mp b)(hb:H b=some [.bmap ks vs bs ck])(k:am P .text l (aW T d (.itr nx)) (ar H nx [.biter b ck []]) (nx+1) K):am P .text (⟨d,none,.mrng m⟩::l) T H nx K:=mq rfl (.inr ⟨b,ks,vs,bs,ck,hm,hb,k⟩)
theorem IJ{K:SP}{l:List Op2}{d:Option Nat}{it:Opd}{b m ck:Nat}{seen bs:List Nat}{ks vs:List AV}(hi:ov T it=.itr b)(hb:H b=some [.biter m ck seen])(hm:H m=some [.bmap ks vs bs ck])
    (h1:∀(i s:Nat),bs[i]?=some s->s∉seen->am P .text l (aW T d (.tup [.bool true,ks.getD i .undef,vs.getD i .undef])) (ar H b [.biter m ck (seen++[s])]) nx K)
    (h2:(∀s∈bs,s∈seen)->am P .text l (aW T d (.tup [.bool false])) H nx K):am P .text (⟨d,none,.mnxt it⟩::l) T H nx K:=mq rfl (.inr ⟨b,m,ck,seen,ks,vs,bs,hi,hb,hm,h1,h2⟩)
theorem H9{K:SP}{l:List Op2}{d:Option Nat}{it:Opd}{b m ck i s:Nat}{seen bs:List Nat}{ks vs:List AV}(hi:ov T it=.itr b)(hb:H b=some [.biter m ck seen])(hm:H m=some [.bmap ks vs bs ck])(hl:seen.getLast?=some s)(hbi:bs[i]?=some s)
    (k:am P .text l (aW T d (.tup [ks.getD i .undef,vs.getD i .undef])) H nx K):am P .text (⟨d,none,.ment it⟩::l) T H nx K:=mq rfl (.inr ⟨b,m,ck,i,s,seen,ks,vs,bs,hi,hb,hm,hl,hbi,k⟩)
theorem JP{K:SP}{l:List Op2}{d:Option Nat}{sz n:Nat}{x y:Opd}{H':Hp}(h:tW sz (ov T x) (ov T y) H=some (n,H'))(k:am P .text l (aW T d (.int .i64 n)) H' nx K):am P .text (⟨d,none,.cpy sz x y⟩::l) T H nx K:=mq rfl ⟨n,H',h,k⟩
theorem JZ{K:SP}{l:List Op2}{d:Option Nat}{len sz:Nat}{x:Opd}{b n off:Nat}{cs:List AV}(hx:ov T x=.ptr b n off)(hb:H b=some cs)(hn:cs.length=n)(hf:off+len*sz=n)(k:am P .text l (aW T d (.msl b n sz off len)) H nx K):am P .text (⟨d,none,.slp len sz x⟩::l) T H nx K:=mq rfl ⟨b,n,off,cs,hx,hb,hn,hf,k⟩
theorem tw{K:SP}{l:List Op2}{d:Option Nat}{neg:Bool}{x:Opd}{k:Nat}(hx:fA (ov T x)=some k)(h1:0<k->am P .text l (aW T d (.bool neg)) H nx K)(h2:k=0->am P .text l (aW T d (.bool true)) H nx K)(h3:k=0->am P .text l (aW T d (.bool false)) H nx K):am P .text (⟨d,none,.snil neg x⟩::l) T H nx K:=mq rfl ⟨k,hx,h1,λh=>⟨h2 h,h3 h⟩⟩
theorem HP{K:CP}{g:Opd}{ps:List Nat}{a b:C2}{f:FuncId}{caps:List AV}(hg:ov T g=.func f caps)
    (h:∀ (c0:AV) (cj:AEx→AV),(∀ (args:List AV) (H':Hp) (nx':Nat) (K':AV→Hp→Nat→Prop),H' nx=some [c0]→args.length=ps.length →
        aO P a (lI T ps args) H' nx' (λe T2 H2 nx2=>aR e (H2 nx=some [c0]/\aO P b T2 (dK H2 nx) nx2 λe T3 H3 nx3=>aR e (K' (.bool true) (ar H3 nx [c0]) nx3) (K' (.bool false) (ar H3 nx [cj e]) nx3)) False)->
        Yl P nx args H' nx' K')->
     Fn P f (.yld nx::caps) (ar H nx [c0]) (nx+1) λ_ H' nx'=>(H' nx=some [c0]/\K .normal T (dK H' nx) nx')\/ ∃e,e≠.normal/\H' nx=some [cj e]/\K e T (dK H' nx) nx'):aO P (.rangeF g ps a b) T H nx K:=⟨f,caps,hg,h⟩
theorem KO{dm:DM}{K:SP}{l:List Op2}{d:Option Nat}{i:Ins}{t:Nat}{w:Bool}(h:T t=.bool w)(k:am P dm (⟨d,none,i⟩::l) T H nx K):am P dm (⟨d,some (t,w),i⟩::l) T H nx K:=by
 show aU (g2 T (some (t,w))) _ _;have:g2 T (some (t,w))=some true:=by simp[g2,h]
 rw[this];exact k
theorem Lo{dm:DM}{K:SP}{l:List Op2}{d:Option Nat}{i:Ins}{t:Nat}{w:Bool}(h:T t=.bool (!w)\/T t=.tup [])(k:am P dm l (aW T d (.tup [])) H nx K):am P dm (⟨d,some (t,w),i⟩::l) T H nx K:=by
 show aU (g2 T (some (t,w))) _ _
 have:g2 T (some (t,w))=some false:=by
  rcases h with h|h
  ·cases w<;>simp[g2,h]
  ·simp[g2,h]
 rw[this];exact k
theorem b0{e:AEx}{A:Prop}(he:e.ends=true)(h:A):aS e.ends A:=⟨he,h⟩
theorem r_1{K:AV->Prop}{a:RV}{x:AV}(ha:rv T H a=some x)(h:K x):bk T H K [a]:=by
 show aE (rv T H a) K;rw[ha];exact h
theorem r_2{K:AV->Prop}{a b:RV}{x y:AV}(ha:rv T H a=some x)(hb:rv T H b=some y)(h:K (.tup [x,y])):bk T H K [a,b]:=by
 show aE (rv T H a) _;rw[ha];show aE (rv T H b) _;rw[hb];exact h
theorem r_5{K:AV->Prop}{a b c d e:RV}{x y z u v:AV}(ha:rv T H a=some x)(hb:rv T H b=some y)(hc:rv T H c=some z)(hd:rv T H d=some u)(he:rv T H e=some v)(h:K (.tup [x,y,z,u,v])):bk T H K [a,b,c,d,e]:=by
 show yD T H [a,b,c,d,e] λxs=>K (.tup xs);simp only[yD,ha,hb,hc,hd,he];exact h
theorem r_3{K:AV->Prop}{a b c:RV}{x y z:AV}(ha:rv T H a=some x)(hb:rv T H b=some y)(hc:rv T H c=some z)(h:K (.tup [x,y,z])):bk T H K [a,b,c]:=by
 show aE (rv T H a) _;rw[ha];show aE (rv T H b) _;rw[hb];show aE (rv T H c) _;rw[hc];exact h
theorem Bb{T:Tm}{t:Nat}{v:AV}(h:T t=v):upd T t v=T:=by
 funext x;simp only[upd];split
 ·rename_i e;rw[e,h]
 ·rfl
theorem NN{dm:DM}{K:SP}{l:List Op2}{d:Option Nat}{i:Ins}{t:Nat}{w b:Bool}(h:T t=.bool b)(k1:b=w->am P dm (⟨d,none,i⟩::l) (upd T t (.bool w)) H nx K)
    (k2:b=!w->am P dm l (aW (upd T t (.bool (!w))) d (.tup [])) H nx K):am P dm (⟨d,some (t,w),i⟩::l) T H nx K:=by
 by_cases hb:b=w
 ·subst hb;have:=k1 rfl;rw[Bb h] at this;exact KO h this
 ·have hb':b=!w:=by cases b<;>cases w<;>simp_all
  subst hb';have:=k2 rfl;rw[Bb h] at this;exact Lo (.inl h) this
theorem Ay{α:Type}{f:α->AV}{l:List α}{k:Nat}{u:AV}(d:α)(h:k<l.length):(l.map f).getD k u=f (l.getD k d):=by
 simp[List.getD,h]
theorem CQ{c:Prop}[Decidable c]{x:Option AV}{r:AV}(hc:c)(h:x=some r):(if c then x else none)=some r:=by rw[if_pos hc];exact h
theorem E7{k:IntKind}{n:Int}:AV.cells (.int k n)=[.int k n]:=rfl
end Go.Abs
namespace Go.Abs
open Go.RowKit
def Dat(x:AV):Prop:=∀H,Snap H x x
theorem Dat.int{k:IntKind}{n:Int}:Dat (.int k n):=λ_=>.int _ _
theorem Dat.bool{b:Bool}:Dat (.bool b):=λ_=>.bool _
theorem Dat.str{s:ByteArray}:Dat (.str s):=λ_=>.str _
theorem Dat.esl:Dat .esl:=λ_=>.esl
theorem Dat.nilp:Dat .nilp:=λ_=>.nilp
theorem Dat.nilf:Dat .nilf:=λ_=>.nilf
theorem Dat.sl{sz:Nat}{l:List AV}(h:∀x∈l,∀c∈x.cells,Dat c):Dat (.sl sz l):=λH=>
 .sl sz l l rfl (fun i x y hx hy=>by rw [hx] at hy; cases hy; rfl) (fun i j x y a b hx hy ha hb=>by
  rw[hx] at hy;cases hy;rw[ha] at hb;cases hb;exact h x (gZ hx) a (gZ ha) H)
theorem Dat.agg{l:List AV}(h:∀x∈l,Dat x):Dat (.agg l):=λH=>
 .agg l l rfl (λi a c ha hc=>by rw[ha] at hc;cases hc;exact h a (gZ ha) H)
theorem Dat.tup{l:List AV}(h:∀x∈l,Dat x):Dat (.tup l):=λH=>
 .tup l l rfl (λi a c ha hc=>by rw[ha] at hc;cases hc;exact h a (gZ ha) H)
theorem Dat.func{f:FuncId}{l:List AV}(h:∀x∈l,Dat x):Dat (.func f l):=λH=>
 .func f l l rfl (λi a c ha hc=>by rw[ha] at hc;cases hc;exact h a (gZ ha) H)
def aH(l:List Int):AV:=.sl 1 (l.map (AV.int .i64))
def bK(l:List (List Int)):AV:=.sl 1 (l.map aH)
theorem dp (l:List Int):Dat (aH l):=Dat.sl (fun x hx c hc=>by
 obtain⟨n,_,rfl⟩:=bz.1 hx;simp only[AV.cells,cC] at hc;subst hc;exact .int)
theorem nF (l:List (List Int)):Dat (bK l):=Dat.sl (fun x hx c hc=>by
 obtain⟨n,_,rfl⟩:=bz.1 hx;simp only[aH,AV.cells,cC] at hc;subst hc;exact dp n)
theorem ap{H:Hp}:aN H [] []:=aN.nil
theorem bc{H:Hp}{x:AV}{xs ys:List AV}(h:Dat x)(hs:aN H xs ys):aN H (x::xs) (x::ys):=aN.cons (h H) hs
class DatI(x:AV):Prop where
 d:Dat x
instance datI_int{k:IntKind}{n:Int}:DatI (.int k n):=⟨.int⟩
instance datI_bool{b:Bool}:DatI (.bool b):=⟨.bool⟩
instance datI_str{s:ByteArray}:DatI (.str s):=⟨.str⟩
instance datI_esl:DatI .esl:=⟨.esl⟩
instance datI_nilf:DatI .nilf:=⟨.nilf⟩
instance datI_encV{l:List Int}:DatI (aH l):=⟨dp l⟩
instance datI_encVV{l:List (List Int)}:DatI (bK l):=⟨nF l⟩
theorem bI{H:Hp}{x:AV}{xs ys:List AV}[h:DatI x](hs:aN H xs ys):aN H (x::xs) (x::ys):=bc h.d hs
variable{P:Program}{T:Tm}{H:Hp}{nx:Nat}
theorem dh{dm:DM}{K:SP}{l:List Op2}{d:Option Nat}{f:Opd}{args:List Opd}{g:FuncId}{caps xs ys:List AV}{r:AV}(hf:ov T f=.func g caps)(ha:args.map (ov T)++caps=xs)
    (hp:Pure P g ys r) (hs:au H xs ys r) (k:am P dm l (aW T d r) H nx K):am P dm (⟨d,none,.call f args⟩::l) T H nx K:=by
 subst ha;cases hd:dm.isText with
 |false=>exact Dh hd hf (aY.of_pure hp hs k)
 |true=>
  cases dm with
  |text=>exact B3 hf (Fn.of_pure hp hs k)
  |draw=>cases hd
  |fresh m=>cases hd
theorem gy{dm:DM}{K:SP}{l:List Op2}{d:Option Nat}{f:Opd}{args:List Opd}{g:FuncId}{caps xs ys:List AV}{r:AV}(hf:ov T f=.func g caps)(ha:args.map (ov T)++caps=xs)
    (hp:PureF P g ys r) (hs:aN H xs ys) (k:am P dm l (aW T d r) H nx K):am P dm (⟨d,none,.call f args⟩::l) T H nx K:=by
 subst ha;have hc:=hp.callOk hs;cases hd:dm.isText with
 |false=>exact Dh hd hf (aY.of_callOk hc k)
 |true=>
  cases dm with
  |text=>exact B3 hf (Fn.of_callOk hc k)
  |draw=>cases hd
  |fresh m=>cases hd
theorem Dj{dm:DM}{K:SP}{l:List Op2}{d:Option Nat}{f:Opd}{args:List Opd}{g:FuncId}{caps xs:List AV}{r:AV}(hf:ov T f=.func g caps)(ha:args.map (ov T)++caps=xs)
    (hp:Pure P g xs r) (hs:au H xs xs r) (k:am P dm l (aW T d r) H nx K):am P dm (⟨d,none,.call f args⟩::l) T H nx K:=dh hf ha hp hs k
theorem a9{xs ys:List AV}{r:AV}{H:Hp}(h:aN cH xs ys):au H xs ys r:=.inl h
theorem aG{xs ys:List AV}{r:AV}{H:Hp}(h:aN H xs ys)(hr:r.sca=true):au H xs ys r:=.inr ⟨h,hr⟩
theorem tt{α:Type}[Inhabited α]{f:α->AV}{l:List α}{sz:Nat}{k:IntKind}{n:Int}:eY sz (.sl sz (l.map f)) (.int k n)=if 0<=n/\n<l.length then some (.iptr (f (l.getD n.toNat default)).cells 0) else none:=by
 simp only[eY,true_and,bm];split
 ·rename_i h;rw[Ay default (by omega)]
 ·rfl
theorem ra{α:Type}{f:α->AV}{l:List α}{sz:Nat}:cT (.sl sz (l.map f))=some (.int .i64 l.length):=by simp[cT]
theorem nH{l:List Int}{k:IntKind}{n:Int}:eY 1 (aH l) (.int k n)=if 0<=n/\n<l.length then some (.iptr [.int .i64 (l.getD n.toNat default)] 0) else none:=tt
theorem o9{l:List (List Int)}{k:IntKind}{n:Int}:eY 1 (bK l) (.int k n)=if 0<=n/\n<l.length then some (.iptr [aH (l.getD n.toNat default)] 0) else none:=tt
theorem vh{l:List Int}:cT (aH l)=some (.int .i64 l.length):=ra
theorem rN{l:List (List Int)}:cT (bK l)=some (.int .i64 l.length):=ra
end Go.Abs
namespace Go.Abs
theorem SA:(∀(T:Tm)(n:Nat),ov T (.t n)=T n)/\(∀(T:Tm)(v:AV),ov T (.c v)=v)/\(∀(T:Tm)(d t:Nat)(v:AV),upd T d v t=if t=d then v else T t)/\(∀(T:Tm)(d:Nat)(v:AV),aW T (some d) v=upd T d v)/\
    (∀(T:Tm)(v:AV),aW T none v=T)/\(∀(x:AV)(l:List AV),T0 (x::l) 0=x)/\(∀(x:AV)(l:List AV)(n:Nat),T0 (x::l) (n+1)=T0 l n)/\(∀n:Nat,T0 [] n=.undef)/\
    (∀(d t:Nat)(v:AV)(l:List (Nat×AV)),tl ((d,v)::l) t=if t=d then v else tl l t)/\(∀t:Nat,tl [] t=.undef)/\
    (∀(T:Tm)(t:Nat)(ts:List Nat)(x:AV)(xs:List AV),lI T (t::ts) (x::xs)=lI (upd T t x) ts xs)/\(∀(T:Tm)(xs:List AV),lI T [] xs=T):=
 ⟨λ_ _=>rfl,λ_ _=>rfl,λ_ _ _ _=>rfl,λ_ _ _=>rfl,λ_ _=>rfl,λ_ _=>rfl,λ_ _ _=>rfl,λ_=>rfl,λ_ _ _ _=>rfl,λ_=>rfl,λ_ _ _ _ _=>rfl,λ_ xs=>by cases xs<;>rfl⟩
theorem SV:(∀(T:Tm)(H:Hp)(x:Opd),ca T H (.mov x)=some (ov T x))/\
    (∀(T:Tm)(H:Hp)(c a b:Opd),ca T H (.pick c a b)=match ov T c with|.bool t=>some (if t=true then ov T a else ov T b)|_=>none)/\
    (∀(T:Tm)(H:Hp)(a:Opd),ca T H (.ld1 a)=rd1 H (ov T a))/\(∀(T:Tm)(H:Hp)(k:Nat)(a:Opd),ca T H (.ldn k a)=(rd H k (ov T a)).map .agg)/\
    (∀(T:Tm)(H:Hp)(op:BinOp)(tb tf:Bool)(x y:Opd),ca T H (.bin op tb tf x y)=bv op tb tf (ov T x) (ov T y))/\
    (∀(T:Tm)(H:Hp)(op:UnOp)(x:Opd),ca T H (.un op x)=aun op (ov T x))/\
    (∀(T:Tm)(H:Hp)(f:FuncId)(caps:List Opd),ca T H (.mkfn f caps)=some (.func f (caps.map (ov T))))/\
    (∀(T:Tm)(H:Hp)(k:Nat)(p:Opd),ca T H (.fa k p)=mi k (ov T p))/\
    (∀(T:Tm)(H:Hp)(sz:Nat)(x i:Opd),ca T H (.ixaS sz x i)=eY sz (ov T x) (ov T i))/\
    (∀(T:Tm)(H:Hp)(x:Opd)(i:Nat),ca T H (.ext x i)=iY (ov T x) i)/\
    (∀(T:Tm)(H:Hp)(x:Opd),ca T H (.lenS x)=cT (ov T x))/\
    (∀(T:Tm)(H:Hp)(z:List AV)(parts:List (Nat×Nat×Opd)),ca T H (.bld z parts)=(eU z (parts.map λp=>(p.1,p.2.1,ov T p.2.2))).map .agg)/\
    (∀(T:Tm)(H:Hp)(x:Opd)(l:List Opd),ca T H (.mx x l)=iO qa (ov T x) (l.map (ov T)))/\
    (∀(T:Tm)(H:Hp)(x:Opd)(l:List Opd),ca T H (.mn x l)=iO pX (ov T x) (l.map (ov T)))/\
    (∀(T:Tm)(H:Hp)(k:IntKind)(x:Opd),ca T H (.conv k x)=vP (ov T x) λn=>some (.int k (k.wrap n)))/\
    (∀(T:Tm)(H:Hp)(sz:Nat)(x:Opd)(lo hi mx:Option Opd),ca T H (.sls sz x lo hi mx)=lF sz (ov T x) (lo.map (ov T)) (hi.map (ov T)) (mx.map (ov T)))/\
    (∀(T:Tm)(H:Hp)(off:Nat)(x:Opd),ca T H (.part1 off x)=ij (ov T x) λcs=>cs[off]?)/\
    (∀(T:Tm)(H:Hp)(op:BinOp)(ks:List TK)(x y:Opd),ca T H (.binS op ks x y)=ij (ov T x) λxs=>ij (ov T y) λys=>pp op ks xs ys):=
 ⟨fun _ _ _=>rfl,fun _ _ _ _ _=>rfl,fun _ _ _=>rfl,fun _ _ _ _=>rfl,fun _ _ _ _ _ _ _=>rfl,fun _ _ _ _=>rfl,fun _ _ _ _=>rfl,fun _ _ _ _=>rfl,fun _ _ _ _ _=>rfl,fun _ _ _ _=>rfl,fun _ _ _=>rfl,
  λ_ _ _ _=>rfl,λ_ _ _ _=>rfl,λ_ _ _ _=>rfl,λ_ _ _ _=>rfl,λ_ _ _ _ _ _ _=>rfl,λ_ _ _ _=>rfl,λ_ _ _ _ _ _=>rfl⟩
def oT:AV->AV->Option AV
 |.str s,.int _ n=>if 0<=n/\n<s.size then some (.int .u8 (s[n.toNat]?.getD 0).toNat) else none
 |_,_=>none
theorem SV2:(∀(T:Tm)(H:Hp)(x i:Opd),ca T H (.ixStr x i)=oT (ov T x) (ov T i))/\
    (∀(s:ByteArray)(k:IntKind)(n:Int),oT (.str s) (.int k n)=if 0<=n/\n<s.size then some (.int .u8 (s[n.toNat]?.getD 0).toNat) else none):=
 ⟨fun T H x i=>by
  simp only[ca];cases ov T x<;>cases ov T i<;>rfl,λ_ _ _=>rfl⟩
theorem SN:(∀(k:IntKind)(a b:Int)(tb tf:Bool),bv .lss tb tf (.int k a) (.int k b)=some (.bool (decide (a<b))))/\(∀(k:IntKind)(a b:Int)(tb tf:Bool),bv .leq tb tf (.int k a) (.int k b)=some (.bool (decide (a<=b))))/\
    (∀(k:IntKind)(a b:Int)(tb tf:Bool),bv .gtr tb tf (.int k a) (.int k b)=some (.bool (decide (b<a))))/\(∀(k:IntKind)(a b:Int)(tb tf:Bool),bv .geq tb tf (.int k a) (.int k b)=some (.bool (decide (b<=a))))/\
    (∀(k:IntKind)(a b:Int)(tb tf:Bool),bv .eql tb tf (.int k a) (.int k b)=some (.bool (decide (a=b))))/\(∀(k:IntKind)(a b:Int)(tb tf:Bool),bv .neq tb tf (.int k a) (.int k b)=some (.bool (decide (a≠b))))/\
    (∀(k:IntKind)(a b:Int)(tb tf:Bool),bv .add tb tf (.int k a) (.int k b)=some (.int k (k.wrap (a+b))))/\(∀(k:IntKind)(a b:Int)(tb tf:Bool),bv .sub tb tf (.int k a) (.int k b)=some (.int k (k.wrap (a-b))))/\
    (∀(k:IntKind)(a b:Int)(tb tf:Bool),bv .mul tb tf (.int k a) (.int k b)=some (.int k (k.wrap (a*b))))/\
    (∀(a b:Bool)(tf:Bool),bv .eql true tf (.bool a) (.bool b)=some (.bool (a==b)))/\(∀(a b:Bool)(tf:Bool),bv .neq true tf (.bool a) (.bool b)=some (.bool (!(a==b))))/\
    (∀tb:Bool,bv .eql tb true .nilf .nilf=some (.bool true))/\(∀tb:Bool,bv .neq tb true .nilf .nilf=some (.bool false))/\
    (∀(tb:Bool)(f:FuncId)(c:List AV),bv .eql tb true (.func f c) .nilf=some (.bool false))/\(∀(tb:Bool)(f:FuncId)(c:List AV),bv .neq tb true (.func f c) .nilf=some (.bool true))/\
    (∀b:Bool,aun .not (.bool b)=some (.bool (!b)))/\
    (∀(k:IntKind)(a b:Int),qa (.int k a) (.int k b)=some (.int k (max a b)))/\(∀(k:IntKind)(a b:Int),pX (.int k a) (.int k b)=some (.int k (min a b)))/\
    (∀(f:AV->AV->Option AV)(x:AV),iO f x []=some x)/\(∀(f:AV->AV->Option AV)(x y:AV)(l:List AV),iO f x (y::l)=match f x y with|some z=>iO f z l|none=>none)/\
    (∀(k:Nat)(b n off:Nat),mi k (.ptr b n off)=some (.ptr b n (off+k)))/\(∀(k:Nat)(cs:List AV)(off:Nat),mi k (.iptr cs off)=some (.iptr cs (off+k)))/\
    (∀(cs:List AV)(off:Nat),rd1 cH (.iptr cs off)=cs[off]?):=
 ⟨fun _ _ _ _ _=>Jh,fun _ _ _ _ _=>Jd,fun _ _ _ _ _=>It,fun _ _ _ _ _=>Jk,fun _ _ _ _ _=>I6,fun _ _ _ _ _=>Ib,fun _ _ _ _ _=>I2,fun _ _ _ _ _=>Jc,fun _ _ _ _ _=>Iz,
  λ_ _ _=>rfl,λ_ _ _=>rfl,λ_=>rfl,λ_=>rfl,λ_ _ _=>rfl,λ_ _ _=>rfl,λ_=>rfl,
  λk a b=>by simp only[qa,Int.max_def];split<;>split<;>simp <;>omega,λk a b=>by simp only[pX,Int.min_def];split<;>split<;>simp <;>omega,λ_ _=>rfl,λ_ _ _ _=>rfl,λ_ _ _ _=>rfl,λ_ _ _=>rfl,λ_ _=>rfl⟩
theorem SL:(∀(a:AV)(l:List AV),(a::l)[0]?=some a)/\(∀(a:AV)(l:List AV)(n:Nat),(a::l)[n+1]?=l[n]?)/\(∀(l:List AV),l.drop 0=l)/\(∀(a:AV)(l:List AV)(n:Nat),(a::l).drop (n+1)=l.drop n)/\(∀n:Nat,([]:List AV).drop n=[])/\
    (∀(l:List AV),l.take 0=[])/\(∀(a:AV)(l:List AV)(n:Nat),(a::l).take (n+1)=a::l.take n)/\(∀n:Nat,([]:List AV).take n=[])/\(∀(l:List AV),[]++l=l)/\(∀(l:List AV),l++[]=l)/\(∀(a:AV)(l m:List AV),(a::l)++m=a::(l++m))/\
    (∀(cs:List AV)(off:Nat)(new:List AV),bC cs off new=cs.take off++new++cs.drop (off+new.length))/\(([]:List AV).length=0)/\(∀(a:AV)(l:List AV),(a::l).length=l.length+1)/\
    (∀(k:IntKind)(n:Int),(AV.int k n).cells=[.int k n])/\(∀b:Bool,(AV.bool b).cells=[.bool b])/\(∀s:ByteArray,(AV.str s).cells=[.str s])/\(∀(k:Nat)(l:List AV),(AV.sl k l).cells=[.sl k l])/\(∀l:List AV,(AV.agg l).cells=l)/\(AV.esl.cells=[.esl])/\(AV.nilf.cells=[.nilf])/\
    (∀(f:FuncId)(c:List AV),(AV.func f c).cells=[.func f c])/\(∀(b n off:Nat),(AV.ptr b n off).cells=[.ptr b n off])/\(∀(c:List AV)(off:Nat),(AV.iptr c off).cells=[.iptr c off])/\(∀(b n sz off len:Nat),(AV.msl b n sz off len).cells=[.msl b n sz off len])/\(∀b:Nat,(AV.yld b).cells=[.yld b])/\(∀b:Nat,(AV.mp b).cells=[.mp b])/\(AV.nilp.cells=[.nilp])/\(∀(f:FuncId)(c:List AV),(AV.bfn f c).cells=[.bfn f c]):=
 ⟨fun _ _=>rfl,fun _ _ _=>rfl,fun _=>rfl,fun _ _ _=>rfl,fun n=>by cases n <;> rfl,fun _=>rfl,fun _ _ _=>rfl,fun n=>by cases n <;> rfl,fun _=>rfl,fun l=>fY l,fun _ _ _=>rfl,fun _ _ _=>rfl,rfl,fun _ _=>rfl,
  λ_ _=>rfl,λ_=>rfl,λ_=>rfl,λ_ _=>rfl,λ_=>rfl,rfl,rfl,λ_ _=>rfl,λ_ _ _=>rfl,λ_ _=>rfl,λ_ _ _ _ _=>rfl,λ_=>rfl,λ_=>rfl,rfl,λ_ _=>rfl⟩
def AV.ones(l:List AV):Bool:=l.all AV.one
theorem SO:(AV.ones []=true)/\(∀(a:AV)(l:List AV),AV.ones (a::l)=(a.one&&AV.ones l))/\(∀(k:IntKind)(n:Int),(AV.int k n).one=true)/\(∀b:Bool,(AV.bool b).one=true)/\(∀s:ByteArray,(AV.str s).one=true)/\(∀(k:Nat)(l:List AV),(AV.sl k l).one=true)/\(AV.esl.one=true)/\(AV.nilf.one=true)/\
    (∀(f:FuncId)(c:List AV),(AV.func f c).one=true)/\(∀(b n off:Nat),(AV.ptr b n off).one=true)/\(∀(c:List AV)(off:Nat),(AV.iptr c off).one=true)/\(∀(b n sz off len:Nat),(AV.msl b n sz off len).one=true)/\(∀b:Nat,(AV.yld b).one=true)/\(∀b:Nat,(AV.mp b).one=true)/\(AV.nilp.one=true)/\(∀l:List AV,l.all AV.one=AV.ones l):=
 ⟨rfl,λ_ _=>by simp[AV.ones],λ_ _=>rfl,λ_=>rfl,λ_=>rfl,λ_ _=>rfl,rfl,rfl,λ_ _=>rfl,λ_ _ _=>rfl,λ_ _=>rfl,λ_ _ _ _ _=>rfl,λ_=>rfl,λ_=>rfl,rfl,λ_=>rfl⟩
variable{P:Program}{T:Tm}{H:Hp}{nx:Nat}
theorem sB{dm:DM}{K:SP}{l:List Op2}{d:Option Nat}{z:AV}{cs:List AV}(hd:dm2 dm T (.alloc z)=true)(hc:z.cells=cs)(ho:AV.ones cs=true)(k:am P dm l (aW T d (.ptr nx cs.length 0)) (ar H nx cs) (nx+1) K):am P dm (⟨d,none,.alloc z⟩::l) T H nx K:=by
 subst hc;refine oJ rfl hd ?_ k;simp only[jY,vM];rw[if_pos (show z.flat=true from ho)]
theorem JK{dm:DM}{K:SP}{l:List Op2}{d:Option Nat}{x:Opd}{v:AV}{cs:List AV}(hd:dm2 dm T (.box x)=true)(hx:ov T x=v)(hc:v.cells=cs)(ho:AV.ones cs=true)(k:am P dm l (aW T d (.ptr nx cs.length 0)) (ar H nx cs) (nx+1) K):am P dm (⟨d,none,.box x⟩::l) T H nx K:=by
 subst hc hx;refine oJ rfl hd ?_ k;simp only[jY,vM];rw[if_pos (show(ov T x).flat=true from ho)]
theorem KP{dm:DM}{K:SP}{l:List Op2}{d:Option Nat}{sz:Nat}{p x:Opd}{b n off:Nat}{v:AV}{cs vs:List AV}(hd:dm2 dm T (.st sz p x)=true)(hp:ov T p=.ptr b n off)(hx:ov T x=v)(hb:H b=some cs)(hc:v.cells=vs)(ho:AV.ones vs=true)(hn:cs.length=n)(hl:vs.length=sz)(hf:off+sz<=n)
    (k:am P dm l (aW T d (.tup [])) (ar H b (bC cs off vs)) nx K):am P dm (⟨d,none,.st sz p x⟩::l) T H nx K:=by
 subst hc hx;refine oJ rfl hd ?_ k;simp only[jY,hp,hb];rw[if_pos ⟨hn,ho,hl,hf⟩]
theorem yW{dm:DM}{K:SP}{l:List Op2}{d:Option Nat}{sz bytes:Nat}{z:List AV}{x y:Opd}{k1 k2:IntKind}{n m:Int}(hd:dm2 dm T (.mks sz bytes z x y)=true)(hx:ov T x=.int k1 n)(hy:ov T y=.int k2 m)(h0:0<=n)(h1:n<=m)(h2:m<=9223372036854775807)(h3:bytes*m<=281474976710656)
    (k:am P dm l (aW T d (.msl nx (m.toNat*sz) sz 0 n.toNat)) (ar H nx (bH (.agg z) m.toNat)) (nx+1) K):am P dm (⟨d,none,.mks sz bytes z x y⟩::l) T H nx K:=by
 refine oJ rfl hd ?_ k;simp only[jY,hx,hy];rw[if_pos ⟨h0,h1,h2,h3⟩]
theorem JD{dm:DM}{K:SP}{l:List Op2}{d:Option Nat}{sz len:Nat}{z:List AV}{parts:List (Nat×Nat×Opd)}{pv:List (Nat×Nat×AV)}{cs:List AV}(hd:dm2 dm T (.bldS sz len z parts)=true)(hl:len≠0)(hp:parts.map (λp=>(p.1,p.2.1,ov T p.2.2))=pv)(hc:eU (bH (.agg z) len) pv=some cs)
    (k:am P dm l (aW T d (.msl nx cs.length sz 0 len)) (ar H nx cs) (nx+1) K):am P dm (⟨d,none,.bldS sz len z parts⟩::l) T H nx K:=by
 refine oJ rfl hd ?_ k;simp only[jY,hl,if_false,hp,hc]
theorem F6{dm:DM}{K:SP}{l:List Op2}{d:Option Nat}{sz:Nat}{z:List AV}(hd:dm2 dm T (.bldS sz 0 z [])=true)(k:am P dm l (aW T d .esl) H nx K):am P dm (⟨d,none,.bldS sz 0 z []⟩::l) T H nx K:=by
 refine oJ rfl hd ?_ k;simp[jY]
theorem kJ{dm:DM}{K:SP}{l:List Op2}{d:Option Nat}{sz bytes n:Nat}{s x:Opd}{v:AV}{new:List AV}(hd:dm2 dm T (.app sz bytes s x)=true)(hs:ov T s=.esl)(hx:ov T x=v)(hsrc:f8 sz H v=some (n,new))(ho:AV.ones new=true)(h1:n*bytes<=140737488355328)(h2:n<=9223372036854775807)
    (k:am P dm l (aW T d (.msl nx (n*sz) sz 0 n)) (ar H nx new) (nx+1) K):am P dm (⟨d,none,.app sz bytes s x⟩::l) T H nx K:=by
 subst hx;refine oJ rfl hd ?_ k;simp only[jY,I9,hs,hsrc];rw[if_pos (show new.all AV.one=true from ho),if_pos ⟨h1,h2⟩]
theorem AZ{dm:DM}{K:SP}{l:List Op2}{d:Option Nat}{sz bytes n:Nat}{s x:Opd}{v:AV}{new cs:List AV}{b m len:Nat}(hd:dm2 dm T (.app sz bytes s x)=true)(hs:ov T s=.msl b m sz 0 len)(hb:H b=some cs)(hx:ov T x=v)(hsrc:f8 sz H v=some (n,new))(ho:AV.ones new=true)(hm:cs.length=m)(hl:m=len*sz)
    (h1:(len+n)*bytes<=140737488355328) (h2:len+n<=9223372036854775807)
    (k:am P dm l (aW T d (.msl b ((len+n)*sz) sz 0 (len+n))) (ar H b (cs++new)) nx K):am P dm (⟨d,none,.app sz bytes s x⟩::l) T H nx K:=by
 subst hx;refine oJ rfl hd ?_ k;simp only[jY,I9,hs,hsrc,hb];rw[if_pos (show new.all AV.one=true from ho),if_pos ⟨hm,trivial⟩,if_pos ⟨trivial,hl,h1,h2⟩]
theorem BU{dm:DM}{K:SP}{l:List Op2}{d:Option Nat}{sz bytes n:Nat}{s x:Opd}{v:AV}{new cs:List AV}{b m off len:Nat}(hd:dm2 dm T (.app sz bytes s x)=true)(hs:ov T s=.msl b m sz off len)(hb:H b=some cs)(hx:ov T x=v)(hsrc:f8 sz H v=some (n,new))(ho:AV.ones new=true)(hm:cs.length=m)(hl:off=0->m≠len*sz)(h0:0<m)(h1:off+(len+n)*sz<=m)
    (k:am P dm l (aW T d (.msl b m sz off (len+n))) (ar H b (bC cs (off+len*sz) new)) nx K):am P dm (⟨d,none,.app sz bytes s x⟩::l) T H nx K:=by
 subst hx;refine oJ rfl hd ?_ k;simp only[jY,I9,hs,hsrc,hb];rw[if_pos (show new.all AV.one=true from ho),if_pos ⟨hm,trivial⟩,if_neg (λh=>hl h.1 h.2.1),if_pos ⟨h1,h0⟩]
theorem ke{sz:Nat}{l:List AV}:f8 sz H (.sl sz l)=some (l.length,l.flatMap AV.cells):=by simp[f8]
theorem pD{sz:Nat}:f8 sz H .esl=some (0,[]):=rfl
theorem gm{sz b n off len:Nat}{cs:List AV}(h:H b=some cs)(hn:cs.length=n)(hf:off+len*sz<=n):f8 sz H (.msl b n sz off len)=some (len,(cs.drop off).take (len*sz)):=by
 simp only[f8];split
 ·rename_i h0;subst h0;simp
 ·simp only[h,hn,true_and,hf,if_true]
theorem SR:(∀(H:Hp)(b n off:Nat),rd1 H (.ptr b n off)=match H b with|some cs=>if cs.length=n then cs[off]? else none|none=>none)/\
    (∀(H:Hp)(k b n off:Nat),rd H k (.ptr b n off)=match H b with|some cs=>if cs.length=n/\off+k<=n then some ((cs.drop off).take k) else none|none=>none)/\
    (∀(H:Hp)(cs:List AV)(off:Nat),rd1 H (.iptr cs off)=cs[off]?)/\(∀(H:Hp)(cs:List AV)(off k:Nat),rd H k (.iptr cs off)=if off+k<=cs.length then some ((cs.drop off).take k) else none)/\
    (∀(l:List AV)(i:Nat),iY (.tup l) i=l[i]?)/\(∀(l:List AV)(f:List AV->Option AV),ij (.agg l) f=f l)/\(∀(k:IntKind)(n:Int)(f:Int->Option AV),vP (.int k n) f=f n)/\
    (∀(cs:List AV),eU cs []=some cs)/\
    (∀(cs:List AV)(off sz:Nat)(x:AV)(r:List (Nat×Nat×AV)),eU cs ((off,sz,x)::r)=if AV.ones x.cells=true/\x.cells.length=sz/\off+sz<=cs.length then eU (bC cs off x.cells) r else none)/\
    (∀(b n sz off len:Nat),cT (.msl b n sz off len)=some (.int .i64 len))/\(cT .esl=some (.int .i64 0))/\(∀(sz:Nat)(l:List AV),cT (.sl sz l)=some (.int .i64 l.length))/\
    (∀(z:AV),bH z 0=[])/\(∀(z:AV)(n:Nat),bH z (n+1)=z.cells++bH z n):=
 ⟨λ_ _ _ _=>rfl,λ_ _ _ _ _=>rfl,λ_ _ _=>rfl,λ_ _ _ _=>rfl,λl i=>by cases l<;>rfl,λ_ _=>rfl,λ_ _ _=>rfl,λ_=>rfl,λ_ _ _ _ _=>rfl,λ_ _ _ _ _=>rfl,rfl,λ_ _=>rfl,λ_=>rfl,λz n=>by simp[bH,List.replicate_succ]⟩
end Go.Abs
namespace Go.Abs
theorem ct{H:Hp}{a b:Bool}(h:a=b):Snap H (.bool a) (.bool b):=by subst h;exact .bool _
theorem eW{H:Hp}{k:IntKind}{a b:Int}(h:a=b):Snap H (.int k a) (.int k b):=by subst h;exact .int _ _
theorem bA{H:Hp}{l m:List AV}(h:aN H l m):Snap H (.tup l) (.tup m):=.tup l m h.1 h.2
theorem vv{H:Hp}{l m:List AV}(h:aN H l m):Snap H (.agg l) (.agg m):=.agg l m h.1 h.2
theorem ah{H:Hp}{x y:AV}{xs ys:List AV}(h:Snap H x y)(hs:aN H xs ys):aN H (x::xs) (y::ys):=aN.cons h hs
theorem Dat.snap{H:Hp}{x:AV}(h:Dat x):Snap H x x:=h H
theorem bF{P:Program}{b:C2}{T:Tm}{H:Hp}{nx:Nat}{K:CP}{X:Type}(L:X->List (Nat×AV))(I:X->Hp->Nat->Prop)(μ:X->Nat)(x0:X)(h0:I x0 H nx)(hT:agr T (L x0))
    (step:∀x H nx,I x H nx->aO P b (tl (L x)) H nx λe T H' nx'=>aR e (∃y,μ y<μ x/\I y H' nx'/\agr T (L y)) (K e T H' nx')):aZ (aO P b) T H nx K:=by
 refine F5 (X:=X×Hp×Nat) (λx=>tl (L x.1)) (λx=>x.2.1) (λx=>x.2.2) (λx=>I x.1 x.2.1 x.2.2) (λx=>μ x.1) ⟨(x0,H,nx),h0,_,Gh.weak (uE hT)⟩ (λx hx=>eA b (step x.1 x.2.1 x.2.2 hx) (λe T H' nx' h=>?_));cases e with
 |normal=>
  obtain⟨y,h1,h2,h3⟩:=h;exact⟨(y,H',nx'),h2,h1,_,Gh.weak (uE h3)⟩
 |exit i=>exact h
 |ret=>exact h
def mb(Hf:Hp)(cs cs':List AV):Prop:=cs'.length=cs.length/\∀(i:Nat)(x x':AV),cs[i]?=some x->cs'[i]?=some x'->x'=x\/Snap Hf x x'
theorem mb.refl(Hf:Hp)(cs:List AV):mb Hf cs cs:=⟨rfl,λi x x' h1 h2=>.inl (by rw[h1] at h2;cases h2;rfl)⟩
theorem mb.snoc{Hf:Hp}{cs:List AV}{x x':AV}(h:Snap Hf x x'):mb Hf (cs++[x]) (cs++[x']):=by
 refine⟨by simp,λi y y' h1 h2=>?_⟩;by_cases hi:i<cs.length
 ·rw[hJ hi] at h1 h2;rw[h1] at h2;cases h2;exact .inl rfl
 ·rw[je (by omega)] at h1 h2;cases hj:i-cs.length with
  |zero=>rw[hj] at h1 h2;simp at h1 h2;subst h1 h2;exact .inr h
  |succ j=>rw[hj] at h1;simp at h1
structure Fz(Hf H H':Hp):Prop where
 sub:∀b cs,Hf b=some cs->H b=some cs
 to:∀b cs',H' b=some cs'->∃cs,H b=some cs/\Hf b=none/\mb Hf cs cs'
def Bo(Hf:Hp)(T:Tm):List (Nat×AV)->Prop
 |[]=>True
 |(d,v)::l=>(T d=v\/Snap Hf (T d) v)/\Bo Hf T l
theorem CT{Hf:Hp}{T:Tm}:∀{l:List (Nat×AV)},Bo Hf T l->∀t,tl l t=.undef\/tl l t=T t\/Snap Hf (T t) (tl l t)
 |[],_,t=>.inl rfl
 |(d,v)::l,h,t=>by
  simp only[tl];split
  ·rename_i e;subst e;rcases h.1 with h1|h1
   ·exact .inr (.inl h1.symm)
   ·exact .inr (.inr h1)
  ·exact CT h.2 t
theorem Fz.gh{Hf H H':Hp}{T:Tm}{l:List (Nat×AV)}{nx:Nat}(h:Fz Hf H H')(ha:Bo Hf T l):Gh T H nx (tl l) H' nx Hf:=
 ⟨h.sub,aM _,fun b cs' hb=>by
  obtain⟨cs,h1,h2,h3,h4⟩:=h.to b cs' hb;exact .inl ⟨cs,h1,h2,h3,λi x x' hx hx'=>(h4 i x x' hx hx').imp id .inl⟩,λt=>by
  rcases CT ha t with h1|h1|h1
  ·exact .inl h1
  ·exact .inr (.inl h1)
  ·exact .inr (.inr (.inl h1))⟩
def only(b:Nat)(cs:List AV):Hp:=λx=>if x=b then some cs else none
theorem ma{b:Nat}{cs:List AV}:only b cs b=some cs:=by simp[only]
theorem qs{P:Program}{T:Tm}{H:Hp}{nx:Nat}{K:CP}{l:List Op2}(Hf H':Hp)(L:List (Nat×AV))(hf:Fz Hf H H')(ha:Bo Hf T L)(h:am P .text l (tl L) H' nx λT H nx=>K .normal T H nx):aO P (.ops 0 l) T H nx K:=⟨_,H',nx,Hf,hf.gh ha,h⟩
theorem Fz.one{H:Hp}{b:Nat}{cs:List AV}(hb:H b=some cs):Fz (only b cs) H (dK H b):=
 ⟨fun x c h=>by unfold only at h; split at h <;> cases h; subst_vars; exact hb,fun x c h=>by
  have:=q9 h;exact⟨c,this.2,by simp[only,this.1],mb.refl _ _⟩⟩
theorem Fz.all{H:Hp}:Fz H H cH:=⟨λ_ _ h=>h,λ_ _ h=>(by cases h)⟩
theorem Ci{T:Tm}{Hf:Hp}:∀{l:List (Nat×AV)},agr T l->Bo Hf T l
 |[],_=>trivial
 |(_,_)::_,h=>⟨.inl h.1,Ci h.2⟩
theorem NH{P:Program}{b:C2}{T:Tm}{H:Hp}{nx:Nat}{K:CP}{X:Type}(L:X->List (Nat×AV))(I:X->Hp->Nat->Prop)(μ:X->Nat)(x0:X)(h0:∃Hf H',Fz Hf H H'/\I x0 H' nx/\Bo Hf T (L x0))
    (step:∀x H nx,I x H nx->aO P b (tl (L x)) H nx λe T H' nx'=>aR e (∃y,μ y<μ x/\∃Hf H'',Fz Hf H' H''/\I y H'' nx'/\Bo Hf T (L y)) (K e T H' nx')):aZ (aO P b) T H nx K:=by
 obtain⟨Hf,H0,hf,hI,ha⟩:=h0;refine F5 (X:=X×Hp×Nat) (λx=>tl (L x.1)) (λx=>x.2.1) (λx=>x.2.2) (λx=>I x.1 x.2.1 x.2.2) (λx=>μ x.1) ⟨(x0,H0,nx),hI,_,hf.gh ha⟩ (λx hx=>eA b (step x.1 x.2.1 x.2.2 hx) (λe T H' nx' h=>?_));cases e with
 |normal=>
  obtain⟨y,h1,Hf,H'',h2,h3,h4⟩:=h;exact⟨(y,H'',nx'),h3,h1,_,h2.gh h4⟩
 |exit i=>exact h
 |ret=>exact h
theorem Fz.none{H:Hp}:Fz cH H H:=⟨λ_ _ h=>(by cases h),λb cs h=>⟨cs,h,rfl,mb.refl _ _⟩⟩
theorem nU{α:Type}[DecidableEq α](k:MK)(enc:α->AV)(h:∀a b,p9 k (enc a) (enc b)=some (decide (a=b)))(v:α):∀ks:List α,dA k (enc v) (ks.map enc)=some (if v∈ks then some (ks.idxOf v) else none)
 |[]=>rfl
 |x::l=>by
  simp only[ew,dA,h];by_cases e:v=x
  ·subst e;simp
  ·have e':x≠v:=λh=>e h.symm;simp only[e,decide_false,nU k enc h v l,mV,dg,false_or];by_cases hm:v∈l
   ·simp only[hm,if_true,mV];simp[List.idxOf_cons,beq_eq_false_iff_ne.2 e']
   ·simp[hm]
theorem qZ{α:Type}{l:List α}{n k:Nat}{d:α}(h:k<n):(l.take n).getD k d=l.getD k d:=by
 simp only[List.getD,jt,if_pos h]
theorem Cc{α:Type}[Inhabited α]{l:List α}{k:Nat}(h:k<l.length):l.take (k+1)=l.take k++[l.getD k default]:=by
 rw[List.take_add_one];simp[List.getD,h]
theorem jB{α:Type}[Inhabited α]{l:List α}{k:Nat}(h:k<l.length):l.drop k=l.getD k default::l.drop (k+1):=by
 rw[List.drop_eq_getElem_cons h];simp[List.getD,h]
theorem af{H:Hp}{b:Nat}{cs:List AV}:ar H b cs b=some cs:=if_pos rfl
theorem wN{H:Hp}{f:FuncId}{l m:List AV}(h:aN H l m):Snap H (.func f l) (.func f m):=.func f l m h.1 h.2
theorem zP{H:Hp}{b n off:Nat}{cs cs':List AV}(hb:H b=some cs)(hn:cs.length=n)(h:aN H cs cs'):Snap H (.ptr b n off) (.iptr cs' off):=.ptr b n off cs cs' hb hn (by rw[h.1,hn]) h.2
theorem Dat.iptr{cs:List AV}{off:Nat}(h:∀x∈cs,Dat x):Dat (.iptr cs off):=λH=>.iptr cs cs off rfl (λi a c ha hc=>by rw[ha] at hc;cases hc;exact h a (gZ ha) H)
theorem DatL.nil:∀x∈([]:List AV),Dat x:=by simp
theorem DatL.cons{x:AV}{l:List AV}(h:Dat x)(hl:∀y∈l,Dat y):∀y∈x::l,Dat y:=λy hy=>(dg.1 hy).elim (λe=>e▸h) (hl y)
theorem lg{H:Hp}{b n off len:Nat}{cs:List AV}{l:List AV}(hb:H b=some cs)(hn:cs.length=n)(hf:off+len<=n)(hl:l.length=len)(hc:∀y∈l,y.cells=[y])(h:∀(i:Nat)(a c:AV),cs[off+i]?=some a->l[i]?=some c->Snap H a c):Snap H (.msl b n 1 off len) (.sl 1 l):=by
 refine .msl b n 1 off len cs l hb hn (by omega) hl (λy hy=>by rw[hc y hy];rfl) (λi j y a c hy hc' ha=>?_);rw[hc y (gZ hy)] at hc';cases j with
 |zero=>simp at hc';subst hc';exact h i a y (by simpa using ha) hy
 |succ j=>simp at hc'
theorem eH{H:Hp}{b n len:Nat}{l:List Int}(hb:H b=some (l.map (AV.int .i64)))(hn:n=len)(hl:l.length=len):Snap H (.msl b n 1 0 len) (aH l):=by
 subst hn;refine lg hb (by simp[hl]) (by omega) (by simp[hl]) (λy hy=>by simp at hy;obtain⟨n,_,rfl⟩:=hy;rfl) (λi a c ha hc=>?_);rw[bP] at ha;rw[ha] at hc;cases hc;simp at ha;obtain⟨n,_,rfl⟩:=ha;exact .int _ _
theorem bq{H:Hp}:∀{l:List AV},(∀x∈l,Dat x)->aN H l l
 |[],_=>aN.nil
 |x::l,h=>aN.cons (h x (by simp) H) (bq (λy hy=>h y (by simp[hy])))
theorem aK{α:Type}[Inhabited α]{l:List α}{k:Nat}(h:k<l.length):l.getD k default∈l:=by
 have:l.getD k default=l[k]:=by simp[List.getD,h]
 rw[this];exact oe h
theorem gN{H:Hp}{l:List Int}:f8 1 H (aH l)=some (l.length,l.map (AV.int .i64)):=by
 unfold aH;rw[ke]
 congr 2
 ·simp
 ·induction l with
  |nil=>rfl
  |cons a l ih=>simp only[ew,vC,ih];rfl
theorem iV{l:List Int}:AV.ones (l.map (AV.int .i64))=true:=by
 simp[AV.ones,AV.one]
theorem nC{l:List (List Int)}:AV.ones (l.map aH)=true:=by
 simp[AV.ones,aH,AV.one]
theorem jI{H:Hp}{l:List (List Int)}:f8 1 H (bK l)=some (l.length,l.map aH):=by
 unfold bK;rw[ke]
 congr 2
 ·simp
 ·induction l with
  |nil=>rfl
  |cons a l ih=>simp only[ew,vC,ih];rfl
theorem BI{l:List Int}:fA (aH l)=some l.length:=by simp[fA,aH]
theorem zB{l:List (List Int)}:fA (bK l)=some l.length:=by simp[fA,bK]
theorem fp{l:List Int}:(aH l).one=true:=rfl
theorem eB{l:List (List Int)}:(bK l).one=true:=rfl
theorem wn{H:Hp}{b n len:Nat}{l:List AV}(hb:H b=some l)(hn:n=len)(hl:l.length=len)(hc:∀y∈l,y.cells=[y]/\Dat y):Snap H (.msl b n 1 0 len) (.sl 1 l):=by
 subst hn;refine lg hb hl (by omega) hl (λy hy=>(hc y hy).1) (λi a c ha hc'=>?_);rw[bP] at ha;rw[ha] at hc';cases hc';exact(hc a (gZ ha)).2 H
theorem r_0{T:Tm}{H:Hp}{K:AV->Prop}(h:K (.tup [])):bk T H K []:=h
theorem getElem?_map_lt{α:Type}[Inhabited α]{f:α->AV}{l:List α}{k:Nat}(h:k<l.length):(l.map f)[k]?=some (f (l.getD k default)):=by
 simp[List.getD,h]
theorem Ht{sz b m off len:Nat}{k:IntKind}{n:Int}:eY sz (.msl b m sz off len) (.int k n)=if 0<=n/\n<len then some (.ptr b m (off+n.toNat*sz)) else none:=by simp[eY]
theorem nX{P:Program}{T:Tm}{H:Hp}{nx:Nat}{K:CP}{g:Opd}{ps:List Nat}{a b:C2}{f:FuncId}{caps:List AV}(y y1:Nat)(hy:nx=y)(hy1:y+1=y1)(hg:ov T g=.func f caps)
    (h:∀ (c0:AV) (cj:AEx→AV),(∀ (args:List AV) (H':Hp) (nx':Nat) (K':AV→Hp→Nat→Prop),H' y=some [c0]→args.length=ps.length →
        aO P a (lI T ps args) H' nx' (λe T2 H2 nx2=>aR e (H2 y=some [c0]/\aO P b T2 (dK H2 y) nx2 λe T3 H3 nx3=>aR e (K' (.bool true) (ar H3 y [c0]) nx3) (K' (.bool false) (ar H3 y [cj e]) nx3)) False)->
        Yl P y args H' nx' K')->
     Fn P f (.yld y::caps) (ar H y [c0]) y1 λ_ H' nx'=>(H' y=some [c0]/\K .normal T (dK H' y) nx')\/ ∃e,e≠.normal/\H' y=some [cj e]/\K e T (dK H' y) nx'):aO P (.rangeF g ps a b) T H nx K:=by
 subst hy hy1;exact HP hg h
theorem xw{H:Hp}{b n len:Nat}{l:List Int}(hb:H b=some (l.map (AV.int .i64)))(hn:n=len)(hl:l.length=len):SnapF H (.msl b n 1 0 len) (aH l):=by
 subst hn;refine .msl b n 1 0 n _ _ hb (by simp[hl]) (by omega) (by simp[hl]) (λy hy=>by simp at hy;obtain⟨n,_,rfl⟩:=hy;rfl) (λi j y a c hy hc ha=>?_);rw[mM] at hy;cases hi:l[i]? with
 |none=>rw[hi] at hy;cases hy
 |some q=>
  rw[hi] at hy;cases hy;cases j with
  |zero=>
   simp only[AV.cells,yH,vD] at hc;subst hc;simp[hi] at ha;subst ha;exact .int _ _
  |succ j=>simp[AV.cells] at hc
theorem D0{H:Hp}{l:List Int}(h:l.length=0):SnapF H .esl (aH l):=by
 have:l=[]:=fI.1 h;subst this;exact .eslsl 1
end Go.Abs
namespace Go.Abs
inductive Row(H:Hp)(sz:Nat):AV->List AV->Prop
 |nil:Row H sz .esl []
 |box (b len:Nat) (cs:List AV) (hb:H b=some cs) (hl:cs.length=len*sz):Row H sz (.msl b (len*sz) sz 0 len) cs
def bX:AV->Option Nat
 |.msl b _ _ _ _=>some b
 |_=>none
theorem Row.len{H:Hp}{sz:Nat}{s:AV}{cs:List AV}(h:Row H sz s cs):∃n:Nat,cT s=some (.int .i64 n)/\cs.length=n*sz:=by
 cases h with
 |nil=>exact⟨0,rfl,by simp⟩
 |box b len cs hb hl=>exact⟨len,rfl,hl⟩
theorem Row.lenS{H:Hp}{sz n:Nat}{s:AV}{cs:List AV}(h:Row H sz s cs)(hl:cs.length=n*sz)(hz:0<sz):cT s=some (.int .i64 n):=by
 obtain⟨m,h1,h2⟩:=h.len;have:m=n:=Nat.eq_of_mul_eq_mul_right hz (by omega);subst this;exact h1
theorem Row.same{H H':Hp}{sz:Nat}{s:AV}{cs:List AV}(h:Row H sz s cs)(hs:∀b,bX s=some b->H' b=H b):Row H' sz s cs:=by
 cases h with
 |nil=>exact .nil
 |box b len cs hb hl=>exact .box b len cs ((hs b rfl).trans hb) hl
theorem Row.one{H:Hp}{sz:Nat}{s:AV}{cs:List AV}(h:Row H sz s cs):s.one=true/\s.cells=[s]:=by
 cases h<;>exact⟨rfl,rfl⟩
theorem ae{H:Hp}{b x:Nat}{cs:List AV}(h:x≠b):ar H b cs x=H x:=if_neg h
theorem dr{H:Hp}{b x:Nat}(h:x≠b):dK H b x=H x:=if_neg h
variable{P:Program}{T:Tm}{H:Hp}{nx:Nat}
theorem mg{dm:DM}{K:SP}{l:List Op2}{d:Option Nat}{sz bytes k:Nat}{s x:Opd}{sv xv:AV}{cs new:List AV}(hd:dm2 dm T (.app sz bytes s x)=true)(hs:ov T s=sv)(hrow:Row H sz sv cs)(hx:ov T x=xv)(hsrc:f8 sz H xv=some (k,new))(ho:AV.ones new=true)(hk:new.length=k*sz)
    (hz:0<sz) (h1:(cs.length+k)*bytes<=140737488355328) (h2:cs.length+k<=9223372036854775807)
    (next:∀(sv':AV)(H':Hp)(nx':Nat),Row H' sz sv' (cs++new)->nx<=nx'->nx'<=nx+1->(∀i,i<nx->bX sv≠some i->H' i=H i)->(∀b,bX sv'=some b->bX sv=some b\/b=nx/\nx'=nx+1)->am P dm l (aW T d sv') H' nx' K):
    am P dm (⟨d,none,.app sz bytes s x⟩::l) T H nx K:=by
 cases hrow with
 |nil=>
  refine kJ hd hs hx hsrc ho (by simpa using h1) (by simpa using h2) ?_;exact next _ _ _ (.box nx k new af hk) (Nat.le_succ _) (aM _) (λi hi _=>ae (by omega)) (λb hb=>by cases hb;exact .inr ⟨rfl,rfl⟩)
 |box b len cs hb hl=>
  have hle:len<=cs.length:=by rw[hl];exact Nat.le_mul_of_pos_right _ hz
  have hb1:(len+k)*bytes<=140737488355328:=fK (mz _ (by omega)) h1;refine AZ hd hs hb hx hsrc ho hl rfl hb1 (by omega) ?_;exact next _ _ _ (.box b (len+k) (cs++new) af (by rw[cP,hl,hk,gb])) (aM _) (Nat.le_succ _) (λi hi hne=>ae (λe=>hne (by rw[e];rfl))) (λb' hb'=>by cases hb';exact .inl rfl)
theorem Row.snap{H:Hp}{sz:Nat}{s:AV}{elems:List AV}(h:Row H sz s (elems.flatMap AV.cells))(hc:∀y∈elems,y.cells.length=sz)(hz:0<sz)(hd:∀y∈elems,∀c∈y.cells,Dat c):Snap H s (.sl sz elems):=by
 obtain⟨f1,f2⟩:=fC elems hc;generalize he:elems.flatMap AV.cells=cs at h;cases h with
 |nil=>
  have:elems.length*sz=0:=by rw[<-f1,he];rfl
  have:elems=[]:=fI.1 (by
   rcases Nat.mul_eq_zero.1 this with h|h
   ·exact h
   ·omega)
  subst this;exact .eslsl sz
 |box b len cs hb hl=>
  have hlen:elems.length=len:=Nat.eq_of_mul_eq_mul_right hz (by rw[<-f1,he,hl]);refine .msl b (len*sz) sz 0 len cs elems hb hl (by omega) hlen hc (λi j y a c hy hc' ha=>?_);have hj:j<sz:=by rw[<-hc y (gZ hy)];exact(b6.1 hc').1
  have key:∀(l:List AV)(i j:Nat)(y c:AV),(∀z∈l,z.cells.length=sz)->l[i]?=some y->y.cells[j]?=some c->j<sz->(l.flatMap AV.cells)[i*sz+j]?=some c:=by
   intro l
   induction l with
   |nil=>intro i j y c _ h;simp at h
   |cons x l ih=>
    intro i j y c hl hy hc hj;rw[vC];cases i with
    |zero=>
     simp at hy;subst hy;rw[xT,bP,hJ (by rw[hl x (by simp)];exact hj)];exact hc
    |succ i=>
     rw[je (by rw[hl x (by simp),gb];omega),hl x (by simp)];have:=ih i j y c (λz hz=>hl z (by simp[hz])) (by simpa using hy) hc hj;rw[<-this];congr 1;rw[gb];omega
  have:=key elems i j y c hc hy hc' hj;rw[he,<-bP (i*sz)] at this;rw[this] at ha;cases ha;exact hd y (gZ hy) a (gZ hc') H
theorem kD{α:Type}{f:α->AV}(h:∀x,(f x).cells=[f x])(l:List α):(l.map f).flatMap AV.cells=l.map f:=by
 induction l with
 |nil=>rfl
 |cons a l ih=>rw[ew,vC,ih,h];rfl
theorem Row.snapI{H:Hp}{s:AV}{l:List Int}(h:Row H 1 s (l.map (AV.int .i64))):Snap H s (aH l):=by
 refine Row.snap (elems:=l.map (AV.int .i64)) (by rw[kD (λ_=>rfl)];exact h) (λy hy=>?_) lh (λy hy c hc=>?_)
 ·simp at hy;obtain⟨n,_,rfl⟩:=hy;rfl
 ·simp at hy;obtain⟨n,_,rfl⟩:=hy;simp only[E7,cC] at hc;subst hc;exact .int
theorem bn{K:CP}{x y:C2}(M:SP)(h1:aO P x T H nx λe T H nx=>aR e (M T H nx) (K e T H nx))(h2:∀T H nx,M T H nx->aO P y T H nx K):aO P (.seq x y) T H nx K:=by
 refine dJ (eA x h1 (λe T H nx h=>?_));cases e with
 |normal=>exact h2 T H nx h
 |exit i=>exact h
 |ret=>exact h
end Go.Abs
namespace Go.Abs
theorem OI:(∀l:List Int,(aH l).cells=[aH l])/\(∀l:List (List Int),(bK l).cells=[bK l])/\(∀x:Nat,cH x=none)/\
    (∀(α β:Type)(f:α->β)(a:α)(l:List α),(a::l).map f=f a::l.map f)/\(∀(α β:Type)(f:α->β),([]:List α).map f=[])/\(∀(α β:Type)(f:α->β)(a:α),(some a).map f=some (f a))/\(∀(α β:Type)(f:α->β),(none:Option α).map f=none)/\
    (∀n:Nat,0+n=n)/\(∀n:Nat,n+0=n)/\(∀p:Prop,(p/\p)=p)/\(∀p:Prop,(p/\True)=p)/\(∀p:Prop,(True/\p)=p)/\((!true)=false)/\((!false)=true)/\
    (∀(α:Type)(a:α)(l m:List α),(a::l)++m=a::(l++m))/\(∀(α:Type)(l:List α),[]++l=l)/\(∀(α:Type)(l:List α),l++[]=l):=
 ⟨λ_=>rfl,λ_=>rfl,λ_=>rfl,λ_ _ _ _ _=>rfl,λ_ _ _=>rfl,λ_ _ _ _=>rfl,λ_ _ _=>rfl,bP,pk,and_self,and_true,true_and,rfl,rfl,λ_ _ _ _=>rfl,λ_ _=>rfl,λ_ l=>fY l⟩
theorem zz(p:Prop):(p/\p)=p:=and_self p
theorem cf:(∀(H:Hp)(b x:Nat)(cs:List AV),ar H b cs x=if x=b then some cs else H x)/\(∀(H:Hp)(b x:Nat),dK H b x=if x=b then none else H x):=⟨λ_ _ _ _=>rfl,λ_ _ _=>rfl⟩
theorem cA:(∀(H:Hp)(b:Nat)(cs:List AV),ar H b cs b=some cs)/\(∀(H:Hp)(b x:Nat)(cs:List AV),x≠b->ar H b cs x=H x)/\(∀(H:Hp)(b:Nat),dK H b b=none)/\(∀(H:Hp)(b x:Nat),x≠b->dK H b x=H x)/\(∀a b c:Nat,a+b+c=a+(b+c)):=
 ⟨λ_ _ _=>af,λ_ _ _ _ h=>ae h,λ_ _=>iH,λ_ _ _ h=>dr h,qt⟩
theorem ZA:((∀ l:List Int,(aH l).cells=[aH l])∧(∀ l:List (List Int),(bK l).cells=[bK l])∧(∀ x:Nat,cH x=none) ∧
    (∀(α β:Type)(f:α->β)(a:α)(l:List α),(a::l).map f=f a::l.map f)/\(∀(α β:Type)(f:α->β),([]:List α).map f=[])/\(∀(α β:Type)(f:α->β)(a:α),(some a).map f=some (f a))/\(∀(α β:Type)(f:α->β),(none:Option α).map f=none)/\
    (∀n:Nat,0+n=n)/\(∀n:Nat,n+0=n)/\(∀p:Prop,(p/\p)=p)/\(∀p:Prop,(p/\True)=p)/\(∀p:Prop,(True/\p)=p)/\((!true)=false)/\((!false)=true)/\
    (∀(α:Type)(a:α)(l m:List α),(a::l)++m=a::(l++m))/\(∀(α:Type)(l:List α),[]++l=l)/\(∀(α:Type)(l:List α),l++[]=l))/\
    ((∀ (T:Tm) (n:Nat),ov T (.t n)=T n)∧(∀ (T:Tm) (v:AV),ov T (.c v)=v)∧(∀ (T:Tm) (d t:Nat) (v:AV),upd T d v t=if t=d then v else T t)∧(∀ (T:Tm) (d:Nat) (v:AV),aW T (some d) v=upd T d v) ∧
    (∀(T:Tm)(v:AV),aW T none v=T)/\(∀(x:AV)(l:List AV),T0 (x::l) 0=x)/\(∀(x:AV)(l:List AV)(n:Nat),T0 (x::l) (n+1)=T0 l n)/\(∀n:Nat,T0 [] n=.undef)/\
    (∀(d t:Nat)(v:AV)(l:List (Nat×AV)),tl ((d,v)::l) t=if t=d then v else tl l t)/\(∀t:Nat,tl [] t=.undef)/\
    (∀(T:Tm)(t:Nat)(ts:List Nat)(x:AV)(xs:List AV),lI T (t::ts) (x::xs)=lI (upd T t x) ts xs)/\(∀(T:Tm)(xs:List AV),lI T [] xs=T))/\
    ((∀ (T:Tm) (H:Hp) (x:Opd),ca T H (.mov x)=some (ov T x)) ∧
    (∀(T:Tm)(H:Hp)(c a b:Opd),ca T H (.pick c a b)=match ov T c with|.bool t=>some (if t=true then ov T a else ov T b)|_=>none)/\
    (∀(T:Tm)(H:Hp)(a:Opd),ca T H (.ld1 a)=rd1 H (ov T a))/\(∀(T:Tm)(H:Hp)(k:Nat)(a:Opd),ca T H (.ldn k a)=(rd H k (ov T a)).map .agg)/\
    (∀(T:Tm)(H:Hp)(op:BinOp)(tb tf:Bool)(x y:Opd),ca T H (.bin op tb tf x y)=bv op tb tf (ov T x) (ov T y))/\
    (∀(T:Tm)(H:Hp)(op:UnOp)(x:Opd),ca T H (.un op x)=aun op (ov T x))/\
    (∀(T:Tm)(H:Hp)(f:FuncId)(caps:List Opd),ca T H (.mkfn f caps)=some (.func f (caps.map (ov T))))/\
    (∀(T:Tm)(H:Hp)(k:Nat)(p:Opd),ca T H (.fa k p)=mi k (ov T p))/\
    (∀(T:Tm)(H:Hp)(sz:Nat)(x i:Opd),ca T H (.ixaS sz x i)=eY sz (ov T x) (ov T i))/\
    (∀(T:Tm)(H:Hp)(x:Opd)(i:Nat),ca T H (.ext x i)=iY (ov T x) i)/\
    (∀(T:Tm)(H:Hp)(x:Opd),ca T H (.lenS x)=cT (ov T x))/\
    (∀(T:Tm)(H:Hp)(z:List AV)(parts:List (Nat×Nat×Opd)),ca T H (.bld z parts)=(eU z (parts.map λp=>(p.1,p.2.1,ov T p.2.2))).map .agg)/\
    (∀(T:Tm)(H:Hp)(x:Opd)(l:List Opd),ca T H (.mx x l)=iO qa (ov T x) (l.map (ov T)))/\
    (∀(T:Tm)(H:Hp)(x:Opd)(l:List Opd),ca T H (.mn x l)=iO pX (ov T x) (l.map (ov T)))/\
    (∀(T:Tm)(H:Hp)(k:IntKind)(x:Opd),ca T H (.conv k x)=vP (ov T x) λn=>some (.int k (k.wrap n)))/\
    (∀(T:Tm)(H:Hp)(sz:Nat)(x:Opd)(lo hi mx:Option Opd),ca T H (.sls sz x lo hi mx)=lF sz (ov T x) (lo.map (ov T)) (hi.map (ov T)) (mx.map (ov T)))/\
    (∀(T:Tm)(H:Hp)(off:Nat)(x:Opd),ca T H (.part1 off x)=ij (ov T x) λcs=>cs[off]?)/\
    (∀(T:Tm)(H:Hp)(op:BinOp)(ks:List TK)(x y:Opd),ca T H (.binS op ks x y)=ij (ov T x) λxs=>ij (ov T y) λys=>pp op ks xs ys))/\
    ((∀ (T:Tm) (H:Hp) (x i:Opd),ca T H (.ixStr x i)=oT (ov T x) (ov T i)) ∧
    (∀(s:ByteArray)(k:IntKind)(n:Int),oT (.str s) (.int k n)=if 0<=n/\n<s.size then some (.int .u8 (s[n.toNat]?.getD 0).toNat) else none))/\
    ((∀ (k:IntKind) (a b:Int) (tb tf:Bool),bv .lss tb tf (.int k a) (.int k b)=some (.bool (decide (a < b))))∧(∀ (k:IntKind) (a b:Int) (tb tf:Bool),bv .leq tb tf (.int k a) (.int k b)=some (.bool (decide (a ≤ b)))) ∧
    (∀(k:IntKind)(a b:Int)(tb tf:Bool),bv .gtr tb tf (.int k a) (.int k b)=some (.bool (decide (b<a))))/\(∀(k:IntKind)(a b:Int)(tb tf:Bool),bv .geq tb tf (.int k a) (.int k b)=some (.bool (decide (b<=a))))/\
    (∀(k:IntKind)(a b:Int)(tb tf:Bool),bv .eql tb tf (.int k a) (.int k b)=some (.bool (decide (a=b))))/\(∀(k:IntKind)(a b:Int)(tb tf:Bool),bv .neq tb tf (.int k a) (.int k b)=some (.bool (decide (a≠b))))/\
    (∀(k:IntKind)(a b:Int)(tb tf:Bool),bv .add tb tf (.int k a) (.int k b)=some (.int k (k.wrap (a+b))))/\(∀(k:IntKind)(a b:Int)(tb tf:Bool),bv .sub tb tf (.int k a) (.int k b)=some (.int k (k.wrap (a-b))))/\
    (∀(k:IntKind)(a b:Int)(tb tf:Bool),bv .mul tb tf (.int k a) (.int k b)=some (.int k (k.wrap (a*b))))/\
    (∀(a b:Bool)(tf:Bool),bv .eql true tf (.bool a) (.bool b)=some (.bool (a==b)))/\(∀(a b:Bool)(tf:Bool),bv .neq true tf (.bool a) (.bool b)=some (.bool (!(a==b))))/\
    (∀tb:Bool,bv .eql tb true .nilf .nilf=some (.bool true))/\(∀tb:Bool,bv .neq tb true .nilf .nilf=some (.bool false))/\
    (∀(tb:Bool)(f:FuncId)(c:List AV),bv .eql tb true (.func f c) .nilf=some (.bool false))/\(∀(tb:Bool)(f:FuncId)(c:List AV),bv .neq tb true (.func f c) .nilf=some (.bool true))/\
    (∀b:Bool,aun .not (.bool b)=some (.bool (!b)))/\
    (∀(k:IntKind)(a b:Int),qa (.int k a) (.int k b)=some (.int k (max a b)))/\(∀(k:IntKind)(a b:Int),pX (.int k a) (.int k b)=some (.int k (min a b)))/\
    (∀(f:AV->AV->Option AV)(x:AV),iO f x []=some x)/\(∀(f:AV->AV->Option AV)(x y:AV)(l:List AV),iO f x (y::l)=match f x y with|some z=>iO f z l|none=>none)/\
    (∀(k:Nat)(b n off:Nat),mi k (.ptr b n off)=some (.ptr b n (off+k)))/\(∀(k:Nat)(cs:List AV)(off:Nat),mi k (.iptr cs off)=some (.iptr cs (off+k)))/\
    (∀(cs:List AV)(off:Nat),rd1 cH (.iptr cs off)=cs[off]?))/\
    ((∀ (H:Hp) (b n off:Nat),rd1 H (.ptr b n off)=match H b with | some cs=>if cs.length=n then cs[off]? else none | none=>none) ∧
    (∀(H:Hp)(k b n off:Nat),rd H k (.ptr b n off)=match H b with|some cs=>if cs.length=n/\off+k<=n then some ((cs.drop off).take k) else none|none=>none)/\
    (∀(H:Hp)(cs:List AV)(off:Nat),rd1 H (.iptr cs off)=cs[off]?)/\(∀(H:Hp)(cs:List AV)(off k:Nat),rd H k (.iptr cs off)=if off+k<=cs.length then some ((cs.drop off).take k) else none)/\
    (∀(l:List AV)(i:Nat),iY (.tup l) i=l[i]?)/\(∀(l:List AV)(f:List AV->Option AV),ij (.agg l) f=f l)/\(∀(k:IntKind)(n:Int)(f:Int->Option AV),vP (.int k n) f=f n)/\
    (∀(cs:List AV),eU cs []=some cs)/\
    (∀(cs:List AV)(off sz:Nat)(x:AV)(r:List (Nat×Nat×AV)),eU cs ((off,sz,x)::r)=if AV.ones x.cells=true/\x.cells.length=sz/\off+sz<=cs.length then eU (bC cs off x.cells) r else none)/\
    (∀(b n sz off len:Nat),cT (.msl b n sz off len)=some (.int .i64 len))/\(cT .esl=some (.int .i64 0))/\(∀(sz:Nat)(l:List AV),cT (.sl sz l)=some (.int .i64 l.length))/\
    (∀(z:AV),bH z 0=[])/\(∀(z:AV)(n:Nat),bH z (n+1)=z.cells++bH z n))/\
    ((∀ (a:AV) (l:List AV),(a :: l)[0]?=some a)∧(∀ (a:AV) (l:List AV) (n:Nat),(a :: l)[n + 1]?=l[n]?)∧(∀ (l:List AV),l.drop 0=l)∧(∀ (a:AV) (l:List AV) (n:Nat),(a :: l).drop (n + 1)=l.drop n)∧(∀ n:Nat,([]:List AV).drop n=[]) ∧
    (∀(l:List AV),l.take 0=[])/\(∀(a:AV)(l:List AV)(n:Nat),(a::l).take (n+1)=a::l.take n)/\(∀n:Nat,([]:List AV).take n=[])/\(∀(l:List AV),[]++l=l)/\(∀(l:List AV),l++[]=l)/\(∀(a:AV)(l m:List AV),(a::l)++m=a::(l++m))/\
    (∀(cs:List AV)(off:Nat)(new:List AV),bC cs off new=cs.take off++new++cs.drop (off+new.length))/\(([]:List AV).length=0)/\(∀(a:AV)(l:List AV),(a::l).length=l.length+1)/\
    (∀(k:IntKind)(n:Int),(AV.int k n).cells=[.int k n])/\(∀b:Bool,(AV.bool b).cells=[.bool b])/\(∀s:ByteArray,(AV.str s).cells=[.str s])/\(∀(k:Nat)(l:List AV),(AV.sl k l).cells=[.sl k l])/\(∀l:List AV,(AV.agg l).cells=l)/\(AV.esl.cells=[.esl])/\(AV.nilf.cells=[.nilf])/\
    (∀(f:FuncId)(c:List AV),(AV.func f c).cells=[.func f c])/\(∀(b n off:Nat),(AV.ptr b n off).cells=[.ptr b n off])/\(∀(c:List AV)(off:Nat),(AV.iptr c off).cells=[.iptr c off])/\(∀(b n sz off len:Nat),(AV.msl b n sz off len).cells=[.msl b n sz off len])/\(∀b:Nat,(AV.yld b).cells=[.yld b])/\(∀b:Nat,(AV.mp b).cells=[.mp b])/\(AV.nilp.cells=[.nilp])/\(∀(f:FuncId)(c:List AV),(AV.bfn f c).cells=[.bfn f c]))/\
    ((∀(b:Bool)(x y:AV),(match (AV.bool b:AV) with|.bool t=>some (if t=true then x else y)|_=>none)=some (if b=true then x else y))):=
 ⟨OI,SA,SV,SV2,SN,SR,SL,λ_ _ _=>rfl⟩
theorem ZV:((AV.ones []=true)∧(∀ (a:AV) (l:List AV),AV.ones (a :: l)=(a.one && AV.ones l))∧(∀ (k:IntKind) (n:Int),(AV.int k n).one=true)∧(∀ b:Bool,(AV.bool b).one=true)∧(∀ s:ByteArray,(AV.str s).one=true)∧(∀ (k:Nat) (l:List AV),(AV.sl k l).one=true)∧(AV.esl.one=true)∧(AV.nilf.one=true) ∧
    (∀(f:FuncId)(c:List AV),(AV.func f c).one=true)/\(∀(b n off:Nat),(AV.ptr b n off).one=true)/\(∀(c:List AV)(off:Nat),(AV.iptr c off).one=true)/\(∀(b n sz off len:Nat),(AV.msl b n sz off len).one=true)/\(∀b:Nat,(AV.yld b).one=true)/\(∀b:Nat,(AV.mp b).one=true)/\(AV.nilp.one=true)/\(∀l:List AV,l.all AV.one=AV.ones l))/\(∀l:List Int,(aH l).one=true)/\(∀l:List (List Int),(bK l).one=true)/\(∀b:Bool,(b&&b)=b)/\((false=true)=False)/\(∀a:Int,-9223372036854775808<=a->a<=9223372036854775807->IntKind.wrap .i64 a=a)/\
    (∀(l:List Int)(k:IntKind)(n:Int),eY 1 (aH l) (.int k n)=if 0<=n/\n<l.length then some (.iptr [.int .i64 (l.getD n.toNat default)] 0) else none)/\(∀(l:List (List Int))(k:IntKind)(n:Int),eY 1 (bK l) (.int k n)=if 0<=n/\n<l.length then some (.iptr [aH (l.getD n.toNat default)] 0) else none)/\
    (∀l:List Int,cT (aH l)=some (.int .i64 l.length))/\(∀l:List (List Int),cT (bK l)=some (.int .i64 l.length))/\(∀n:Nat,(n:Int).toNat=n)/\(∀(α β:Type)(f:α->β)(l:List α),(l.map f).length=l.length)/\
    (∀(sz b m off len:Nat)(k:IntKind)(n:Int),eY sz (.msl b m sz off len) (.int k n)=if 0<=n/\n<len then some (.ptr b m (off+n.toNat*sz)) else none)/\(∀(α:Type)(_:Inhabited α)(f:α->AV)(l:List α)(k:Nat),k<l.length->(l.map f)[k]?=some (f (l.getD k default)))/\(∀n:Nat,n*1=n):=
 ⟨SO,λ_=>rfl,λ_=>rfl,Bool.and_self,j0,λ_=>uB,λ_ _ _=>nH,λ_ _ _=>o9,λ_=>vh,λ_=>rN,bN,λ_ _ _ _=>bm _,λ_ _ _ _ _ _ _=>Ht,λ_ _ _ _ _ h=>getElem?_map_lt h,Nat.mul_one⟩
theorem ZG:((∀ (T:Tm) (n:Nat),ov T (.t n)=T n)∧(∀ (T:Tm) (v:AV),ov T (.c v)=v)∧(∀ (T:Tm) (d t:Nat) (v:AV),upd T d v t=if t=d then v else T t)∧(∀ (T:Tm) (d:Nat) (v:AV),aW T (some d) v=upd T d v) ∧
    (∀(T:Tm)(v:AV),aW T none v=T)/\(∀(x:AV)(l:List AV),T0 (x::l) 0=x)/\(∀(x:AV)(l:List AV)(n:Nat),T0 (x::l) (n+1)=T0 l n)/\(∀n:Nat,T0 [] n=.undef)/\
    (∀(d t:Nat)(v:AV)(l:List (Nat×AV)),tl ((d,v)::l) t=if t=d then v else tl l t)/\(∀t:Nat,tl [] t=.undef)/\
    (∀(T:Tm)(t:Nat)(ts:List Nat)(x:AV)(xs:List AV),lI T (t::ts) (x::xs)=lI (upd T t x) ts xs)/\(∀(T:Tm)(xs:List AV),lI T [] xs=T))/\(∀a:Int,-9223372036854775808<=a->a<=9223372036854775807->IntKind.wrap .i64 a=a)/\(∀a b:Nat,((a+b:Nat):Int)=(a:Int)+(b:Int))/\(((1:Nat):Int)=1)/\(((0:Nat):Int)=0)/\(∀p:Prop,(p/\True)=p)/\(∀p:Prop,(p/\p)=p):=
 ⟨SA,λ_=>uB,Int.natCast_add,rfl,rfl,and_true,and_self⟩
theorem Dp{P:Program}{b:C2}{T:Tm}{H:Hp}{nx:Nat}{K:CP}(L:Nat->List (Nat×AV))(n:Nat)(p:Nat->Prop)(hT:agr T (L 0))
    (step:∀k,k<=n->(∀i,i<k->p i)->aO P b (tl (L k)) H nx λe T H' nx'=>aR e (k<n/\p k/\agr T (L (k+1))/\H'=H/\nx'=nx) (K e T H' nx')):aZ (aO P b) T H nx K:=by
 refine np (X:=Nat) L (λk=>k<=n/\∀i,i<k->p i) (λk=>n-k) 0 ⟨bQ _,λi h=>(by omega)⟩ hT ?_;rintro k ⟨h1,h2⟩;refine eA b (step k h1 h2) (λe T H' nx' h=>?_);cases e with
 |normal=>
  obtain⟨g1,g2,g3,g4,g5⟩:=h;refine⟨k+1,⟨by omega,λi hi=>?_⟩,by omega,g3,g4,g5⟩;rcases jX.1 hi with h|rfl
  ·exact h2 i h
  ·exact g2
 |exit i=>exact h
 |ret=>exact h
theorem lf{α:Type}[Inhabited α]{l:List α}{p:α->Bool}(h:∀i,i<l.length->p (l.getD i default)=true):l.all p=true:=by
 rw[eN];intro x hx;obtain⟨i,hi,e⟩:=kI hx;have:=h i hi
 rwa [show l.getD i default=x by simp[List.getD,hi,e]] at this
theorem jA{α:Type}[Inhabited α]{l:List α}{p:α->Bool}{k:Nat}(hk:k<l.length)(h:p (l.getD k default)=false):l.all p=false:=by
 rw[Bool.eq_false_iff,ne_eq,eN];intro hh;have:=hh _ (aK hk);rw[h] at this;cases this
theorem ry{α:Type}[Inhabited α]{l:List α}{p:α->Bool}(h:∀i,i<l.length->p (l.getD i default)=false):l.any p=false:=by
 rw[List.any_eq_false];intro x hx;obtain⟨i,hi,e⟩:=kI hx;have:=h i hi;rw[show l.getD i default=x by simp[List.getD,hi,e]] at this;simp[this]
theorem Gq{α:Type}[Inhabited α][DecidableEq α]{l:List α}{v:α}{k:Nat}(hk:k<l.length)(h:l.getD k default=v):decide (v∈l)=true:=by
 rw[yy,<-h];exact aK hk
theorem En{α:Type}[Inhabited α][DecidableEq α]{l:List α}{v:α}(h:∀i,i<l.length->l.getD i default≠v):decide (v∈l)=false:=by
 rw[decide_eq_false_iff_not];intro hm;obtain⟨i,hi,e⟩:=kI hm;exact h i hi (by simp[List.getD,hi,e])
def iA{α:Type}(sz:Nat)(f:α->AV)(l:List α):AV:=.sl sz (l.map f)
theorem IT(l:List (List Int)):bK l=iA 1 aH l:=rfl
section
variable{α:Type}{sz:Nat}{f:α->AV}{l:List α}
theorem sX (h:∀ x ∈ l,∀ c ∈ (f x).cells,Dat c):Dat (iA sz f l):=Dat.sl (fun x hx c hc=>by
 obtain⟨y,hy,rfl⟩:=bz.1 hx;exact h y hy c hc)
theorem Fa (hc:∀ x,(f x).cells=[f x]) (h:∀ x,Dat (f x)):Dat (iA sz f l):=sX (fun x _ c hx=>by
 rw[hc,cC] at hx;subst hx;exact h x)
theorem nD[Inhabited α]{k:IntKind}{n:Int}:eY sz (iA sz f l) (.int k n)=if 0<=n/\n<l.length then some (.iptr (f (l.getD n.toNat default)).cells 0) else none:=tt
theorem lY:cT (iA sz f l)=some (.int .i64 l.length):=ra
theorem yv{k:Nat}(h:k<=l.length):lF sz (iA sz f l) none (some (.int .i64 k)) none=some (iA sz f (l.take k)):=by
 simp[lF,bS,iA,h]
theorem jo{k:Nat}(h:k<=l.length):lF sz (iA sz f l) (some (.int .i64 k)) none none=some (iA sz f (l.drop k)):=by
 simp[lF,bS,iA,h];rw[ib (by simp)]
theorem DK{H:Hp}(hc:∀x,(f x).cells=[f x]):f8 1 H (iA 1 f l)=some (l.length,l.map f):=by
 unfold iA;rw[ke,kD hc];simp
theorem Row.snapL'{H:Hp}{s:AV}(h:Row H 1 s (l.map f))(hc:∀x,(f x).cells=[f x])(hd:∀x∈l,Dat (f x)):Snap H s (iA 1 f l):=by
 refine Row.snap (elems:=l.map f) (by rw[kD hc];exact h) (λy hy=>?_) lh (λy hy c hx=>?_)
 ·obtain⟨n,_,rfl⟩:=bz.1 hy;rw[hc];rfl
 ·obtain⟨n,hn,rfl⟩:=bz.1 hy;rw[hc,cC] at hx;subst hx;exact hd n hn
end
theorem fB{a:Int}(h1:0<=a)(h2:a<18446744073709551616):IntKind.wrap .u64 a=a:=by
 simp only[IntKind.wrap,IntKind.bits,IntKind.signed];simp;omega
theorem uK{a:Int}:IntKind.wrap .u8 a=a%256:=by
 simp only[IntKind.wrap,IntKind.bits,IntKind.signed];simp
theorem xR{k:IntKind}{a b:Nat}{tb tf:Bool}{k':IntKind}(hb:b<=k.bits):bv .shr tb tf (.int k a) (.int k' b)=some (.int k ((a/2^b:Nat):Int)):=by
 have h:¬((b:Int)<0):=by omega
 simp only[bv,qV,h,if_false,or_true,if_true,bN,Nat.min_eq_left hb]
 congr 2
 rw[Int.fdiv_eq_ediv_of_nonneg _ (Int.le_of_lt (Int.pow_pos (by omega)))];simp
theorem CR{k:IntKind}{a b:Nat}{tb tf:Bool}{k':IntKind}(hb:b<=k.bits)(h:a*2^b<2^(k.bits-1)):bv .shl tb tf (.int k a) (.int k' b)=some (.int k ((a*2^b:Nat):Int)):=by
 have h0:¬((b:Int)<0):=by omega
 simp only[bv,qV,h0,if_false,true_or,if_true,bN,Nat.min_eq_left hb]
 congr 2
 have e:(a:Int)*2^b=((a*2^b:Nat):Int):=by simp
 rw[e];generalize a*2^b=c at h;cases k<;>(simp only[IntKind.bits,IntKind.wrap,IntKind.signed] at h |-;simp at h |-;omega)
theorem yb{k:IntKind}{a b:Int}{tb tf:Bool}(ha:0<=a)(hb:0<b):bv .rem tb tf (.int k a) (.int k b)=some (.int k (a%b)):=by
 show(if (k=k) then fy .rem k a b else none)=_;rw[if_pos rfl];simp only[fy,if_neg (show ¬b=0 by omega),Int.tmod_eq_emod_of_nonneg ha]
theorem jr{a b:Int}{tb tf:Bool}(ha:0<=a)(h2:a<=9223372036854775807)(hb:0<b):bv .quo tb tf (.int .i64 a) (.int .i64 b)=some (.int .i64 (a/b)):=by
 show(if (IntKind.i64=IntKind.i64) then fy .quo .i64 a b else none)=_;rw[if_pos rfl];have h3:0<=a/b:=Int.ediv_nonneg ha (by omega);have h4:a/b<=a:=Int.ediv_le_self _ ha;simp only[fy,if_neg (show ¬b=0 by omega),Int.tdiv_eq_ediv_of_nonneg ha];rw[uB (by omega) (by omega)]
theorem aQ{P:Program}{T:Tm}{H:Hp}{nx:Nat}{K:SP}{l:List Op2}{d:Option Nat}{f:Opd}{args:List Opd}{g:FuncId}{caps xs:List AV}{R:AV->Hp->Nat->Prop}(hf:ov T f=.func g caps)(ha:args.map (ov T)++caps=xs)(hc:Fn P g xs H nx R)
    (k:∀r H' nx',R r H' nx'->am P .text l (aW T d r) H' nx' K):am P .text (⟨d,none,.call f args⟩::l) T H nx K:=by
 subst ha;exact B3 hf (Fn.mono hc k)
def Mj(l:List UInt8):AV:=.str ⟨l.toArray⟩
theorem G9(l:List UInt8):Dat (Mj l):=.str
instance datI_encS{l:List UInt8}:DatI (Mj l):=⟨G9 l⟩
end Go.Abs
namespace Go.Abs
open Go.RowKit
variable{P:Program}{T:Tm}{H:Hp}{nx:Nat}
theorem aI{a b:Prop}(x:a)(y:b):a/\b:=⟨x,y⟩
theorem ev0{α:Type}{a b:α}(h:a=b:=by(try simp only[cf,ZA,Nat.reduceEqDiff,↓reduceIte,Nat.reduceAdd,Nat.reduceLeDiff]);(try with_reducible rfl);first|done|fail):a=b:=h
theorem evZ{α:Type}{a b:α}(h:a=b:=by(try simp only[cf,ZA,Nat.reduceEqDiff,↓reduceIte,Nat.reduceAdd,Nat.reduceLeDiff,zz]);(try with_reducible rfl);first|done|fail):a=b:=h
theorem evY{α:Type}{a b:α}(h:a=b:=by(try simp (disch:=omega) only[cA,ZA,Nat.reduceEqDiff,↓reduceIte,Nat.reduceAdd,Nat.reduceLeDiff,zz]);(try with_reducible rfl);first|done|fail):a=b:=h
theorem ag0{T:Tm}{l:List (Nat×AV)}(h:agr T l:=by simp (disch:=omega) only[agr,ZG,Nat.reduceEqDiff,↓reduceIte];first|done|fail):agr T l:=h
theorem agZ{T:Tm}{l:List (Nat×AV)}(h:agr T l:=by simp (disch:=omega) only[agr,ZG,Nat.reduceEqDiff,↓reduceIte,zz];first|done|fail):agr T l:=h
theorem vZ{dm:DM}{K:SP}{l:List Op2}{d:Option Nat}{i:Ins}{r:AV}(k:am P dm l (aW T d r) H nx K)(hi:ic i=.val:=by rfl)(hd:dm2 dm T i=true:=by rfl)(h:ca T H i=some r:=by(try simp (disch:=omega) only[cf,ZA,Nat.reduceEqDiff,↓reduceIte,Nat.reduceAdd,Nat.reduceLeDiff,ZV,reduceCtorEq,zz]);first|with_reducible rfl|(apply CQ;(focus omega);with_reducible rfl)):am P dm (⟨d,none,i⟩::l) T H nx K:=oC hi hd h k
theorem nvZ{S:Hp}{K:SP}{l:List (Op2×Nat)}{d:Option Nat}{i:Ins}{r:AV}(k:bg P S l (aW T d r) H nx K)(h:ca T S i=some r:=by(try simp (disch:=omega) only[cf,ZA,Nat.reduceEqDiff,↓reduceIte,Nat.reduceAdd,Nat.reduceLeDiff,ZV,reduceCtorEq,zz]);first|with_reducible rfl|(apply CQ;(focus omega);with_reducible rfl)):bg P S ((⟨d,none,i⟩,0)::l) T H nx K:=JM h k
theorem cZ{dm:DM}{K:SP}{l:List Op2}{d:Option Nat}{f:Opd}{args:List Opd}{g:FuncId}{caps xs:List AV}{r:AV}(k:am P dm l (aW T d r) H nx K)(hf:ov T f=.func g caps:=by(try simp only[cf,ZA,Nat.reduceEqDiff,↓reduceIte,Nat.reduceAdd,Nat.reduceLeDiff,zz]);(try with_reducible rfl);first|done|fail)(ha:args.map (ov T)++caps=xs:=by(try simp only[cf,ZA,Nat.reduceEqDiff,↓reduceIte,Nat.reduceAdd,Nat.reduceLeDiff,zz]);(try with_reducible rfl);first|done|fail)(hp:Pure P g xs r)(hs:au H xs xs r:=by(first|refine aG ?_ rfl|apply a9);(repeat' (first|exact ap|apply bI|(apply bc;(focus with_reducible assumption))));first|done|fail):am P dm (⟨d,none,.call f args⟩::l) T H nx K:=Dj hf ha hp hs k
theorem alZ{dm:DM}{K:SP}{l:List Op2}{d:Option Nat}{z:AV}{cs:List AV}(k:am P dm l (aW T d (.ptr nx cs.length 0)) (ar H nx cs) (nx+1) K)(hd:dm2 dm T (.alloc z)=true:=by rfl)(hc:z.cells=cs:=by(try simp only[cf,ZA,Nat.reduceEqDiff,↓reduceIte,Nat.reduceAdd,Nat.reduceLeDiff,zz]);(try with_reducible rfl);first|done|fail)(ho:AV.ones cs=true:=by simp only[SO,Bool.and_self,fp,eB,zz];first|done|fail):am P dm (⟨d,none,.alloc z⟩::l) T H nx K:=sB hd hc ho k
theorem bxZ{dm:DM}{K:SP}{l:List Op2}{d:Option Nat}{x:Opd}{v:AV}{cs:List AV}(k:am P dm l (aW T d (.ptr nx cs.length 0)) (ar H nx cs) (nx+1) K)(hd:dm2 dm T (.box x)=true:=by rfl)(hx:ov T x=v:=by(try simp only[cf,ZA,Nat.reduceEqDiff,↓reduceIte,Nat.reduceAdd,Nat.reduceLeDiff,zz]);(try with_reducible rfl);first|done|fail)(hc:v.cells=cs:=by(try simp only[cf,ZA,Nat.reduceEqDiff,↓reduceIte,Nat.reduceAdd,Nat.reduceLeDiff,zz]);(try with_reducible rfl);first|done|fail)(ho:AV.ones cs=true:=by simp only[SO,Bool.and_self,fp,eB,zz];first|done|fail):am P dm (⟨d,none,.box x⟩::l) T H nx K:=JK hd hx hc ho k
theorem stZ{dm:DM}{K:SP}{l:List Op2}{d:Option Nat}{sz:Nat}{p x:Opd}{b n off:Nat}{v:AV}{cs vs:List AV}(k:am P dm l (aW T d (.tup [])) (ar H b (bC cs off vs)) nx K)(hd:dm2 dm T (.st sz p x)=true:=by rfl)(hp:ov T p=.ptr b n off:=by(try simp only[cf,ZA,Nat.reduceEqDiff,↓reduceIte,Nat.reduceAdd,Nat.reduceLeDiff,zz]);(try with_reducible rfl);first|done|fail)(hx:ov T x=v:=by(try simp only[cf,ZA,Nat.reduceEqDiff,↓reduceIte,Nat.reduceAdd,Nat.reduceLeDiff,zz]);(try with_reducible rfl);first|done|fail)(hb:H b=some cs:=by(try simp only[cf,ZA,Nat.reduceEqDiff,↓reduceIte,Nat.reduceAdd,Nat.reduceLeDiff,zz]);(try with_reducible rfl);first|done|fail)(hc:v.cells=vs:=by(try simp only[cf,ZA,Nat.reduceEqDiff,↓reduceIte,Nat.reduceAdd,Nat.reduceLeDiff,zz]);(try with_reducible rfl);first|done|fail)(ho:AV.ones vs=true:=by simp only[SO,Bool.and_self,fp,eB,zz];first|done|fail)(hn:cs.length=n:=by(try simp only[SL,Nat.reduceAdd,Nat.reduceMul,bm]);first|done|omega)(hl:vs.length=sz:=by(try simp only[SL,Nat.reduceAdd,Nat.reduceMul,bm]);first|done|omega)(hf:off+sz<=n:=by(try simp only[SL,Nat.reduceAdd,Nat.reduceMul,bm]);first|done|omega):am P dm (⟨d,none,.st sz p x⟩::l) T H nx K:=KP hd hp hx hb hc ho hn hl hf k
theorem blZ{dm:DM}{K:SP}{l:List Op2}{d:Option Nat}{sz len:Nat}{z:List AV}{parts:List (Nat×Nat×Opd)}{pv:List (Nat×Nat×AV)}{cs:List AV}(k:am P dm l (aW T d (.msl nx cs.length sz 0 len)) (ar H nx cs) (nx+1) K)(hd:dm2 dm T (.bldS sz len z parts)=true:=by rfl)(hl:len≠0:=by exact Nat.succ_ne_zero _)(hp:parts.map (λp=>(p.1,p.2.1,ov T p.2.2))=pv:=by(try simp only[cf,ZA,Nat.reduceEqDiff,↓reduceIte,Nat.reduceAdd,Nat.reduceLeDiff,zz]);(try with_reducible rfl);first|done|fail)(hc:eU (bH (.agg z) len) pv=some cs:=by(try simp only[cf,ZA,Nat.reduceEqDiff,↓reduceIte,Nat.reduceAdd,Nat.reduceLeDiff,SO,Bool.and_self,fp,eB,zz]);(try with_reducible rfl);first|done|fail):am P dm (⟨d,none,.bldS sz len z parts⟩::l) T H nx K:=JD hd hl hp hc k
theorem b0Z{dm:DM}{K:SP}{l:List Op2}{d:Option Nat}{sz:Nat}{z:List AV}(k:am P dm l (aW T d .esl) H nx K)(hd:dm2 dm T (.bldS sz 0 z [])=true:=by rfl):am P dm (⟨d,none,.bldS sz 0 z []⟩::l) T H nx K:=F6 hd k
theorem a0Z{dm:DM}{K:SP}{l:List Op2}{d:Option Nat}{sz bytes n:Nat}{s x:Opd}{v:AV}{new:List AV}(k:am P dm l (aW T d (.msl nx (n*sz) sz 0 n)) (ar H nx new) (nx+1) K)(hd:dm2 dm T (.app sz bytes s x)=true:=by rfl)(hs:ov T s=.esl:=by(try simp only[cf,ZA,Nat.reduceEqDiff,↓reduceIte,Nat.reduceAdd,Nat.reduceLeDiff,zz]);(try with_reducible rfl);first|done|fail)(hx:ov T x=v:=by(try simp only[cf,ZA,Nat.reduceEqDiff,↓reduceIte,Nat.reduceAdd,Nat.reduceLeDiff,zz]);(try with_reducible rfl);first|done|fail)(hsrc:f8 sz H v=some (n,new):=by first|exact gN|exact jI|exact pD|(apply gm;(focus ((try simp only[cf,ZA,Nat.reduceEqDiff,↓reduceIte,Nat.reduceAdd,Nat.reduceLeDiff,zz]);(try with_reducible rfl);first|done|fail));(iterate 2 (focus ((try simp only[SL,Nat.reduceAdd,Nat.reduceMul,bm]);first|done|omega))))|exact ke)(ho:AV.ones new=true:=by first|exact iV|exact nC|(simp only[SO,Bool.and_self,fp,eB,zz];first|done|fail))(h1:n*bytes<=140737488355328:=by(try simp only[SL,Nat.reduceAdd,Nat.reduceMul,bm]);first|done|omega)(h2:n<=9223372036854775807:=by(try simp only[SL,Nat.reduceAdd,Nat.reduceMul,bm]);first|done|omega):am P dm (⟨d,none,.app sz bytes s x⟩::l) T H nx K:=kJ hd hs hx hsrc ho h1 h2 k
theorem apZ{dm:DM}{K:SP}{l:List Op2}{d:Option Nat}{sz bytes n:Nat}{s x:Opd}{v:AV}{new cs:List AV}{b m len:Nat}(k:am P dm l (aW T d (.msl b ((len+n)*sz) sz 0 (len+n))) (ar H b (cs++new)) nx K)(hd:dm2 dm T (.app sz bytes s x)=true:=by rfl)(hs:ov T s=.msl b m sz 0 len:=by(try simp only[cf,ZA,Nat.reduceEqDiff,↓reduceIte,Nat.reduceAdd,Nat.reduceLeDiff,zz]);(try with_reducible rfl);first|done|fail)(hb:H b=some cs:=by(try simp only[cf,ZA,Nat.reduceEqDiff,↓reduceIte,Nat.reduceAdd,Nat.reduceLeDiff,zz]);(try with_reducible rfl);first|done|fail)(hx:ov T x=v:=by(try simp only[cf,ZA,Nat.reduceEqDiff,↓reduceIte,Nat.reduceAdd,Nat.reduceLeDiff,zz]);(try with_reducible rfl);first|done|fail)(hsrc:f8 sz H v=some (n,new):=by first|exact gN|exact jI|exact pD|(apply gm;(focus ((try simp only[cf,ZA,Nat.reduceEqDiff,↓reduceIte,Nat.reduceAdd,Nat.reduceLeDiff,zz]);(try with_reducible rfl);first|done|fail));(iterate 2 (focus ((try simp only[SL,Nat.reduceAdd,Nat.reduceMul,bm]);first|done|omega))))|exact ke)(ho:AV.ones new=true:=by first|exact iV|exact nC|(simp only[SO,Bool.and_self,fp,eB,zz];first|done|fail))(hm:cs.length=m:=by(try simp only[SL,Nat.reduceAdd,Nat.reduceMul,bm]);first|done|omega)(hl:m=len*sz:=by(try simp only[SL,Nat.reduceAdd,Nat.reduceMul,bm]);first|done|omega)(h1:(len+n)*bytes<=140737488355328:=by(try simp only[SL,Nat.reduceAdd,Nat.reduceMul,bm]);first|done|omega)(h2:len+n<=9223372036854775807:=by(try simp only[SL,Nat.reduceAdd,Nat.reduceMul,bm]);first|done|omega):am P dm (⟨d,none,.app sz bytes s x⟩::l) T H nx K:=AZ hd hs hb hx hsrc ho hm hl h1 h2 k
theorem gTZ{dm:DM}{K:SP}{l:List Op2}{d:Option Nat}{i:Ins}{t:Nat}{w:Bool}(k:am P dm (⟨d,none,i⟩::l) T H nx K)(h:T t=.bool w:=by simp only[cf,ZA,Nat.reduceEqDiff,↓reduceIte,Nat.reduceAdd,Nat.reduceLeDiff,zz];first|done|fail):am P dm (⟨d,some (t,w),i⟩::l) T H nx K:=KO h k
theorem gFZ{dm:DM}{K:SP}{l:List Op2}{d:Option Nat}{i:Ins}{t:Nat}{w:Bool}(k:am P dm l (aW T d (.tup [])) H nx K)(h:T t=.bool (!w)\/T t=.tup []:=by simp only[cf,ZA,Nat.reduceEqDiff,↓reduceIte,Nat.reduceAdd,Nat.reduceLeDiff,or_true,true_or,zz];first|done|fail):am P dm (⟨d,some (t,w),i⟩::l) T H nx K:=Lo h k
theorem cTZ{K:CP}{c:Opd}{x y:C2}(h1:aO P x T H nx K)(hc:ov T c=.bool true:=by simp only[cf,ZA,Nat.reduceEqDiff,↓reduceIte,Nat.reduceAdd,Nat.reduceLeDiff,zz];first|done|fail):aO P (.cond c x y) T H nx K:=CU hc h1
theorem cFZ{K:CP}{c:Opd}{x y:C2}(h2:aO P y T H nx K)(hc:ov T c=.bool false:=by simp only[cf,ZA,Nat.reduceEqDiff,↓reduceIte,Nat.reduceAdd,Nat.reduceLeDiff,zz];first|done|fail):aO P (.cond c x y) T H nx K:=Dk hc h2
theorem r1Z{K:AV->Prop}{a:RV}{x:AV}(h:K x)(ha:rv T H a=some x:=by simp only[rv,cf,ZA,Nat.reduceEqDiff,↓reduceIte,Nat.reduceAdd,Nat.reduceLeDiff,zz];with_reducible rfl):bk T H K [a]:=r_1 ha h
theorem r2Z{K:AV->Prop}{a b:RV}{x y:AV}(h:K (.tup [x,y]))(ha:rv T H a=some x:=by simp only[rv,cf,ZA,Nat.reduceEqDiff,↓reduceIte,Nat.reduceAdd,Nat.reduceLeDiff,zz];with_reducible rfl)(hb:rv T H b=some y:=by simp only[rv,cf,ZA,Nat.reduceEqDiff,↓reduceIte,Nat.reduceAdd,Nat.reduceLeDiff,zz];with_reducible rfl):bk T H K [a,b]:=r_2 ha hb h
theorem r3Z{K:AV->Prop}{a b c:RV}{x y z:AV}(h:K (.tup [x,y,z]))(ha:rv T H a=some x:=by simp only[rv,cf,ZA,Nat.reduceEqDiff,↓reduceIte,Nat.reduceAdd,Nat.reduceLeDiff,zz];with_reducible rfl)(hb:rv T H b=some y:=by simp only[rv,cf,ZA,Nat.reduceEqDiff,↓reduceIte,Nat.reduceAdd,Nat.reduceLeDiff,zz];with_reducible rfl)(hc:rv T H c=some z:=by simp only[rv,cf,ZA,Nat.reduceEqDiff,↓reduceIte,Nat.reduceAdd,Nat.reduceLeDiff,zz];with_reducible rfl):bk T H K [a,b,c]:=r_3 ha hb hc h
theorem r5Z{K:AV->Prop}{a b c d e:RV}{x y z u v:AV}(h:K (.tup [x,y,z,u,v]))(ha:rv T H a=some x:=by simp only[rv,cf,ZA,Nat.reduceEqDiff,↓reduceIte,Nat.reduceAdd,Nat.reduceLeDiff,zz];with_reducible rfl)(hb:rv T H b=some y:=by simp only[rv,cf,ZA,Nat.reduceEqDiff,↓reduceIte,Nat.reduceAdd,Nat.reduceLeDiff,zz];with_reducible rfl)(hc:rv T H c=some z:=by simp only[rv,cf,ZA,Nat.reduceEqDiff,↓reduceIte,Nat.reduceAdd,Nat.reduceLeDiff,zz];with_reducible rfl)(hd:rv T H d=some u:=by simp only[rv,cf,ZA,Nat.reduceEqDiff,↓reduceIte,Nat.reduceAdd,Nat.reduceLeDiff,zz];with_reducible rfl)(he:rv T H e=some v:=by simp only[rv,cf,ZA,Nat.reduceEqDiff,↓reduceIte,Nat.reduceAdd,Nat.reduceLeDiff,zz];with_reducible rfl):bk T H K [a,b,c,d,e]:=r_5 ha hb hc hd he h
theorem vY{dm:DM}{K:SP}{l:List Op2}{d:Option Nat}{i:Ins}{r:AV}(k:am P dm l (aW T d r) H nx K)(hi:ic i=.val:=by rfl)(hd:dm2 dm T i=true:=by first|rfl|(simp (disch:=omega) only[dm2,sn,vJ,cA,ZA,Nat.reduceEqDiff,↓reduceIte,Nat.reduceAdd,Nat.reduceLeDiff,zz,iB];first|done|omega))(h:ca T H i=some r:=by(try simp (disch:=omega) only[cA,ZA,Nat.reduceEqDiff,↓reduceIte,Nat.reduceAdd,Nat.reduceLeDiff,ZV,reduceCtorEq,zz]);first|with_reducible rfl|(apply CQ;(focus omega);with_reducible rfl)):am P dm (⟨d,none,i⟩::l) T H nx K:=oC hi hd h k
theorem nvY{S:Hp}{K:SP}{l:List (Op2×Nat)}{d:Option Nat}{i:Ins}{r:AV}(k:bg P S l (aW T d r) H nx K)(h:ca T S i=some r:=by(try simp (disch:=omega) only[cA,ZA,Nat.reduceEqDiff,↓reduceIte,Nat.reduceAdd,Nat.reduceLeDiff,ZV,reduceCtorEq,zz]);first|with_reducible rfl|(apply CQ;(focus omega);with_reducible rfl)):bg P S ((⟨d,none,i⟩,0)::l) T H nx K:=JM h k
theorem cY{dm:DM}{K:SP}{l:List Op2}{d:Option Nat}{f:Opd}{args:List Opd}{g:FuncId}{caps xs:List AV}{r:AV}(k:am P dm l (aW T d r) H nx K)(hf:ov T f=.func g caps:=by(try simp (disch:=omega) only[cA,ZA,Nat.reduceEqDiff,↓reduceIte,Nat.reduceAdd,Nat.reduceLeDiff,zz]);(try with_reducible rfl);first|done|fail)(ha:args.map (ov T)++caps=xs:=by(try simp (disch:=omega) only[cA,ZA,Nat.reduceEqDiff,↓reduceIte,Nat.reduceAdd,Nat.reduceLeDiff,zz]);(try with_reducible rfl);first|done|fail)(hp:Pure P g xs r)(hs:au H xs xs r:=by(first|refine aG ?_ rfl|apply a9);(repeat' (first|exact ap|apply bI|(apply bc;(focus with_reducible assumption))));first|done|fail):am P dm (⟨d,none,.call f args⟩::l) T H nx K:=Dj hf ha hp hs k
theorem alY{dm:DM}{K:SP}{l:List Op2}{d:Option Nat}{z:AV}{cs:List AV}(k:am P dm l (aW T d (.ptr nx cs.length 0)) (ar H nx cs) (nx+1) K)(hd:dm2 dm T (.alloc z)=true:=by first|rfl|(simp (disch:=omega) only[dm2,sn,vJ,cA,ZA,Nat.reduceEqDiff,↓reduceIte,Nat.reduceAdd,Nat.reduceLeDiff,zz,iB];first|done|omega))(hc:z.cells=cs:=by(try simp (disch:=omega) only[cA,ZA,Nat.reduceEqDiff,↓reduceIte,Nat.reduceAdd,Nat.reduceLeDiff,zz]);(try with_reducible rfl);first|done|fail)(ho:AV.ones cs=true:=by simp (disch:=omega) only[SO,Bool.and_self,fp,eB,zz];first|done|fail):am P dm (⟨d,none,.alloc z⟩::l) T H nx K:=sB hd hc ho k
theorem bxY{dm:DM}{K:SP}{l:List Op2}{d:Option Nat}{x:Opd}{v:AV}{cs:List AV}(k:am P dm l (aW T d (.ptr nx cs.length 0)) (ar H nx cs) (nx+1) K)(hd:dm2 dm T (.box x)=true:=by first|rfl|(simp (disch:=omega) only[dm2,sn,vJ,cA,ZA,Nat.reduceEqDiff,↓reduceIte,Nat.reduceAdd,Nat.reduceLeDiff,zz,iB];first|done|omega))(hx:ov T x=v:=by(try simp (disch:=omega) only[cA,ZA,Nat.reduceEqDiff,↓reduceIte,Nat.reduceAdd,Nat.reduceLeDiff,zz]);(try with_reducible rfl);first|done|fail)(hc:v.cells=cs:=by(try simp (disch:=omega) only[cA,ZA,Nat.reduceEqDiff,↓reduceIte,Nat.reduceAdd,Nat.reduceLeDiff,zz]);(try with_reducible rfl);first|done|fail)(ho:AV.ones cs=true:=by simp (disch:=omega) only[SO,Bool.and_self,fp,eB,zz];first|done|fail):am P dm (⟨d,none,.box x⟩::l) T H nx K:=JK hd hx hc ho k
theorem stY{dm:DM}{K:SP}{l:List Op2}{d:Option Nat}{sz:Nat}{p x:Opd}{b n off:Nat}{v:AV}{cs vs:List AV}(k:am P dm l (aW T d (.tup [])) (ar H b (bC cs off vs)) nx K)(hd:dm2 dm T (.st sz p x)=true:=by first|rfl|(simp (disch:=omega) only[dm2,sn,vJ,cA,ZA,Nat.reduceEqDiff,↓reduceIte,Nat.reduceAdd,Nat.reduceLeDiff,zz,iB];first|done|omega))(hp:ov T p=.ptr b n off:=by(try simp (disch:=omega) only[cA,ZA,Nat.reduceEqDiff,↓reduceIte,Nat.reduceAdd,Nat.reduceLeDiff,zz]);(try with_reducible rfl);first|done|fail)(hx:ov T x=v:=by(try simp (disch:=omega) only[cA,ZA,Nat.reduceEqDiff,↓reduceIte,Nat.reduceAdd,Nat.reduceLeDiff,zz]);(try with_reducible rfl);first|done|fail)(hb:H b=some cs:=by(try simp (disch:=omega) only[cA,ZA,Nat.reduceEqDiff,↓reduceIte,Nat.reduceAdd,Nat.reduceLeDiff,zz]);(try with_reducible rfl);first|done|fail)(hc:v.cells=vs:=by(try simp (disch:=omega) only[cA,ZA,Nat.reduceEqDiff,↓reduceIte,Nat.reduceAdd,Nat.reduceLeDiff,zz]);(try with_reducible rfl);first|done|fail)(ho:AV.ones vs=true:=by simp (disch:=omega) only[SO,Bool.and_self,fp,eB,zz];first|done|fail)(hn:cs.length=n:=by(try simp only[SL,Nat.reduceAdd,Nat.reduceMul,bm]);first|done|omega)(hl:vs.length=sz:=by(try simp only[SL,Nat.reduceAdd,Nat.reduceMul,bm]);first|done|omega)(hf:off+sz<=n:=by(try simp only[SL,Nat.reduceAdd,Nat.reduceMul,bm]);first|done|omega):am P dm (⟨d,none,.st sz p x⟩::l) T H nx K:=KP hd hp hx hb hc ho hn hl hf k
theorem blY{dm:DM}{K:SP}{l:List Op2}{d:Option Nat}{sz len:Nat}{z:List AV}{parts:List (Nat×Nat×Opd)}{pv:List (Nat×Nat×AV)}{cs:List AV}(k:am P dm l (aW T d (.msl nx cs.length sz 0 len)) (ar H nx cs) (nx+1) K)(hd:dm2 dm T (.bldS sz len z parts)=true:=by first|rfl|(simp (disch:=omega) only[dm2,sn,vJ,cA,ZA,Nat.reduceEqDiff,↓reduceIte,Nat.reduceAdd,Nat.reduceLeDiff,zz,iB];first|done|omega))(hl:len≠0:=by exact Nat.succ_ne_zero _)(hp:parts.map (λp=>(p.1,p.2.1,ov T p.2.2))=pv:=by(try simp (disch:=omega) only[cA,ZA,Nat.reduceEqDiff,↓reduceIte,Nat.reduceAdd,Nat.reduceLeDiff,zz]);(try with_reducible rfl);first|done|fail)(hc:eU (bH (.agg z) len) pv=some cs:=by(try simp (disch:=omega) only[cA,ZA,Nat.reduceEqDiff,↓reduceIte,Nat.reduceAdd,Nat.reduceLeDiff,SO,Bool.and_self,fp,eB,zz]);(try with_reducible rfl);first|done|fail):am P dm (⟨d,none,.bldS sz len z parts⟩::l) T H nx K:=JD hd hl hp hc k
theorem b0Y{dm:DM}{K:SP}{l:List Op2}{d:Option Nat}{sz:Nat}{z:List AV}(k:am P dm l (aW T d .esl) H nx K)(hd:dm2 dm T (.bldS sz 0 z [])=true:=by first|rfl|(simp (disch:=omega) only[dm2,sn,vJ,cA,ZA,Nat.reduceEqDiff,↓reduceIte,Nat.reduceAdd,Nat.reduceLeDiff,zz,iB];first|done|omega)):am P dm (⟨d,none,.bldS sz 0 z []⟩::l) T H nx K:=F6 hd k
theorem a0Y{dm:DM}{K:SP}{l:List Op2}{d:Option Nat}{sz bytes n:Nat}{s x:Opd}{v:AV}{new:List AV}(k:am P dm l (aW T d (.msl nx (n*sz) sz 0 n)) (ar H nx new) (nx+1) K)(hd:dm2 dm T (.app sz bytes s x)=true:=by first|rfl|(simp (disch:=omega) only[dm2,sn,vJ,cA,ZA,Nat.reduceEqDiff,↓reduceIte,Nat.reduceAdd,Nat.reduceLeDiff,zz,iB];first|done|omega))(hs:ov T s=.esl:=by(try simp (disch:=omega) only[cA,ZA,Nat.reduceEqDiff,↓reduceIte,Nat.reduceAdd,Nat.reduceLeDiff,zz]);(try with_reducible rfl);first|done|fail)(hx:ov T x=v:=by(try simp (disch:=omega) only[cA,ZA,Nat.reduceEqDiff,↓reduceIte,Nat.reduceAdd,Nat.reduceLeDiff,zz]);(try with_reducible rfl);first|done|fail)(hsrc:f8 sz H v=some (n,new):=by first|exact gN|exact jI|exact pD|(apply gm;(focus ((try simp (disch:=omega) only[cA,ZA,Nat.reduceEqDiff,↓reduceIte,Nat.reduceAdd,Nat.reduceLeDiff,zz]);(try with_reducible rfl);first|done|fail));(iterate 2 (focus ((try simp only[SL,Nat.reduceAdd,Nat.reduceMul,bm]);first|done|omega))))|exact ke)(ho:AV.ones new=true:=by first|exact iV|exact nC|(simp only[SO,Bool.and_self,fp,eB,zz];first|done|fail))(h1:n*bytes<=140737488355328:=by(try simp only[SL,Nat.reduceAdd,Nat.reduceMul,bm]);first|done|omega)(h2:n<=9223372036854775807:=by(try simp only[SL,Nat.reduceAdd,Nat.reduceMul,bm]);first|done|omega):am P dm (⟨d,none,.app sz bytes s x⟩::l) T H nx K:=kJ hd hs hx hsrc ho h1 h2 k
theorem apY{dm:DM}{K:SP}{l:List Op2}{d:Option Nat}{sz bytes n:Nat}{s x:Opd}{v:AV}{new cs:List AV}{b m len:Nat}(k:am P dm l (aW T d (.msl b ((len+n)*sz) sz 0 (len+n))) (ar H b (cs++new)) nx K)(hd:dm2 dm T (.app sz bytes s x)=true:=by first|rfl|(simp (disch:=omega) only[dm2,sn,vJ,cA,ZA,Nat.reduceEqDiff,↓reduceIte,Nat.reduceAdd,Nat.reduceLeDiff,zz,iB];first|done|omega))(hs:ov T s=.msl b m sz 0 len:=by(try simp (disch:=omega) only[cA,ZA,Nat.reduceEqDiff,↓reduceIte,Nat.reduceAdd,Nat.reduceLeDiff,zz]);(try with_reducible rfl);first|done|fail)(hb:H b=some cs:=by(try simp (disch:=omega) only[cA,ZA,Nat.reduceEqDiff,↓reduceIte,Nat.reduceAdd,Nat.reduceLeDiff,zz]);(try with_reducible rfl);first|done|fail)(hx:ov T x=v:=by(try simp (disch:=omega) only[cA,ZA,Nat.reduceEqDiff,↓reduceIte,Nat.reduceAdd,Nat.reduceLeDiff,zz]);(try with_reducible rfl);first|done|fail)(hsrc:f8 sz H v=some (n,new):=by first|exact gN|exact jI|exact pD|(apply gm;(focus ((try simp (disch:=omega) only[cA,ZA,Nat.reduceEqDiff,↓reduceIte,Nat.reduceAdd,Nat.reduceLeDiff,zz]);(try with_reducible rfl);first|done|fail));(iterate 2 (focus ((try simp only[SL,Nat.reduceAdd,Nat.reduceMul,bm]);first|done|omega))))|exact ke)(ho:AV.ones new=true:=by first|exact iV|exact nC|(simp only[SO,Bool.and_self,fp,eB,zz];first|done|fail))(hm:cs.length=m:=by(try simp only[SL,Nat.reduceAdd,Nat.reduceMul,bm]);first|done|omega)(hl:m=len*sz:=by(try simp only[SL,Nat.reduceAdd,Nat.reduceMul,bm]);first|done|omega)(h1:(len+n)*bytes<=140737488355328:=by(try simp only[SL,Nat.reduceAdd,Nat.reduceMul,bm]);first|done|omega)(h2:len+n<=9223372036854775807:=by(try simp only[SL,Nat.reduceAdd,Nat.reduceMul,bm]);first|done|omega):am P dm (⟨d,none,.app sz bytes s x⟩::l) T H nx K:=AZ hd hs hb hx hsrc ho hm hl h1 h2 k
theorem gTY{dm:DM}{K:SP}{l:List Op2}{d:Option Nat}{i:Ins}{t:Nat}{w:Bool}(k:am P dm (⟨d,none,i⟩::l) T H nx K)(h:T t=.bool w:=by simp (disch:=omega) only[cA,ZA,Nat.reduceEqDiff,↓reduceIte,Nat.reduceAdd,Nat.reduceLeDiff,zz];first|done|fail):am P dm (⟨d,some (t,w),i⟩::l) T H nx K:=KO h k
theorem gFY{dm:DM}{K:SP}{l:List Op2}{d:Option Nat}{i:Ins}{t:Nat}{w:Bool}(k:am P dm l (aW T d (.tup [])) H nx K)(h:T t=.bool (!w)\/T t=.tup []:=by simp (disch:=omega) only[cA,ZA,Nat.reduceEqDiff,↓reduceIte,Nat.reduceAdd,Nat.reduceLeDiff,or_true,true_or,zz];first|done|fail):am P dm (⟨d,some (t,w),i⟩::l) T H nx K:=Lo h k
theorem cTY{K:CP}{c:Opd}{x y:C2}(h1:aO P x T H nx K)(hc:ov T c=.bool true:=by simp (disch:=omega) only[cA,ZA,Nat.reduceEqDiff,↓reduceIte,Nat.reduceAdd,Nat.reduceLeDiff,zz];first|done|fail):aO P (.cond c x y) T H nx K:=CU hc h1
theorem cFY{K:CP}{c:Opd}{x y:C2}(h2:aO P y T H nx K)(hc:ov T c=.bool false:=by simp (disch:=omega) only[cA,ZA,Nat.reduceEqDiff,↓reduceIte,Nat.reduceAdd,Nat.reduceLeDiff,zz];first|done|fail):aO P (.cond c x y) T H nx K:=Dk hc h2
theorem r1Y{K:AV->Prop}{a:RV}{x:AV}(h:K x)(ha:rv T H a=some x:=by simp (disch:=omega) only[rv,cA,ZA,Nat.reduceEqDiff,↓reduceIte,Nat.reduceAdd,Nat.reduceLeDiff,zz];with_reducible rfl):bk T H K [a]:=r_1 ha h
theorem r2Y{K:AV->Prop}{a b:RV}{x y:AV}(h:K (.tup [x,y]))(ha:rv T H a=some x:=by simp (disch:=omega) only[rv,cA,ZA,Nat.reduceEqDiff,↓reduceIte,Nat.reduceAdd,Nat.reduceLeDiff,zz];with_reducible rfl)(hb:rv T H b=some y:=by simp (disch:=omega) only[rv,cA,ZA,Nat.reduceEqDiff,↓reduceIte,Nat.reduceAdd,Nat.reduceLeDiff,zz];with_reducible rfl):bk T H K [a,b]:=r_2 ha hb h
theorem r3Y{K:AV->Prop}{a b c:RV}{x y z:AV}(h:K (.tup [x,y,z]))(ha:rv T H a=some x:=by simp (disch:=omega) only[rv,cA,ZA,Nat.reduceEqDiff,↓reduceIte,Nat.reduceAdd,Nat.reduceLeDiff,zz];with_reducible rfl)(hb:rv T H b=some y:=by simp (disch:=omega) only[rv,cA,ZA,Nat.reduceEqDiff,↓reduceIte,Nat.reduceAdd,Nat.reduceLeDiff,zz];with_reducible rfl)(hc:rv T H c=some z:=by simp (disch:=omega) only[rv,cA,ZA,Nat.reduceEqDiff,↓reduceIte,Nat.reduceAdd,Nat.reduceLeDiff,zz];with_reducible rfl):bk T H K [a,b,c]:=r_3 ha hb hc h
theorem r5Y{K:AV->Prop}{a b c d e:RV}{x y z u v:AV}(h:K (.tup [x,y,z,u,v]))(ha:rv T H a=some x:=by simp (disch:=omega) only[rv,cA,ZA,Nat.reduceEqDiff,↓reduceIte,Nat.reduceAdd,Nat.reduceLeDiff,zz];with_reducible rfl)(hb:rv T H b=some y:=by simp (disch:=omega) only[rv,cA,ZA,Nat.reduceEqDiff,↓reduceIte,Nat.reduceAdd,Nat.reduceLeDiff,zz];with_reducible rfl)(hc:rv T H c=some z:=by simp (disch:=omega) only[rv,cA,ZA,Nat.reduceEqDiff,↓reduceIte,Nat.reduceAdd,Nat.reduceLeDiff,zz];with_reducible rfl)(hd:rv T H d=some u:=by simp (disch:=omega) only[rv,cA,ZA,Nat.reduceEqDiff,↓reduceIte,Nat.reduceAdd,Nat.reduceLeDiff,zz];with_reducible rfl)(he:rv T H e=some v:=by simp (disch:=omega) only[rv,cA,ZA,Nat.reduceEqDiff,↓reduceIte,Nat.reduceAdd,Nat.reduceLeDiff,zz];with_reducible rfl):bk T H K [a,b,c,d,e]:=r_5 ha hb hc hd he h
class StW(A:Prop)(B:outParam Prop):Prop where st:B->A
class StO(A:Prop)(B:outParam Prop):Prop where st:B->A
class StM(A:Prop)(B:outParam Prop):Prop where st:B->A
theorem zW{A B:Prop}[i:StW A B](h:B):A:=i.st h
theorem zO{A B:Prop}[i:StO A B](h:B):A:=i.st h
theorem zM{A B:Prop}[i:StM A B](h:B):A:=i.st h
instance{K:CP}{x y:C2}:StW (aO P (.seq x y) T H nx K) (aO P x T H nx λe T H nx=>aR e (aO P y T H nx K) (K e T H nx)):=⟨dJ⟩
instance{K:CP}{i:Nat}{b:C2}:StW (aO P (.block i b) T H nx K) (aO P b T H nx λe T H nx=>K (qY i e) T H nx):=⟨gv⟩
instance{K:CP}{b:C2}:StW (aO P (.loop b) T H nx K) (aZ (aO P b) T H nx K):=⟨Kz⟩
instance{K:CP}:StO (aO P .skip T H nx K) (K .normal T H nx):=⟨Ky⟩
instance{K:CP}{i:Nat}:StO (aO P (.exit i) T H nx K) (K (.exit i) T H nx):=⟨KL⟩
instance{K:CP}:StO (aO P .ret T H nx K) (K .ret T H nx):=⟨NP⟩
instance{K:CP}{l:List Op2}:StO (aO P (.ops 0 l) T H nx K) (am P .text l T H nx λT H nx=>K .normal T H nx):=⟨Kv⟩
instance{K:CP}{l:List Op2}:StO (aO P (.ops 1 l) T H nx K) (am P .draw l T H nx λT H nx=>K .normal T H nx):=⟨K8⟩
instance{K:CP}{l:List Op2}:StO (aO P (.ops 2 l) T H nx K) (am P (.fresh nx) l T H nx λT H nx=>K .normal T H nx):=⟨Km⟩
instance{K:CP}{l:List Op2}{C:List Nat}:StO (aO P (.mix 1 l C) T H nx K) (am P .draw l T H nx λT H nx=>K .normal T H nx):=⟨w_mix1⟩
instance{K:CP}{l:List Op2}{C:List Nat}:StO (aO P (.mix 2 l C) T H nx K) (am P (.fresh nx) l T H nx λT H nx=>K .normal T H nx):=⟨qE⟩
instance{dm:DM}{K:SP}:StO (am P dm [] T H nx K) (K T H nx):=⟨jM⟩
instance{S:Hp}{K:SP}:StO (bg P S [] T H nx K) (K T H nx):=⟨wg⟩
instance{S:Hp}{K:SP}{l:List (Op2×Nat)}{d:Option Nat}{i:Ins}:StO (bg P S ((⟨d,none,i⟩,2)::l) T H nx K) (am P .text [⟨d,none,i⟩] T H nx λT H nx=>bg P S l T H nx K):=⟨kg⟩
instance{K:AV->Prop}:StO (bk T H K []) (K (.tup [])):=⟨r_0⟩
instance{K:CP}{l:List Op2}{C:List (Nat×Nat)}:StM (aO P (.mixS 1 l C) T H nx K) (am P .draw l T H nx λT H nx=>K .normal T H nx):=⟨IB⟩
instance{K:CP}{l:List Op2}{C:List (Nat×Nat)}:StM (aO P (.mixS 2 l C) T H nx K) (am P (.fresh nx) l T H nx λT H nx=>K .normal T H nx):=⟨H8⟩
class NZ(b w:Bool)(p q:outParam Prop):Prop where
 t:b=w->p
 f:b=!w->q
instance(priority:=10){b:Bool}:NZ b true (b=true) (b=false):=⟨id,id⟩
instance(priority:=10){b:Bool}:NZ b false (b=false) (b=true):=⟨id,id⟩
instance{p:Prop}{i:Decidable p}:NZ (decide p) true p (¬p):=⟨oa,of_decide_eq_false⟩
instance{p:Prop}{i:Decidable p}:NZ (decide p) false (¬p) p:=⟨of_decide_eq_false,oa⟩
instance(priority:=2000):NZ true true True False:=⟨λ_=>trivial,λh=>by cases h⟩
instance(priority:=2000):NZ true false False True:=⟨λh=>(by cases h),λ_=>trivial⟩
instance(priority:=2000):NZ false true False True:=⟨λh=>(by cases h),λ_=>trivial⟩
instance(priority:=2000):NZ false false True False:=⟨λ_=>trivial,λh=>by cases h⟩
instance(priority:=2000){i:Decidable True}:NZ (decide True) true True False:=⟨λ_=>trivial,λh=>of_decide_eq_false h trivial⟩
instance(priority:=2000){i:Decidable True}:NZ (decide True) false False True:=⟨λh=>of_decide_eq_false h trivial,λ_=>trivial⟩
instance(priority:=2000){i:Decidable False}:NZ (decide False) true False True:=⟨oa,λ_=>trivial⟩
instance(priority:=2000){i:Decidable False}:NZ (decide False) false True False:=⟨λ_=>trivial,oa⟩
instance{b w:Bool}{p q:Prop}[i:NZ b w p q]:NZ (!b) w q p:=⟨λh=>i.f (by cases b<;>cases w<;>simp_all),λh=>i.t (by cases b<;>cases w<;>simp_all)⟩
class StG(A:Prop)(v:outParam AV)(w:outParam Bool)(B C:outParam Prop):Prop where
 st:∀b:Bool,v=.bool b->(b=w->B)->(b=!w->C)->A
instance{K:CP}{c:Opd}{x y:C2}:StG (aO P (.cond c x y) T H nx K) (ov T c) true (aO P x T H nx K) (aO P y T H nx K):=⟨λ_ h k1 k2=>Bq h k1 k2⟩
instance{dm:DM}{K:SP}{l:List Op2}{d:Option Nat}{i:Ins}{t:Nat}:StG (am P dm (⟨d,some (t,true),i⟩::l) T H nx K) (T t) true (am P dm (⟨d,none,i⟩::l) (upd T t (.bool true)) H nx K) (am P dm l (aW (upd T t (.bool false)) d (.tup [])) H nx K):=⟨λ_ h k1 k2=>NN h k1 k2⟩
instance{dm:DM}{K:SP}{l:List Op2}{d:Option Nat}{i:Ins}{t:Nat}:StG (am P dm (⟨d,some (t,false),i⟩::l) T H nx K) (T t) false (am P dm (⟨d,none,i⟩::l) (upd T t (.bool false)) H nx K) (am P dm l (aW (upd T t (.bool true)) d (.tup [])) H nx K):=⟨λ_ h k1 k2=>NN h k1 k2⟩
theorem zGZ{A:Prop}{v:AV}{w b:Bool}{B C p q:Prop}[i:StG A v w B C][n:NZ b w p q](k1:p->B)(k2:q->C)(h:v=.bool b:=by(try simp only[cf,ZA,Nat.reduceEqDiff,↓reduceIte,Nat.reduceAdd,Nat.reduceLeDiff,zz]);(try with_reducible rfl);first|done|fail):A:=i.st b h (λh=>k1 (n.t h)) (λh=>k2 (n.f h))
theorem zGY{A:Prop}{v:AV}{w b:Bool}{B C p q:Prop}[i:StG A v w B C][n:NZ b w p q](k1:p->B)(k2:q->C)(h:v=.bool b:=by(try simp (disch:=omega) only[cA,ZA,Nat.reduceEqDiff,↓reduceIte,Nat.reduceAdd,Nat.reduceLeDiff,zz]);(try with_reducible rfl);first|done|fail):A:=i.st b h (λh=>k1 (n.t h)) (λh=>k2 (n.f h))
structure WkQ(B:Prop):Prop where
 q:B
class DatLI(l:List AV):Prop where
 d:∀x∈l,Dat x
instance:DatLI []:=⟨λ_ h=>(by cases h)⟩
instance{x:AV}{l:List AV}[h:DatI x][k:DatLI l]:DatLI (x::l):=⟨DatL.cons h.d k.d⟩
instance{l:List AV}[k:DatLI l]:DatI (.agg l):=⟨Dat.agg k.d⟩
instance{f:FuncId}{l:List AV}[k:DatLI l]:DatI (.func f l):=⟨Dat.func k.d⟩
instance{l:List AV}{n:Nat}[k:DatLI l]:DatI (.iptr l n):=⟨Dat.iptr k.d⟩
theorem wkZ{A B F:Prop}(zz:F)(k:B)(h:F->WkQ B->A:=by intro zz _q;(repeat' (first|refine zW ?_|refine zM ?_|apply a_n|apply a_x|apply a_r|refine zO ?_|refine vZ ?_|refine nvZ ?_|refine cZ ?_ (hp:=by assumption)|refine bxZ ?_|refine alZ ?_|refine blZ ?_|refine b0Z ?_|refine a0Z ?_|refine apZ ?_|refine stZ ?_|refine gTZ ?_|refine gFZ ?_|refine cTZ ?_|refine cFZ ?_|(refine zGZ ?_ ?_<;>(intro _hg;try (exfalso;omega)))|refine b0 rfl ?_|refine r1Z ?_|refine r2Z ?_|refine r3Z ?_|refine r5Z ?_|refine xY rfl ?_|fail));first|(exact _q.q;done)|fail):A:=h zz ⟨k⟩
theorem wnZ{A B F:Prop}(zz:F)(k:B)(h:F->WkQ B->A:=by intro zz _q;(repeat' (first|refine zW ?_|apply a_n|apply a_x|apply a_r|refine zO ?_|refine vZ ?_|refine nvZ ?_|refine cZ ?_ (hp:=by assumption)|refine bxZ ?_|refine alZ ?_|refine blZ ?_|refine b0Z ?_|refine a0Z ?_|refine apZ ?_|refine stZ ?_|refine gTZ ?_|refine gFZ ?_|refine cTZ ?_|refine cFZ ?_|(refine zGZ ?_ ?_<;>(intro _hg;try (exfalso;omega)))|refine b0 rfl ?_|refine r1Z ?_|refine r2Z ?_|refine r3Z ?_|refine r5Z ?_|refine xY rfl ?_|fail));first|(exact _q.q;done)|fail):A:=h zz ⟨k⟩
theorem wkY{A B F:Prop}(zz:F)(k:B)(h:F->WkQ B->A:=by intro zz _q;(repeat' (first|refine zW ?_|refine zM ?_|apply a_n|apply a_x|apply a_r|refine zO ?_|refine vY ?_|refine nvY ?_|refine cY ?_ (hp:=by assumption)|refine bxY ?_|refine alY ?_|refine blY ?_|refine b0Y ?_|refine a0Y ?_|refine apY ?_|refine stY ?_|refine gTY ?_|refine gFY ?_|refine cTY ?_|refine cFY ?_|(refine zGY ?_ ?_<;>(intro _hg;try (exfalso;omega)))|refine b0 rfl ?_|refine r1Y ?_|refine r2Y ?_|refine r3Y ?_|refine r5Y ?_|refine xY rfl ?_|fail));first|(exact _q.q;done)|fail):A:=h zz ⟨k⟩
theorem wnY{A B F:Prop}(zz:F)(k:B)(h:F->WkQ B->A:=by intro zz _q;(repeat' (first|refine zW ?_|apply a_n|apply a_x|apply a_r|refine zO ?_|refine vY ?_|refine nvY ?_|refine cY ?_ (hp:=by assumption)|refine bxY ?_|refine alY ?_|refine blY ?_|refine b0Y ?_|refine a0Y ?_|refine apY ?_|refine stY ?_|refine gTY ?_|refine gFY ?_|refine cTY ?_|refine cFY ?_|(refine zGY ?_ ?_<;>(intro _hg;try (exfalso;omega)))|refine b0 rfl ?_|refine r1Y ?_|refine r2Y ?_|refine r3Y ?_|refine r5Y ?_|refine xY rfl ?_|fail));first|(exact _q.q;done)|fail):A:=h zz ⟨k⟩
theorem zI3{a b c:Prop}(xa:a)(xb:b)(xc:c):a/\b/\c:=⟨xa,xb,xc⟩
theorem zI4{a b c d:Prop}(xa:a)(xb:b)(xc:c)(xd:d):a/\b/\c/\d:=⟨xa,xb,xc,xd⟩
theorem zI5{a b c d e:Prop}(xa:a)(xb:b)(xc:c)(xd:d)(xe:e):a/\b/\c/\d/\e:=⟨xa,xb,xc,xd,xe⟩
theorem zI6{a b c d e f:Prop}(xa:a)(xb:b)(xc:c)(xd:d)(xe:e)(xf:f):a/\b/\c/\d/\e/\f:=⟨xa,xb,xc,xd,xe,xf⟩
theorem zI7{a b c d e f g:Prop}(xa:a)(xb:b)(xc:c)(xd:d)(xe:e)(xf:f)(xg:g):a/\b/\c/\d/\e/\f/\g:=⟨xa,xb,xc,xd,xe,xf,xg⟩
theorem zI8{a b c d e f g h:Prop}(xa:a)(xb:b)(xc:c)(xd:d)(xe:e)(xf:f)(xg:g)(xh:h):a/\b/\c/\d/\e/\f/\g/\h:=⟨xa,xb,xc,xd,xe,xf,xg,xh⟩
theorem zI9{a b c d e f g h i:Prop}(xa:a)(xb:b)(xc:c)(xd:d)(xe:e)(xf:f)(xg:g)(xh:h)(xi:i):a/\b/\c/\d/\e/\f/\g/\h/\i:=⟨xa,xb,xc,xd,xe,xf,xg,xh,xi⟩
theorem dH{a b c d e f g h i j:Prop}(xa:a)(xb:b)(xc:c)(xd:d)(xe:e)(xf:f)(xg:g)(xh:h)(xi:i)(xj:j):a/\b/\c/\d/\e/\f/\g/\h/\i/\j:=⟨xa,xb,xc,xd,xe,xf,xg,xh,xi,xj⟩
theorem lpI{b:C2}{K:CP}{X:Type}(L:X->List (Nat×AV))(I:X->Hp->Nat->Prop)(μ:X->Nat)(x0:X)(h0:I x0 H nx)
    (step:∀x H nx,I x H nx->aO P b (tl (L x)) H nx λe T H' nx'=>aR e (∃y,μ y<μ x/\I y H' nx'/\agr T (L y)) (K e T H' nx')) (hT:agr T (L x0):=by(repeat' (first|exact trivial|refine And.intro rfl ?_));first|done|fail):aZ (aO P b) T H nx K:=bF L I μ x0 h0 hT step
theorem eR{dm:DM}{K:SP}{l:List Op2}{d:Option Nat}{sz bytes k:Nat}{s x:Opd}{sv xv:AV}{cs new:List AV}(hrow:Row H sz sv cs)(next:∀(sv':AV)(H':Hp)(nx':Nat),Row H' sz sv' (cs++new)->nx<=nx'->nx'<=nx+1->(∀i,i<nx->bX sv≠some i->H' i=H i)->(∀b,bX sv'=some b->bX sv=some b\/b=nx/\nx'=nx+1)->am P dm l (aW T d sv') H' nx' K)(hd:dm2 dm T (.app sz bytes s x)=true:=by rfl)(hs:ov T s=sv:=by(try simp only[cf,ZA,Nat.reduceEqDiff,↓reduceIte,Nat.reduceAdd,Nat.reduceLeDiff]);(try with_reducible rfl);first|done|fail)(hx:ov T x=xv:=by(try simp only[cf,ZA,Nat.reduceEqDiff,↓reduceIte,Nat.reduceAdd,Nat.reduceLeDiff]);(try with_reducible rfl);first|done|fail)(hsrc:f8 sz H xv=some (k,new):=by first|exact iJ|exact rh|fail)(ho:AV.ones new=true:=by rfl)(hk:new.length=k*sz:=by rfl)(hz:0<sz:=by first|exact lh|omega|fail)(h1:(cs.length+k)*bytes<=140737488355328:=by first|(rw[bm];omega)|omega|fail)(h2:cs.length+k<=9223372036854775807:=by first|(rw[bm];omega)|omega|fail):am P dm (⟨d,none,.app sz bytes s x⟩::l) T H nx K:=mg hd hs hrow hx hsrc ho hk hz h1 h2 next
end Go.Abs
namespace Go.Abs
open Go.RowKit
end Go.Abs
namespace Go.Abs
open Go Go.RowKit
def vO(W:World):Nat->Prop:=λb=>b<W.heap.size
theorem Er{W:World}{a:Addr}{v:Value}(h:W.cell? a=some v):vO W a.block/\a.spot=none:=by
 unfold World.cell? at h;unfold vO;cases hb:W.heap[a.block]? with
 |none=>simp[hb] at h
 |some o=>
  refine⟨(ju.1 hb).1,?_⟩;cases hs:a.spot with
  |none=>rfl
  |some s=>cases o<;>simp[hb,hs] at h
section
variable{H:Type}{enc:TypeId×Value->H}{P:Program}{W:World}
def fj(enc:TypeId×Value->H)(P:Program)(W:World)(t:TypeId){α:Type}(f:α->AV)(good:α->Prop):Prop:=
 ∀(n:Nat)(cs:List Value)(x:DataW H×List MemPlace),DataW.trod enc P W 0 (λ_=>true) true n t cs=some x->(∀k∈x.1.weights P t,k<=reachBytes)->∃a:α,good a/\dZ (E0 (vO W)) W (f a).cells cs
theorem fj.mono{t:TypeId}{α:Type}{f:α->AV}{good good':α->Prop}(h:fj enc P W t f good)(hg:∀a,good a->good' a):fj enc P W t f good':=
 λn cs x hx hw=>let ⟨a,h1,h2⟩:=h n cs x hx hw;⟨a,hg a h1,h2⟩
theorem sU {E:Env} {w:World} {x:AV} {y:Value} (h:Rel E w x y):dZ E w [x] [y]:=⟨rfl,fun i a b ha hb=>by
 cases i with
 |zero=>simp at ha hb;subst ha hb;exact h
 |succ i=>simp at ha⟩
theorem dZ.app{E:Env}{w:World}{xs xs':List AV}{ys ys':List Value}(h:dZ E w xs ys)(h':dZ E w xs' ys'):dZ E w (xs++xs') (ys++ys'):=by
 have hl:xs.length=ys.length:=h.1.symm;refine⟨by simp[h.1,h'.1],λi a b ha hb=>?_⟩;by_cases hi:i<xs.length
 ·rw[hJ hi] at ha;rw[hJ (by omega)] at hb;exact h.2 i a b ha hb
 ·rw[je (by omega)] at ha;rw[je (by omega)] at hb;rw[hl] at ha;exact h'.2 _ a b ha hb
theorem xy{t:TypeId}{k:IntKind}(ht:P.underlying t=some (.int k)):fj enc P W t (AV.int k) (λn=>(Lit.int k n).wf=true):=λn cs x hx _=>by
 obtain⟨a,rfl,rfl,hw⟩:=DataW.trod_int ht hx;exact⟨a,hw,sU (.int _ _)⟩
theorem uM{e:TypeId}{l:List (DataW H)}{d:DataW H}(h:d∈l){k:Nat}(hk:k∈d.weights P e):k∈DataW.weightsAll P e l:=by
 induction l with
 |nil=>cases h
 |cons a l ih=>
  unfold DataW.weightsAll;rcases dg.1 h with rfl|h
  ·exact l6 _ hk
  ·exact lJ _ (ih h)
theorem Af{α:Type}{len:Nat}{Q:Nat->α->Prop}(h:∀i,i<len->∃a,Q i a):∃l:List α,l.length=len/\∀i a,l[i]?=some a->Q i a:=by
 induction len with
 |zero=>exact⟨[],rfl,λi a h=>by simp at h⟩
 |succ n ih=>
  obtain⟨l,h1,h2⟩:=ih (λi hi=>h i (by omega));obtain⟨a,ha⟩:=h n (by omega);refine⟨l++[a],by simp[h1],λi b hb=>?_⟩;by_cases hi:i<l.length
  ·rw[hJ hi] at hb;exact h2 i b hb
  ·rw[je (by omega)] at hb
   have:i-l.length=0:=by
    by_cases h0:i-l.length=0
    ·exact h0
    ·rw[List.getElem?_eq_none (by simp;omega)] at hb;cases hb
   rw[this] at hb;simp at hb;subst hb;have:i=n:=by omega
   subst this;exact ha
theorem nk{t e:TypeId}{sz by_:Nat}{α:Type}{f:α->AV}{good:α->Prop}(ht:P.underlying t=some (.slice e))(hsz:P.cellsOf e=sz)(hby:P.bytesOf e=by_)(hpos:0<sz)(hc:∀a,(f a).cells.length=sz)
    (he:fj enc P W e f good):fj enc P W t (iA sz f) (λl=>(∀a∈l,good a)/\l.length<=9223372036854775807/\l.length*by_<=140737488351232):=λn cs x hx hw=>by
 rcases Go.Deep.open_slice ht hx with⟨rfl,rfl⟩|⟨a,len,cap,m,n',D,Pl,rfl,hb,hlc,hcm,hm,hxe,hel⟩
 ·exact⟨[],⟨λ_ h=>(by cases h),by simp,by simp⟩,sU (.slnil _)⟩
 simp only[if_true] at hm;subst hxe;subst hm;have hw':∀k∈((DataW.slice (H:=H) ((List.range len).map D) ((List.range (m-len)).map λj=>D (len+j))).weights P t),k<=reachBytes:=hw;simp only[DataW.weights,ht] at hw';have hlen:(((List.range len).map D).length+((List.range (m-len)).map λj=>D (len+j)).length)*P.bytesOf e<=reachBytes:=hw' _ (cz ..)
 have hbd:len*by_<=140737488351232:=by
  rw[hby] at hlen;simp only[bm,List.length_range] at hlen;have h1:len*by_<=(len+(m-len))*by_:=mz _ (by omega);have h2:reachBytes=140737488351232:=rfl;omega
 have hlm:len<=9223372036854775807:=fK hlc hcm
 have key:∀i,i<len->∃a':α,good a'/\∃cs',W.cells? 0 (a.add (i*sz)) sz=some cs'/\dZ (E0 (vO W)) W (f a').cells cs':=λi hi=>by
  obtain⟨cs',h1,h2⟩:=hel i (by omega);rw[hsz] at h1;obtain⟨a',g1,g2⟩:=he n' cs' _ h2 (λk hk=>hw' k (dy _ (l6 _ (uM (bz.2 ⟨i,dE.2 hi,rfl⟩) hk))));exact⟨a',g1,cs',h1,g2⟩
 obtain⟨l,hl,hq⟩:=Af key;refine⟨l,⟨λx hx=>?_,by omega,by rw[hl];exact hbd⟩,sU ?_⟩
 ·obtain⟨i,hi⟩:=Bh hx;exact(hq i x hi).1
 by_cases h0:len=0
 ·subst h0;have:l=[]:=fI.1 hl;subst this;exact .slempty _ _ _
 have hcell:∀i j,i<len->j<sz->∃v,W.cell? ((a.add (i*sz)).add j)=some v:=λi j hi hj=>by
  obtain⟨a',_,cs',h1,h2⟩:=key i hi;unfold World.cells? at h1;rw[if_pos (bQ _)] at h1;have h3:=mapM_some_get h1 j j (by simp[hj])
  have h4:j<cs'.length:=by
   have:=mapM_some_length h1;simp at this;omega
  exact⟨cs'[j],by rw[h3];simp[h4]⟩
 obtain⟨v0,hv0⟩:=hcell 0 0 (by omega) hpos;have ho:=Er hv0;simp only[xT,Addr.add,if_true] at ho;obtain⟨blk,off,sp⟩:=a;obtain⟨ho,hsp⟩:=ho;simp only at hsp ho;subst hsp
 have hadd:∀i j,((⟨blk,off,none⟩:Addr).add (i*sz)).add j=⟨blk,off+(i*sz+j),none⟩:=λi j=>by
  rw[cL,cL,qt]
 have hcell':∀k,k<len*sz->∃v,W.cell? ⟨blk,off+k,none⟩=some v:=λk hk=>by
  have h1:k/sz<len:=Nat.div_lt_of_lt_mul (by rw[Nat.mul_comm];exact hk);have h2:k%sz<sz:=Nat.mod_lt _ hpos;obtain⟨v,hv⟩:=hcell (k/sz) (k%sz) h1 h2;rw[hadd,Nat.div_add_mod'] at hv;exact⟨v,hv⟩
 have hlen2:(l.map f).length=len:=by simp[hl]
 have:=Rel.sl (E:=E0 (vO W)) (w:=W) sz (l.map f) blk off m (λk=>(W.cell? ⟨blk,off+k,none⟩).getD Go.undef) ho (by rw[hlen2];exact hlc)
  (λx hx=>by obtain⟨b,_,rfl⟩:=bz.1 hx;exact hc b)
  (fun k hk=>by
   rw[hlen2] at hk;obtain⟨v,hv⟩:=hcell' k hk;simp only[hv,tB])
  (fun i j x y hx hy=>by
   rw[mM,Option.map_eq_some_iff] at hx;obtain⟨a',ha',rfl⟩:=hx;obtain⟨_,cs',h1,h2⟩:=hq i a' ha'
   have hj:j<sz:=by
    have:=(b6.1 hy).1
    rwa [hc] at this
   have hi:i<len:=by
    have:=(b6.1 ha').1;omega
   unfold World.cells? at h1;rw[if_pos (bQ _)] at h1;have h3:=mapM_some_get h1 j j (by simp[hj])
   have h4:j<cs'.length:=by
    have:=mapM_some_length h1;simp at this;omega
   rw[hadd] at h3;have h5:cs'[j]?=some cs'[j]:=by simp[h4]
   rw[h5] at h3;simp only[h3,tB];exact h2.2 j y _ hy h5)
 rw[hlen2] at this;exact this
def yf(enc:TypeId×Value->H)(P:Program)(W:World)(fs:List Field)(off:Nat){α:Type}(g:α->List AV)(good:α->Prop):Prop:=
 ∀(n tot:Nat)(cs:List Value)(ys:List (DataW H×List MemPlace)),ys.length=fs.length->(∀(i:Nat)(f:Field),fs[i]?=some f->DataW.trod enc P W 0 (λ_=>true) true n f.type ((cs.drop f.offset).take (P.cellsOf f.type))=ys[i]?)->
  (∀k∈DataW.weightsEach P (fs.map λf:Field=>f.type) (ys.map (·.1)),k<=reachBytes)->cs.length=tot->tot=off+(fs.map λf:Field=>P.cellsOf f.type).sum->∃a:α,good a/\dZ (E0 (vO W)) W (g a) (cs.drop off)
theorem vt{off:Nat}:yf enc P W [] off (λ_:Unit=>[]) (λ_=>True):=λn tot cs ys _ _ _ h1 h2=>by
 refine⟨(),trivial,?_⟩;rw[Gy (by simp at h2;omega)];exact⟨rfl,λi a b h=>by simp at h⟩
theorem ny{fd:Field}{fs:List Field}{off off':Nat}{α β:Type}{f:α->AV}{g:β->List AV}{good:α->Prop}{good':β->Prop}(ho:fd.offset=off)(ho':off+P.cellsOf fd.type=off')
    (h:fj enc P W fd.type f good) (h':yf enc P W fs off' g good'):yf enc P W (fd::fs) off (λa:α×β=>(f a.1).cells++g a.2) (λa=>good a.1/\good' a.2):=λn tot cs ys hl hy hw h1 h2=>by
 obtain⟨y,ys,rfl⟩:∃y ys',ys=y::ys':=by
  cases ys with
  |nil=>simp at hl
  |cons y ys=>exact⟨y,ys,rfl⟩
 have hy0:=hy 0 fd rfl;simp only[yH] at hy0;rw[ho] at hy0;simp only[ew,DataW.weightsEach] at hw;obtain⟨a,g1,g2⟩:=h n _ y hy0 (λk hk=>hw k (l6 _ hk));simp only[ew,List.sum_cons] at h2
 obtain ⟨b,g3,g4⟩:=h' n tot cs ys (by simpa using hl) (fun i f hf=>by
  have:=hy (i+1) f (by simpa using hf);simpa using this) (λk hk=>hw k (lJ _ hk)) h1 (by omega)
 refine⟨(a,b),⟨g1,g3⟩,?_⟩
 have e:cs.drop off=(cs.drop off).take (P.cellsOf fd.type)++cs.drop off':=by
  rw[<-ho',<-List.drop_drop,FA]
 rw[e];exact dZ.app g2 g4
theorem pn{t:TypeId}{fs:Array Field}{α:Type}{g:α->List AV}{good:α->Prop}(ht:P.underlying t=some (.struct fs))(hsum:P.cellsOf t=(fs.toList.map λf:Field=>P.cellsOf f.type).sum)
    (h:yf enc P W fs.toList 0 g good):fj enc P W t (λa=>.agg (g a)) good:=λn cs x hx hw=>by
 obtain⟨ys,n',rfl,rfl,hl,hs,hy⟩:=DataW.trod_struct ht hx
 obtain ⟨a,g1,g2⟩:=h n' _ cs ys (by rw [hs]; simp) (fun i f hf=>hy i f (by simpa using hf)) (fun k hk=>hw k (by
  simp only[DataW.weights,ht];exact hk)) hl (by rw[bP,hsum])
 exact⟨a,g1,by rw[List.drop_zero] at g2;exact g2⟩
theorem fj.map{t:TypeId}{α β:Type}{f:α->AV}{good:α->Prop}{f':β->AV}{good':β->Prop}(h:fj enc P W t f good)(φ:α->β)(hg:∀a,good a->good' (φ a))(hf:∀a,good a->(f' (φ a)).cells=(f a).cells):fj enc P W t f' good':=λn cs x hx hw=>by
 obtain⟨a,h1,h2⟩:=h n cs x hx hw;exact⟨φ a,hg a h1,by rw[hf a h1];exact h2⟩
theorem fj.at{t u:TypeId}{α:Type}{f:α->AV}{good:α->Prop}(e:t=u)(h:fj enc P W u f good):fj enc P W t f good:=e▸h
theorem fj.argA{t:TypeId}{α:Type}{f:α->AV}{good:α->Prop}(h:fj enc P W t f good){r:Reach}{base:Nat}{v:Value}{d:DataW H}{ps:List MemPlace}(ht:ri P t=true)(hf:∀a,∃cs,f a=.agg cs)
    (hval:Value.okWide P W r base t v) (hd:DataW.Trod enc P W 0 (λ_=>true) true t v d ps) (hw:∀k∈d.weights P t,k<=reachBytes):∃a,good a/\Rel (E0 (vO W)) W (f a) v:=by
 obtain⟨n,hn⟩:=hd;obtain⟨a,h1,h2⟩:=h n _ _ hn hw;refine⟨a,h1,?_⟩
 obtain⟨cs,hcs,_⟩:∃cs,v=.agg cs/\True:=by
  unfold Value.okWide at hval;unfold ri at ht;split at hval
  ·obtain⟨cs,h,_⟩:=hval;exact⟨cs,h,trivial⟩
  ·obtain⟨cs,h,_⟩:=hval;exact⟨cs,h,trivial⟩
  ·rename_i k1 k2;revert ht;cases hu:P.underlying t with
   |none=>simp
   |some u=>
    cases u with
    |struct fs=>exact absurd hu (k1 fs)
    |array m e=>exact absurd hu (k2 m e)
    |_=>simp
 subst hcs;obtain⟨xs,hx⟩:=hf a;rw[hx] at h2 |-;exact .agg xs cs.toList h2.1 h2.2
theorem fj.arg1{t:TypeId}{α:Type}{f:α->AV}{good:α->Prop}(h:fj enc P W t f good){v:Value}{d:DataW H}{ps:List MemPlace}(hf:∀a,(f a).cells=[f a])(hv:v.cells=#[v])
    (hd:DataW.Trod enc P W 0 (λ_=>true) true t v d ps) (hw:∀k∈d.weights P t,k<=reachBytes):∃a,good a/\Rel (E0 (vO W)) W (f a) v:=by
 obtain⟨n,hn⟩:=hd;obtain⟨a,h1,h2⟩:=h n _ _ hn hw;rw[hf,hv] at h2;exact⟨a,h1,h2.2 0 _ _ rfl rfl⟩
theorem wR{t:TypeId}{r:Reach}{base:Nat}{v:Value}(ht:ri P t=false)(hval:Value.okWide P W r base t v):v.cells=#[v]:=by
 cases v<;>try rfl
 rename_i cs;exfalso;unfold Value.okWide at hval;unfold ri at ht;cases hu:P.underlying t with
 |none=>simp only[hu,Cell.okWide,Cell.ok] at hval
 |some u=>
  rw[hu] at ht;cases u<;>simp only[hu,Cell.okWide,Cell.ok] at hval<;>simp at ht
theorem oH(hl:laidOutB P=true){W':World}(hb:Below W.heap.size W W'){sp:Nat->Bool}:∀{ts:List TypeId}{vs:List Value}{ds:List (DataW H)}{ps:List MemPlace},(∀t∈ts,P.readableRec t=true/\t<P.types.size)->
    DataW.TrodAll enc P W 0 (λ_=>true) true ts vs ds ps->(∀p∈ps,p.block<W.heap.size)->(∀p∈ps,sp p.block=true)->DataW.TrodAll enc P W' 0 sp true ts vs ds ps
 |[],[],[],ps,_,h,_,_=>h
 |t::ts,v::vs,d::ds,ps,hr,⟨p,q,h1,h2,e⟩,hlt,hsp=>by
  subst e
  exact ⟨p,q,WideElems.Trod_stays hl (hr t (cz ..)).1 (hr t (cz ..)).2 h1 (fun x hx=>hb.same (hlt x (l6 _ hx))) (fun x hx=>hsp x (l6 _ hx)),
   oH hl hb (λt ht=>hr t (dy _ ht)) h2 (λx hx=>hlt x (lJ _ hx)) (λx hx=>hsp x (lJ _ hx)),rfl⟩
 |[],_::_,_,_,_,h,_,_=>h.elim
 |[],[],_::_,_,_,h,_,_=>h.elim
 |_::_,[],_,_,_,h,_,_=>h.elim
 |_::_,_::_,[],_,_,h,_,_=>h.elim
theorem nB:∀{ts:List TypeId}{ds:List (DataW H)}{i:Nat}{t:TypeId}{d:DataW H},ts[i]?=some t->ds[i]?=some d->∀k∈d.weights P t,k∈DataW.weightsEach P ts ds
 |t::ts,d::ds,0,_,_,h1,h2,k,hk=>by
  simp at h1 h2;subst h1 h2;unfold DataW.weightsEach;exact l6 _ hk
 |t::ts,d::ds,i+1,_,_,h1,h2,k,hk=>by
  unfold DataW.weightsEach;exact lJ _ (nB (ts:=ts) (ds:=ds) (by simpa using h1) (by simpa using h2) k hk)
 |[],_,i,_,_,h1,_,_,_=>by simp at h1
 |_::_,[],i,_,_,_,h2,_,_=>by simp at h2
end
end Go.Abs
namespace Go.Proofs.YtekdaafnjdlenaaGreat
open Go Go.Abs Go.Abs.C2 Go.Abs.Ins Go.Abs.Opd Go.Abs.TK Go.Abs.MK
def cO(d:Nat)(i:Ins):Op2:=Op2.mk (some d) none i
def cG(d g:Nat)(b:Bool)(i:Ins):Op2:=Op2.mk (some d) (some (g,b)) i
def cN(k:Int):Opd:=Opd.c (AV.int IntKind.i64 k)
def cM(n:Nat):Ins:=Ins.mov (Opd.t n)
def cD(n:Nat):Ins:=Ins.ld1 (Opd.t n)
def cF(n:Nat):Opd:=Opd.c (AV.func n [])
def cB(o:BinOp)(x y:Opd):Ins:=Ins.bin o false false x y
def a8:Opd:=Opd.c (AV.bool false)
def cK:Opd:=Opd.c (AV.bool true)
def aa(d s:Nat):Op2:=Op2.mk (some d) none (Ins.mov (Opd.t s))
def aD(d s:Nat):Op2:=Op2.mk (some d) none (Ins.ld1 (Opd.t s))
def bB(d n s:Nat):Op2:=Op2.mk (some d) none (Ins.ldn n (Opd.t s))
def bi(d s:Nat):Op2:=Op2.mk (some d) none (Ins.lenS (Opd.t s))
def ce(d n s:Nat):Op2:=Op2.mk (some d) none (Ins.fa n (Opd.t s))
def aV(d s n:Nat):Op2:=Op2.mk (some d) none (Ins.ext (Opd.t s) n)
def aJ(d f:Nat)(l:List Opd):Op2:=Op2.mk (some d) none (Ins.call (Opd.c (AV.func f [])) l)
def aP(d:Nat)(o:BinOp)(x y:Nat):Op2:=Op2.mk (some d) none (Ins.bin o false false (Opd.t x) (Opd.t y))
def aq(d:Nat)(o:BinOp)(x:Nat)(y:Int):Op2:=Op2.mk (some d) none (Ins.bin o false false (Opd.t x) (Opd.c (AV.int IntKind.i64 y)))
def bl(n p v:Nat):Op2:=Op2.mk none none (Ins.st n (Opd.t p) (Opd.t v))
def bt(d g:Nat)(i:Ins):Op2:=Op2.mk (some d) (some (g,false)) i
def an(d g:Nat)(i:Ins):Op2:=Op2.mk (some d) (some (g,true)) i
def ay(n:Nat)(x y:C2):C2:=C2.cond (Opd.t n) x y
def ac(l:List Op2)(x:C2):C2:=C2.seq (C2.ops 0 l) x
def bj:AV:=AV.int IntKind.i64 0
theorem aL:(∀(d:Nat)(i:Ins),cO d i=Op2.mk (some d) none i)/\(∀(d g:Nat)(b:Bool)(i:Ins),cG d g b i=Op2.mk (some d) (some (g,b)) i)/\(∀(k:Int),cN k=Opd.c (AV.int IntKind.i64 k))/\(∀(n:Nat),cM n=Ins.mov (Opd.t n))/\(∀(n:Nat),cD n=Ins.ld1 (Opd.t n))/\(∀(n:Nat),cF n=Opd.c (AV.func n []))/\(∀(o:BinOp)(x y:Opd),cB o x y=Ins.bin o false false x y)/\(a8=Opd.c (AV.bool false))/\(cK=Opd.c (AV.bool true))/\(∀(d s:Nat),aa d s=Op2.mk (some d) none (Ins.mov (Opd.t s)))/\(∀(d s:Nat),aD d s=Op2.mk (some d) none (Ins.ld1 (Opd.t s)))/\(∀(d n s:Nat),bB d n s=Op2.mk (some d) none (Ins.ldn n (Opd.t s)))/\(∀(d s:Nat),bi d s=Op2.mk (some d) none (Ins.lenS (Opd.t s)))/\(∀(d n s:Nat),ce d n s=Op2.mk (some d) none (Ins.fa n (Opd.t s)))/\(∀(d s n:Nat),aV d s n=Op2.mk (some d) none (Ins.ext (Opd.t s) n))/\(∀(d f:Nat)(l:List Opd),aJ d f l=Op2.mk (some d) none (Ins.call (Opd.c (AV.func f [])) l))/\(∀(d:Nat)(o:BinOp)(x y:Nat),aP d o x y=Op2.mk (some d) none (Ins.bin o false false (Opd.t x) (Opd.t y)))/\(∀(d:Nat)(o:BinOp)(x:Nat)(y:Int),aq d o x y=Op2.mk (some d) none (Ins.bin o false false (Opd.t x) (Opd.c (AV.int IntKind.i64 y))))/\(∀(n p v:Nat),bl n p v=Op2.mk none none (Ins.st n (Opd.t p) (Opd.t v)))/\(∀(d g:Nat)(i:Ins),bt d g i=Op2.mk (some d) (some (g,false)) i)/\(∀(d g:Nat)(i:Ins),an d g i=Op2.mk (some d) (some (g,true)) i)/\(∀(n:Nat)(x y:C2),ay n x y=C2.cond (Opd.t n) x y)/\(∀(l:List Op2)(x:C2),ac l x=C2.seq (C2.ops 0 l) x)/\(bj=AV.int IntKind.i64 0):=⟨λ_ _=>rfl,λ_ _ _ _=>rfl,λ_=>rfl,λ_=>rfl,λ_=>rfl,λ_=>rfl,λ_ _ _=>rfl,rfl,rfl,λ_ _=>rfl,λ_ _=>rfl,λ_ _ _=>rfl,λ_ _=>rfl,λ_ _ _=>rfl,λ_ _ _=>rfl,λ_ _ _=>rfl,λ_ _ _ _=>rfl,λ_ _ _ _=>rfl,λ_ _ _=>rfl,λ_ _ _=>rfl,λ_ _ _=>rfl,λ_ _ _=>rfl,λ_ _=>rfl,rfl⟩
theorem mkI{P:Program}{f:FuncId}{F:F2}{fn:Func}(h1:P.funcs[f]?=some fn)(h2:y6 P fn=some F:=by kernel_rfl):Is P f F:=Is.mk' h1 h2
theorem follows:Tryz.prog.follows .mixedOrders=true:=by rfl
abbrev pU:=@Go.Abs.Pure Tryz.prog
theorem pO{f:FuncId}{F:F2}{args:List AV}{r:AV}(hf:Is Tryz.prog f F)(hb:aO Tryz.prog F.body (T0 args) cH 0 λe T H nx=>aS e.ends (bk T H (λx=>Snap H x r) F.res))(hl:args.length<=F.n:=by exact Nat.le_of_ble_eq_true rfl):Go.Abs.Pure Tryz.prog f args r:=Go.Abs.Pure.of_c2 follows hf hl hb
theorem fO{f:FuncId}{F:F2}{args:List AV}{H:Hp}{nx:Nat}{K:AV->Hp->Nat->Prop}(hf:Is Tryz.prog f F)(hb:aO Tryz.prog F.body (T0 args) H nx λe T H nx=>aS e.ends (bk T H (λx=>K x H nx) F.res))(hl:args.length<=F.n:=by exact Nat.le_of_ble_eq_true rfl):Go.Abs.Fn Tryz.prog f args H nx K:=Go.Abs.Fn.of_c2 follows hf hl hb
theorem qO{f:FuncId}{F:F2}{args:List AV}{r:AV}(hf:Is Tryz.prog f F)(hb:aO Tryz.prog F.body (T0 args) cH 0 λe T H nx=>aS e.ends (bk T H (λx=>SnapF H x r) F.res))(hl:args.length<=F.n:=by exact Nat.le_of_ble_eq_true rfl):Go.Abs.PureF Tryz.prog f args r:=Go.Abs.PureF.of_c2 follows hf hl hb
def b3:F2:=(F2.mk 60 [RV.t 4] (ac [cO 2 (box (t 0)),cO 4 (mov a8)] ((ac [bB 13 1 2,aJ 14 11 [t 13,c AV.esl],cO 15 (un UnOp.not (t 14))] (ay 15 (ac [aJ 16 12 [],aa 4 16] ret) skip)).seq (ac [bB 18 1 2,aJ 19 13 [t 18],aa 17 19,aV 20 17 0,aV 21 17 1,aa 5 20,aa 6 21] (ac [bB 23 1 2,aJ 24 14 [t 23],aa 22 24,aV 25 22 0,aV 26 22 1,aa 7 25,aa 8 26] (ac [bB 28 1 2,aa 29 1,aJ 30 15 [t 28,t 29],aa 27 30,aV 31 27 0,aV 32 27 1,aa 9 31,aa 10 32] (ac [bB 34 1 2,aa 35 1,aJ 36 16 [t 34,t 35],aa 33 36,aV 37 33 0,aV 38 33 1,aa 11 37,aa 12 38] (ac [aJ 39 12 [],aa 40 39,an 41 40 (cM 5),an 42 40 (cM 7),an 43 40 (call (cF 17) [t 41,t 42]),cO 44 (pick (t 40) (t 43) a8),aa 45 44,an 46 45 (cM 6),an 47 45 (cM 8),an 48 45 (cB .eql (t 46) (t 47)),cO 49 (pick (t 45) (t 48) a8),aa 50 49,an 51 50 (cM 9),an 52 50 (cM 11),an 53 50 (bin BinOp.eql true false (t 51) (t 52)),cO 54 (pick (t 50) (t 53) a8),aa 55 54,an 56 55 (cM 10),an 57 55 (cM 12),an 58 55 (cB .eql (t 56) (t 57)),cO 59 (pick (t 55) (t 58) a8),aa 4 59] ret))))))))
def b9:F2:=(F2.mk 191 [RV.t 6] (ac [cO 3 (box (t 0)),cO 6 (mov a8)] (ac [aa 33 1,cO 34 (cB .rem (t 33) (c (AV.int IntKind.u8 (3)))),cO 35 (conv IntKind.i64 (t 34)),aa 7 35] ((ac [bB 36 1 3,aJ 37 11 [t 36,c AV.esl],cO 38 (un UnOp.not (t 37)),aa 39 38,bt 40 39 (ldn 1 (t 3)),bt 41 39 (call (cF 28) [t 40]),bt 42 39 (cB .neq (t 41) (cN 0)),cO 43 (pick (t 39) cK (t 42)),aa 44 43,bt 45 44 (cM 2),bt 46 44 (lenS (t 45)),bt 47 44 (cB .gtr (t 46) (cN 40)),cO 48 (pick (t 44) cK (t 47))] (ay 48 (ac [aJ 49 12 [],aa 6 49] ret) skip)).seq (ac [bB 51 1 3,aa 52 7,aJ 53 18 [t 51,t 52],aa 50 53,aV 54 50 0,aV 55 50 1,aa 8 54,aa 9 55] (ac [bB 57 1 3,aJ 58 13 [t 57],aa 56 58,aV 59 56 0,aV 60 56 1,aa 10 59,aa 11 60] ((ac [aa 61 9,aq 62 .neq 61 0,aa 63 62,bt 64 63 (cM 11),bt 65 63 (cB .neq (t 64) (cN 0)),cO 66 (pick (t 63) cK (t 65))] (ay 66 (ac [cO 6 (mov a8)] ret) skip)).seq (ac [cO 12 (mov (cN 0))] ((ac [aa 67 7,aa 68 10,bi 69 68,aP 70 .lss 67 69] (ay 70 (ops 0 [aa 71 10,aa 72 7,cO 73 (ixaS 1 (t 71) (t 72)),aD 74 73,aa 12 74]) skip)).seq (ac [bB 76 1 3,aa 77 7,aa 78 8,aJ 79 31 [t 76,t 77,t 78],aa 75 79,aV 80 75 0,aV 81 75 1,aa 13 80,aa 14 81] ((ac [aa 82 8,bi 83 82,aa 84 12,aP 85 .neq 83 84,aa 86 85,bt 87 86 (cM 14),bt 88 86 (cB .neq (t 87) (cN 0)),cO 89 (pick (t 86) cK (t 88)),aa 90 89,bt 91 90 (cM 13),bt 92 90 (un UnOp.not (t 91)),cO 93 (pick (t 90) cK (t 92))] (ay 93 (ac [cO 6 (mov a8)] ret) skip)).seq ((ac [aa 94 8,bi 95 94,cO 96 (mov (cN 0))] (block 0 (ac [aP 97 .lss 96 95] ((ay 97 skip (exit 0)).seq ((block 1 (ac [cO 98 (ixaS 1 (t 94) (t 96)),aD 99 98,aa 16 99] ((ac [aa 101 16,aJ 102 33 [t 101],aa 100 102,aV 103 100 0,aV 104 100 1,aa 17 103,aa 18 104] (ac [aa 105 18,aq 106 .neq 105 0,aa 107 106,bt 108 107 (cM 17),bt 109 107 (un UnOp.not (t 108)),cO 110 (pick (t 107) cK (t 109)),aa 111 110,bt 112 111 (cM 16),bt 113 111 (lenS (t 112)),bt 114 111 (cB .eql (t 113) (cN 0)),cO 115 (pick (t 111) cK (t 114))] (ay 115 (ac [cO 6 (mov a8)] ret) skip))).seq (ac [bB 117 1 3,aa 118 16,aJ 119 21 [t 117,t 118],aa 116 119,aV 120 116 0,aV 121 116 1,aV 122 116 2,aV 123 116 3,aa 19 120,aa 20 121,aa 21 122,aa 22 123] (ac [aa 124 22,aq 125 .neq 124 0,aa 126 125,bt 127 126 (cM 21),cO 128 (pick (t 126) cK (t 127)),aa 129 128,bt 130 129 (ldn 1 (t 3)),bt 131 129 (cM 16),bt 132 129 (cM 20),bt 133 129 (call (cF 27) [t 130,t 131,t 132]),bt 134 129 (cB .neq (t 133) (cN 0)),cO 135 (pick (t 129) cK (t 134))] (ay 135 (ac [cO 6 (mov a8)] ret) skip)))))).seq (ops 0 [aq 136 .add 96 1,aa 96 136])))).loop)).seq (ac [bB 138 1 3,aa 139 7,aq 140 .add 139 1,aa 141 2,aJ 142 34 [t 138,t 140,t 141],aa 137 142,aV 143 137 0,aV 144 137 1,aa 23 143,aa 24 144] ((ac [aa 145 24,aq 146 .neq 145 0] (ay 146 (ac [aJ 147 12 [],aa 6 147] ret) skip)).seq (ac [aa 149 23,aJ 150 29 [t 149],aa 148 150,aV 151 148 0,aV 152 148 1,aa 25 151,aa 26 152] ((ac [aa 153 26,aq 154 .neq 153 0] (ay 154 (ac [cO 6 (mov a8)] ret) skip)).seq ((ac [aa 155 8,bi 156 155,cO 157 (mov (cN 0))] (block 2 (ac [aP 158 .lss 157 156] ((ay 158 skip (exit 2)).seq ((block 3 (ac [cO 159 (ixaS 1 (t 155) (t 157)),aD 160 159,aa 28 160] (ac [aa 162 25,aa 163 28,aJ 164 35 [t 162,t 163],aa 161 164,aV 165 161 0,aV 166 161 1,aa 29 165,aa 30 166] ((ac [aa 167 30,aq 168 .neq 167 0] (ay 168 (ac [cO 6 (mov a8)] ret) skip)).seq (ops 0 [aa 169 29,aa 25 169]))))).seq (ops 0 [aq 170 .add 157 1,aa 157 170])))).loop)).seq ((mixS 9 [bB 172 1 3,aa 173 7,aa 174 8,aJ 175 36 [t 174],aa 176 25,cO 177 (bldS 1 1 [AV.esl] [(0,1,t 176)]),cO 178 (app 1 24 (t 175) (t 177)),aJ 179 31 [t 172,t 173,t 178],aa 171 179,aV 180 171 0,aV 181 171 1,aa 31 180,aa 32 181] [(0,0),(1,0),(2,0),(4,0),(5,3),(3,1),(6,1),(7,2),(8,0),(9,0),(10,0),(11,0),(12,0)]).seq (ac [aa 182 32,aq 183 .eql 182 0,aa 184 183,an 185 184 (cM 31),an 186 184 (un UnOp.not (t 185)),cO 187 (pick (t 184) (t 186) a8),aa 188 187,an 189 188 (call (cF 12) []),cO 190 (pick (t 188) (t 189) a8),aa 6 190] ret)))))))))))))))))))
theorem is9:Is Tryz.prog 9 b9:=mkI Tryz.func9
def b11:F2:=(F2.mk 40 [RV.t 4] (ac [cO 2 (box (t 0)),cO 4 (mov a8)] ((ac [aa 10 1,bi 11 10,cO 12 (mov (cN 0))] (block 0 (ac [aP 13 .lss 12 11] ((ay 13 skip (exit 0)).seq ((block 1 (ac [cO 14 (ixaS 1 (t 10) (t 12)),aD 15 14,aa 6 15] (ac [aa 16 6,aJ 17 40 [t 16],cO 18 (un UnOp.not (t 17))] (ay 18 (ac [cO 4 (mov a8)] ret) skip)))).seq (ops 0 [aq 19 .add 12 1,aa 12 19])))).loop)).seq (ac [cO 7 (mov (cN 0))] ((ac [ce 20 0 2,aD 21 20,bi 22 21,cO 23 (mov (cN 0))] (block 2 (ac [aP 24 .lss 23 22] ((ay 24 skip (exit 2)).seq ((block 3 (ac [cO 25 (ixaS 1 (t 21) (t 23)),aD 26 25,aa 9 26] (ops 0 [aa 27 7,aa 28 9,bi 29 28,cO 30 (mn (t 29) [cN ((10))]),cO 31 (cB .shl (cN 1) (t 30)),aP 32 .add 27 31,aa 7 32]))).seq (ops 0 [aq 33 .add 23 1,aa 23 33])))).loop)).seq (ac [bB 34 1 2,aJ 35 41 [t 34],aa 36 35,an 37 36 (cM 7),an 38 36 (cB .leq (t 37) (cN 400)),cO 39 (pick (t 36) (t 38) a8),aa 4 39] ret))))))
theorem Pm:Is Tryz.prog 11 b11:=mkI Tryz.func11
def b12:F2:=(F2.mk 193 [RV.t 0] (ac [cO 0 (mov a8)] (ac [cO 21 (bldS 1 2 [bj] [(0,1,cN ((0))),(1,1,cN ((1)))]),aJ 22 42 [t 21],cO 23 (bldS 1 2 [bj] [(0,1,cN ((0))),(1,1,cN ((2)))]),aJ 24 42 [t 23],cO 25 (bldS 1 2 [bj] [(0,1,cN ((1))),(1,1,cN ((2)))]),aJ 26 42 [t 25],cO 27 (bldS 1 3 [AV.esl] [(0,1,t 22),(1,1,t 24),(2,1,t 26)]),aa 1 27] (ac [aa 28 1,cO 29 (bld [AV.esl] [(0,1,t 28)]),cO 30 (bldS 1 3 [bj] [(0,1,cN ((0))),(1,1,cN ((1))),(2,1,cN ((2)))]),aJ 31 42 [t 30],cO 32 (bldS 1 1 [AV.esl] [(0,1,t 31)]),cO 33 (bld [AV.esl] [(0,1,t 32)]),cO 2 (alloc (AV.agg [AV.esl])),cO 3 (alloc (AV.agg [AV.esl])),bl 1 2 29,bl 1 3 33] (ac [cO 34 (bldS 1 3 [bj] [(0,1,cN ((0))),(1,1,cN ((1))),(2,1,cN ((2)))]),aJ 35 42 [t 34],cO 36 (bldS 1 3 [bj] [(0,1,cN ((0))),(1,1,cN ((1))),(2,1,cN ((3)))]),aJ 37 42 [t 36],cO 38 (bldS 1 3 [bj] [(0,1,cN ((0))),(1,1,cN ((2))),(2,1,cN ((3)))]),aJ 39 42 [t 38],cO 40 (bldS 1 3 [bj] [(0,1,cN ((1))),(1,1,cN ((2))),(2,1,cN ((3)))]),aJ 41 42 [t 40],cO 42 (bldS 1 4 [AV.esl] [(0,1,t 35),(1,1,t 37),(2,1,t 39),(3,1,t 41)]),cO 43 (bld [AV.esl] [(0,1,t 42)]),cO 4 (alloc (AV.agg [AV.esl])),bl 1 4 43] (ac [bB 45 1 2,aJ 46 13 [t 45],aa 44 46,aV 47 44 0,aV 48 44 1,aa 5 47,aa 6 48] (ac [bB 50 1 3,aJ 51 13 [t 50],aa 49 51,aV 52 49 0,aV 53 49 1,aa 7 52,aa 8 53] (ac [bB 55 1 4,aJ 56 13 [t 55],aa 54 56,aV 57 54 0,aV 58 54 1,aa 9 57,aa 10 58] (ac [bB 60 1 2,aJ 61 18 ([t 60,cN ((1))]),aa 59 61,aV 62 59 0,aV 63 59 1,aa 11 62,aa 12 63] ((ac [aa 64 6,aa 65 8,aP 66 .add 64 65,aa 67 10,aP 68 .add 66 67,aa 69 12,aP 70 .add 68 69,aq 71 .neq 70 0,aa 72 71,bt 73 72 (cM 5),bt 74 72 (bldS 1 2 [bj] [(0,1,cN ((1))),(1,1,cN ((1)))]),bt 75 72 (call (cF 17) [t 73,t 74]),bt 76 72 (un UnOp.not (t 75)),cO 77 (pick (t 72) cK (t 76)),aa 78 77,bt 79 78 (cM 7),bt 80 78 (bldS 1 3 [bj] [(0,1,cN ((1))),(1,1,cN ((0))),(2,1,cN ((0)))]),bt 81 78 (call (cF 17) [t 79,t 80]),bt 82 78 (un UnOp.not (t 81)),cO 83 (pick (t 78) cK (t 82)),aa 84 83,bt 85 84 (cM 9),bt 86 84 (bldS 1 3 [bj] [(0,1,cN ((1))),(1,1,cN ((0))),(2,1,cN ((1)))]),bt 87 84 (call (cF 17) [t 85,t 86]),bt 88 84 (un UnOp.not (t 87)),cO 89 (pick (t 84) cK (t 88)),aa 90 89,bt 91 90 (cM 11),bt 92 90 (lenS (t 91)),bt 93 90 (cB .neq (t 92) (cN 1)),cO 94 (pick (t 90) cK (t 93)),aa 95 94,bt 96 95 (cM 11),bt 97 95 (ixaS 1 (t 96) (cN 0)),bt 98 95 (cD 97),bt 99 95 (cM 1),bt 100 95 (call (cF 23) [t 98,t 99]),bt 101 95 (un UnOp.not (t 100)),cO 102 (pick (t 95) cK (t 101))] (ay 102 (ac [cO 0 (mov a8)] ret) skip)).seq (ac [bB 104 1 2,aa 105 1,aJ 106 21 [t 104,t 105],aa 103 106,aV 107 103 0,aV 108 103 1,aV 109 103 2,aV 110 103 3,aa 13 107,aa 14 108,aa 15 109,aa 6 110] (ac [bB 112 1 3,aa 113 1,aJ 114 21 [t 112,t 113],aa 111 114,aV 115 111 0,aV 116 111 1,aV 117 111 2,aV 118 111 3,aa 16 115,aa 17 116,aa 18 117,aa 8 118] (ac [bB 120 1 4,aJ 121 15 ([t 120,cN ((1))]),aa 119 121,aV 122 119 0,aV 123 119 1,aa 19 122,aa 10 123] (ac [bB 125 1 4,aJ 126 15 ([t 125,cN ((2))]),aa 124 126,aV 127 124 0,aV 128 124 1,aa 20 127,aa 12 128] ((ac [aa 129 6,aa 130 8,aP 131 .add 129 130,aa 132 10,aP 133 .add 131 132,aa 134 12,aP 135 .add 133 134,aq 136 .neq 135 0,aa 137 136,bt 138 137 (cM 15),cO 139 (pick (t 137) cK (t 138)),aa 140 139,bt 141 140 (cM 18),bt 142 140 (un UnOp.not (t 141)),cO 143 (pick (t 140) cK (t 142)),aa 144 143,bt 145 144 (cM 19),bt 146 144 (un UnOp.not (t 145)),cO 147 (pick (t 144) cK (t 146)),aa 148 147,bt 149 148 (cM 20),cO 150 (pick (t 148) cK (t 149)),aa 151 150,bt 152 151 (cM 16),bt 153 151 (bldS 1 3 [bj] [(0,1,cN ((0))),(1,1,cN ((1))),(2,1,cN ((2)))]),bt 154 151 (call (cF 42) [t 153]),bt 155 151 (bldS 1 1 [AV.esl] [(0,1,t 154)]),bt 156 151 (call (cF 23) [t 152,t 155]),bt 157 151 (un UnOp.not (t 156)),cO 158 (pick (t 151) cK (t 157))] (ay 158 (ac [cO 0 (mov a8)] ret) skip)).seq ((mix 1 [bB 159 1 2,aa 160 1,aa 161 14,aJ 162 27 [t 159,t 160,t 161],aq 163 .eql 162 0,aa 164 163,an 165 164 (ldn 1 (t 2)),an 166 164 (cM 1),an 167 164 (cM 1),an 168 164 (sls 1 (t 167) (some (cN 2)) none none),an 169 164 (call (cF 27) [t 165,t 166,t 168]),an 170 164 (cB .eql (t 169) (cN 0)),cO 171 (pick (t 164) (t 170) a8),aa 172 171,an 173 172 (ldn 1 (t 3)),an 174 172 (cM 1),an 175 172 (cM 1),an 176 172 (sls 1 (t 175) (some (cN 2)) none none),an 177 172 (call (cF 27) [t 173,t 174,t 176]),an 178 172 (cB .eql (t 177) (cN 18)),cO 179 (pick (t 172) (t 178) a8),aa 180 179,an 181 180 (ldn 1 (t 3)),an 182 180 (cM 1),an 183 180 (cM 16),an 184 180 (call (cF 25) [t 181,t 182,t 183]),an 185 180 (cB .eql (t 184) (cN 0)),cO 186 (pick (t 180) (t 185) a8),aa 187 186,an 188 187 (ldn 1 (t 2)),an 189 187 (cM 1),an 190 187 (call (cF 25) [t 188,t 189,c AV.esl]),an 191 187 (cB .eql (t 190) (cN 18)),cO 192 (pick (t 187) (t 191) a8),aa 0 192] [1,2,0,3,4,5,7,8,9,6,10,11,12,13,15,16,17,14,18,19,20,21,23,24,22,25,26,27,28,30,29,31,32,33,34]).seq ret))))))))))))))))
theorem PH:Is Tryz.prog 12 b12:=mkI Tryz.func12
def b13:F2:=(F2.mk 14 [RV.t 2,RV.t 3] (ac [cO 1 (box (t 0)),cO 2 (mov (c AV.esl)),cO 3 (mov (cN 0))] ((ac [bB 5 1 1,aJ 6 43 [t 5],aa 4 6] (ac [aa 7 4,aq 8 .neq 7 0] (ay 8 (ac [aa 9 4,cO 2 (mov (c AV.esl)),aa 3 9] ret) skip))).seq (ac [bB 10 1 1,aJ 11 44 [t 10],aV 12 11 0,aV 13 11 1,aa 2 12,aa 3 13] ret))))
theorem Pi:Is Tryz.prog 13 b13:=mkI Tryz.func13
def b15:F2:=(F2.mk 47 [RV.t 4,RV.t 5] (ac [cO 2 (box (t 0)),cO 4 (mov a8),cO 5 (mov (cN 0))] ((ac [bB 9 1 2,aJ 10 43 [t 9],aa 6 10] (ac [aa 11 6,aq 12 .neq 11 0] (ay 12 (ac [aa 13 6,cO 4 (mov a8),aa 5 13] ret) skip))).seq ((ac [aa 14 1,cO 15 (cB .lss (t 14) (cN ((-1)))),aa 16 15,bt 17 16 (cM 1),bt 18 16 (cB .geq (t 17) (cN 8)),cO 19 (pick (t 16) cK (t 18))] (ay 19 (ac [cO 4 (mov a8),cO 5 (mov (cN 2))] ret) skip)).seq (ac [bB 21 1 2,aJ 22 44 [t 21],aa 20 22,aV 23 20 0,aV 24 20 1,aa 7 23,aa 8 24] ((ac [aa 25 8,aq 26 .neq 25 0,aa 27 26,bt 28 27 (cM 7),bt 29 27 (lenS (t 28)),bt 30 27 (cB .eql (t 29) (cN 0)),cO 31 (pick (t 27) cK (t 30))] (ay 31 (ac [aa 32 8,cO 4 (mov a8),aa 5 32] ret) skip)).seq (ac [aa 33 7,cO 34 (ixaS 1 (t 33) (cN 0)),aD 35 34,aq 36 .sub 35 1,cO 37 (ixaS 1 (t 33) (cN 0)),bl 1 37 36] (ac [aa 38 7,aa 39 1,aq 40 .add 39 1,aa 41 7,bi 42 41,cO 43 (mn (t 40) [t 42]),cO 44 (sls 1 (t 38) none (some (t 43)) none),aJ 45 48 ([t 44,c (AV.func 49 [])]),cO 46 (un UnOp.not (t 45)),aa 4 46,cO 5 (mov (cN 0))] ret))))))))
theorem Ph:Is Tryz.prog 15 b15:=mkI Tryz.func15
def b17:F2:=(F2.mk 26 [RV.t 4] (ac [cO 4 (mov a8)] ((ac [aa 6 0,bi 7 6,aa 8 1,bi 9 8,aP 10 .neq 7 9] (ay 10 (ac [cO 4 (mov a8)] ret) skip)).seq ((ac [aa 11 0,bi 12 11,cO 13 (mov (cN 0))] (block 0 (ac [aP 14 .lss 13 12] ((ay 14 skip (exit 0)).seq ((block 1 (ac [aa 15 13,aa 5 15] ((ops 1 [aa 16 0,aa 17 5,cO 18 (ixaS 1 (t 16) (t 17)),aD 19 18,aa 20 1,aa 21 5,cO 22 (ixaS 1 (t 20) (t 21)),aD 23 22,aP 24 .neq 19 23]).seq (ay 24 (ac [cO 4 (mov a8)] ret) skip)))).seq (ops 0 [aq 25 .add 13 1,aa 13 25])))).loop)).seq (ac [cO 4 (mov cK)] ret)))))
theorem Pp:Is Tryz.prog 17 b17:=mkI Tryz.func17
def b18:F2:=(F2.mk 46 [RV.c1 4,RV.c1 5] (ac [cO 2 (box (t 0)),cO 3 (box (t 1)),cO 4 (alloc AV.esl),cO 5 (alloc (bj))] ((ac [bB 12 1 2,aJ 13 43 [t 12],aa 6 13] (ac [aa 14 6,aq 15 .neq 14 0] (ay 15 (ac [aa 16 6,Op2.mk none none (Ins.st 1 (t 4) (c AV.esl)),bl 1 5 16] ret) skip))).seq ((ac [aD 17 3,aq 18 .lss 17 0,aa 19 18,bt 20 19 (cD 3),bt 21 19 (cB .geq (t 20) (cN 8)),cO 22 (pick (t 19) cK (t 21))] (ay 22 (ac [Op2.mk none none (Ins.st 1 (t 4) (c AV.esl)),Op2.mk none none (Ins.st 1 (t 5) (cN 2))] ret) skip)).seq (ac [cO 7 (alloc AV.esl)] ((ac [bB 23 1 2,aD 24 3,aJ 25 50 [t 23,t 24]] (block 0 (rangeF (t 25) [26,27] (ac [aa 8 26] (ops 0 [aa 9 27])) (block 1 ((ac [aa 28 9,aq 29 .neq 28 0] (ay 29 (ac [aa 30 9,Op2.mk none none (Ins.st 1 (t 4) (c AV.esl)),bl 1 5 30] ret) skip)).seq (ac [bB 32 1 2,aD 33 3,aa 34 8,aJ 35 34 [t 32,t 33,t 34],aa 31 35,aV 36 31 0,aV 37 31 1,aa 10 36,aa 11 37] ((ac [aa 38 11,aq 39 .neq 38 0] (ay 39 (ac [aa 40 11,Op2.mk none none (Ins.st 1 (t 4) (c AV.esl)),bl 1 5 40] ret) skip)).seq (ops 0 [aD 41 7,aa 42 10,cO 43 (bldS 1 1 [AV.esl] [(0,1,t 42)]),cO 44 (app 1 24 (t 41) (t 43)),bl 1 7 44])))))))).seq (ac [aD 45 7,bl 1 4 45,Op2.mk none none (Ins.st 1 (t 5) (cN 0))] ret)))))))
theorem PR:Is Tryz.prog 18 b18:=mkI Tryz.func18
def b21:F2:=(F2.mk 84 [RV.t 4,RV.t 5,RV.t 6,RV.t 7] (ac [cO 2 (box (t 0)),cO 4 (mov (c AV.esl)),cO 5 (mov (c AV.esl)),cO 6 (mov a8),cO 7 (mov (cN 0))] ((ac [bB 19 1 2,aJ 20 43 [t 19],aa 8 20] (ac [aa 21 8,aq 22 .neq 21 0] (ay 22 (ac [aa 23 8,cO 4 (mov (c AV.esl)),cO 5 (mov (c AV.esl)),cO 6 (mov a8),aa 7 23] ret) skip))).seq (ac [bB 25 1 2,aa 26 1,aJ 27 57 [t 25,t 26],aa 24 27,aV 28 24 0,aV 29 24 1,aa 9 28,aa 10 29] ((ac [aa 30 10,aq 31 .neq 30 0] (ay 31 (ac [aa 32 10,cO 4 (mov (c AV.esl)),cO 5 (mov (c AV.esl)),cO 6 (mov a8),aa 7 32] ret) skip)).seq ((ac [aa 33 1,bi 34 33,aq 35 .eql 34 0] (ay 35 (ac [cO 4 (mov (c AV.esl)),cO 5 (mov (c AV.esl)),cO 6 (mov cK),cO 7 (mov (cN 0))] ret) skip)).seq (ac [aa 36 1,cO 37 (ixaS 1 (t 36) (cN 0)),aD 38 37,bi 39 38,aq 40 .sub 39 1,aa 11 40] (ac [bB 42 1 2,aa 43 11,aq 44 .add 43 1,aJ 45 58 [t 42,t 44],aa 41 45,aV 46 41 0,aV 47 41 1,cO 12 (alloc (AV.agg [bj,AV.esl])),bl 2 12 46,aa 10 47] ((ac [aa 48 10,aq 49 .neq 48 0] (ay 49 (ac [aa 50 10,cO 4 (mov (c AV.esl)),cO 5 (mov (c AV.esl)),cO 6 (mov a8),aa 7 50] ret) skip)).seq (ac [bB 52 2 12,aa 53 9,aJ 54 59 [t 52,t 53],aa 51 54,aV 55 51 0,aV 56 51 1,aV 57 51 2,aV 58 51 3,aa 13 55,aa 14 56,aa 15 57,aa 10 58] ((ac [aa 59 10,aq 60 .neq 59 0] (ay 60 (ac [aa 61 10,cO 4 (mov (c AV.esl)),cO 5 (mov (c AV.esl)),cO 6 (mov a8),aa 7 61] ret) skip)).seq ((ac [aa 62 15] (ay 62 (ac [bB 64 1 2,aa 65 11,aq 66 .add 65 1,aa 67 13,aJ 68 34 [t 64,t 66,t 67],aa 63 68,aV 69 63 0,aV 70 63 1,aa 16 69,aa 17 70] (ac [aa 71 16,aa 72 17,aq 73 .eql 72 0,aa 74 17,aa 4 71,cO 5 (mov (c AV.esl)),aa 6 73,aa 7 74] ret)) skip)).seq (ac [bB 76 1 2,aa 77 11,aa 78 14,aJ 79 34 [t 76,t 77,t 78],aa 75 79,aV 80 75 0,aV 81 75 1,aa 18 80,aa 10 81] (ac [aa 82 18,aa 83 10,cO 4 (mov (c AV.esl)),aa 5 82,cO 6 (mov a8),aa 7 83] ret))))))))))))))
theorem OX:Is Tryz.prog 21 b21:=mkI Tryz.func21
def b23:F2:=(F2.mk 27 [RV.t 4] (ac [cO 4 (mov a8)] ((ac [aa 6 0,bi 7 6,aa 8 1,bi 9 8,aP 10 .neq 7 9] (ay 10 (ac [cO 4 (mov a8)] ret) skip)).seq ((ac [cO 5 (mov (cN 0))] (block 0 ((ac [aa 11 5,aa 12 0,bi 13 12,aP 14 .lss 11 13] (ay 14 skip (exit 0))).seq ((block 1 ((mixS 1 [aa 17 0,aa 18 5,cO 19 (ixaS 1 (t 17) (t 18)),aD 20 19,aa 21 1,aa 22 5,cO 23 (ixaS 1 (t 21) (t 22)),aD 24 23,aJ 25 63 [t 20,t 24],cO 26 (un UnOp.not (t 25))] [(0,0),(1,0),(2,0),(3,0),(4,0),(5,0),(6,0),(7,0),(8,2),(9,0)]).seq (ay 26 (ac [cO 4 (mov a8)] ret) skip))).seq (ops 0 [aa 15 5,aq 16 .add 15 1,aa 5 16]))).loop)).seq (ac [cO 4 (mov cK)] ret)))))
theorem PC:Is Tryz.prog 23 b23:=mkI Tryz.func23
def b25:F2:=(F2.mk 55 [RV.t 6] (ac [cO 3 (box (t 0)),cO 6 (mov (cN 0))] ((ac [bB 13 1 3,aa 14 1,aa 15 2,aJ 16 67 [t 13,t 14,t 15],aa 12 16,aV 17 12 0,aV 18 12 1,aV 19 12 2,aa 7 17,aa 8 18,aa 9 19] (ac [aa 20 9,aq 21 .neq 20 0] (ay 21 (ac [aa 22 9,aa 6 22] ret) skip))).seq (((ops 1 [aa 23 1,bi 24 23,aq 25 .gtr 24 0,aa 26 25,an 27 26 (cM 2),an 28 26 (lenS (t 27)),an 29 26 (cB .gtr (t 28) (cN 0)),cO 30 (pick (t 26) (t 29) a8),aa 31 30,an 32 31 (cM 2),an 33 31 (ixaS 1 (t 32) (cN 0)),an 34 31 (cD 33),an 35 31 (lenS (t 34)),an 36 31 (cM 1),an 37 31 (ixaS 1 (t 36) (cN 0)),an 38 31 (cD 37),an 39 31 (lenS (t 38)),an 40 31 (cB .add (t 39) (cN 1)),an 41 31 (cB .neq (t 35) (t 40)),cO 42 (pick (t 31) (t 41) a8)]).seq (ay 42 (ac [cO 6 (mov (cN 15))] ret) skip)).seq (ac [aa 44 2,aJ 45 29 [t 44],aa 43 45,aV 46 43 0,aV 47 43 1,aa 10 46,aa 11 47] ((ac [aa 48 11,aq 49 .neq 48 0] (ay 49 (ac [aa 50 11,aa 6 50] ret) skip)).seq ((ac [aa 51 10,aa 52 1,aJ 53 68 ([t 51,t 52,c (AV.func 69 [])]),cO 54 (un UnOp.not (t 53))] (ay 54 (ac [cO 6 (mov (cN 18))] ret) skip)).seq (ac [cO 6 (mov (cN 0))] ret))))))))
theorem Ps:Is Tryz.prog 25 b25:=mkI Tryz.func25
def b27:F2:=(F2.mk 55 [RV.t 6] (ac [cO 3 (box (t 0)),cO 6 (mov (cN 0))] (ac [bB 12 1 3,aa 13 1,aa 14 2,aJ 15 67 [t 12,t 13,t 14],aa 11 15,aV 16 11 0,aV 17 11 1,aV 18 11 2,aa 7 16,aa 8 17,aa 9 18] ((ac [aa 19 9,aq 20 .neq 19 0] (ay 20 (ac [aa 21 9,aa 6 21] ret) skip)).seq ((ac [aa 22 1,bi 23 22,aq 24 .eql 23 0,aa 25 24,bt 26 25 (cM 2),bt 27 25 (lenS (t 26)),bt 28 25 (cB .eql (t 27) (cN 0)),cO 29 (pick (t 25) cK (t 28))] (ay 29 (ac [cO 6 (mov (cN 18))] ret) skip)).seq (((ops 1 [aa 30 1,cO 31 (ixaS 1 (t 30) (cN 0)),aD 32 31,bi 33 32,aa 34 2,cO 35 (ixaS 1 (t 34) (cN 0)),aD 36 35,bi 37 36,aP 38 .neq 33 37]).seq (ay 38 (ac [cO 6 (mov (cN 15))] ret) skip)).seq ((ops 1 [bB 40 1 3,aa 41 1,cO 42 (ixaS 1 (t 41) (cN 0)),aD 43 42,bi 44 43,aJ 45 58 [t 40,t 44],aa 39 45,aV 46 39 0,aV 47 39 1,cO 10 (alloc (AV.agg [bj,AV.esl])),bl 2 10 46,aa 9 47]).seq ((ac [aa 48 9,aq 49 .neq 48 0] (ay 49 (ac [aa 50 9,aa 6 50] ret) skip)).seq (ac [bB 51 2 10,aa 52 7,aa 53 8,aJ 54 71 [t 51,t 52,t 53],aa 6 54] ret)))))))))
theorem OZ:Is Tryz.prog 27 b27:=mkI Tryz.func27
def b28:F2:=(F2.mk 68 [RV.t 2] (ac [cO 1 (box (t 0)),cO 2 (mov (cN 0))] (ac [ce 8 0 1,aD 9 8,aa 3 9] ((ac [aa 10 3,bi 11 10,aq 12 .gtr 11 4096] (ay 12 (ac [cO 2 (mov (cN 5))] ret) skip)).seq ((ac [cO 4 (mov (cN 0))] (block 0 ((ac [aa 13 4,aa 14 3,bi 15 14,aP 16 .lss 13 15] (ay 16 skip (exit 0))).seq ((block 1 ((ac [aa 19 3,aa 20 4,cO 21 (ixaS 1 (t 19) (t 20)),aD 22 21,aJ 23 72 [t 22],aa 5 23] (ac [aa 24 5,aq 25 .neq 24 0] (ay 25 (ac [aa 26 5,aa 2 26] ret) skip))).seq ((mixS 1 [aa 27 4,aq 28 .gtr 27 0,aa 29 28,an 30 29 (cM 3),an 31 29 (cM 4),an 32 29 (cB .sub (t 31) (cN 1)),an 33 29 (ixaS 1 (t 30) (t 32)),an 34 29 (cD 33),an 35 29 (cM 3),an 36 29 (cM 4),an 37 29 (ixaS 1 (t 35) (t 36)),an 38 29 (cD 37),an 39 29 (call (cF 73) [t 34,t 38]),an 40 29 (cB .geq (t 39) (cN 0)),cO 41 (pick (t 29) (t 40) a8)] [(0,0),(1,0),(2,0),(3,0),(4,0),(5,0),(6,0),(7,0),(8,0),(9,0),(10,0),(11,0),(12,2),(13,0),(14,0)]).seq (ay 41 (ac [cO 2 (mov (cN 14))] ret) skip)))).seq (ops 0 [aa 17 4,aq 18 .add 17 1,aa 4 18]))).loop)).seq ((ac [cO 6 (mov (cN 0))] (block 2 ((ac [aa 42 6,aa 43 3,bi 44 43,aP 45 .lss 42 44] (ay 45 skip (exit 2))).seq ((block 3 (ac [cO 7 (mov (cN 0))] (block 4 ((ac [aa 48 7,aa 49 3,bi 50 49,aP 51 .lss 48 50] (ay 51 skip (exit 4))).seq ((block 5 ((mixS 1 [aa 54 6,aa 55 7,aP 56 .neq 54 55,aa 57 56,an 58 57 (cM 3),an 59 57 (cM 6),an 60 57 (ixaS 1 (t 58) (t 59)),an 61 57 (cD 60),an 62 57 (cM 3),an 63 57 (cM 7),an 64 57 (ixaS 1 (t 62) (t 63)),an 65 57 (cD 64),an 66 57 (call (cF 74) [t 61,t 65]),cO 67 (pick (t 57) (t 66) a8)] [(0,0),(1,0),(2,0),(3,0),(4,0),(5,0),(6,0),(7,0),(8,0),(9,0),(10,0),(11,0),(12,2),(13,0)]).seq (ay 67 (ac [cO 2 (mov (cN 7))] ret) skip))).seq (ops 0 [aa 52 7,aq 53 .add 52 1,aa 7 53]))).loop))).seq (ops 0 [aa 46 6,aq 47 .add 46 1,aa 6 47]))).loop)).seq (ac [cO 2 (mov (cN 0))] ret)))))))
theorem OV:Is Tryz.prog 28 b28:=mkI Tryz.func28
def b29:F2:=(F2.mk 15 [RV.t 2,RV.t 3] (ac [cO 2 (mov (c AV.esl)),cO 3 (mov (cN 0))] ((ac [aa 5 0,aJ 6 75 [t 5],aa 4 6] (ac [aa 7 4,aq 8 .neq 7 0] (ay 8 (ac [aa 9 4,cO 2 (mov (c AV.esl)),aa 3 9] ret) skip))).seq (ac [aa 10 0,aJ 11 77 [t 10],aJ 12 76 [t 11],aV 13 12 0,aV 14 12 1,aa 2 13,aa 3 14] ret))))
theorem O6:Is Tryz.prog 29 b29:=mkI Tryz.func29
def b30:F2:=(F2.mk 60 [RV.t 4,RV.t 5] (ac [cO 2 (box (t 0)),cO 4 (mov (c AV.esl)),cO 5 (mov (cN 0))] ((ac [bB 15 1 2,aJ 16 78 [t 15],aa 6 16] (ac [aa 17 6,aq 18 .neq 17 0] (ay 18 (ac [aa 19 6,cO 4 (mov (c AV.esl)),aa 5 19] ret) skip))).seq ((ac [aa 20 1,aJ 21 75 [t 20],aa 7 21] (ac [aa 22 7,aq 23 .neq 22 0] (ay 23 (ac [aa 24 7,cO 4 (mov (c AV.esl)),aa 5 24] ret) skip))).seq ((ac [aa 25 1,bi 26 25,aq 27 .eql 26 0] (ay 27 (ac [cO 4 (mov (c AV.esl)),cO 5 (mov (cN 0))] ret) skip)).seq ((mixS 1 [bB 29 1 2,aa 30 1,cO 31 (ixaS 1 (t 30) (cN 0)),aD 32 31,bi 33 32,aJ 34 79 [t 29,t 33],aa 28 34,aV 35 28 0,aV 36 28 1,aa 8 35,aa 9 36] [(0,0),(1,0),(2,0),(3,0),(4,0),(5,2),(6,0),(7,0),(8,0),(9,0),(10,0)]).seq ((ac [aa 37 9,aq 38 .neq 37 0] (ay 38 (ac [aa 39 9,cO 4 (mov (c AV.esl)),aa 5 39] ret) skip)).seq (ac [cO 10 (mov (c AV.esl))] ((ac [aa 40 1,bi 41 40,cO 42 (mov (cN 0))] (block 0 (ac [aP 43 .lss 42 41] ((ay 43 skip (exit 0)).seq ((block 1 (ac [cO 44 (ixaS 1 (t 40) (t 42)),aD 45 44,aa 12 45] (ac [aa 47 8,aa 48 12,aJ 49 80 [t 47,t 48],aa 46 49,aV 50 46 0,aV 51 46 1,aa 13 50,aa 14 51] ((ac [aa 52 14,cO 53 (un UnOp.not (t 52))] (ay 53 (ac [cO 4 (mov (c AV.esl)),cO 5 (mov (cN 6))] ret) skip)).seq (ops 0 [aa 54 10,aa 55 13,cO 56 (bldS 1 1 [bj] [(0,1,t 55)]),cO 57 (app 1 8 (t 54) (t 56)),aa 10 57]))))).seq (ops 0 [aq 58 .add 42 1,aa 42 58])))).loop)).seq (ac [aa 59 10,aa 4 59,cO 5 (mov (cN 0))] ret))))))))))
theorem Pw:Is Tryz.prog 30 b30:=mkI Tryz.func30
def b31:F2:=(F2.mk 105 [RV.t 6,RV.t 7] (ac [cO 3 (box (t 0)),cO 6 (mov a8),cO 7 (mov (cN 0))] ((ac [bB 20 1 3,aJ 21 43 [t 20],aa 8 21] (ac [aa 22 8,aq 23 .neq 22 0] (ay 23 (ac [aa 24 8,cO 6 (mov a8),aa 7 24] ret) skip))).seq ((block 0 (ac [aa 26 1,aq 27 .lss 26 0,aa 28 27,bt 29 28 (cM 1),bt 30 28 (cB .geq (t 29) (cN 8)),cO 31 (pick (t 28) cK (t 30)),aa 25 31] (ay 25 (ac [cO 6 (mov a8),cO 7 (mov (cN 2))] ret) (ac [aa 33 2,bi 34 33,aq 35 .gtr 34 1024,aa 32 35] (ay 32 (ac [cO 6 (mov a8),cO 7 (mov (cN 5))] ret) skip))))).seq (ac [cO 9 (mov (c AV.esl))] ((ac [aa 36 2,bi 37 36,cO 38 (mov (cN 0))] (block 1 (ac [aP 39 .lss 38 37] ((ay 39 skip (exit 1)).seq ((block 2 (ac [cO 40 (ixaS 1 (t 36) (t 38)),aD 41 40,aa 11 41] (ac [bB 43 1 3,aa 44 11,aJ 45 57 [t 43,t 44],aa 42 45,aV 46 42 0,aV 47 42 1,aa 12 46,aa 13 47] ((ac [aa 48 13,aq 49 .eql 48 0,aa 50 49,bt 51 50 (cM 13),bt 52 50 (cB .eql (t 51) (cN 3)),cO 53 (pick (t 50) cK (t 52)),aa 54 53,an 55 54 (cM 11),an 56 54 (lenS (t 55)),an 57 54 (cB .gtr (t 56) (cN 0)),cO 58 (pick (t 54) (t 57) a8),aa 59 58,an 60 59 (cM 11),an 61 59 (ixaS 1 (t 60) (cN 0)),an 62 59 (cD 61),an 63 59 (lenS (t 62)),an 64 59 (cM 1),an 65 59 (cB .add (t 64) (cN 1)),an 66 59 (cB .neq (t 63) (t 65)),cO 67 (pick (t 59) (t 66) a8)] (ay 67 (ac [cO 6 (mov a8),cO 7 (mov (cN 15))] ret) skip)).seq ((ac [aa 68 13,aq 69 .neq 68 0] (ay 69 (ac [aa 70 13,cO 6 (mov a8),aa 7 70] ret) skip)).seq (ops 0 [aa 71 9,aa 72 12,cO 73 (bldS 1 1 [AV.esl] [(0,1,t 72)]),cO 74 (app 1 24 (t 71) (t 73)),aa 9 74])))))).seq (ops 0 [aq 75 .add 38 1,aa 38 75])))).loop)).seq (ac [bB 77 1 3,aa 78 1,aJ 79 81 [t 77,t 78],aa 76 79,aV 80 76 0,aV 81 76 1,aa 14 80,aa 15 81] ((ac [aa 82 15,aq 83 .neq 82 0] (ay 83 (ac [aa 84 15,cO 6 (mov a8),aa 7 84] ret) skip)).seq ((ac [aa 85 9,bi 86 85,cO 87 (mov (cN 0))] (block 3 (ac [aP 88 .lss 87 86] ((ay 88 skip (exit 3)).seq ((block 4 (ac [cO 89 (ixaS 1 (t 85) (t 87)),aD 90 89,aa 17 90] (ac [aa 92 14,aa 93 17,aJ 94 82 [t 92,t 93],aa 91 94,aV 95 91 0,aV 96 91 1,aa 18 95,aa 19 96] (ac [aa 97 19,aq 98 .neq 97 0,aa 99 98,bt 100 99 (cM 18),bt 101 99 (un UnOp.not (t 100)),cO 102 (pick (t 99) cK (t 101))] (ay 102 (ac [aa 103 19,cO 6 (mov a8),aa 7 103] ret) skip))))).seq (ops 0 [aq 104 .add 87 1,aa 87 104])))).loop)).seq (ac [cO 6 (mov cK),cO 7 (mov (cN 0))] ret))))))))))
theorem PQ:Is Tryz.prog 31 b31:=mkI Tryz.func31
def b33:F2:=(F2.mk 14 [RV.t 2,RV.t 3] (ac [cO 2 (mov a8),cO 3 (mov (cN 0))] ((ac [aa 5 0,aJ 6 75 [t 5],aa 4 6] (ac [aa 7 4,aq 8 .neq 7 0] (ay 8 (ac [aa 9 4,cO 2 (mov a8),aa 3 9] ret) skip))).seq (ac [aa 10 0,aJ 11 77 [t 10],bi 12 11,aq 13 .eql 12 0,aa 2 13,cO 3 (mov (cN 0))] ret))))
theorem PU:Is Tryz.prog 33 b33:=mkI Tryz.func33
def b34:F2:=(F2.mk 72 [RV.t 6,RV.t 7] (ac [cO 3 (box (t 0)),cO 6 (mov (c AV.esl)),cO 7 (mov (cN 0))] ((ac [bB 14 1 3,aJ 15 78 [t 14],aa 8 15] (ac [aa 16 8,aq 17 .neq 16 0] (ay 17 (ac [aa 18 8,cO 6 (mov (c AV.esl)),aa 7 18] ret) skip))).seq ((ac [aa 19 1,aq 20 .lss 19 0,aa 21 20,bt 22 21 (cM 1),bt 23 21 (cB .geq (t 22) (cN 8)),cO 24 (pick (t 21) cK (t 23))] (ay 24 (ac [cO 6 (mov (c AV.esl)),cO 7 (mov (cN 2))] ret) skip)).seq (ac [bB 26 1 3,aa 27 1,aJ 28 83 [t 26,t 27],aa 25 28,aV 29 25 0,aV 30 25 1,aa 9 29,aa 10 30] ((ac [aa 31 10,aq 32 .neq 31 0] (ay 32 (ac [aa 33 10,cO 6 (mov (c AV.esl)),aa 7 33] ret) skip)).seq (ac [cO 11 (mov (c AV.esl))] ((ac [aa 34 2,bi 35 34,cO 36 (mov (cN 0))] (block 0 (ac [aP 37 .lss 36 35] ((ay 37 skip (exit 0)).seq ((block 1 (ac [aa 38 36,cO 39 (ixaS 1 (t 34) (t 36)),aD 40 39,aa 12 38,aa 13 40] ((block 2 (ac [aa 42 13,aq 43 .lss 42 0,aa 44 43,bt 45 44 (cM 13),bt 46 44 (cM 9),bt 47 44 (lenS (t 46)),bt 48 44 (cB .geq (t 45) (t 47)),cO 49 (pick (t 44) cK (t 48)),aa 41 49] (ay 41 (ac [cO 6 (mov (c AV.esl)),cO 7 (mov (cN 2))] ret) (ac [aa 51 12,aq 52 .gtr 51 0,aa 53 52,an 54 53 (cM 13),an 55 53 (cM 2),an 56 53 (cM 12),an 57 53 (cB .sub (t 56) (cN 1)),an 58 53 (ixaS 1 (t 55) (t 57)),an 59 53 (cD 58),an 60 53 (cB .leq (t 54) (t 59)),cO 61 (pick (t 53) (t 60) a8),aa 50 61] (ay 50 (ac [cO 6 (mov (c AV.esl)),cO 7 (mov (cN 14))] ret) skip))))).seq (ops 0 [aa 62 11,aa 63 9,aa 64 13,cO 65 (ixaS 1 (t 63) (t 64)),aD 66 65,cO 67 (bldS 1 1 [AV.esl] [(0,1,t 66)]),cO 68 (app 1 24 (t 62) (t 67)),aa 11 68])))).seq (ops 0 [aq 69 .add 36 1,aa 36 69])))).loop)).seq (ac [aa 70 11,aJ 71 84 [t 70],aa 6 71,cO 7 (mov (cN 0))] ret)))))))))
theorem O5:Is Tryz.prog 34 b34:=mkI Tryz.func34
def b35:F2:=(F2.mk 39 [RV.t 4,RV.t 5] (ac [cO 4 (mov (c AV.esl)),cO 5 (mov (cN 0))] ((ac [aa 7 0,aa 8 1,cO 9 (bldS 1 2 [AV.esl] [(0,1,t 7),(1,1,t 8)]),aJ 10 85 [t 9],aa 6 10] (ac [aa 11 6,aq 12 .neq 11 0] (ay 12 (ac [aa 13 6,cO 4 (mov (c AV.esl)),aa 5 13] ret) skip))).seq (((ops 1 [aa 14 0,bi 15 14,aq 16 .gtr 15 0,aa 17 16,an 18 17 (cM 1),an 19 17 (lenS (t 18)),an 20 17 (cB .gtr (t 19) (cN 0)),cO 21 (pick (t 17) (t 20) a8),aa 22 21,an 23 22 (cM 0),an 24 22 (ixaS 1 (t 23) (cN 0)),an 25 22 (cD 24),an 26 22 (lenS (t 25)),an 27 22 (cM 1),an 28 22 (ixaS 1 (t 27) (cN 0)),an 29 22 (cD 28),an 30 22 (lenS (t 29)),an 31 22 (cB .neq (t 26) (t 30)),cO 32 (pick (t 22) (t 31) a8)]).seq (ay 32 (ac [cO 4 (mov (c AV.esl)),cO 5 (mov (cN 15))] ret) skip)).seq (ac [aa 33 0,aa 34 1,aJ 35 86 ([t 33,t 34,c (AV.func 70 [])]),aJ 36 76 [t 35],aV 37 36 0,aV 38 36 1,aa 4 37,aa 5 38] ret)))))
theorem Pc:Is Tryz.prog 35 b35:=mkI Tryz.func35
def b36:F2:=(F2.mk 8 [RV.t 2] (ac [cO 2 (mov (c AV.esl))] ((ac [aa 3 0,cO 4 (snil false (t 3))] (ay 4 (ac [cO 2 (mov (c AV.esl))] ret) skip)).seq (ac [cO 5 (bldS 1 0 [AV.esl] []),aa 6 0,cO 7 (app 1 24 (t 5) (t 6)),aa 2 7] ret))))
theorem OY:Is Tryz.prog 36 b36:=mkI Tryz.func36
def b37:F2:=(F2.mk 40 [RV.t 2,RV.t 3] (ac [cO 1 (box (t 0)),cO 2 (mov (cN 0)),cO 3 (mov (cN 0))] ((ac [bB 9 1 1,aJ 10 78 [t 9],aa 4 10] (ac [aa 11 4,aq 12 .neq 11 0] (ay 12 (ac [aa 13 4,cO 2 (mov (cN 0)),aa 3 13] ret) skip))).seq (ac [cO 5 (mov (cN 0))] ((ac [cO 6 (mov (cN 1))] (block 0 ((ac [aa 14 6,aq 15 .leq 14 8] (ay 15 skip (exit 0))).seq ((block 1 (ac [ce 19 0 1,aD 20 19,aa 21 6,aJ 22 87 [t 20,t 21],aa 18 22,aV 23 18 0,aV 24 18 1,aa 7 23,aa 8 24] ((ac [aa 25 8,aq 26 .neq 25 0] (ay 26 (ac [aa 27 8,cO 2 (mov (cN 0)),aa 3 27] ret) skip)).seq (ac [aa 28 6,aq 29 .rem 28 2,aq 30 .eql 29 1] (ay 30 (ops 0 [aa 31 5,aa 32 7,bi 33 32,aP 34 .add 31 33,aa 5 34]) (ops 0 [aa 35 5,aa 36 7,bi 37 36,aP 38 .sub 35 37,aa 5 38])))))).seq (ops 0 [aa 16 6,aq 17 .add 16 1,aa 6 17]))).loop)).seq (ac [aa 39 5,aa 2 39,cO 3 (mov (cN 0))] ret))))))
theorem Mw:Is Tryz.prog 37 b37:=mkI Tryz.func37
def b40:F2:=(F2.mk 28 [RV.t 2] (ac [cO 2 (mov a8)] ((ac [cO 3 (mov (cN 0))] (block 0 ((ac [aa 4 3,aa 5 0,bi 6 5,aP 7 .lss 4 6,aa 8 7,an 9 8 (cM 3),an 10 8 (cB .lss (t 9) (cN 50)),cO 11 (pick (t 8) (t 10) a8)] (ay 11 skip (exit 0))).seq ((block 1 (ac [aa 14 0,aa 15 3,cO 16 (ixaS 1 (t 14) (t 15)),aD 17 16,bi 18 17,aq 19 .gtr 18 10] (ay 19 (ac [cO 2 (mov a8)] ret) skip))).seq (ops 0 [aa 12 3,aq 13 .add 12 1,aa 3 13]))).loop)).seq (ac [aa 20 0,bi 21 20,aq 22 .leq 21 40,aa 23 22,bt 24 23 (cM 0),bt 25 23 (lenS (t 24)),bt 26 23 (cB .gtr (t 25) (cN 4096)),cO 27 (pick (t 23) cK (t 26)),aa 2 27] ret))))
theorem Pk:Is Tryz.prog 40 b40:=mkI Tryz.func40
def b41:F2:=(F2.mk 6 [RV.t 2] (ac [cO 1 (box (t 0)),cO 2 (mov a8)] (ac [ce 3 0 1,aD 4 3,aJ 5 95 [t 4],aa 2 5] ret)))
theorem PD:Is Tryz.prog 41 b41:=mkI Tryz.func41
def b42:F2:=(F2.mk 19 [RV.t 2] (ac [cO 2 (mov (c AV.esl))] (ac [cO 3 (mov (c AV.esl))] ((ac [aa 6 0,bi 7 6,cO 8 (mov (cN 0))] (block 0 (ac [aP 9 .lss 8 7] ((ay 9 skip (exit 0)).seq ((block 1 (ac [cO 10 (ixaS 1 (t 6) (t 8)),aD 11 10,aa 5 11] (ops 0 [aa 12 3,aa 13 5,cO 14 (bld [bj,bj] [(0,1,t 13)]),cO 15 (bldS 2 1 [bj,bj] [(0,2,t 14)]),cO 16 (app 2 16 (t 12) (t 15)),aa 3 16]))).seq (ops 0 [aq 17 .add 8 1,aa 8 17])))).loop)).seq (ac [aa 18 3,aa 2 18] ret)))))
theorem PM:Is Tryz.prog 42 b42:=mkI Tryz.func42
def b43:F2:=(F2.mk 11 [RV.t 2] (ac [cO 1 (box (t 0)),cO 2 (mov (cN 0))] (ac [bB 6 1 1,aJ 7 37 [t 6],aa 5 7,aV 8 5 0,aV 9 5 1,aa 3 8,aa 4 9] (ac [aa 10 4,aa 2 10] ret))))
theorem Kn:Is Tryz.prog 43 b43:=mkI Tryz.func43
def b44:F2:=(F2.mk 79 [RV.t 2,RV.t 3] (ac [cO 1 (box (t 0)),cO 2 (mov (c AV.esl)),cO 3 (mov (cN 0))] (ac [bB 16 1 1,aJ 17 96 [t 16],aa 15 17,aV 18 15 0,aV 19 15 1,aV 20 15 2,aa 4 18,aa 5 19,aa 6 20] ((ac [aa 21 6,aq 22 .neq 21 0] (ay 22 (ac [aa 23 6,cO 2 (mov (c AV.esl)),aa 3 23] ret) skip)).seq (ac [cO 24 (mkm none),aa 7 24] ((ac [aa 25 4,aq 26 .add 25 2,cO 27 (mov (cN 0))] (block 0 (ac [aP 28 .lss 27 26] ((ay 28 skip (exit 0)).seq ((block 1 (ac [aa 29 27,aa 8 29] (ac [bB 31 1 1,aa 32 8,aJ 33 58 [t 31,t 32],aa 30 33,aV 34 30 0,aV 35 30 1,cO 9 (alloc (AV.agg [bj,AV.esl])),bl 2 9 34,aa 10 35] ((ac [aa 36 10,aq 37 .neq 36 0] (ay 37 (ac [aa 38 10,cO 2 (mov (c AV.esl)),aa 3 38] ret) skip)).seq (ac [aa 40 7,aa 41 8,bB 42 2 9,aJ 43 97 [t 42],aa 39 43,aV 44 39 0,aV 45 39 1,Op2.mk none none (mput (one int) (t 40) (t 41) (t 44)),aa 10 45] (ac [aa 46 10,aq 47 .neq 46 0] (ay 47 (ac [aa 48 10,cO 2 (mov (c AV.esl)),aa 3 48] ret) skip))))))).seq (ops 0 [aq 49 .add 27 1,aa 27 49])))).loop)).seq (ac [cO 11 (mov (c AV.esl))] ((ac [aa 50 4,aq 51 .add 50 1,cO 52 (mov (cN 0))] (block 2 (ac [aP 53 .lss 52 51] ((ay 53 skip (exit 2)).seq ((block 3 (ac [aa 54 52,aa 12 54] (ac [bB 56 1 1,aa 57 12,aJ 58 98 [t 56,t 57],aa 55 58,aV 59 55 0,aV 60 55 1,aa 13 59,aa 14 60] ((ac [aa 61 14,aq 62 .neq 61 0] (ay 62 (ac [aa 63 14,cO 2 (mov (c AV.esl)),aa 3 63] ret) skip)).seq (ops 0 [aa 64 11,aa 65 13,aa 66 7,aa 67 12,cO 68 (Ins.mget (one int) (bj) false (t 66) (t 67)),aP 69 .sub 65 68,aa 70 7,aa 71 12,aq 72 .add 71 1,cO 73 (Ins.mget (one int) (bj) false (t 70) (t 72)),aP 74 .sub 69 73,cO 75 (bldS 1 1 [bj] [(0,1,t 74)]),cO 76 (app 1 8 (t 64) (t 75)),aa 11 76]))))).seq (ops 0 [aq 77 .add 52 1,aa 52 77])))).loop)).seq (ac [aa 78 11,aa 2 78,cO 3 (mov (cN 0))] ret)))))))))
theorem Mc:Is Tryz.prog 44 b44:=mkI Tryz.func44
def b48:F2:=(F2.mk 9 [RV.t 4] (ac [cO 4 (mov a8)] (ac [aa 5 0,aa 6 1,aJ 7 101 [t 5,t 6],aq 8 .geq 7 0,aa 4 8] ret)))
theorem PY:Is Tryz.prog 48 b48:=mkI Tryz.func48
def b49:F2:=(F2.mk 5 [RV.t 2] (ac [cO 2 (mov a8)] (ac [aa 3 0,aq 4 .neq 3 0,aa 2 4] ret)))
theorem PF:Is Tryz.prog 49 b49:=mkI Tryz.func49
def b50:F2:=(F2.mk 6 [RV.t 4] (ac [cO 2 (box (t 0)),cO 3 (box (t 1)),cO 4 (mov (c AV.nilf))] (ac [cO 5 (mkfn 102 [t 2,t 3]),aa 4 5] ret)))
theorem Po:Is Tryz.prog 50 b50:=mkI Tryz.func50
def b57:F2:=(F2.mk 31 [RV.t 4,RV.t 5] (ac [cO 2 (box (t 0)),cO 4 (mov (c AV.esl)),cO 5 (mov (cN 0))] (ac [bB 10 1 2,aa 11 1,aJ 12 30 [t 10,t 11],aa 9 12,aV 13 9 0,aV 14 9 1,aa 6 13,aa 7 14] ((ac [aa 15 7,aq 16 .neq 15 0] (ay 16 (ac [aa 17 7,cO 4 (mov (c AV.esl)),aa 5 17] ret) skip)).seq (ac [aa 19 1,aJ 20 33 [t 19],aa 18 20,aV 21 18 0,aV 22 18 1,aa 8 21,aa 7 22] ((ac [aa 23 7,aq 24 .eql 23 0,aa 25 24,an 26 25 (cM 8),an 27 25 (un UnOp.not (t 26)),cO 28 (pick (t 25) (t 27) a8)] (ay 28 (ac [cO 4 (mov (c AV.esl)),cO 5 (mov (cN 3))] ret) skip)).seq (ac [aa 29 6,aa 30 7,aa 4 29,aa 5 30] ret)))))))
theorem PE:Is Tryz.prog 57 b57:=mkI Tryz.func57
def b58:F2:=(F2.mk 26 [RV.cn 4 2,RV.t 5] (ac [cO 2 (box (t 0)),cO 4 (alloc (AV.agg [bj,AV.esl])),cO 5 (mov (cN 0))] ((ac [aa 8 1,aq 9 .lss 8 8] (ay 9 (ac [bB 10 1 2,aa 11 1,aJ 12 112 [t 10,t 11],aV 13 12 0,aV 14 12 1,bl 2 4 13,aa 5 14] ret) skip)).seq (ac [bB 16 1 2,aa 17 1,aq 18 .sub 17 1,aJ 19 98 [t 16,t 18],aa 15 19,aV 20 15 0,aV 21 15 1,aa 6 20,aa 7 21] (ac [aa 22 6,cO 23 (mks 1 24 [AV.esl] (t 22) (t 22)),cO 24 (bld [bj,AV.esl] [(1,1,t 23)]),aa 25 7,bl 2 4 24,aa 5 25] ret)))))
theorem Pb:Is Tryz.prog 58 b58:=mkI Tryz.func58
def b59:F2:=(F2.mk 65 [RV.t 4,RV.t 5,RV.t 6,RV.t 7] (ac [cO 2 (box (t 0)),cO 4 (mov (c AV.esl)),cO 5 (mov (c AV.esl)),cO 6 (mov a8),cO 7 (mov (cN 0))] ((ac [bB 17 2 2,aJ 18 113 [t 17],aa 8 18] (ac [aa 19 8,aq 20 .neq 19 0] (ay 20 (ac [aa 21 8,cO 4 (mov (c AV.esl)),cO 5 (mov (c AV.esl)),cO 6 (mov a8),aa 7 21] ret) skip))).seq ((ac [aa 22 1,ce 23 1 2,aD 24 23,bi 25 24,aJ 26 114 [t 22,t 25],aa 9 26] (ac [aa 27 9,aq 28 .neq 27 0] (ay 28 (ac [aa 29 9,cO 4 (mov (c AV.esl)),cO 5 (mov (c AV.esl)),cO 6 (mov a8),aa 7 29] ret) skip))).seq (ac [bB 31 2 2,aJ 32 115 [t 31],aa 30 32,aV 33 30 0,aV 34 30 1,aa 10 33,aa 11 34] ((ac [aa 35 11,bi 36 35,cO 37 (mov (cN 0))] (block 0 (ac [aP 38 .lss 37 36] ((ay 38 skip (exit 0)).seq ((block 1 (ac [cO 39 (ixaS 1 (t 35) (t 37)),aD 40 39,aa 13 40] (ac [aa 41 13,aa 42 1,aJ 43 116 [t 41,t 42]] (ay 43 (ac [aa 44 13,cO 4 (mov (c AV.esl)),aa 5 44,cO 6 (mov a8),cO 7 (mov (cN 0))] ret) skip)))).seq (ops 0 [aq 45 .add 37 1,aa 37 45])))).loop)).seq (ac [cO 14 (mov (c AV.esl))] ((ac [aa 46 10,bi 47 46,cO 48 (mov (cN 0))] (block 2 (ac [aP 49 .lss 48 47] ((ay 49 skip (exit 2)).seq ((block 3 (ac [cO 50 (ixaS 2 (t 46) (t 48)),bB 51 2 50,cO 16 (alloc (AV.agg [AV.esl,AV.esl])),bl 2 16 51] (ac [ce 52 1 16,aD 53 52,aa 54 1,aJ 55 116 [t 53,t 54]] (ay 55 (ops 0 [aa 56 14,ce 57 0 16,aD 58 57,cO 59 (ixaS 1 (t 58) (cN 0)),aD 60 59,cO 61 (bldS 1 1 [bj] [(0,1,t 60)]),cO 62 (app 1 8 (t 56) (t 61)),aa 14 62]) skip)))).seq (ops 0 [aq 63 .add 48 1,aa 48 63])))).loop)).seq (ac [aa 64 14,aa 4 64,cO 5 (mov (c AV.esl)),cO 6 (mov cK),cO 7 (mov (cN 0))] ret)))))))))
theorem PT:Is Tryz.prog 59 b59:=mkI Tryz.func59
def b63:F2:=(F2.mk 9 [RV.t 4] (ac [cO 4 (mov a8)] (ac [aa 5 0,aa 6 1,aJ 7 73 [t 5,t 6],aq 8 .eql 7 0,aa 4 8] ret)))
theorem Pg:Is Tryz.prog 63 b63:=mkI Tryz.func63
def b67:F2:=(F2.mk 36 [RV.t 6,RV.t 7,RV.t 8] (ac [cO 3 (box (t 0)),cO 6 (mov (c AV.esl)),cO 7 (mov (c AV.esl)),cO 8 (mov (cN 0))] ((ac [bB 13 1 3,aJ 14 43 [t 13],aa 9 14] (ac [aa 15 9,aq 16 .neq 15 0] (ay 16 (ac [aa 17 9,cO 6 (mov (c AV.esl)),cO 7 (mov (c AV.esl)),aa 8 17] ret) skip))).seq (ac [bB 19 1 3,aa 20 1,aJ 21 30 [t 19,t 20],aa 18 21,aV 22 18 0,aV 23 18 1,aa 10 22,aa 11 23] ((ac [aa 24 11,aq 25 .neq 24 0] (ay 25 (ac [aa 26 11,cO 6 (mov (c AV.esl)),cO 7 (mov (c AV.esl)),aa 8 26] ret) skip)).seq (ac [bB 28 1 3,aa 29 2,aJ 30 30 [t 28,t 29],aa 27 30,aV 31 27 0,aV 32 27 1,aa 12 31,aa 11 32] (ac [aa 33 10,aa 34 12,aa 35 11,aa 6 33,aa 7 34,aa 8 35] ret)))))))
theorem PN:Is Tryz.prog 67 b67:=mkI Tryz.func67
def b68:F2:=(F2.mk 32 [RV.t 6] (ac [cO 6 (mov a8)] ((ac [aa 10 0,bi 11 10,aa 12 1,bi 13 12,aP 14 .neq 11 13] (ay 14 (ac [cO 6 (mov a8)] ret) skip)).seq ((ac [aa 15 0,bi 16 15,cO 17 (mov (cN 0))] (block 0 (ac [aP 18 .lss 17 16] ((ay 18 skip (exit 0)).seq ((block 1 (ac [aa 19 17,cO 20 (ixaS 1 (t 15) (t 17)),aD 21 20,aa 7 19,aa 8 21] (ac [aa 22 1,aa 23 7,cO 24 (ixaS 1 (t 22) (t 23)),aD 25 24,aa 9 25] (ac [aa 26 2,aa 27 8,aa 28 9,cO 29 (call (t 26) [t 27,t 28]),cO 30 (un UnOp.not (t 29))] (ay 30 (ac [cO 6 (mov a8)] ret) skip))))).seq (ops 0 [aq 31 .add 17 1,aa 17 31])))).loop)).seq (ac [cO 6 (mov cK)] ret)))))
theorem Pz:Is Tryz.prog 68 b68:=mkI Tryz.func68
def b69:F2:=(F2.mk 9 [RV.t 4] (ac [cO 4 (mov a8)] (ac [aa 5 0,aa 6 1,aJ 7 70 [t 5,t 6],aq 8 .eql 7 0,aa 4 8] ret)))
theorem PK:Is Tryz.prog 69 b69:=mkI Tryz.func69
def b70:F2:=(F2.mk 8 [RV.t 4] (ac [cO 4 (mov (cN 0))] (ac [aa 5 0,aa 6 1,aJ 7 122 ([t 5,t 6,c (AV.func 123 [])]),aa 4 7] ret)))
theorem PX:Is Tryz.prog 70 b70:=mkI Tryz.func70
def b71:F2:=(F2.mk 57 [RV.t 6] (ac [cO 3 (box (t 0)),cO 6 (mov (cN 0))] ((ac [bB 13 2 3,aJ 14 113 [t 13],aa 7 14] (ac [aa 15 7,aq 16 .neq 15 0] (ay 16 (ac [aa 17 7,aa 6 17] ret) skip))).seq ((ac [aa 18 1,ce 19 1 3,aD 20 19,bi 21 20,aJ 22 114 [t 18,t 21],aa 8 22] (ac [aa 23 8,aq 24 .neq 23 0] (ay 24 (ac [aa 25 8,aa 6 25] ret) skip))).seq ((ac [aa 26 2,ce 27 1 3,aD 28 27,bi 29 28,aJ 30 114 [t 26,t 29],aa 9 30] (ac [aa 31 9,aq 32 .neq 31 0] (ay 32 (ac [aa 33 9,aa 6 33] ret) skip))).seq (ac [cO 10 (mov (c AV.esl))] ((ac [aa 34 2,bi 35 34,cO 36 (mov (cN 0))] (block 0 (ac [aP 37 .lss 36 35] ((ay 37 skip (exit 0)).seq ((block 1 (ac [cO 38 (ixaS 1 (t 34) (t 36)),aD 39 38,aa 12 39] (ops 0 [aa 40 10,ce 41 1 3,aD 42 41,aa 43 12,cO 44 (ixaS 1 (t 42) (t 43)),aD 45 44,aJ 46 124 [t 40,t 45],aa 10 46]))).seq (ops 0 [aq 47 .add 36 1,aa 36 47])))).loop)).seq ((ac [aa 48 10,bi 49 48,aq 50 .gtr 49 0,aa 51 50,bt 52 51 (cM 2),bt 53 51 (cM 1),bt 54 51 (call (cF 116) [t 52,t 53]),bt 55 51 (un UnOp.not (t 54)),cO 56 (pick (t 51) cK (t 55))] (ay 56 (ac [cO 6 (mov (cN 18))] ret) skip)).seq (ac [cO 6 (mov (cN 0))] ret)))))))))
theorem O7:Is Tryz.prog 71 b71:=mkI Tryz.func71
def b72:F2:=(F2.mk 39 [RV.t 2] (ac [cO 2 (mov (cN 0))] ((block 0 (ac [aa 5 0,bi 6 5,aq 7 .eql 6 0,aa 4 7] (ay 4 (ac [cO 2 (mov (cN 16))] ret) (ac [aa 9 0,bi 10 9,aq 11 .gtr 10 8,aa 8 11] (ay 8 (ac [cO 2 (mov (cN 5))] ret) skip))))).seq ((ac [cO 3 (mov (cN 0))] (block 1 ((ac [aa 12 3,aa 13 0,bi 14 13,aP 15 .lss 12 14] (ay 15 skip (exit 1))).seq ((block 2 ((ac [aa 18 0,aa 19 3,cO 20 (ixaS 2 (t 18) (t 19)),bB 21 2 20,aJ 22 125 [t 21],cO 23 (un UnOp.not (t 22))] (ay 23 (ac [cO 2 (mov (cN 2))] ret) skip)).seq ((mixS 1 [aa 24 3,aq 25 .gtr 24 0,aa 26 25,an 27 26 (cM 0),an 28 26 (cM 3),an 29 26 (cB .sub (t 28) (cN 1)),an 30 26 (ixaS 2 (t 27) (t 29)),an 31 26 (ldn 2 (t 30)),an 32 26 (cM 0),an 33 26 (cM 3),an 34 26 (ixaS 2 (t 32) (t 33)),an 35 26 (ldn 2 (t 34)),an 36 26 (call (cF 126) [t 31,t 35]),an 37 26 (cB .geq (t 36) (cN 0)),cO 38 (pick (t 26) (t 37) a8)] [(0,0),(1,0),(2,0),(3,0),(4,0),(5,0),(6,0),(7,0),(8,0),(9,0),(10,0),(11,0),(12,2),(13,0),(14,0)]).seq (ay 38 (ac [cO 2 (mov (cN 14))] ret) skip)))).seq (ops 0 [aa 16 3,aq 17 .add 16 1,aa 3 17]))).loop)).seq (ac [cO 2 (mov (cN 0))] ret)))))
theorem Pu:Is Tryz.prog 72 b72:=mkI Tryz.func72
def b73:F2:=(F2.mk 43 [RV.t 4] (ac [cO 4 (mov (cN 0))] ((ac [cO 5 (mov (cN 0))] (block 0 ((ac [aa 7 5,aa 8 0,bi 9 8,aP 10 .lss 7 9,aa 11 10,an 12 11 (cM 5),an 13 11 (cM 1),an 14 11 (lenS (t 13)),an 15 11 (cB .lss (t 12) (t 14)),cO 16 (pick (t 11) (t 15) a8)] (ay 16 skip (exit 0))).seq ((block 1 ((mixS 1 [aa 19 0,aa 20 5,cO 21 (ixaS 2 (t 19) (t 20)),bB 22 2 21,aa 23 1,aa 24 5,cO 25 (ixaS 2 (t 23) (t 24)),bB 26 2 25,aJ 27 126 [t 22,t 26],aa 6 27] [(0,0),(1,0),(2,0),(3,0),(4,0),(5,0),(6,0),(7,0),(8,2),(9,0)]).seq (ac [aa 28 6,aq 29 .neq 28 0] (ay 29 (ac [aa 30 6,aa 4 30] ret) skip)))).seq (ops 0 [aa 17 5,aq 18 .add 17 1,aa 5 18]))).loop)).seq ((block 2 (ac [aa 32 0,bi 33 32,aa 34 1,bi 35 34,aP 36 .lss 33 35,aa 31 36] (ay 31 (ac [cO 4 (mov (cN ((-1))))] ret) (ac [aa 38 0,bi 39 38,aa 40 1,bi 41 40,aP 42 .gtr 39 41,aa 37 42] (ay 37 (ac [cO 4 (mov (cN 1))] ret) skip))))).seq (ac [cO 4 (mov (cN 0))] ret)))))
theorem Pj:Is Tryz.prog 73 b73:=mkI Tryz.func73
def b74:F2:=(F2.mk 19 [RV.t 4] (ac [cO 4 (mov a8)] ((ac [cO 5 (mov (cN 0))] (block 0 ((ac [aa 6 5,aa 7 0,bi 8 7,aP 9 .lss 6 8] (ay 9 skip (exit 0))).seq ((block 1 (ac [aa 12 1,aa 13 0,aa 14 5,cO 15 (ixaS 2 (t 13) (t 14)),bB 16 2 15,aJ 17 127 [t 12,t 16],cO 18 (un UnOp.not (t 17))] (ay 18 (ac [cO 4 (mov a8)] ret) skip))).seq (ops 0 [aa 10 5,aq 11 .add 10 1,aa 5 11]))).loop)).seq (ac [cO 4 (mov cK)] ret))))
theorem O1:Is Tryz.prog 74 b74:=mkI Tryz.func74
def b75:F2:=(F2.mk 43 [RV.t 2] (ac [cO 2 (mov (cN 0))] ((ac [aa 6 0,bi 7 6,aq 8 .gtr 7 4096] (ay 8 (ac [cO 2 (mov (cN 5))] ret) skip)).seq ((ac [aa 9 0,bi 10 9,cO 11 (mov (cN 0))] (block 0 (ac [aP 12 .lss 11 10] ((ay 12 skip (exit 0)).seq ((block 1 (ac [aa 13 11,cO 14 (ixaS 1 (t 9) (t 11)),aD 15 14,aa 3 13,aa 4 15] ((ac [aa 16 4,aJ 17 128 [t 16],aa 5 17] (ac [aa 18 5,aq 19 .neq 18 0] (ay 19 (ac [aa 20 5,aa 2 20] ret) skip))).seq (block 2 (ac [aa 22 4,bi 23 22,aa 24 0,cO 25 (ixaS 1 (t 24) (cN 0)),aD 26 25,bi 27 26,aP 28 .neq 23 27,aa 21 28] (ay 21 (ac [cO 2 (mov (cN 15))] ret) (ac [aa 30 3,aq 31 .gtr 30 0,aa 32 31,an 33 32 (cM 0),an 34 32 (cM 3),an 35 32 (cB .sub (t 34) (cN 1)),an 36 32 (ixaS 1 (t 33) (t 35)),an 37 32 (cD 36),an 38 32 (cM 4),an 39 32 (call (cF 70) [t 37,t 38]),an 40 32 (cB .geq (t 39) (cN 0)),cO 41 (pick (t 32) (t 40) a8),aa 29 41] (ay 29 (ac [cO 2 (mov (cN 14))] ret) skip)))))))).seq (ops 0 [aq 42 .add 11 1,aa 11 42])))).loop)).seq (ac [cO 2 (mov (cN 0))] ret)))))
theorem O4:Is Tryz.prog 75 b75:=mkI Tryz.func75
def b76:F2:=(F2.mk 9 [RV.t 2,RV.t 3] (ac [cO 2 (mov (c AV.esl)),cO 3 (mov (cN 0))] ((ac [aa 4 0,bi 5 4,aq 6 .gtr 5 4096] (ay 6 (ac [cO 2 (mov (c AV.esl)),cO 3 (mov (cN 5))] ret) skip)).seq (ac [aa 7 0,aJ 8 84 [t 7],aa 2 8,cO 3 (mov (cN 0))] ret))))
theorem Pq:Is Tryz.prog 76 b76:=mkI Tryz.func76
def b77:F2:=(F2.mk 52 [RV.t 2] (ac [cO 2 (mov (c AV.esl))] (ac [cO 13 (mkm none),cO 3 (alloc AV.nilm),bl 1 3 13] ((ac [aa 14 0,bi 15 14,cO 16 (mov (cN 0))] (block 0 (ac [aP 17 .lss 16 15] ((ay 17 skip (exit 0)).seq ((block 1 (ac [cO 18 (ixaS 1 (t 14) (t 16)),aD 19 18,aa 5 19] (ac [aa 20 5,aJ 21 129 [t 20]] (block 2 (rangeF (t 21) [22] (ops 0 [aa 6 22]) (block 3 (ac [cO 7 (alloc (AV.agg [bj,bj,bj,bj,bj,bj,bj,bj,bj,bj,bj,bj,bj,bj,bj,bj]))] (ac [cO 23 (slp 8 2 (t 7)),aa 24 6,cO 25 (cpy 2 (t 23) (t 24))] (ac [aD 27 3,bB 28 16 7,cO 29 (Ins.mget (MK.st [int,int,int,int,int,int,int,int,int,int,int,int,int,int,int,int]) AV.esl true (t 27) (t 28)),aa 26 29,aV 30 26 0,aV 31 26 1,aa 8 30,aa 9 31] (ac [aa 32 9] (ay 32 (ops 0 [aD 33 3,bB 34 16 7,Op2.mk none none (mdel (MK.st [int,int,int,int,int,int,int,int,int,int,int,int,int,int,int,int]) (t 33) (t 34))]) (ops 0 [aD 35 3,bB 36 16 7,aa 37 6,Op2.mk none none (mput (MK.st [int,int,int,int,int,int,int,int,int,int,int,int,int,int,int,int]) (t 35) (t 36) (t 37))])))))))))))).seq (ops 0 [aq 38 .add 16 1,aa 16 38])))).loop)).seq (ac [cO 10 (mov (c AV.esl))] ((ac [aD 39 3,cO 40 (mrng (t 39))] (block 4 (ac [cO 41 (mnxt (t 40)),aV 42 41 0] ((ay 42 skip (exit 4)).seq (block 5 (ac [cO 43 (ment (t 40)),aV 44 43 1,aa 12 44] (ops 0 [aa 45 10,aa 46 12,cO 47 (bldS 1 1 [AV.esl] [(0,1,t 46)]),cO 48 (app 1 24 (t 45) (t 47)),aa 10 48]))))).loop)).seq (ac [aa 49 10,aJ 50 130 ([t 49,c (AV.func 70 [])])] (ac [aa 51 10,aa 2 51] ret))))))))
theorem Pv:Is Tryz.prog 77 b77:=mkI Tryz.func77
def b78:F2:=(F2.mk 60 [RV.t 2] (ac [cO 1 (box (t 0)),cO 2 (mov (cN 0))] ((ac [ce 9 0 1,aD 10 9,bi 11 10,aq 12 .gtr 11 4096] (ay 12 (ac [cO 2 (mov (cN 5))] ret) skip)).seq ((ac [ce 13 0 1,aD 14 13,bi 15 14,cO 16 (mov (cN 0))] (block 0 (ac [aP 17 .lss 16 15] ((ay 17 skip (exit 0)).seq ((block 1 (ac [aa 18 16,cO 19 (ixaS 1 (t 14) (t 16)),aD 20 19,aa 3 18,aa 4 20] ((ac [aa 21 4,aJ 22 128 [t 21],aa 5 22] (ac [aa 23 5,aq 24 .neq 23 0] (ay 24 (ac [aa 25 5,aa 2 25] ret) skip))).seq (ac [aa 26 3,aq 27 .gtr 26 0,aa 28 27,an 29 28 (fa 0 (t 1)),an 30 28 (cD 29),an 31 28 (cM 3),an 32 28 (cB .sub (t 31) (cN 1)),an 33 28 (ixaS 1 (t 30) (t 32)),an 34 28 (cD 33),an 35 28 (cM 4),an 36 28 (call (cF 70) [t 34,t 35]),an 37 28 (cB .geq (t 36) (cN 0)),cO 38 (pick (t 28) (t 37) a8)] (ay 38 (ac [cO 2 (mov (cN 14))] ret) skip))))).seq (ops 0 [aq 39 .add 16 1,aa 16 39])))).loop)).seq (ac [ce 40 0 1,aD 41 40,aJ 42 92 [t 41],aa 6 42] ((ac [ce 43 0 1,aD 44 43,bi 45 44,cO 46 (mov (cN 0))] (block 2 (ac [aP 47 .lss 46 45] ((ay 47 skip (exit 2)).seq ((block 3 (ac [cO 48 (ixaS 1 (t 44) (t 46)),aD 49 48,aa 8 49] ((mixS 9 [ce 50 0 1,aD 51 50,aa 52 6,aa 53 8,cO 54 (ixaS 2 (t 53) (cN 0)),bB 55 2 54,cO 56 (Ins.mget (MK.st [int,int]) AV.esl false (t 52) (t 55)),aa 57 8,aJ 58 131 [t 51,t 56,t 57]] [(0,0),(1,0),(2,0),(3,0),(4,0),(5,0),(7,0),(6,1),(8,2)]).seq (ay 58 (ac [cO 2 (mov (cN 7))] ret) skip)))).seq (ops 0 [aq 59 .add 46 1,aa 46 59])))).loop)).seq (ac [cO 2 (mov (cN 0))] ret)))))))
theorem PJ:Is Tryz.prog 78 b78:=mkI Tryz.func78
def b79:F2:=(F2.mk 24 [RV.t 4,RV.t 5] (ac [cO 2 (box (t 0)),cO 4 (mov (c AV.esl)),cO 5 (mov (cN 0))] ((ac [bB 7 1 2,aJ 8 78 [t 7],aa 6 8] (ac [aa 9 6,aq 10 .neq 9 0] (ay 10 (ac [aa 11 6,cO 4 (mov (c AV.esl)),aa 5 11] ret) skip))).seq ((ac [aa 12 1,aq 13 .lss 12 1,aa 14 13,bt 15 14 (cM 1),bt 16 14 (cB .gtr (t 15) (cN 8)),cO 17 (pick (t 14) cK (t 16))] (ay 17 (ac [cO 4 (mov (c AV.esl)),cO 5 (mov (cN 2))] ret) skip)).seq (ac [ce 18 0 2,aD 19 18,aa 20 1,aJ 21 87 [t 19,t 20],aV 22 21 0,aV 23 21 1,aa 4 22,aa 5 23] ret)))))
theorem O8:Is Tryz.prog 79 b79:=mkI Tryz.func79
def b80:F2:=(F2.mk 11 [RV.t 4,RV.t 5] (ac [cO 4 (mov (cN 0)),cO 5 (mov a8)] (ac [aa 6 0,aa 7 1,aJ 8 132 ([t 6,t 7,c (AV.func 70 [])]),aV 9 8 0,aV 10 8 1,aa 4 9,aa 5 10] ret)))
theorem Pt:Is Tryz.prog 80 b80:=mkI Tryz.func80
def b81:F2:=(F2.mk 51 [RV.t 4,RV.t 5] (ac [cO 2 (box (t 0)),cO 4 (mov (c AV.nilp)),cO 5 (mov (cN 0))] (ac [bB 11 1 2,aa 12 1,aq 13 .add 12 1,aJ 14 58 [t 11,t 13],aa 10 14,aV 15 10 0,aV 16 10 1,cO 6 (alloc (AV.agg [bj,AV.esl])),bl 2 6 15,aa 7 16] ((ac [aa 17 7,aq 18 .neq 17 0] (ay 18 (ac [aa 19 7,cO 4 (mov (c AV.nilp)),aa 5 19] ret) skip)).seq (ac [bB 21 1 2,aa 22 1,aJ 23 98 [t 21,t 22],aa 20 23,aV 24 20 0,aV 25 20 1,aa 8 24,aa 7 25] ((ac [aa 26 7,aq 27 .neq 26 0] (ay 27 (ac [aa 28 7,cO 4 (mov (c AV.nilp)),aa 5 28] ret) skip)).seq (ac [bB 30 2 6,aJ 31 133 [t 30],aa 29 31,aV 32 29 0,aV 33 29 1,cO 9 (alloc (AV.agg [bj,AV.esl])),bl 2 9 32,aa 7 33] ((ac [aa 34 7,aq 35 .neq 34 0] (ay 35 (ac [aa 36 7,cO 4 (mov (c AV.nilp)),aa 5 36] ret) skip)).seq (ac [aa 37 8,ce 38 0 9,bl 1 38 37] (ac [bB 40 2 9,aJ 41 134 [t 40],aa 39 41,aV 42 39 0,aV 43 39 1,bl 2 9 42,aa 7 43] (ac [bB 44 2 9,ce 45 1 9,aD 46 45,bi 47 46,cO 48 (bld [bj,AV.esl,bj] [(0,2,t 44),(2,1,t 47)]),cO 49 (box (t 48)),aa 50 7,aa 4 49,aa 5 50] ret)))))))))))
theorem O3:Is Tryz.prog 81 b81:=mkI Tryz.func81
def b82:F2:=(F2.mk 48 [RV.t 4,RV.t 5] (ac [cO 4 (mov a8),cO 5 (mov (cN 0))] ((mixF [aa 9 0,cO 10 (nilck (t 9)),ce 11 0 10,ce 12 0 11,aD 13 12,aa 14 0,cO 15 (nilck (t 14)),ce 16 0 15,ce 17 1 16,aD 18 17,aJ 19 135 [t 18],aa 20 1,cO 21 (bldS 1 1 [AV.esl] [(0,1,t 20)]),cO 22 (app 1 24 (t 19) (t 21)),cO 23 (bld [bj,AV.esl] [(0,1,t 13),(1,1,t 22)]),cO 6 (alloc (AV.agg [bj,AV.esl])),bl 2 6 23] (15,1) [(0,0),(1,0),(2,0),(3,0),(4,0),(5,0),(6,0),(7,0),(8,0),(9,0),(11,0),(12,3),(10,1),(13,1),(14,0)] [(16,2)]).seq (ac [bB 25 2 6,aJ 26 97 [t 25],aa 24 26,aV 27 24 0,aV 28 24 1,aa 7 27,aa 8 28] ((ac [aa 29 8,aq 30 .neq 29 0,aa 31 30,bt 32 31 (cM 7),bt 33 31 (cM 0),bt 34 31 (nilck (t 33)),bt 35 31 (fa 2 (t 34)),bt 36 31 (cD 35),bt 37 31 (cB .eql (t 32) (t 36)),cO 38 (pick (t 31) cK (t 37))] (ay 38 (ac [aa 39 8,cO 4 (mov a8),aa 5 39] ret) skip)).seq (ac [aa 40 0,aa 41 0,bB 42 2 6,aa 43 7,cO 44 (nilck (t 40)),ce 45 0 44,bl 2 45 42,cO 46 (nilck (t 41)),ce 47 2 46,bl 1 47 43] (ac [cO 4 (mov cK),cO 5 (mov (cN 0))] ret)))))))
theorem PA:Is Tryz.prog 82 b82:=mkI Tryz.func82
def b83:F2:=(F2.mk 14 [RV.t 4,RV.t 5] (ac [cO 2 (box (t 0)),cO 4 (mov (c AV.esl)),cO 5 (mov (cN 0))] ((ac [aa 6 1,aq 7 .lss 6 0] (ay 7 (ac [cO 4 (mov (c AV.esl)),cO 5 (mov (cN 0))] ret) skip)).seq (ac [bB 8 1 2,aa 9 1,aq 10 .add 9 1,aJ 11 79 [t 8,t 10],aV 12 11 0,aV 13 11 1,aa 4 12,aa 5 13] ret))))
theorem Py:Is Tryz.prog 83 b83:=mkI Tryz.func83
def b84:F2:=(F2.mk 19 [RV.t 2] (ac [cO 2 (mov (c AV.esl))] (ac [cO 3 (mov (c AV.esl))] ((ac [aa 6 0,bi 7 6,cO 8 (mov (cN 0))] (block 0 (ac [aP 9 .lss 8 7] ((ay 9 skip (exit 0)).seq ((block 1 (ac [cO 10 (ixaS 1 (t 6) (t 8)),aD 11 10,aa 5 11] (ops 0 [aa 12 3,aa 13 5,aJ 14 136 [t 13],cO 15 (bldS 1 1 [AV.esl] [(0,1,t 14)]),cO 16 (app 1 24 (t 12) (t 15)),aa 3 16]))).seq (ops 0 [aq 17 .add 8 1,aa 8 17])))).loop)).seq (ac [aa 18 3,aa 2 18] ret)))))
theorem Pf:Is Tryz.prog 84 b84:=mkI Tryz.func84
def b85:F2:=(F2.mk 18 [RV.t 2] (ac [cO 2 (mov (cN 0))] ((ac [aa 6 0,bi 7 6,cO 8 (mov (cN 0))] (block 0 (ac [aP 9 .lss 8 7] ((ay 9 skip (exit 0)).seq ((block 1 (ac [cO 10 (ixaS 1 (t 6) (t 8)),aD 11 10,aa 4 11] (ac [aa 12 4,aJ 13 75 [t 12],aa 5 13] (ac [aa 14 5,aq 15 .neq 14 0] (ay 15 (ac [aa 16 5,aa 2 16] ret) skip))))).seq (ops 0 [aq 17 .add 8 1,aa 8 17])))).loop)).seq (ac [cO 2 (mov (cN 0))] ret))))
theorem PW:Is Tryz.prog 85 b85:=mkI Tryz.func85
def b86:F2:=(F2.mk 60 [RV.t 6] (ac [cO 6 (mov (c AV.esl))] (ac [cO 7 (mov (c AV.esl))] ((block 0 ((ac [aa 9 0,bi 10 9,aq 11 .gtr 10 0,aa 12 11,bt 13 12 (cM 1),bt 14 12 (lenS (t 13)),bt 15 12 (cB .gtr (t 14) (cN 0)),cO 16 (pick (t 12) cK (t 15))] (ay 16 skip (exit 0))).seq (block 1 (ac [cO 8 (mov (cN 1))] ((block 2 (ac [aa 18 1,bi 19 18,aq 20 .eql 19 0,aa 17 20] (ay 17 (ops 0 [cO 8 (mov (cN ((-1))))]) (ac [aa 22 0,bi 23 22,aq 24 .gtr 23 0,aa 21 24] (ay 21 (mixS 1 [aa 25 2,aa 26 0,cO 27 (ixaS 1 (t 26) (cN 0)),aD 28 27,aa 29 1,cO 30 (ixaS 1 (t 29) (cN 0)),aD 31 30,cO 32 (call (t 25) [t 28,t 31]),aa 8 32] [(0,0),(1,0),(2,0),(3,0),(4,0),(5,0),(6,0),(7,2),(8,0)]) skip))))).seq (block 3 (ac [aa 38 8,aq 39 .lss 38 0,aa 37 39] (ay 37 (ops 1 [aa 40 7,aa 41 0,cO 42 (ixaS 1 (t 41) (cN 0)),aD 43 42,cO 44 (bldS 1 1 [AV.esl] [(0,1,t 43)]),cO 45 (app 1 24 (t 40) (t 44)),aa 46 0,cO 47 (sls 1 (t 46) (some (cN 1)) none none),aa 7 45,aa 0 47]) (ac [aa 49 8,aq 50 .gtr 49 0,aa 48 50] (ay 48 (ops 1 [aa 51 7,aa 52 1,cO 53 (ixaS 1 (t 52) (cN 0)),aD 54 53,cO 55 (bldS 1 1 [AV.esl] [(0,1,t 54)]),cO 56 (app 1 24 (t 51) (t 55)),aa 57 1,cO 58 (sls 1 (t 57) (some (cN 1)) none none),aa 7 56,aa 1 58]) (ops 1 [aa 33 0,cO 34 (sls 1 (t 33) (some (cN 1)) none none),aa 35 1,cO 36 (sls 1 (t 35) (some (cN 1)) none none),aa 0 34,aa 1 36])))))))))).loop).seq (ac [aa 59 7,aa 6 59] ret)))))
theorem Pd:Is Tryz.prog 86 b86:=mkI Tryz.func86
def b87:F2:=(F2.mk 60 [RV.t 4,RV.t 5] (ac [cO 4 (mov (c AV.esl)),cO 5 (mov (cN 0))] (ac [cO 14 (mkm none),aa 6 14] (ac [cO 7 (mov (c AV.esl))] ((ac [aa 15 0,bi 16 15,cO 17 (mov (cN 0))] (block 0 (ac [aP 18 .lss 17 16] ((ay 18 skip (exit 0)).seq ((block 1 (ac [cO 19 (ixaS 1 (t 15) (t 17)),aD 20 19,aa 9 20] ((ac [aa 21 9,bi 22 21,aa 23 1,aP 24 .lss 22 23] (ay 24 (exit 1) skip)).seq (ac [aa 26 9,aa 27 1,aJ 28 137 [t 26,t 27],aa 25 28,aV 29 25 0,aV 30 25 1,aa 10 29,aa 11 30] ((ac [aa 31 11,aq 32 .neq 31 0] (ay 32 (ac [aa 33 11,cO 4 (mov (c AV.esl)),aa 5 33] ret) skip)).seq ((ac [aa 34 10,bi 35 34,cO 36 (mov (cN 0))] (block 2 (ac [aP 37 .lss 36 35] ((ay 37 skip (exit 2)).seq ((block 3 (ac [cO 38 (ixaS 1 (t 34) (t 36)),aD 39 38,aa 13 39] (ac [aa 40 6,aa 41 13,aJ 42 138 [t 41],cO 43 (Ins.mget (MK.st [int,int,int,int,int,int,int,int,int,int,int,int,int,int,int,int]) (AV.bool false) false (t 40) (t 42)),cO 44 (un UnOp.not (t 43))] (ay 44 (ac [aa 45 6,aa 46 13,aJ 47 138 [t 46],Op2.mk none none (mput (MK.st [int,int,int,int,int,int,int,int,int,int,int,int,int,int,int,int]) (t 45) (t 47) cK)] (ops 0 [aa 48 7,aa 49 13,cO 50 (bldS 1 1 [AV.esl] [(0,1,t 49)]),cO 51 (app 1 24 (t 48) (t 50)),aa 7 51])) skip)))).seq (ops 0 [aq 52 .add 36 1,aa 36 52])))).loop)).seq (ac [aa 53 7,bi 54 53,aq 55 .gtr 54 4096] (ay 55 (ac [cO 4 (mov (c AV.esl)),cO 5 (mov (cN 17))] ret) skip)))))))).seq (ops 0 [aq 56 .add 17 1,aa 17 56])))).loop)).seq (ac [aa 57 7,aJ 58 130 ([t 57,c (AV.func 70 [])])] (ac [aa 59 7,aa 4 59,cO 5 (mov (cN 0))] ret)))))))
theorem Pr:Is Tryz.prog 87 b87:=mkI Tryz.func87
def b92:F2:=(F2.mk 33 [RV.t 2] (ac [cO 2 (mov (c AV.nilm))] (ac [cO 8 (mkm none),aa 3 8] ((ac [aa 9 0,bi 10 9,cO 11 (mov (cN 0))] (block 0 (ac [aP 12 .lss 11 10] ((ay 12 skip (exit 0)).seq ((block 1 (ac [aa 13 11,cO 14 (ixaS 1 (t 9) (t 11)),aD 15 14,aa 4 13,aa 5 15] (ac [aa 16 5,bi 17 16,cO 18 (mov (cN 0))] (block 2 (ac [aP 19 .lss 18 17] ((ay 19 skip (exit 2)).seq ((block 3 (ac [cO 20 (ixaS 2 (t 16) (t 18)),bB 21 2 20,cO 7 (alloc (AV.agg [bj,bj])),bl 2 7 21] (ops 0 [aa 22 3,bB 23 2 7,aa 25 4,cO 26 (bldS 1 1 [bj] [(0,1,t 25)]),cO 27 (mplc (MK.st [int,int]) AV.esl (t 22) (t 23)),aV 24 27 0,cO 28 (app 1 8 (t 24) (t 26)),aV 29 27 1,Op2.mk none none (mpst (t 22) (t 29) (t 28))]))).seq (ops 0 [aq 30 .add 18 1,aa 18 30])))).loop)))).seq (ops 0 [aq 31 .add 11 1,aa 11 31])))).loop)).seq (ac [aa 32 3,aa 2 32] ret)))))
theorem PG:Is Tryz.prog 92 b92:=mkI Tryz.func92
def b94:F2:=(F2.mk 33 [RV.t 2,RV.t 3] (ac [cO 1 (box (t 0)),cO 2 (mov (cN 0)),cO 3 (mov a8)] (ac [cO 4 (mov (cN 8)),cO 5 (mov (cN 0))] ((ac [ce 8 0 1,aD 9 8,bi 10 9,cO 11 (mov (cN 0))] (block 0 (ac [aP 12 .lss 11 10] ((ay 12 skip (exit 0)).seq ((block 1 (ac [cO 13 (ixaS 1 (t 9) (t 11)),aD 14 13,aa 7 14] (ops 0 [aa 15 4,aa 16 7,bi 17 16,cO 18 (mn (t 15) [t 17]),aa 19 5,aa 20 7,bi 21 20,cO 22 (mx (t 19) [t 21]),aa 4 18,aa 5 22]))).seq (ops 0 [aq 23 .add 11 1,aa 11 23])))).loop)).seq (ac [aa 24 5,aq 25 .sub 24 1,aa 26 5,aq 27 .eql 26 0,aa 28 27,bt 29 28 (cM 4),bt 30 28 (cM 5),bt 31 28 (cB .eql (t 29) (t 30)),cO 32 (pick (t 28) cK (t 31)),aa 2 25,aa 3 32] ret)))))
theorem Pa:Is Tryz.prog 94 b94:=mkI Tryz.func94
def b95:F2:=(F2.mk 19 [RV.t 2] (ac [cO 2 (mov a8)] ((ac [aa 4 0,bi 5 4,aq 6 .gtr 5 30] (ay 6 (ac [cO 2 (mov a8)] ret) skip)).seq ((ac [cO 3 (mov (cN 0))] (block 0 ((ac [aa 7 3,aa 8 0,bi 9 8,aP 10 .lss 7 9] (ay 10 skip (exit 0))).seq ((block 1 (ac [aa 13 0,aa 14 3,cO 15 (ixaS 1 (t 13) (t 14)),aD 16 15,aJ 17 145 [t 16],cO 18 (un UnOp.not (t 17))] (ay 18 (ac [cO 2 (mov a8)] ret) skip))).seq (ops 0 [aa 11 3,aq 12 .add 11 1,aa 3 12]))).loop)).seq (ac [cO 2 (mov cK)] ret)))))
theorem PP:Is Tryz.prog 95 b95:=mkI Tryz.func95
def b96:F2:=(F2.mk 20 [RV.t 2,RV.t 3,RV.t 4] (ac [cO 1 (box (t 0)),cO 2 (mov (cN 0)),cO 3 (mov a8),cO 4 (mov (cN 0))] ((ac [bB 8 1 1,aJ 9 78 [t 8],aa 5 9] (ac [aa 10 5,aq 11 .neq 10 0] (ay 11 (ac [aa 12 5,cO 2 (mov (cN 0)),cO 3 (mov a8),aa 4 12] ret) skip))).seq (ac [bB 14 1 1,aJ 15 94 [t 14],aa 13 15,aV 16 13 0,aV 17 13 1,aa 6 16,aa 7 17] (ac [aa 18 6,aa 19 7,aa 2 18,aa 3 19,cO 4 (mov (cN 0))] ret)))))
theorem Px:Is Tryz.prog 96 b96:=mkI Tryz.func96
def b97:F2:=(F2.mk 15 [RV.t 2,RV.t 3] (ac [cO 1 (box (t 0)),cO 2 (mov (cN 0)),cO 3 (mov (cN 0))] (ac [bB 7 2 1,aJ 8 134 [t 7],aa 6 8,aV 9 6 0,aV 10 6 1,cO 4 (alloc (AV.agg [bj,AV.esl])),bl 2 4 9,aa 5 10] (ac [ce 11 1 4,aD 12 11,bi 13 12,aa 14 5,aa 2 13,aa 3 14] ret))))
theorem Pn:Is Tryz.prog 97 b97:=mkI Tryz.func97
def b98:F2:=(F2.mk 24 [RV.t 4,RV.t 5] (ac [cO 2 (box (t 0)),cO 4 (mov (cN 0)),cO 5 (mov (cN 0))] ((ac [aa 8 1,aq 9 .lss 8 0,aa 10 9,bt 11 10 (cM 1),bt 12 10 (cB .geq (t 11) (cN 8)),cO 13 (pick (t 10) cK (t 12))] (ay 13 (ac [cO 4 (mov (cN 0)),cO 5 (mov (cN 0))] ret) skip)).seq (ac [bB 15 1 2,aa 16 1,aq 17 .add 16 1,aJ 18 79 [t 15,t 17],aa 14 18,aV 19 14 0,aV 20 14 1,aa 6 19,aa 7 20] (ac [aa 21 6,bi 22 21,aa 23 7,aa 4 22,aa 5 23] ret)))))
theorem PO:Is Tryz.prog 98 b98:=mkI Tryz.func98
def Nr:F2:=(F2.mk 19 [RV.t 4] (ac [cO 4 (mov (cN 0))] ((ac [aa 6 0,bi 7 6,cO 8 (mov (cN 0))] (block 0 (ac [aP 9 .lss 8 7] ((ay 9 skip (exit 0)).seq ((block 1 (ac [aa 10 8,aa 5 10] (ac [aa 11 1,aa 12 0,aa 13 5,cO 14 (ixaS 1 (t 12) (t 13)),aD 15 14,cO 16 (call (t 11) [t 15])] (ay 16 (ac [aa 17 5,aa 4 17] ret) skip)))).seq (ops 0 [aq 18 .add 8 1,aa 8 18])))).loop)).seq (ac [cO 4 (mov (cN ((-1))))] ret))))
theorem M8:Is Tryz.prog 101 Nr:=mkI Tryz.func101
def NJ:F2:=(F2.mk 64 [] (ac [bB 13 1 1,aD 14 2,aJ 15 81 [t 13,t 14],aa 12 15,aV 16 12 0,aV 17 12 1,aa 4 16,aa 5 17] (ac [cO 6 (alloc (AV.agg [bj,AV.esl]))] ((ac [aa 18 5,aq 19 .eql 18 0] (ay 19 (ac [cO 7 (alloc (AV.agg [bj,AV.esl]))] (ac [bB 21 1 1,aD 22 2,aJ 23 58 [t 21,t 22],aa 20 23,aV 24 20 0,aV 25 20 1,bl 2 7 24,aa 5 25] (ac [aa 26 5,aq 27 .eql 26 0] (ay 27 (ops 0 [bB 29 2 7,aJ 30 103 [t 29],aa 28 30,aV 31 28 0,aV 32 28 1,bl 2 6 31,aa 5 32]) skip)))) skip)).seq ((ac [aa 33 5,aq 34 .neq 33 0] (ay 34 (ac [aa 35 0,aa 36 5,cO 37 (call (t 35) [c AV.esl,t 36])] ret) skip)).seq (ac [ce 38 1 6,aD 39 38,bi 40 39,cO 41 (mov (cN 0))] (block 0 (ac [aP 42 .lss 41 40] ((ay 42 skip (exit 0)).seq ((block 1 (ac [cO 43 (ixaS 1 (t 39) (t 41)),aD 44 43,aa 9 44] (ac [aa 46 4,aa 47 9,aJ 48 82 [t 46,t 47],aa 45 48,aV 49 45 0,aV 50 45 1,aa 10 49,aa 11 50] (ac [aa 51 10,aa 52 51,bt 53 52 (cM 11),bt 54 52 (cB .neq (t 53) (cN 0)),cO 55 (pick (t 52) cK (t 54)),aa 56 55,an 57 56 (cM 0),an 58 56 (cM 9),an 59 56 (cM 11),an 60 56 (call (t 57) [t 58,t 59]),an 61 56 (un UnOp.not (t 60)),cO 62 (pick (t 56) (t 61) a8)] (ay 62 ret skip))))).seq (ops 0 [aq 63 .add 41 1,aa 41 63])))).loop)))))))
theorem NV:Is Tryz.prog 102 NJ:=mkI Tryz.func102
def MH:F2:=(F2.mk 76 [RV.cn 2 2,RV.t 3] (ac [cO 1 (box (t 0)),cO 2 (alloc (AV.agg [bj,AV.esl])),cO 3 (mov (cN 0))] (ac [bB 15 2 1,aJ 16 134 [t 15],aa 14 16,aV 17 14 0,aV 18 14 1,cO 4 (alloc (AV.agg [bj,AV.esl])),bl 2 4 17,aa 5 18] ((ac [aa 19 5,aq 20 .neq 19 0] (ay 20 (ac [cO 21 (bld [bj,AV.esl] []),aa 22 5,bl 2 2 21,aa 3 22] ret) skip)).seq (ac [ce 23 0 1,aD 24 23,cO 25 (bld [bj,AV.esl] [(0,1,t 24)]),cO 6 (alloc (AV.agg [bj,AV.esl])),bl 2 6 25] (ac [cO 26 (mkm none),aa 7 26] ((ac [ce 27 1 4,aD 28 27,bi 29 28,cO 30 (mov (cN 0))] (block 0 (ac [aP 31 .lss 30 29] ((ay 31 skip (exit 0)).seq ((block 1 (ac [cO 32 (ixaS 1 (t 28) (t 30)),aD 33 32,aa 9 33] (ops 0 [aa 34 7,aa 35 9,cO 36 (ixaS 1 (t 35) (cN 0)),aD 37 36,Op2.mk none none (mput (one int) (t 34) (t 37) cK)]))).seq (ops 0 [aq 38 .add 30 1,aa 30 38])))).loop)).seq ((ac [ce 39 0 1,aD 40 39,cO 41 (mov (cN 0))] (block 2 (ac [aP 42 .lss 41 40] ((ay 42 skip (exit 2)).seq ((block 3 (ac [aa 43 41,aa 10 43] ((ac [aa 44 7,aa 45 10,cO 46 (Ins.mget (one int) (AV.bool false) false (t 44) (t 45))] (ay 46 (exit 3) skip)).seq (ac [aa 47 10,cO 48 (bldS 1 1 [bj] [(0,1,t 47)]),aa 11 48] ((ac [ce 49 1 4,aD 50 49,bi 51 50,cO 52 (mov (cN 0))] (block 4 (ac [aP 53 .lss 52 51] ((ay 53 skip (exit 4)).seq ((block 5 (ac [cO 54 (ixaS 1 (t 50) (t 52)),aD 55 54,aa 13 55] (ac [aa 56 13,aa 57 10,aJ 58 146 [t 56,t 57]] (ay 58 (ops 0 [aa 59 11,aa 60 13,cO 61 (ixaS 1 (t 60) (cN 0)),aD 62 61,cO 63 (bldS 1 1 [bj] [(0,1,t 62)]),cO 64 (app 1 8 (t 59) (t 63)),aa 11 64]) skip)))).seq (ops 0 [aq 65 .add 52 1,aa 52 65])))).loop)).seq (ac [aa 66 11,aJ 67 147 [t 66]] (ops 0 [ce 68 1 6,aD 69 68,aa 70 11,cO 71 (bldS 1 1 [AV.esl] [(0,1,t 70)]),cO 72 (app 1 24 (t 69) (t 71)),ce 73 1 6,bl 1 73 72]))))))).seq (ops 0 [aq 74 .add 41 1,aa 41 74])))).loop)).seq (ac [bB 75 2 6,bl 2 2 75,cO 3 (mov (cN 0))] ret)))))))))
theorem Mg:Is Tryz.prog 103 MH:=mkI Tryz.func103
def MQ:F2:=(F2.mk 87 [RV.cn 4 2,RV.t 5] (ac [cO 2 (box (t 0)),cO 4 (alloc (AV.agg [bj,AV.esl])),cO 5 (mov (cN 0))] ((ac [bB 16 1 2,aJ 17 78 [t 16],aa 6 17] (ac [aa 18 6,aq 19 .neq 18 0] (ay 19 (ac [cO 20 (bld [bj,AV.esl] []),aa 21 6,bl 2 4 20,aa 5 21] ret) skip))).seq ((ac [aa 22 1,aq 23 .lss 22 0,aa 24 23,bt 25 24 (cM 1),bt 26 24 (cB .geq (t 25) (cN 8)),cO 27 (pick (t 24) cK (t 26))] (ay 27 (ac [cO 28 (bld [bj,AV.esl] []),bl 2 4 28,cO 5 (mov (cN 2))] ret) skip)).seq (ac [bB 30 1 2,aa 31 1,aJ 32 83 [t 30,t 31],aa 29 32,aV 33 29 0,aV 34 29 1,aa 7 33,aa 8 34] ((ac [aa 35 8,aq 36 .neq 35 0] (ay 36 (ac [cO 37 (bld [bj,AV.esl] []),aa 38 8,bl 2 4 37,aa 5 38] ret) skip)).seq (ac [bB 40 1 2,aa 41 1,aq 42 .sub 41 1,aJ 43 83 [t 40,t 42],aa 39 43,aV 44 39 0,aV 45 39 1,cO 9 (alloc AV.esl),bl 1 9 44,aa 8 45] ((ac [aa 46 8,aq 47 .neq 46 0] (ay 47 (ac [cO 48 (bld [bj,AV.esl] []),aa 49 8,bl 2 4 48,aa 5 49] ret) skip)).seq (ac [aa 50 7,bi 51 50,aD 52 9,bi 53 52,cO 54 (mks 1 24 [AV.esl] (t 53) (t 53)),cO 55 (bld [bj,AV.esl] [(0,1,t 51),(1,1,t 54)]),cO 10 (alloc (AV.agg [bj,AV.esl])),bl 2 10 55] ((ac [aa 56 7,bi 57 56,cO 58 (mov (cN 0))] (block 0 (ac [aP 59 .lss 58 57] ((ay 59 skip (exit 0)).seq ((block 1 (ac [aa 60 58,cO 61 (ixaS 1 (t 56) (t 58)),aD 62 61,cO 11 (alloc (bj)),bl 1 11 60,aa 12 62] (ac [aa 63 12,aJ 64 129 [t 63]] (block 2 (rangeF (t 64) [65] (ops 0 [aa 13 65]) (block 3 (ac [aD 67 9,aa 68 13,aJ 69 80 [t 67,t 68],aa 66 69,aV 70 66 0,aV 71 66 1,aa 14 70,aa 15 71] (ac [aa 72 15] (ay 72 (mixS 2 [ce 73 1 10,aD 74 73,aa 75 14,ce 76 1 10,aD 77 76,aa 78 14,cO 79 (ixaS 1 (t 77) (t 78)),aD 80 79,aD 81 11,cO 82 (bldS 1 1 [bj] [(0,1,t 81)]),cO 83 (app 1 8 (t 80) (t 82)),cO 84 (ixaS 1 (t 74) (t 75)),bl 1 84 83] [(0,0),(1,0),(2,0),(3,0),(4,0),(5,0),(6,0),(7,0),(8,0),(9,1),(10,1),(11,0),(12,2)]) skip))))))))).seq (ops 0 [aq 85 .add 58 1,aa 58 85])))).loop)).seq (ac [bB 86 2 10,bl 2 4 86,cO 5 (mov (cN 0))] ret)))))))))))
theorem M6:Is Tryz.prog 112 MQ:=mkI Tryz.func112
def Mm:F2:=(F2.mk 35 [RV.t 2] (ac [cO 1 (box (t 0)),cO 2 (mov (cN 0))] ((block 0 (ac [ce 7 0 1,aD 8 7,aq 9 .lss 8 0,aa 10 9,bt 11 10 (fa 0 (t 1)),bt 12 10 (cD 11),bt 13 10 (cB .gtr (t 12) (cN 4096)),cO 14 (pick (t 10) cK (t 13)),aa 6 14] (ay 6 (ac [cO 2 (mov (cN 2))] ret) (ac [ce 16 1 1,aD 17 16,bi 18 17,aq 19 .gtr 18 4096,aa 15 19] (ay 15 (ac [cO 2 (mov (cN 5))] ret) skip))))).seq ((ac [ce 20 1 1,aD 21 20,bi 22 21,cO 23 (mov (cN 0))] (block 1 (ac [aP 24 .lss 23 22] ((ay 24 skip (exit 1)).seq ((block 2 (ac [cO 25 (ixaS 1 (t 21) (t 23)),aD 26 25,aa 4 26] (ac [aa 27 4,ce 28 0 1,aD 29 28,aJ 30 114 [t 27,t 29],aa 5 30] (ac [aa 31 5,aq 32 .neq 31 0] (ay 32 (ac [aa 33 5,aa 2 33] ret) skip))))).seq (ops 0 [aq 34 .add 23 1,aa 23 34])))).loop)).seq (ac [cO 2 (mov (cN 0))] ret)))))
theorem OH:Is Tryz.prog 113 Mm:=mkI Tryz.func113
def NM:F2:=(F2.mk 35 [RV.t 4] (ac [cO 4 (mov (cN 0))] ((ac [aa 7 0,bi 8 7,cO 9 (mov (cN 0))] (block 0 (ac [aP 10 .lss 9 8] ((ay 10 skip (exit 0)).seq ((block 1 (ac [aa 11 9,cO 12 (ixaS 1 (t 7) (t 9)),aD 13 12,aa 5 11,aa 6 13] (block 2 (ac [aa 15 6,aq 16 .lss 15 0,aa 17 16,bt 18 17 (cM 6),bt 19 17 (cM 1),bt 20 17 (cB .geq (t 18) (t 19)),cO 21 (pick (t 17) cK (t 20)),aa 14 21] (ay 14 (ac [cO 4 (mov (cN 2))] ret) (ac [aa 23 5,aq 24 .gtr 23 0,aa 25 24,an 26 25 (cM 0),an 27 25 (cM 5),an 28 25 (cB .sub (t 27) (cN 1)),an 29 25 (ixaS 1 (t 26) (t 28)),an 30 25 (cD 29),an 31 25 (cM 6),an 32 25 (cB .geq (t 30) (t 31)),cO 33 (pick (t 25) (t 32) a8),aa 22 33] (ay 22 (ac [cO 4 (mov (cN 14))] ret) skip))))))).seq (ops 0 [aq 34 .add 9 1,aa 9 34])))).loop)).seq (ac [cO 4 (mov (cN 0))] ret))))
theorem Od:Is Tryz.prog 114 NM:=mkI Tryz.func114
def Ns:F2:=(F2.mk 95 [RV.t 2,RV.t 3] (ac [cO 1 (box (t 0)),cO 2 (mov (c AV.esl)),cO 3 (mov (c AV.esl))] (ac [cO 16 (mkm none),cO 4 (alloc AV.nilm),bl 1 4 16] (ac [cO 17 (mkfn 149 [t 4]),aa 5 17] (ac [cO 6 (mov (c AV.esl))] ((ac [ce 18 1 1,aD 19 18,bi 20 19,cO 21 (mov (cN 0))] (block 0 (ac [aP 22 .lss 21 20] ((ay 22 skip (exit 0)).seq ((block 1 (ac [aa 23 21,cO 24 (ixaS 1 (t 19) (t 21)),aD 25 24,aa 7 23,aa 8 25] (ac [aa 26 5,aa 27 8,aJ 28 150 [t 27],aa 29 7,cO 30 (bldS 1 1 [bj] [(0,1,t 29)]),cO 31 (bld [AV.esl,AV.esl] [(0,1,t 28),(1,1,t 30)]),cO 32 (call (t 26) [t 31]),cO 9 (alloc (AV.agg [AV.esl,AV.esl])),bl 2 9 32] ((ac [ce 33 0 9,aD 34 33,bi 35 34,aq 36 .eql 35 0] (ay 36 (ac [aa 37 6,ce 38 1 9,aD 39 38,cO 40 (bldS 1 1 [AV.esl] [(0,1,t 39)]),cO 41 (app 1 24 (t 37) (t 40)),aa 6 41] (exit 1)) skip)).seq ((ac [aD 42 4,cO 43 (mrng (t 42))] (block 2 (ac [cO 44 (mnxt (t 43)),aV 45 44 0] ((ay 45 skip (exit 2)).seq (block 3 (ac [cO 46 (ment (t 43)),aV 47 46 0,aV 48 46 1,cO 11 (alloc (AV.agg [AV.esl,AV.esl])),aa 10 47,bl 2 11 48] ((mixS 1 [ce 49 0 11,aD 50 49,ce 51 0 9,aD 52 51,cO 53 (ixaS 1 (t 52) (cN 0)),aD 54 53,aJ 55 146 [t 50,t 54]] [(0,0),(1,0),(2,0),(3,0),(4,0),(5,0),(6,2)]).seq (ay 55 (mixS 9 [aD 56 4,aa 57 10,ce 58 0 11,aD 59 58,ce 60 0 9,aD 61 60,aJ 62 124 [t 59,t 61],ce 63 1 11,aD 64 63,ce 65 1 9,aD 66 65,aJ 67 124 [t 64,t 66],cO 68 (bld [AV.esl,AV.esl] [(0,1,t 62),(1,1,t 67)]),Op2.mk none none (mput (one int) (t 56) (t 57) (t 68))] [(0,0),(1,0),(2,0),(3,0),(4,0),(5,0),(7,0),(8,0),(9,0),(10,0),(6,1),(11,1),(12,0),(13,2)]) skip)))))).loop)).seq (mixS 9 [aD 69 4,ce 70 0 9,aD 71 70,cO 72 (ixaS 1 (t 71) (cN 0)),aD 73 72,bB 74 2 9,Op2.mk none none (mput (one int) (t 69) (t 73) (t 74))] [(0,0),(1,0),(2,0),(3,0),(4,0),(5,0),(6,2)])))))).seq (ops 0 [aq 75 .add 21 1,aa 21 75])))).loop)).seq (ac [cO 12 (mov (c AV.esl))] ((ac [ce 76 0 1,aD 77 76,cO 78 (mov (cN 0))] (block 4 (ac [aP 79 .lss 78 77] ((ay 79 skip (exit 4)).seq ((block 5 (ac [aa 80 78,aa 13 80] (ac [aD 82 4,aa 83 13,cO 84 (Ins.mget (one int) (AV.agg [AV.esl,AV.esl]) true (t 82) (t 83)),aa 81 84,aV 85 81 0,aV 86 81 1,cO 14 (alloc (AV.agg [AV.esl,AV.esl])),bl 2 14 85,aa 15 86] (ac [aa 87 15] (ay 87 (ops 0 [aa 88 12,bB 89 2 14,cO 90 (bldS 2 1 [AV.esl,AV.esl] [(0,2,t 89)]),cO 91 (app 2 48 (t 88) (t 90)),aa 12 91]) skip))))).seq (ops 0 [aq 92 .add 78 1,aa 78 92])))).loop)).seq (ac [aa 93 12,aa 94 6,aa 2 93,aa 3 94] ret)))))))))
theorem M5:Is Tryz.prog 115 Ns:=mkI Tryz.func115
def MN:F2:=(F2.mk 18 [RV.t 4] (ac [cO 4 (mov a8)] (ac [aa 5 0,bi 6 5,aa 7 1,bi 8 7,aP 9 .add 6 8,aa 10 0,aa 11 1,aJ 12 124 [t 10,t 11],bi 13 12,aP 14 .sub 9 13,aq 15 .quo 14 2,aq 16 .rem 15 2,aq 17 .eql 16 1,aa 4 17] ret)))
theorem NQ:Is Tryz.prog 116 MN:=mkI Tryz.func116
def Mq:F2:=(F2.mk 39 [RV.t 6] (ac [cO 6 (mov (cN 0))] ((ac [aa 11 0,bi 12 11,cO 13 (mov (cN 0))] (block 0 (ac [aP 14 .lss 13 12] ((ay 14 skip (exit 0)).seq ((block 1 (ac [aa 15 13,cO 16 (ixaS 2 (t 11) (t 13)),bB 17 2 16,cO 8 (alloc (AV.agg [bj,bj])),aa 7 15,bl 2 8 17] ((ac [aa 18 7,aa 19 1,bi 20 19,aP 21 .geq 18 20] (ay 21 (ac [cO 6 (mov (cN 1))] ret) skip)).seq (ac [aa 22 1,aa 23 7,cO 24 (ixaS 2 (t 22) (t 23)),bB 25 2 24,cO 9 (alloc (AV.agg [bj,bj])),bl 2 9 25] (ac [aa 26 2,bB 27 2 8,bB 28 2 9,cO 29 (call (t 26) [t 27,t 28]),aa 10 29] (ac [aa 30 10,aq 31 .neq 30 0] (ay 31 (ac [aa 32 10,aa 6 32] ret) skip))))))).seq (ops 0 [aq 33 .add 13 1,aa 13 33])))).loop)).seq ((ac [aa 34 0,bi 35 34,aa 36 1,bi 37 36,aP 38 .lss 35 37] (ay 38 (ac [cO 6 (mov (cN ((-1))))] ret) skip)).seq (ac [cO 6 (mov (cN 0))] ret)))))
theorem NL:Is Tryz.prog 122 Mq:=mkI Tryz.func122
def OO:F2:=(F2.mk 17 [RV.t 4] (ac [cO 2 (box (t 0)),cO 3 (box (t 1)),cO 4 (mov (cN 0))] ((mixS 1 [ce 5 0 2,aD 6 5,ce 7 0 3,aD 8 7,aJ 9 152 [t 6,t 8],ce 10 1 2,aD 11 10,ce 12 1 3,aD 13 12,aJ 14 152 [t 11,t 13],cO 15 (bldS 1 2 [bj] [(0,1,t 9),(1,1,t 14)]),aJ 16 151 [t 15],aa 4 16] [(0,0),(1,0),(2,0),(3,0),(5,0),(6,0),(7,0),(8,0),(4,1),(9,2),(10,2),(11,2),(12,0)]).seq ret)))
theorem MO:Is Tryz.prog 123 OO:=mkI Tryz.func123
def Nf:F2:=(F2.mk 61 [RV.t 4] (ac [cO 4 (mov (c AV.esl))] (ac [aa 6 0,bi 7 6,aa 8 1,bi 9 8,aP 10 .add 7 9,cO 11 (mks 1 8 [bj] (cN 0) (t 10)),aa 5 11] ((block 0 ((ac [aa 12 0,bi 13 12,aq 14 .gtr 13 0,aa 15 14,an 16 15 (cM 1),an 17 15 (lenS (t 16)),an 18 15 (cB .gtr (t 17) (cN 0)),cO 19 (pick (t 15) (t 18) a8)] (ay 19 skip (exit 0))).seq (block 1 (block 2 ((ops 1 [aa 25 0,cO 26 (ixaS 1 (t 25) (cN 0)),aD 27 26,aa 28 1,cO 29 (ixaS 1 (t 28) (cN 0)),aD 30 29,aP 31 .lss 27 30,aa 24 31]).seq (ay 24 (ops 1 [aa 32 5,aa 33 0,cO 34 (ixaS 1 (t 33) (cN 0)),aD 35 34,cO 36 (bldS 1 1 [bj] [(0,1,t 35)]),cO 37 (app 1 8 (t 32) (t 36)),aa 38 0,cO 39 (sls 1 (t 38) (some (cN 1)) none none),aa 5 37,aa 0 39]) ((ops 1 [aa 41 0,cO 42 (ixaS 1 (t 41) (cN 0)),aD 43 42,aa 44 1,cO 45 (ixaS 1 (t 44) (cN 0)),aD 46 45,aP 47 .gtr 43 46,aa 40 47]).seq (ay 40 (ops 1 [aa 48 5,aa 49 1,cO 50 (ixaS 1 (t 49) (cN 0)),aD 51 50,cO 52 (bldS 1 1 [bj] [(0,1,t 51)]),cO 53 (app 1 8 (t 48) (t 52)),aa 54 1,cO 55 (sls 1 (t 54) (some (cN 1)) none none),aa 5 53,aa 1 55]) (ops 1 [aa 20 0,cO 21 (sls 1 (t 20) (some (cN 1)) none none),aa 22 1,cO 23 (sls 1 (t 22) (some (cN 1)) none none),aa 0 21,aa 1 23])))))))).loop).seq (ac [aa 56 5,aa 57 0,cO 58 (app 1 8 (t 56) (t 57)),aa 59 1,cO 60 (app 1 8 (t 58) (t 59)),aa 4 60] ret)))))
theorem LX:Is Tryz.prog 124 Nf:=mkI Tryz.func124
def Na:F2:=(F2.mk 21 [RV.t 2] (ac [cO 1 (box (t 0)),cO 2 (mov a8)] (ac [ce 3 0 1,aD 4 3,aq 5 .geq 4 0,aa 6 5,an 7 6 (fa 0 (t 1)),an 8 6 (cD 7),an 9 6 (cB .lss (t 8) (cN 8)),cO 10 (pick (t 6) (t 9) a8),aa 11 10,an 12 11 (fa 1 (t 1)),an 13 11 (cD 12),an 14 11 (cB .geq (t 13) (cN 0)),cO 15 (pick (t 11) (t 14) a8),aa 16 15,an 17 16 (fa 1 (t 1)),an 18 16 (cD 17),an 19 16 (cB .leq (t 18) (cN 1048576)),cO 20 (pick (t 16) (t 19) a8),aa 2 20] ret)))
theorem L6:Is Tryz.prog 125 Na:=mkI Tryz.func125
def Mb:F2:=(F2.mk 29 [RV.t 4] (ac [cO 2 (box (t 0)),cO 3 (box (t 1)),cO 4 (mov (cN 0))] ((block 0 (ac [ce 6 0 2,aD 7 6,ce 8 0 3,aD 9 8,aP 10 .lss 7 9,aa 5 10] (ay 5 (ac [cO 4 (mov (cN ((-1))))] ret) (ac [ce 12 0 2,aD 13 12,ce 14 0 3,aD 15 14,aP 16 .gtr 13 15,aa 11 16] (ay 11 (ac [cO 4 (mov (cN 1))] ret) (ac [ce 18 1 2,aD 19 18,ce 20 1 3,aD 21 20,aP 22 .lss 19 21,aa 17 22] (ay 17 (ac [cO 4 (mov (cN ((-1))))] ret) (ac [ce 24 1 2,aD 25 24,ce 26 1 3,aD 27 26,aP 28 .gtr 25 27,aa 23 28] (ay 23 (ac [cO 4 (mov (cN 1))] ret) skip))))))))).seq (ac [cO 4 (mov (cN 0))] ret))))
theorem Lr:Is Tryz.prog 126 Mb:=mkI Tryz.func126
def NS:F2:=(F2.mk 18 [RV.t 4] (ac [cO 3 (box (t 1)),cO 4 (mov a8)] ((ac [cO 5 (mov (cN 0))] (block 0 ((ac [aa 6 5,aa 7 0,bi 8 7,aP 9 .lss 6 8] (ay 9 skip (exit 0))).seq ((block 1 ((ops 1 [aa 12 0,aa 13 5,cO 14 (ixaS 2 (t 12) (t 13)),bB 15 2 14,bB 16 2 3,cO 17 (binS BinOp.eql [int,int] (t 15) (t 16))]).seq (ay 17 (ac [cO 4 (mov cK)] ret) skip))).seq (ops 0 [aa 10 5,aq 11 .add 10 1,aa 5 11]))).loop)).seq (ac [cO 4 (mov a8)] ret))))
theorem LD:Is Tryz.prog 127 NS:=mkI Tryz.func127
def Ot:F2:=(F2.mk 36 [RV.t 2] (ac [cO 2 (mov (cN 0))] ((block 0 (ac [aa 6 0,bi 7 6,aq 8 .eql 7 0,aa 5 8] (ay 5 (ac [cO 2 (mov (cN 16))] ret) (ac [aa 10 0,bi 11 10,aq 12 .gtr 11 8,aa 9 12] (ay 9 (ac [cO 2 (mov (cN 5))] ret) skip))))).seq ((ac [aa 13 0,bi 14 13,cO 15 (mov (cN 0))] (block 1 (ac [aP 16 .lss 15 14] ((ay 16 skip (exit 1)).seq ((block 2 (ac [aa 17 15,cO 18 (ixaS 2 (t 13) (t 15)),bB 19 2 18,cO 4 (alloc (AV.agg [bj,bj])),aa 3 17,bl 2 4 19] ((ac [bB 20 2 4,aJ 21 153 [t 20],cO 22 (un UnOp.not (t 21))] (ay 22 (ac [cO 2 (mov (cN 2))] ret) skip)).seq ((mixS 1 [aa 23 3,aq 24 .gtr 23 0,aa 25 24,an 26 25 (cM 0),an 27 25 (cM 3),an 28 25 (cB .sub (t 27) (cN 1)),an 29 25 (ixaS 2 (t 26) (t 28)),an 30 25 (ldn 2 (t 29)),an 31 25 (ldn 2 (t 4)),an 32 25 (call (cF 123) [t 30,t 31]),an 33 25 (cB .geq (t 32) (cN 0)),cO 34 (pick (t 25) (t 33) a8)] [(0,0),(1,0),(2,0),(3,0),(4,0),(5,0),(6,0),(7,0),(8,0),(9,2),(10,0),(11,0)]).seq (ay 34 (ac [cO 2 (mov (cN 14))] ret) skip))))).seq (ops 0 [aq 35 .add 15 1,aa 15 35])))).loop)).seq (ac [cO 2 (mov (cN 0))] ret)))))
theorem MB:Is Tryz.prog 128 Ot:=mkI Tryz.func128
def Nx:F2:=(F2.mk 4 [RV.t 2] (ac [cO 1 (box (t 0)),cO 2 (mov (c AV.nilf))] (ac [cO 3 (mkfn 154 [t 1]),aa 2 3] ret)))
theorem LJ:Is Tryz.prog 129 Nx:=mkI Tryz.func129
def KA:F2:=(F2.mk 14 [] (ac [aa 5 0,bi 6 5,aa 4 6] (ops 0 [aa 7 0,aa 8 4,aa 9 4,cO 10 (conv IntKind.u64 (t 9)),aJ 11 156 [t 10],aa 12 1,aJ 13 155 ([t 7,cN ((0)),t 8,t 11,t 12])])))
theorem JW:Is Tryz.prog 130 KA:=mkI Tryz.func130
def Nt:F2:=(F2.mk 10 [RV.t 6] (ac [cO 3 (box (t 0)),cO 5 (box (t 2)),cO 6 (mov a8)] (ac [aa 7 1,cO 8 (mkfn 157 [t 3,t 5]),aJ 9 48 [t 7,t 8],aa 6 9] ret)))
theorem N8:Is Tryz.prog 131 Nt:=mkI Tryz.func131
def N5:F2:=(F2.mk 49 [RV.t 6,RV.t 7] (ac [cO 6 (mov (cN 0)),cO 7 (mov a8)] (ac [aa 12 0,bi 13 12,aa 8 13] (ac [aa 14 8,cO 9 (mov (cN 0)),aa 10 14] ((block 0 ((ac [aa 15 9,aa 16 10,aP 17 .lss 15 16] (ay 17 skip (exit 0))).seq (block 1 (ac [aa 18 9,aa 19 10,aP 20 .add 18 19,cO 21 (conv IntKind.u64 (t 20)),cO 22 (cB .shr (t 21) (c (AV.int IntKind.u64 (1)))),cO 23 (conv IntKind.i64 (t 22)),aa 11 23] (ac [aa 24 2,aa 25 0,aa 26 11,cO 27 (ixaS 1 (t 25) (t 26)),aD 28 27,aa 29 1,cO 30 (call (t 24) [t 28,t 29]),aq 31 .lss 30 0] (ay 31 (ops 0 [aa 32 11,aq 33 .add 32 1,aa 9 33]) (ops 0 [aa 34 11,aa 10 34])))))).loop).seq (ac [aa 35 9,aa 36 9,aa 37 8,aP 38 .lss 36 37,aa 39 38,an 40 39 (cM 2),an 41 39 (cM 0),an 42 39 (cM 9),an 43 39 (ixaS 1 (t 41) (t 42)),an 44 39 (cD 43),an 45 39 (cM 1),an 46 39 (call (t 40) [t 44,t 45]),an 47 39 (cB .eql (t 46) (cN 0)),cO 48 (pick (t 39) (t 47) a8),aa 6 35,aa 7 48] ret))))))
theorem NU:Is Tryz.prog 132 N5:=mkI Tryz.func132
def N0:F2:=(F2.mk 52 [RV.cn 2 2,RV.t 3] (ac [cO 1 (box (t 0)),cO 2 (alloc (AV.agg [bj,AV.esl])),cO 3 (mov (cN 0))] ((ac [bB 10 2 1,aJ 11 113 [t 10],aa 4 11] (ac [aa 12 4,aq 13 .neq 12 0] (ay 13 (ac [cO 14 (bld [bj,AV.esl] []),aa 15 4,bl 2 2 14,aa 3 15] ret) skip))).seq ((ops 1 [ce 16 1 1,aD 17 16,bi 18 17,ce 19 0 1,aD 20 19,cO 21 (mks 1 24 [AV.esl] (t 20) (t 20)),cO 22 (bld [bj,AV.esl] [(0,1,t 18),(1,1,t 21)]),cO 5 (alloc (AV.agg [bj,AV.esl])),bl 2 5 22]).seq ((ac [ce 23 1 1,aD 24 23,bi 25 24,cO 26 (mov (cN 0))] (block 0 (ac [aP 27 .lss 26 25] ((ay 27 skip (exit 0)).seq ((block 1 (ac [aa 28 26,cO 29 (ixaS 1 (t 24) (t 26)),aD 30 29,aa 6 28,aa 7 30] (ac [aa 31 7,bi 32 31,cO 33 (mov (cN 0))] (block 2 (ac [aP 34 .lss 33 32] ((ay 34 skip (exit 2)).seq ((block 3 (ac [cO 35 (ixaS 1 (t 31) (t 33)),aD 36 35,aa 9 36] (mixS 2 [ce 37 1 5,aD 38 37,aa 39 9,ce 40 1 5,aD 41 40,aa 42 9,cO 43 (ixaS 1 (t 41) (t 42)),aD 44 43,aa 45 6,cO 46 (bldS 1 1 [bj] [(0,1,t 45)]),cO 47 (app 1 8 (t 44) (t 46)),cO 48 (ixaS 1 (t 38) (t 39)),bl 1 48 47] [(0,0),(1,0),(2,0),(3,0),(4,0),(5,0),(6,0),(7,0),(8,0),(9,1),(10,1),(11,0),(12,2)]))).seq (ops 0 [aq 49 .add 33 1,aa 33 49])))).loop)))).seq (ops 0 [aq 50 .add 26 1,aa 26 50])))).loop)).seq (ac [bB 51 2 5,bl 2 2 51,cO 3 (mov (cN 0))] ret))))))
theorem Ng:Is Tryz.prog 133 N0:=mkI Tryz.func133
def MY:F2:=(F2.mk 39 [RV.cn 2 2,RV.t 3] (ac [cO 1 (box (t 0)),cO 2 (alloc (AV.agg [bj,AV.esl])),cO 3 (mov (cN 0))] ((ac [bB 10 2 1,aJ 11 113 [t 10],aa 4 11] (ac [aa 12 4,aq 13 .neq 12 0] (ay 13 (ac [cO 14 (bld [bj,AV.esl] []),aa 15 4,bl 2 2 14,aa 3 15] ret) skip))).seq (ac [ce 16 0 1,aD 17 16,cO 18 (bld [bj,AV.esl] [(0,1,t 17)]),cO 5 (alloc (AV.agg [bj,AV.esl])),bl 2 5 18] (ac [bB 20 2 1,aJ 21 115 [t 20],aa 19 21,aV 22 19 0,aV 23 19 1,aa 6 22,aa 7 23] ((ac [aa 24 6,bi 25 24,cO 26 (mov (cN 0))] (block 0 (ac [aP 27 .lss 26 25] ((ay 27 skip (exit 0)).seq ((block 1 (ac [cO 28 (ixaS 2 (t 24) (t 26)),bB 29 2 28,cO 9 (alloc (AV.agg [AV.esl,AV.esl])),bl 2 9 29] (ops 0 [ce 30 1 5,aD 31 30,ce 32 0 9,aD 33 32,cO 34 (bldS 1 1 [AV.esl] [(0,1,t 33)]),cO 35 (app 1 24 (t 31) (t 34)),ce 36 1 5,bl 1 36 35]))).seq (ops 0 [aq 37 .add 26 1,aa 26 37])))).loop)).seq (ac [bB 38 2 5,bl 2 2 38,cO 3 (mov (cN 0))] ret)))))))
theorem Oe:Is Tryz.prog 134 MY:=mkI Tryz.func134
def MC:F2:=(F2.mk 8 [RV.t 2] (ac [cO 2 (mov (c AV.esl))] ((ac [aa 3 0,cO 4 (snil false (t 3))] (ay 4 (ac [cO 2 (mov (c AV.esl))] ret) skip)).seq (ac [cO 5 (bldS 1 0 [AV.esl] []),aa 6 0,cO 7 (app 1 24 (t 5) (t 6)),aa 2 7] ret))))
theorem Ol:Is Tryz.prog 135 MC:=mkI Tryz.func135
def KX:F2:=(F2.mk 8 [RV.t 2] (ac [cO 2 (mov (c AV.esl))] ((ac [aa 3 0,cO 4 (snil false (t 3))] (ay 4 (ac [cO 2 (mov (c AV.esl))] ret) skip)).seq (ac [cO 5 (bldS 2 0 [bj,bj] []),aa 6 0,cO 7 (app 2 16 (t 5) (t 6)),aa 2 7] ret))))
theorem JU:Is Tryz.prog 136 KX:=mkI Tryz.func136
def L5:F2:=(F2.mk 24 [RV.t 4,RV.t 5] (ac [cO 4 (mov (c AV.esl)),cO 5 (mov (cN 0))] ((ac [aa 7 0,aJ 8 128 [t 7],aa 6 8] (ac [aa 9 6,aq 10 .neq 9 0] (ay 10 (ac [aa 11 6,cO 4 (mov (c AV.esl)),aa 5 11] ret) skip))).seq ((ac [aa 12 1,aq 13 .lss 12 1,aa 14 13,bt 15 14 (cM 1),bt 16 14 (cM 0),bt 17 14 (lenS (t 16)),bt 18 14 (cB .gtr (t 15) (t 17)),cO 19 (pick (t 14) cK (t 18))] (ay 19 (ac [cO 4 (mov (c AV.esl)),cO 5 (mov (cN 2))] ret) skip)).seq (ac [aa 20 0,aa 21 1,aJ 22 160 [t 20,t 21],aJ 23 159 [t 22],aa 4 23,cO 5 (mov (cN 0))] ret)))))
theorem M3:Is Tryz.prog 137 L5:=mkI Tryz.func137
def Nq:F2:=(F2.mk 16 [RV.cn 2 16] (ac [cO 2 (alloc (AV.agg [bj,bj,bj,bj,bj,bj,bj,bj,bj,bj,bj,bj,bj,bj,bj,bj]))] (ac [cO 3 (alloc (AV.agg [bj,bj,bj,bj,bj,bj,bj,bj,bj,bj,bj,bj,bj,bj,bj,bj]))] ((ac [cO 5 (mov (cN 0))] (block 0 (ac [aq 6 .lss 5 8] ((ay 6 skip (exit 0)).seq ((block 1 (ac [aa 7 5,aa 4 7] (ops 0 [aa 8 4,cO 9 (ixaA 8 2 (t 3) (t 8)),ce 10 0 9,Op2.mk none none (Ins.st 1 (t 10) (cN ((-1))))]))).seq (ops 0 [aq 11 .add 5 1,aa 5 11])))).loop)).seq (ac [cO 12 (slp 8 2 (t 3)),aa 13 0,cO 14 (cpy 2 (t 12) (t 13))] (ac [bB 15 16 3,bl 16 2 15] ret))))))
theorem MP:Is Tryz.prog 138 Nq:=mkI Tryz.func138
def OE:F2:=(F2.mk 36 [RV.t 2] (ac [cO 2 (mov (c AV.esl))] (ac [cO 3 (mov (cN 0))] ((ac [aa 9 0,bi 10 9,cO 11 (mov (cN 0))] (block 0 (ac [aP 12 .lss 11 10] ((ay 12 skip (exit 0)).seq ((block 1 (ac [cO 13 (ixaS 1 (t 9) (t 11)),aD 14 13,aa 5 14] (ac [aa 15 3,aa 16 5,bi 17 16,aP 18 .add 15 17,aa 3 18] (ac [aa 19 3,aq 20 .lss 19 0] (ay 20 (ops 0 [cO 21 dead,Op2.mk none none dead]) skip))))).seq (ops 0 [aq 22 .add 11 1,aa 11 22])))).loop)).seq (ac [aa 23 3,aJ 24 161 [c AV.esl,t 23],aa 6 24] ((ac [aa 25 0,bi 26 25,cO 27 (mov (cN 0))] (block 2 (ac [aP 28 .lss 27 26] ((ay 28 skip (exit 2)).seq ((block 3 (ac [cO 29 (ixaS 1 (t 25) (t 27)),aD 30 29,aa 8 30] (ops 0 [aa 31 6,aa 32 8,cO 33 (app 2 16 (t 31) (t 32)),aa 6 33]))).seq (ops 0 [aq 34 .add 27 1,aa 27 34])))).loop)).seq (ac [aa 35 6,aa 2 35] ret)))))))
theorem M9:Is Tryz.prog 141 OE:=mkI Tryz.func141
def OM:F2:=(F2.mk 6 [RV.t 2] (ac [cO 2 (mov a8)] (ac [aa 3 0,bi 4 3,aq 5 .leq 4 10,aa 2 5] ret)))
theorem L7:Is Tryz.prog 145 OM:=mkI Tryz.func145
def N4:F2:=(F2.mk 14 [RV.t 4] (ac [cO 4 (mov a8)] (ac [aa 8 0,aa 9 1,aJ 10 163 [t 8,t 9],aa 7 10,aV 11 7 0,aV 12 7 1,aa 5 11,aa 6 12] (ac [aa 13 6,aa 4 13] ret))))
theorem Oo:Is Tryz.prog 146 N4:=mkI Tryz.func146
def KJ:F2:=(F2.mk 11 [] (ac [aa 3 0,bi 4 3,aa 2 4] (ops 0 [aa 5 0,aa 6 2,aa 7 2,cO 8 (conv IntKind.u64 (t 7)),aJ 9 156 [t 8],aJ 10 164 ([t 5,cN ((0)),t 6,t 9])])))
theorem JE:Is Tryz.prog 147 KJ:=mkI Tryz.func147
def MG:F2:=(F2.mk 38 [RV.cn 3 2] (ac [cO 2 (box (t 0)),cO 3 (alloc (AV.agg [AV.esl,AV.esl]))] ((ac [cO 4 (mov (cN 0))] (block 0 ((ac [aa 7 4,ce 8 0 2,aD 9 8,bi 10 9,aP 11 .lss 7 10] (ay 11 skip (exit 0))).seq (block 1 ((mixS 9 [aD 13 1,ce 14 0 2,aD 15 14,aa 16 4,cO 17 (ixaS 1 (t 15) (t 16)),aD 18 17,cO 19 (Ins.mget (one int) (AV.agg [AV.esl,AV.esl]) true (t 13) (t 18)),aa 12 19,aV 20 12 0,aV 21 12 1,cO 5 (alloc (AV.agg [AV.esl,AV.esl])),bl 2 5 20,aa 6 21] [(0,0),(1,0),(2,0),(3,0),(4,0),(5,0),(6,4),(7,0),(8,0),(9,0),(10,1),(11,2),(12,0)]).seq ((ac [aa 22 6,cO 23 (un UnOp.not (t 22))] (ay 23 (ac [aa 24 4,aq 25 .add 24 1,aa 4 25] (exit 1)) skip)).seq (mixS 1 [ce 26 0 2,aD 27 26,ce 28 0 5,aD 29 28,aJ 30 124 [t 27,t 29],ce 31 1 2,aD 32 31,ce 33 1 5,aD 34 33,aJ 35 124 [t 32,t 34],cO 36 (bld [AV.esl,AV.esl] [(0,1,t 30),(1,1,t 35)]),bl 2 2 36] [(0,0),(1,0),(2,0),(3,0),(5,0),(6,0),(7,0),(8,0),(4,1),(9,2),(10,0),(11,2)]))))).loop)).seq (ac [bB 37 2 2,bl 2 3 37] ret))))
theorem LS:Is Tryz.prog 149 MG:=mkI Tryz.func149
def NR:F2:=(F2.mk 8 [RV.t 2] (ac [cO 2 (mov (c AV.esl))] ((ac [aa 3 0,cO 4 (snil false (t 3))] (ay 4 (ac [cO 2 (mov (c AV.esl))] ret) skip)).seq (ac [cO 5 (bldS 1 0 [bj] []),aa 6 0,cO 7 (app 1 8 (t 5) (t 6)),aa 2 7] ret))))
theorem Nw:Is Tryz.prog 150 NR:=mkI Tryz.func150
def Np:F2:=(F2.mk 18 [RV.t 2] (ac [cO 2 (mov (cN 0))] (ac [cO 3 (mov (cN 0))] ((ac [aa 6 0,bi 7 6,cO 8 (mov (cN 0))] (block 0 (ac [aP 9 .lss 8 7] ((ay 9 skip (exit 0)).seq ((block 1 (ac [cO 10 (ixaS 1 (t 6) (t 8)),aD 11 10,aa 5 11] (ac [aa 12 5,aa 13 3,aP 14 .neq 12 13] (ay 14 (ac [aa 15 5,aa 2 15] ret) skip)))).seq (ops 0 [aq 16 .add 8 1,aa 8 16])))).loop)).seq (ac [aa 17 3,aa 2 17] ret)))))
theorem LU:Is Tryz.prog 151 Np:=mkI Tryz.func151
def L1:F2:=(F2.mk 20 [RV.t 4] (ac [cO 4 (mov (cN 0))] (ac [aa 7 0,aJ 8 165 [t 7],aa 5 8] (ac [aa 9 1,aJ 10 165 [t 9],aa 6 10] ((ac [aa 11 5] (ay 11 ((ac [aa 12 6] (ay 12 (ac [cO 4 (mov (cN 0))] ret) skip)).seq (ac [cO 4 (mov (cN ((-1))))] ret)) skip)).seq ((ac [aa 13 6] (ay 13 (ac [cO 4 (mov (cN 1))] ret) skip)).seq ((ac [aa 14 0,aa 15 1,aP 16 .lss 14 15] (ay 16 (ac [cO 4 (mov (cN ((-1))))] ret) skip)).seq ((ac [aa 17 0,aa 18 1,aP 19 .gtr 17 18] (ay 19 (ac [cO 4 (mov (cN 1))] ret) skip)).seq (ac [cO 4 (mov (cN 0))] ret)))))))))
theorem Mu:Is Tryz.prog 152 L1:=mkI Tryz.func152
def NW:F2:=(F2.mk 21 [RV.t 2] (ac [cO 1 (box (t 0)),cO 2 (mov a8)] (ac [ce 3 0 1,aD 4 3,aq 5 .geq 4 0,aa 6 5,an 7 6 (fa 0 (t 1)),an 8 6 (cD 7),an 9 6 (cB .lss (t 8) (cN 8)),cO 10 (pick (t 6) (t 9) a8),aa 11 10,an 12 11 (fa 1 (t 1)),an 13 11 (cD 12),an 14 11 (cB .geq (t 13) (cN 0)),cO 15 (pick (t 11) (t 14) a8),aa 16 15,an 17 16 (fa 1 (t 1)),an 18 16 (cD 17),an 19 16 (cB .leq (t 18) (cN 1048576)),cO 20 (pick (t 16) (t 19) a8),aa 2 20] ret)))
theorem Om:Is Tryz.prog 153 NW:=mkI Tryz.func153
def L3:F2:=(F2.mk 27 [] (ac [aD 4 1,bi 5 4,cO 6 (mov (cN 0))] (block 0 (ac [aP 7 .lss 6 5] ((ay 7 skip (exit 0)).seq ((block 1 (ac [aa 8 6,aa 3 8] ((mixS 1 [aD 9 1,bi 10 9,aq 11 .gtr 10 1,aa 12 11,an 13 12 (cM 0),an 14 12 (cD 1),an 15 12 (cM 3),an 16 12 (sls 2 (t 14) none (some (t 15)) none),an 17 12 (cD 1),an 18 12 (cM 3),an 19 12 (cB .add (t 18) (cN 1)),an 20 12 (sls 2 (t 17) (some (t 19)) none none),an 21 12 (bldS 1 2 [AV.esl] [(0,1,t 16),(1,1,t 20)]),an 22 12 (call (cF 141) [t 21]),an 23 12 (call (t 13) [t 22]),an 24 12 (un UnOp.not (t 23)),cO 25 (pick (t 12) (t 24) a8)] [(0,0),(1,0),(2,0),(3,0),(4,0),(5,0),(6,0),(7,0),(8,0),(9,0),(10,0),(11,0),(12,2),(13,2),(14,2),(15,0),(16,0)]).seq (ay 25 ret skip)))).seq (ops 0 [aq 26 .add 6 1,aa 6 26])))).loop)))
theorem LV:Is Tryz.prog 154 L3:=mkI Tryz.func154
def KG:F2:=(F2.mk 148 [] (ac [cO 10 (mov cK)] (ac [cO 11 (mov cK)] (block 0 (block 1 (ac [aa 21 2,aa 22 1,aP 23 .sub 21 22,aa 12 23] ((ac [aa 24 12,aq 25 .leq 24 12] (ay 25 (ac [aa 26 0,aa 27 1,aa 28 2,aa 29 4,aJ 30 166 [t 26,t 27,t 28,t 29]] ret) skip)).seq ((ac [aa 31 3,aq 32 .eql 31 0] (ay 32 (ac [aa 33 0,aa 34 1,aa 35 2,aa 36 4,aJ 37 167 [t 33,t 34,t 35,t 36]] ret) skip)).seq ((ac [aa 38 10,cO 39 (un UnOp.not (t 38))] (ay 39 (ac [aa 40 0,aa 41 1,aa 42 2,aa 43 4,aJ 44 168 [t 40,t 41,t 42,t 43]] (ops 0 [aa 45 3,aq 46 .sub 45 1,aa 3 46])) skip)).seq (ac [aa 48 0,aa 49 1,aa 50 2,aa 51 4,aJ 52 169 [t 48,t 49,t 50,t 51],aa 47 52,aV 53 47 0,aV 54 47 1,aa 13 53,aa 14 54] ((ac [aa 55 14,aq 56 .eql 55 2] (ay 56 (ac [aa 57 0,aa 58 1,aa 59 2,aa 60 4,aJ 61 170 [t 57,t 58,t 59,t 60]] (ac [aa 62 2,aq 63 .sub 62 1,aa 64 13,aa 65 1,aP 66 .sub 64 65,aP 67 .sub 63 66,aa 13 67] (ops 0 [cO 14 (mov (cN 1))]))) skip)).seq ((ac [aa 68 10,aa 69 68,an 70 69 (cM 11),cO 71 (pick (t 69) (t 70) a8),aa 72 71,an 73 72 (cM 14),an 74 72 (cB .eql (t 73) (cN 1)),cO 75 (pick (t 72) (t 74) a8)] (ay 75 (ac [aa 76 0,aa 77 1,aa 78 2,aa 79 4,aJ 80 171 [t 76,t 77,t 78,t 79]] (ay 80 ret skip)) skip)).seq (((mixS 1 [aa 81 1,aq 82 .gtr 81 0,aa 83 82,an 84 83 (cM 4),an 85 83 (cM 0),an 86 83 (cM 1),an 87 83 (cB .sub (t 86) (cN 1)),an 88 83 (ixaS 1 (t 85) (t 87)),an 89 83 (cD 88),an 90 83 (cM 0),an 91 83 (cM 13),an 92 83 (ixaS 1 (t 90) (t 91)),an 93 83 (cD 92),an 94 83 (call (t 84) [t 89,t 93]),an 95 83 (cB .lss (t 94) (cN 0)),an 96 83 (un UnOp.not (t 95)),cO 97 (pick (t 83) (t 96) a8)] [(0,0),(1,0),(2,0),(3,0),(4,0),(5,0),(6,0),(7,0),(8,0),(9,0),(10,0),(11,0),(12,0),(13,2),(14,0),(15,0),(16,0)]).seq (ay 97 (ac [aa 98 0,aa 99 1,aa 100 2,aa 101 13,aa 102 4,aJ 103 172 [t 98,t 99,t 100,t 101,t 102],aa 15 103] (ac [aa 104 15,aa 1 104] (exit 1))) skip)).seq (ac [aa 106 0,aa 107 1,aa 108 2,aa 109 13,aa 110 4,aJ 111 173 [t 106,t 107,t 108,t 109,t 110],aa 105 111,aV 112 105 0,aV 113 105 1,aa 16 112,aa 17 113] (ac [aa 114 17,aa 11 114] (ac [aa 115 16,aa 116 1,aP 117 .sub 115 116,aa 118 2,aa 119 16,aP 120 .sub 118 119,aa 18 117,aa 19 120] (ac [aa 121 12,aq 122 .quo 121 8,aa 20 122] (ac [aa 123 18,aa 124 19,aP 125 .lss 123 124] (ay 125 (ac [aa 126 18,aa 127 20,aP 128 .geq 126 127,aa 10 128] (ac [aa 129 0,aa 130 1,aa 131 16,aa 132 3,aa 133 4,aJ 134 155 [t 129,t 130,t 131,t 132,t 133]] (ops 0 [aa 135 16,aq 136 .add 135 1,aa 1 136]))) (ac [aa 137 19,aa 138 20,aP 139 .geq 137 138,aa 10 139] (ac [aa 140 0,aa 141 16,aq 142 .add 141 1,aa 143 2,aa 144 3,aa 145 4,aJ 146 155 [t 140,t 142,t 143,t 144,t 145]] (ops 0 [aa 147 16,aa 2 147])))))))))))))))))).loop))))
theorem J3:Is Tryz.prog 155 KG:=mkI Tryz.func155
def Kk:F2:=(F2.mk 8 [RV.t 2] (ac [cO 2 (mov (cN 0))] ((C2.cond a8 (ac [aa 3 0,cO 4 (conv IntKind.u32 (t 3)),aJ 5 174 [t 4],aa 2 5] ret) skip).seq (ac [aa 6 0,aJ 7 175 [t 6],aa 2 7] ret))))
theorem JL:Is Tryz.prog 156 Kk:=mkI Tryz.func156
def Oj:F2:=(F2.mk 21 [RV.t 4] (ac [cO 4 (mov a8)] ((mixS 1 [aD 5 1,aa 6 0,cO 7 (ixaS 1 (t 5) (t 6)),aD 8 7,bi 9 8,aD 10 2,bi 11 10,aP 12 .gtr 9 11,aa 13 12,an 14 13 (cD 2),an 15 13 (cD 1),an 16 13 (cM 0),an 17 13 (ixaS 1 (t 15) (t 16)),an 18 13 (cD 17),an 19 13 (call (cF 158) [t 14,t 18]),cO 20 (pick (t 13) (t 19) a8),aa 4 20] [(0,0),(1,0),(2,0),(3,0),(4,0),(5,0),(6,0),(7,0),(8,0),(9,0),(10,0),(11,0),(12,0),(13,0),(14,2),(15,0),(16,0)]).seq ret)))
theorem N1:Is Tryz.prog 157 Oj:=mkI Tryz.func157
def Oi:F2:=(F2.mk 29 [RV.t 4] (ac [cO 4 (mov a8)] ((ac [aa 7 0,bi 8 7,cO 9 (mov (cN 0))] (block 0 (ac [aP 10 .lss 9 8] ((ay 10 skip (exit 0)).seq ((block 1 (ac [cO 11 (ixaS 2 (t 7) (t 9)),bB 12 2 11,cO 6 (alloc (AV.agg [bj,bj])),bl 2 6 12] ((block 2 (((ops 1 [aa 13 1,bi 14 13,aq 15 .gtr 14 0,aa 16 15,an 17 16 (cM 1),an 18 16 (ixaS 2 (t 17) (cN 0)),an 19 16 (ldn 2 (t 18)),an 20 16 (ldn 2 (t 6)),an 21 16 (binS BinOp.neq [int,int] (t 19) (t 20)),cO 22 (pick (t 16) (t 21) a8)]).seq (ay 22 skip (exit 2))).seq (block 3 (ops 0 [aa 23 1,cO 24 (sls 2 (t 23) (some (cN 1)) none none),aa 1 24]))).loop).seq (ac [aa 25 1,bi 26 25,aq 27 .eql 26 0] (ay 27 (ac [cO 4 (mov a8)] ret) skip))))).seq (ops 0 [aq 28 .add 9 1,aa 9 28])))).loop)).seq (ac [cO 4 (mov cK)] ret))))
theorem Nj:Is Tryz.prog 158 Oi:=mkI Tryz.func158
def MW:F2:=(F2.mk 5 [RV.t 2] (ac [cO 2 (mov (c AV.esl))] (ac [aa 3 0,aJ 4 176 [c AV.esl,t 3],aa 2 4] ret)))
theorem N7:Is Tryz.prog 159 MW:=mkI Tryz.func159
def OG:F2:=(F2.mk 6 [RV.t 4] (ac [cO 2 (box (t 0)),cO 3 (box (t 1)),cO 4 (mov (c AV.nilf))] (ac [cO 5 (mkfn 177 [t 3,t 2]),aa 4 5] ret)))
theorem ND:Is Tryz.prog 160 OG:=mkI Tryz.func160
def NT:F2:=(F2.mk 27 [RV.t 4] (ac [cO 4 (mov (c AV.esl))] ((ac [aa 5 1,aq 6 .lss 5 0] (ay 6 (ops 0 [cO 7 dead,Op2.mk none none dead]) skip)).seq ((ac [aa 8 1,aa 9 0,cO 10 (capE (t 9)),aa 11 0,bi 12 11,aP 13 .sub 10 12,aP 14 .sub 8 13,aa 1 14] (ac [aa 15 1,aq 16 .gtr 15 0] (ay 16 (ops 0 [aa 17 0,aa 18 0,cO 19 (capE (t 18)),cO 20 (sls 2 (t 17) none (some (t 19)) none),aa 21 1,cO 22 (apz 2 16 [bj,bj] (t 20) (t 21)),aa 23 0,bi 24 23,cO 25 (sls 2 (t 22) none (some (t 24)) none),aa 0 25]) skip))).seq (ac [aa 26 0,aa 4 26] ret)))))
theorem NC:Is Tryz.prog 161 NT:=mkI Tryz.func161
def Nl:F2:=(F2.mk 54 [RV.t 4,RV.t 5] (ac [cO 4 (mov (cN 0)),cO 5 (mov a8)] (ac [aa 10 0,bi 11 10,aa 6 11] (ac [aa 12 6,cO 7 (mov (cN 0)),aa 8 12] ((block 0 ((ac [aa 13 7,aa 14 8,aP 15 .lss 13 14] (ay 15 skip (exit 0))).seq (block 1 (ac [aa 16 7,aa 17 8,aP 18 .add 16 17,cO 19 (conv IntKind.u64 (t 18)),cO 20 (cB .shr (t 19) (c (AV.int IntKind.u64 (1)))),cO 21 (conv IntKind.i64 (t 20)),aa 9 21] (ac [aa 22 0,aa 23 9,cO 24 (ixaS 1 (t 22) (t 23)),aD 25 24,aa 26 1,aJ 27 187 [t 25,t 26]] (ay 27 (ops 0 [aa 28 9,aq 29 .add 28 1,aa 7 29]) (ops 0 [aa 30 9,aa 8 30])))))).loop).seq (ac [aa 31 7,aa 32 7,aa 33 6,aP 34 .lss 32 33,aa 35 34,an 36 35 (cM 0),an 37 35 (cM 7),an 38 35 (ixaS 1 (t 36) (t 37)),an 39 35 (cD 38),an 40 35 (cM 1),an 41 35 (cB .eql (t 39) (t 40)),an 42 35 (cM 41),bt 43 42 (cM 0),bt 44 42 (cM 7),bt 45 42 (ixaS 1 (t 43) (t 44)),bt 46 42 (cD 45),bt 47 42 (call (cF 188) [t 46]),bt 48 42 (cM 47),an 49 48 (cM 1),an 50 48 (call (cF 188) [t 49]),bt 51 42 (pick (t 48) (t 50) a8),an 52 35 (pick (t 42) cK (t 51)),cO 53 (pick (t 35) (t 52) a8),aa 4 31,aa 5 53] ret))))))
theorem Mv:Is Tryz.prog 163 Nl:=mkI Tryz.func163
def K2:F2:=(F2.mk 134 [] (ac [cO 8 (mov cK)] (ac [cO 9 (mov cK)] (block 0 (block 1 (ac [aa 19 2,aa 20 1,aP 21 .sub 19 20,aa 10 21] ((ac [aa 22 10,aq 23 .leq 22 12] (ay 23 (ac [aa 24 0,aa 25 1,aa 26 2,aJ 27 189 [t 24,t 25,t 26]] ret) skip)).seq ((ac [aa 28 3,aq 29 .eql 28 0] (ay 29 (ac [aa 30 0,aa 31 1,aa 32 2,aJ 33 190 [t 30,t 31,t 32]] ret) skip)).seq ((ac [aa 34 8,cO 35 (un UnOp.not (t 34))] (ay 35 (ac [aa 36 0,aa 37 1,aa 38 2,aJ 39 191 [t 36,t 37,t 38]] (ops 0 [aa 40 3,aq 41 .sub 40 1,aa 3 41])) skip)).seq (ac [aa 43 0,aa 44 1,aa 45 2,aJ 46 192 [t 43,t 44,t 45],aa 42 46,aV 47 42 0,aV 48 42 1,aa 11 47,aa 12 48] ((ac [aa 49 12,aq 50 .eql 49 2] (ay 50 (ac [aa 51 0,aa 52 1,aa 53 2,aJ 54 193 [t 51,t 52,t 53]] (ac [aa 55 2,aq 56 .sub 55 1,aa 57 11,aa 58 1,aP 59 .sub 57 58,aP 60 .sub 56 59,aa 11 60] (ops 0 [cO 12 (mov (cN 1))]))) skip)).seq ((ac [aa 61 8,aa 62 61,an 63 62 (cM 9),cO 64 (pick (t 62) (t 63) a8),aa 65 64,an 66 65 (cM 12),an 67 65 (cB .eql (t 66) (cN 1)),cO 68 (pick (t 65) (t 67) a8)] (ay 68 (ac [aa 69 0,aa 70 1,aa 71 2,aJ 72 194 [t 69,t 70,t 71]] (ay 72 ret skip)) skip)).seq (((mixS 1 [aa 73 1,aq 74 .gtr 73 0,aa 75 74,an 76 75 (cM 0),an 77 75 (cM 1),an 78 75 (cB .sub (t 77) (cN 1)),an 79 75 (ixaS 1 (t 76) (t 78)),an 80 75 (cD 79),an 81 75 (cM 0),an 82 75 (cM 11),an 83 75 (ixaS 1 (t 81) (t 82)),an 84 75 (cD 83),an 85 75 (call (cF 187) [t 80,t 84]),an 86 75 (un UnOp.not (t 85)),cO 87 (pick (t 75) (t 86) a8)] [(0,0),(1,0),(2,0),(3,0),(4,0),(5,0),(6,0),(7,0),(8,0),(9,0),(10,0),(11,0),(12,2),(13,0),(14,0)]).seq (ay 87 (ac [aa 88 0,aa 89 1,aa 90 2,aa 91 11,aJ 92 195 [t 88,t 89,t 90,t 91],aa 13 92] (ac [aa 93 13,aa 1 93] (exit 1))) skip)).seq (ac [aa 95 0,aa 96 1,aa 97 2,aa 98 11,aJ 99 196 [t 95,t 96,t 97,t 98],aa 94 99,aV 100 94 0,aV 101 94 1,aa 14 100,aa 15 101] (ac [aa 102 15,aa 9 102] (ac [aa 103 14,aa 104 1,aP 105 .sub 103 104,aa 106 2,aa 107 14,aP 108 .sub 106 107,aa 16 105,aa 17 108] (ac [aa 109 10,aq 110 .quo 109 8,aa 18 110] (ac [aa 111 16,aa 112 17,aP 113 .lss 111 112] (ay 113 (ac [aa 114 16,aa 115 18,aP 116 .geq 114 115,aa 8 116] (ac [aa 117 0,aa 118 1,aa 119 14,aa 120 3,aJ 121 164 [t 117,t 118,t 119,t 120]] (ops 0 [aa 122 14,aq 123 .add 122 1,aa 1 123]))) (ac [aa 124 17,aa 125 18,aP 126 .geq 124 125,aa 8 126] (ac [aa 127 0,aa 128 14,aq 129 .add 128 1,aa 130 2,aa 131 3,aJ 132 164 [t 127,t 129,t 130,t 131]] (ops 0 [aa 133 14,aa 2 133])))))))))))))))))).loop))))
theorem JS:Is Tryz.prog 164 K2:=mkI Tryz.func164
def Oy:F2:=(F2.mk 6 [RV.t 2] (ac [cO 2 (mov a8)] (ac [aa 3 0,aa 4 0,aP 5 .neq 3 4,aa 2 5] ret)))
theorem Ma:Is Tryz.prog 165 Oy:=mkI Tryz.func165
def J8:F2:=(F2.mk 53 [] (ac [aa 10 1,aq 11 .add 10 1,aa 8 11] (block 0 ((ac [aa 12 8,aa 13 2,aP 14 .lss 12 13] (ay 14 skip (exit 0))).seq ((block 1 (ac [aa 17 8,aa 9 17] (block 2 (((mixS 1 [aa 18 9,aa 19 1,aP 20 .gtr 18 19,aa 21 20,an 22 21 (cM 3),an 23 21 (cM 0),an 24 21 (cM 9),an 25 21 (ixaS 1 (t 23) (t 24)),an 26 21 (cD 25),an 27 21 (cM 0),an 28 21 (cM 9),an 29 21 (cB .sub (t 28) (cN 1)),an 30 21 (ixaS 1 (t 27) (t 29)),an 31 21 (cD 30),an 32 21 (call (t 22) [t 26,t 31]),an 33 21 (cB .lss (t 32) (cN 0)),cO 34 (pick (t 21) (t 33) a8)] [(0,0),(1,0),(2,0),(3,0),(4,0),(5,0),(6,0),(7,0),(8,0),(9,0),(10,0),(11,0),(12,0),(13,0),(14,2),(15,0),(16,0)]).seq (ay 34 skip (exit 2))).seq ((block 3 (ops 1 [aa 37 0,aa 38 9,aa 39 0,aa 40 9,aq 41 .sub 40 1,aa 42 0,aa 43 9,aq 44 .sub 43 1,cO 45 (ixaS 1 (t 42) (t 44)),aD 46 45,aa 47 0,aa 48 9,cO 49 (ixaS 1 (t 47) (t 48)),aD 50 49,cO 51 (ixaS 1 (t 37) (t 38)),bl 1 51 46,cO 52 (ixaS 1 (t 39) (t 41)),bl 1 52 50])).seq (ops 0 [aa 35 9,aq 36 .sub 35 1,aa 9 36]))).loop))).seq (ops 0 [aa 15 8,aq 16 .add 15 1,aa 8 16]))).loop)))
theorem JG:Is Tryz.prog 166 J8:=mkI Tryz.func166
def LL:F2:=(F2.mk 60 [] (ac [aa 13 1,aa 8 13] (ac [cO 9 (mov (cN 0))] (ac [aa 14 2,aa 15 1,aP 16 .sub 14 15,aa 10 16] ((ac [aa 17 10,aq 18 .sub 17 1,aq 19 .quo 18 2,aa 11 19] (block 0 ((ac [aa 20 11,aq 21 .geq 20 0] (ay 21 skip (exit 0))).seq ((block 1 (ops 0 [aa 24 0,aa 25 11,aa 26 10,aa 27 8,aa 28 3,aJ 29 197 [t 24,t 25,t 26,t 27,t 28]])).seq (ops 0 [aa 22 11,aq 23 .sub 22 1,aa 11 23]))).loop)).seq (ac [aa 30 10,aq 31 .sub 30 1,aa 12 31] (block 2 ((ac [aa 32 12,aq 33 .geq 32 0] (ay 33 skip (exit 2))).seq ((block 3 ((ops 1 [aa 36 0,aa 37 8,aa 38 0,aa 39 8,aa 40 12,aP 41 .add 39 40,aa 42 0,aa 43 8,aa 44 12,aP 45 .add 43 44,cO 46 (ixaS 1 (t 42) (t 45)),aD 47 46,aa 48 0,aa 49 8,cO 50 (ixaS 1 (t 48) (t 49)),aD 51 50,cO 52 (ixaS 1 (t 36) (t 37)),bl 1 52 47,cO 53 (ixaS 1 (t 38) (t 41)),bl 1 53 51]).seq (ops 0 [aa 54 0,aa 55 9,aa 56 12,aa 57 8,aa 58 3,aJ 59 197 [t 54,t 55,t 56,t 57,t 58]]))).seq (ops 0 [aa 34 12,aq 35 .sub 34 1,aa 12 35]))).loop)))))))
theorem MR:Is Tryz.prog 167 LL:=mkI Tryz.func167
def Ou:F2:=(F2.mk 67 [] (ac [aa 13 2,aa 14 1,aP 15 .sub 13 14,aa 8 15] (ac [aa 16 8,aq 17 .geq 16 8] (ay 17 (ac [aa 18 8,cO 19 (conv IntKind.u64 (t 18)),cO 9 (alloc (AV.int IntKind.u64 (0))),bl 1 9 19] (ac [aa 20 8,aJ 21 198 [t 20],aa 10 21] (ac [aa 22 1,aa 23 8,aq 24 .quo 23 4,aq 25 .mul 24 2,aP 26 .add 22 25,aq 27 .sub 26 1,aa 11 27] (block 0 ((ac [aa 28 11,aa 29 1,aa 30 8,aq 31 .quo 30 4,aq 32 .mul 31 2,aP 33 .add 29 32,aq 34 .add 33 1,aP 35 .leq 28 34] (ay 35 skip (exit 0))).seq ((block 1 (ac [aJ 38 199 [t 9],aa 39 10,cO 40 (cB .sub (t 39) (c (AV.int IntKind.u64 (1)))),aP 41 .and 38 40,cO 42 (conv IntKind.i64 (t 41)),aa 12 42] ((ac [aa 43 12,aa 44 8,aP 45 .geq 43 44] (ay 45 (ops 0 [aa 46 12,aa 47 8,aP 48 .sub 46 47,aa 12 48]) skip)).seq (ops 1 [aa 49 0,aa 50 11,aa 51 0,aa 52 1,aa 53 12,aP 54 .add 52 53,aa 55 0,aa 56 1,aa 57 12,aP 58 .add 56 57,cO 59 (ixaS 1 (t 55) (t 58)),aD 60 59,aa 61 0,aa 62 11,cO 63 (ixaS 1 (t 61) (t 62)),aD 64 63,cO 65 (ixaS 1 (t 49) (t 50)),bl 1 65 60,cO 66 (ixaS 1 (t 51) (t 54)),bl 1 66 64])))).seq (ops 0 [aa 36 11,aq 37 .add 36 1,aa 11 37]))).loop)))) skip))))
theorem L9:Is Tryz.prog 168 Ou:=mkI Tryz.func168
def Mo:F2:=(F2.mk 63 [RV.t 8,RV.t 9] (ac [cO 8 (mov (cN 0)),cO 9 (mov (cN 0))] (ac [aa 15 2,aa 16 1,aP 17 .sub 15 16,aa 10 17] (ac [cO 11 (alloc (bj))] (ac [aa 18 1,aa 19 10,aq 20 .quo 19 4,aq 21 .mul 20 1,aP 22 .add 18 21,aa 12 22] (ac [aa 23 1,aa 24 10,aq 25 .quo 24 4,aq 26 .mul 25 2,aP 27 .add 23 26,aa 13 27] (ac [aa 28 1,aa 29 10,aq 30 .quo 29 4,aq 31 .mul 30 3,aP 32 .add 28 31,aa 14 32] ((ac [aa 33 10,aq 34 .geq 33 8] (ay 34 ((ac [aa 35 10,aq 36 .geq 35 50] (ay 36 (ac [aa 37 0,aa 38 12,aa 39 3,aJ 40 200 [t 37,t 38,t 11,t 39],aa 12 40] (ac [aa 41 0,aa 42 13,aa 43 3,aJ 44 200 [t 41,t 42,t 11,t 43],aa 13 44] (ops 0 [aa 45 0,aa 46 14,aa 47 3,aJ 48 200 [t 45,t 46,t 11,t 47],aa 14 48]))) skip)).seq (ops 0 [aa 49 0,aa 50 12,aa 51 13,aa 52 14,aa 53 3,aJ 54 201 [t 49,t 50,t 51,t 52,t 11,t 53],aa 13 54])) skip)).seq (ac [aD 55 11] (block 0 (ac [aq 58 .eql 55 0,aa 57 58] (ay 57 (ac [aa 59 13,aa 8 59,cO 9 (mov (cN 1))] ret) (ac [aq 61 .eql 55 12,aa 60 61] (ay 60 (ac [aa 62 13,aa 8 62,cO 9 (mov (cN 2))] ret) (ac [aa 56 13,aa 8 56,cO 9 (mov (cN 0))] ret)))))))))))))))
theorem ML:Is Tryz.prog 169 Mo:=mkI Tryz.func169
def Nu:F2:=(F2.mk 34 [] (ac [aa 10 1,aa 8 10] (ac [aa 11 2,aq 12 .sub 11 1,aa 9 12] (block 0 ((ac [aa 13 8,aa 14 9,aP 15 .lss 13 14] (ay 15 skip (exit 0))).seq (block 1 ((ops 1 [aa 16 0,aa 17 8,aa 18 0,aa 19 9,aa 20 0,aa 21 9,cO 22 (ixaS 1 (t 20) (t 21)),aD 23 22,aa 24 0,aa 25 8,cO 26 (ixaS 1 (t 24) (t 25)),aD 27 26,cO 28 (ixaS 1 (t 16) (t 17)),bl 1 28 23,cO 29 (ixaS 1 (t 18) (t 19)),bl 1 29 27]).seq (ac [aa 30 8,aq 31 .add 30 1,aa 8 31] (ops 0 [aa 32 9,aq 33 .sub 32 1,aa 9 33]))))).loop))))
theorem NG:Is Tryz.prog 170 Nu:=mkI Tryz.func170
def NB:F2:=(F2.mk 141 [RV.t 8] (ac [cO 8 (mov a8)] (ac [aa 13 1,aq 14 .add 13 1,aa 9 14] ((ac [cO 10 (mov (cN 0))] (block 0 ((ac [aa 15 10,aq 16 .lss 15 5] (ay 16 skip (exit 0))).seq ((block 1 ((block 2 (((mixS 1 [aa 19 9,aa 20 2,aP 21 .lss 19 20,aa 22 21,an 23 22 (cM 3),an 24 22 (cM 0),an 25 22 (cM 9),an 26 22 (ixaS 1 (t 24) (t 25)),an 27 22 (cD 26),an 28 22 (cM 0),an 29 22 (cM 9),an 30 22 (cB .sub (t 29) (cN 1)),an 31 22 (ixaS 1 (t 28) (t 30)),an 32 22 (cD 31),an 33 22 (call (t 23) [t 27,t 32]),an 34 22 (cB .lss (t 33) (cN 0)),an 35 22 (un UnOp.not (t 34)),cO 36 (pick (t 22) (t 35) a8)] [(0,0),(1,0),(2,0),(3,0),(4,0),(5,0),(6,0),(7,0),(8,0),(9,0),(10,0),(11,0),(12,0),(13,0),(14,2),(15,0),(16,0),(17,0)]).seq (ay 36 skip (exit 2))).seq (block 3 (ops 0 [aa 37 9,aq 38 .add 37 1,aa 9 38]))).loop).seq ((ac [aa 39 9,aa 40 2,aP 41 .eql 39 40] (ay 41 (ac [cO 8 (mov cK)] ret) skip)).seq ((ac [aa 42 2,aa 43 1,aP 44 .sub 42 43,aq 45 .lss 44 50] (ay 45 (ac [cO 8 (mov a8)] ret) skip)).seq ((ops 1 [aa 46 0,aa 47 9,aa 48 0,aa 49 9,aq 50 .sub 49 1,aa 51 0,aa 52 9,aq 53 .sub 52 1,cO 54 (ixaS 1 (t 51) (t 53)),aD 55 54,aa 56 0,aa 57 9,cO 58 (ixaS 1 (t 56) (t 57)),aD 59 58,cO 60 (ixaS 1 (t 46) (t 47)),bl 1 60 55,cO 61 (ixaS 1 (t 48) (t 50)),bl 1 61 59]).seq ((ac [aa 62 9,aa 63 1,aP 64 .sub 62 63,aq 65 .geq 64 2] (ay 65 (ac [aa 66 9,aq 67 .sub 66 1,aa 11 67] (block 4 ((ac [aa 68 11,aq 69 .geq 68 1] (ay 69 skip (exit 4))).seq ((block 5 (((mixS 1 [aa 72 3,aa 73 0,aa 74 11,cO 75 (ixaS 1 (t 73) (t 74)),aD 76 75,aa 77 0,aa 78 11,aq 79 .sub 78 1,cO 80 (ixaS 1 (t 77) (t 79)),aD 81 80,cO 82 (call (t 72) [t 76,t 81]),aq 83 .lss 82 0,cO 84 (un UnOp.not (t 83))] [(0,0),(1,0),(2,0),(3,0),(4,0),(5,0),(6,0),(7,0),(8,0),(9,0),(10,2),(11,0),(12,0)]).seq (ay 84 (exit 4) skip)).seq (ops 1 [aa 85 0,aa 86 11,aa 87 0,aa 88 11,aq 89 .sub 88 1,aa 90 0,aa 91 11,aq 92 .sub 91 1,cO 93 (ixaS 1 (t 90) (t 92)),aD 94 93,aa 95 0,aa 96 11,cO 97 (ixaS 1 (t 95) (t 96)),aD 98 97,cO 99 (ixaS 1 (t 85) (t 86)),bl 1 99 94,cO 100 (ixaS 1 (t 87) (t 89)),bl 1 100 98]))).seq (ops 0 [aa 70 11,aq 71 .sub 70 1,aa 11 71]))).loop)) skip)).seq (ac [aa 101 2,aa 102 9,aP 103 .sub 101 102,aq 104 .geq 103 2] (ay 104 (ac [aa 105 9,aq 106 .add 105 1,aa 12 106] (block 6 ((ac [aa 107 12,aa 108 2,aP 109 .lss 107 108] (ay 109 skip (exit 6))).seq ((block 7 (((mixS 1 [aa 112 3,aa 113 0,aa 114 12,cO 115 (ixaS 1 (t 113) (t 114)),aD 116 115,aa 117 0,aa 118 12,aq 119 .sub 118 1,cO 120 (ixaS 1 (t 117) (t 119)),aD 121 120,cO 122 (call (t 112) [t 116,t 121]),aq 123 .lss 122 0,cO 124 (un UnOp.not (t 123))] [(0,0),(1,0),(2,0),(3,0),(4,0),(5,0),(6,0),(7,0),(8,0),(9,0),(10,2),(11,0),(12,0)]).seq (ay 124 (exit 6) skip)).seq (ops 1 [aa 125 0,aa 126 12,aa 127 0,aa 128 12,aq 129 .sub 128 1,aa 130 0,aa 131 12,aq 132 .sub 131 1,cO 133 (ixaS 1 (t 130) (t 132)),aD 134 133,aa 135 0,aa 136 12,cO 137 (ixaS 1 (t 135) (t 136)),aD 138 137,cO 139 (ixaS 1 (t 125) (t 126)),bl 1 139 134,cO 140 (ixaS 1 (t 127) (t 129)),bl 1 140 138]))).seq (ops 0 [aa 110 12,aq 111 .add 110 1,aa 12 111]))).loop)) skip)))))))).seq (ops 0 [aa 17 10,aq 18 .add 17 1,aa 10 18]))).loop)).seq (ac [cO 8 (mov a8)] ret)))))
theorem OC:Is Tryz.prog 171 NB:=mkI Tryz.func171
def LH:F2:=(F2.mk 90 [RV.t 10] (ac [cO 10 (mov (cN 0))] ((ops 1 [aa 13 0,aa 14 1,aa 15 0,aa 16 3,aa 17 0,aa 18 3,cO 19 (ixaS 1 (t 17) (t 18)),aD 20 19,aa 21 0,aa 22 1,cO 23 (ixaS 1 (t 21) (t 22)),aD 24 23,cO 25 (ixaS 1 (t 13) (t 14)),bl 1 25 20,cO 26 (ixaS 1 (t 15) (t 16)),bl 1 26 24]).seq (ac [aa 27 1,aq 28 .add 27 1,aa 29 2,aq 30 .sub 29 1,aa 11 28,aa 12 30] ((block 0 (block 1 ((block 2 (((mixS 1 [aa 31 11,aa 32 12,aP 33 .leq 31 32,aa 34 33,an 35 34 (cM 4),an 36 34 (cM 0),an 37 34 (cM 1),an 38 34 (ixaS 1 (t 36) (t 37)),an 39 34 (cD 38),an 40 34 (cM 0),an 41 34 (cM 11),an 42 34 (ixaS 1 (t 40) (t 41)),an 43 34 (cD 42),an 44 34 (call (t 35) [t 39,t 43]),an 45 34 (cB .lss (t 44) (cN 0)),an 46 34 (un UnOp.not (t 45)),cO 47 (pick (t 34) (t 46) a8)] [(0,0),(1,0),(2,0),(3,0),(4,0),(5,0),(6,0),(7,0),(8,0),(9,0),(10,0),(11,0),(12,0),(13,2),(14,0),(15,0),(16,0)]).seq (ay 47 skip (exit 2))).seq (block 3 (ops 0 [aa 48 11,aq 49 .add 48 1,aa 11 49]))).loop).seq ((block 4 (((mixS 1 [aa 50 11,aa 51 12,aP 52 .leq 50 51,aa 53 52,an 54 53 (cM 4),an 55 53 (cM 0),an 56 53 (cM 1),an 57 53 (ixaS 1 (t 55) (t 56)),an 58 53 (cD 57),an 59 53 (cM 0),an 60 53 (cM 12),an 61 53 (ixaS 1 (t 59) (t 60)),an 62 53 (cD 61),an 63 53 (call (t 54) [t 58,t 62]),an 64 53 (cB .lss (t 63) (cN 0)),cO 65 (pick (t 53) (t 64) a8)] [(0,0),(1,0),(2,0),(3,0),(4,0),(5,0),(6,0),(7,0),(8,0),(9,0),(10,0),(11,0),(12,0),(13,2),(14,0),(15,0)]).seq (ay 65 skip (exit 4))).seq (block 5 (ops 0 [aa 66 12,aq 67 .sub 66 1,aa 12 67]))).loop).seq ((ac [aa 68 11,aa 69 12,aP 70 .gtr 68 69] (ay 70 (exit 0) skip)).seq ((ops 1 [aa 71 0,aa 72 11,aa 73 0,aa 74 12,aa 75 0,aa 76 12,cO 77 (ixaS 1 (t 75) (t 76)),aD 78 77,aa 79 0,aa 80 11,cO 81 (ixaS 1 (t 79) (t 80)),aD 82 81,cO 83 (ixaS 1 (t 71) (t 72)),bl 1 83 78,cO 84 (ixaS 1 (t 73) (t 74)),bl 1 84 82]).seq (ac [aa 85 11,aq 86 .add 85 1,aa 11 86] (ops 0 [aa 87 12,aq 88 .sub 87 1,aa 12 88]))))))).loop).seq (ac [aa 89 11,aa 10 89] ret))))))
theorem Mh:Is Tryz.prog 172 LH:=mkI Tryz.func172
def Lw:F2:=(F2.mk 178 [RV.t 10,RV.t 11] (ac [cO 10 (mov (cN 0)),cO 11 (mov a8)] ((ops 1 [aa 14 0,aa 15 1,aa 16 0,aa 17 3,aa 18 0,aa 19 3,cO 20 (ixaS 1 (t 18) (t 19)),aD 21 20,aa 22 0,aa 23 1,cO 24 (ixaS 1 (t 22) (t 23)),aD 25 24,cO 26 (ixaS 1 (t 14) (t 15)),bl 1 26 21,cO 27 (ixaS 1 (t 16) (t 17)),bl 1 27 25]).seq (ac [aa 28 1,aq 29 .add 28 1,aa 30 2,aq 31 .sub 30 1,aa 12 29,aa 13 31] ((block 0 (((mixS 1 [aa 32 12,aa 33 13,aP 34 .leq 32 33,aa 35 34,an 36 35 (cM 4),an 37 35 (cM 0),an 38 35 (cM 12),an 39 35 (ixaS 1 (t 37) (t 38)),an 40 35 (cD 39),an 41 35 (cM 0),an 42 35 (cM 1),an 43 35 (ixaS 1 (t 41) (t 42)),an 44 35 (cD 43),an 45 35 (call (t 36) [t 40,t 44]),an 46 35 (cB .lss (t 45) (cN 0)),cO 47 (pick (t 35) (t 46) a8)] [(0,0),(1,0),(2,0),(3,0),(4,0),(5,0),(6,0),(7,0),(8,0),(9,0),(10,0),(11,0),(12,0),(13,2),(14,0),(15,0)]).seq (ay 47 skip (exit 0))).seq (block 1 (ops 0 [aa 48 12,aq 49 .add 48 1,aa 12 49]))).loop).seq ((block 2 (((mixS 1 [aa 50 12,aa 51 13,aP 52 .leq 50 51,aa 53 52,an 54 53 (cM 4),an 55 53 (cM 0),an 56 53 (cM 13),an 57 53 (ixaS 1 (t 55) (t 56)),an 58 53 (cD 57),an 59 53 (cM 0),an 60 53 (cM 1),an 61 53 (ixaS 1 (t 59) (t 60)),an 62 53 (cD 61),an 63 53 (call (t 54) [t 58,t 62]),an 64 53 (cB .lss (t 63) (cN 0)),an 65 53 (un UnOp.not (t 64)),cO 66 (pick (t 53) (t 65) a8)] [(0,0),(1,0),(2,0),(3,0),(4,0),(5,0),(6,0),(7,0),(8,0),(9,0),(10,0),(11,0),(12,0),(13,2),(14,0),(15,0),(16,0)]).seq (ay 66 skip (exit 2))).seq (block 3 (ops 0 [aa 67 13,aq 68 .sub 67 1,aa 13 68]))).loop).seq ((ac [aa 69 12,aa 70 13,aP 71 .gtr 69 70] (ay 71 ((ops 1 [aa 72 0,aa 73 13,aa 74 0,aa 75 1,aa 76 0,aa 77 1,cO 78 (ixaS 1 (t 76) (t 77)),aD 79 78,aa 80 0,aa 81 13,cO 82 (ixaS 1 (t 80) (t 81)),aD 83 82,cO 84 (ixaS 1 (t 72) (t 73)),bl 1 84 79,cO 85 (ixaS 1 (t 74) (t 75)),bl 1 85 83]).seq (ac [aa 86 13,aa 10 86,cO 11 (mov cK)] ret)) skip)).seq ((ops 1 [aa 87 0,aa 88 12,aa 89 0,aa 90 13,aa 91 0,aa 92 13,cO 93 (ixaS 1 (t 91) (t 92)),aD 94 93,aa 95 0,aa 96 12,cO 97 (ixaS 1 (t 95) (t 96)),aD 98 97,cO 99 (ixaS 1 (t 87) (t 88)),bl 1 99 94,cO 100 (ixaS 1 (t 89) (t 90)),bl 1 100 98]).seq (ac [aa 101 12,aq 102 .add 101 1,aa 12 102] (ac [aa 103 13,aq 104 .sub 103 1,aa 13 104] ((block 4 (block 5 ((block 6 (((mixS 1 [aa 105 12,aa 106 13,aP 107 .leq 105 106,aa 108 107,an 109 108 (cM 4),an 110 108 (cM 0),an 111 108 (cM 12),an 112 108 (ixaS 1 (t 110) (t 111)),an 113 108 (cD 112),an 114 108 (cM 0),an 115 108 (cM 1),an 116 108 (ixaS 1 (t 114) (t 115)),an 117 108 (cD 116),an 118 108 (call (t 109) [t 113,t 117]),an 119 108 (cB .lss (t 118) (cN 0)),cO 120 (pick (t 108) (t 119) a8)] [(0,0),(1,0),(2,0),(3,0),(4,0),(5,0),(6,0),(7,0),(8,0),(9,0),(10,0),(11,0),(12,0),(13,2),(14,0),(15,0)]).seq (ay 120 skip (exit 6))).seq (block 7 (ops 0 [aa 121 12,aq 122 .add 121 1,aa 12 122]))).loop).seq ((block 8 (((mixS 1 [aa 123 12,aa 124 13,aP 125 .leq 123 124,aa 126 125,an 127 126 (cM 4),an 128 126 (cM 0),an 129 126 (cM 13),an 130 126 (ixaS 1 (t 128) (t 129)),an 131 126 (cD 130),an 132 126 (cM 0),an 133 126 (cM 1),an 134 126 (ixaS 1 (t 132) (t 133)),an 135 126 (cD 134),an 136 126 (call (t 127) [t 131,t 135]),an 137 126 (cB .lss (t 136) (cN 0)),an 138 126 (un UnOp.not (t 137)),cO 139 (pick (t 126) (t 138) a8)] [(0,0),(1,0),(2,0),(3,0),(4,0),(5,0),(6,0),(7,0),(8,0),(9,0),(10,0),(11,0),(12,0),(13,2),(14,0),(15,0),(16,0)]).seq (ay 139 skip (exit 8))).seq (block 9 (ops 0 [aa 140 13,aq 141 .sub 140 1,aa 13 141]))).loop).seq ((ac [aa 142 12,aa 143 13,aP 144 .gtr 142 143] (ay 144 (exit 4) skip)).seq ((ops 1 [aa 145 0,aa 146 12,aa 147 0,aa 148 13,aa 149 0,aa 150 13,cO 151 (ixaS 1 (t 149) (t 150)),aD 152 151,aa 153 0,aa 154 12,cO 155 (ixaS 1 (t 153) (t 154)),aD 156 155,cO 157 (ixaS 1 (t 145) (t 146)),bl 1 157 152,cO 158 (ixaS 1 (t 147) (t 148)),bl 1 158 156]).seq (ac [aa 159 12,aq 160 .add 159 1,aa 12 160] (ops 0 [aa 161 13,aq 162 .sub 161 1,aa 13 162]))))))).loop).seq ((ops 1 [aa 163 0,aa 164 13,aa 165 0,aa 166 1,aa 167 0,aa 168 1,cO 169 (ixaS 1 (t 167) (t 168)),aD 170 169,aa 171 0,aa 172 13,cO 173 (ixaS 1 (t 171) (t 172)),aD 174 173,cO 175 (ixaS 1 (t 163) (t 164)),bl 1 175 170,cO 176 (ixaS 1 (t 165) (t 166)),bl 1 176 174]).seq (ac [aa 177 13,aa 10 177,cO 11 (mov a8)] ret)))))))))))))
theorem OB:Is Tryz.prog 173 Lw:=mkI Tryz.func173
def J5:F2:=(F2.mk 25 [RV.t 2] (ac [cO 2 (mov (cN 0))] ((ac [aa 3 0,cO 4 (cB .geq (t 3) (c (AV.int IntKind.u64 (4294967296))))] (ay 4 (ac [aa 5 0,cO 6 (cB .shr (t 5) (c (AV.int IntKind.u64 (32)))),aa 0 6] (ops 0 [cO 2 (mov (cN 32))])) skip)).seq ((ac [aa 7 0,cO 8 (cB .geq (t 7) (c (AV.int IntKind.u64 (65536))))] (ay 8 (ac [aa 9 0,cO 10 (cB .shr (t 9) (c (AV.int IntKind.u64 (16)))),aa 0 10] (ops 0 [aa 11 2,aq 12 .add 11 16,aa 2 12])) skip)).seq ((ac [aa 13 0,cO 14 (cB .geq (t 13) (c (AV.int IntKind.u64 (256))))] (ay 14 (ac [aa 15 0,cO 16 (cB .shr (t 15) (c (AV.int IntKind.u64 (8)))),aa 0 16] (ops 0 [aa 17 2,aq 18 .add 17 8,aa 2 18])) skip)).seq (ac [aa 19 2,aa 20 0,cO 21 (conv IntKind.u8 (t 20)),cO 22 (ixStr (c (AV.str (ByteArray.mk (Array.mk [0,1,2,2,3,3,3,3,4,4,4,4,4,4,4,4,5,5,5,5,5,5,5,5,5,5,5,5,5,5,5,5,6,6,6,6,6,6,6,6,6,6,6,6,6,6,6,6,6,6,6,6,6,6,6,6,6,6,6,6,6,6,6,6,7,7,7,7,7,7,7,7,7,7,7,7,7,7,7,7,7,7,7,7,7,7,7,7,7,7,7,7,7,7,7,7,7,7,7,7,7,7,7,7,7,7,7,7,7,7,7,7,7,7,7,7,7,7,7,7,7,7,7,7,7,7,7,7,8,8,8,8,8,8,8,8,8,8,8,8,8,8,8,8,8,8,8,8,8,8,8,8,8,8,8,8,8,8,8,8,8,8,8,8,8,8,8,8,8,8,8,8,8,8,8,8,8,8,8,8,8,8,8,8,8,8,8,8,8,8,8,8,8,8,8,8,8,8,8,8,8,8,8,8,8,8,8,8,8,8,8,8,8,8,8,8,8,8,8,8,8,8,8,8,8,8,8,8,8,8,8,8,8,8,8,8,8,8,8,8,8,8,8,8,8,8,8,8,8,8,8,8,8,8,8,8])))) (t 21)),cO 23 (conv IntKind.i64 (t 22)),aP 24 .add 19 23,aa 2 24] ret))))))
theorem JO:Is Tryz.prog 175 J5:=mkI Tryz.func175
def N2:F2:=(F2.mk 13 [RV.t 4] (ac [cO 2 (box (t 0)),cO 4 (mov (c AV.esl))] ((ac [aa 6 1] (block 0 (rangeF (t 6) [7] (ops 0 [aa 5 7]) (block 1 (ops 0 [aD 8 2,aa 9 5,cO 10 (bldS 1 1 [AV.esl] [(0,1,t 9)]),cO 11 (app 1 24 (t 8) (t 10)),bl 1 2 11]))))).seq (ac [aD 12 2,aa 4 12] ret))))
theorem Oq:Is Tryz.prog 176 N2:=mkI Tryz.func176
def ME:F2:=(F2.mk 10 [] (ac [cO 3 (box (t 0))] (ac [cO 4 (alloc AV.nilf)] (ac [cO 5 (mkfn 178 [t 1,t 3,t 2,t 4]),bl 1 4 5] (mixS 1 [aD 6 4,aD 7 1,cO 8 (mks 2 16 [bj,bj] (cN 0) (t 7)),cO 9 (call (t 6) [cN ((0)),t 8])] [(0,0),(1,0),(2,1),(3,2)])))))
theorem NA:Is Tryz.prog 177 ME:=mkI Tryz.func177
def Lj:F2:=(F2.mk 37 [RV.t 8] (ac [cO 8 (mov a8)] ((ac [aa 10 1,bi 11 10,aD 12 2,aP 13 .eql 11 12] (ay 13 ((mixS 1 [aD 14 3,aa 15 1,aJ 16 136 [t 15],cO 17 (call (t 14) [t 16]),aa 8 17] [(0,0),(1,0),(2,1),(3,2),(4,0)]).seq ret) skip)).seq ((ac [aa 18 0,aa 9 18] (block 0 ((ac [aa 19 9,aD 20 4,bi 21 20,aP 22 .lss 19 21] (ay 22 skip (exit 0))).seq ((block 1 ((mixS 2 [aD 25 5,aa 26 9,aq 27 .add 26 1,aa 28 1,aD 29 4,aa 30 9,cO 31 (ixaS 2 (t 29) (t 30)),bB 32 2 31,cO 33 (bldS 2 1 [bj,bj] [(0,2,t 32)]),cO 34 (app 2 16 (t 28) (t 33)),cO 35 (call (t 25) [t 27,t 34]),cO 36 (un UnOp.not (t 35))] [(0,0),(1,0),(2,0),(3,0),(4,0),(5,0),(6,0),(7,0),(8,1),(9,1),(10,2),(11,0)]).seq (ay 36 (ac [cO 8 (mov a8)] ret) skip))).seq (ops 0 [aa 23 9,aq 24 .add 23 1,aa 9 24]))).loop)).seq (ac [cO 8 (mov cK)] ret)))))
theorem Jz:Is Tryz.prog 178 Lj:=mkI Tryz.func178
def KU:F2:=(F2.mk 17 [RV.t 4] (ac [cO 4 (mov a8)] (ac [aa 5 0,aJ 6 165 [t 5],aa 7 6,an 8 7 (cM 1),an 9 7 (call (cF 165) [t 8]),an 10 7 (un UnOp.not (t 9)),cO 11 (pick (t 7) (t 10) a8),aa 12 11,bt 13 12 (cM 0),bt 14 12 (cM 1),bt 15 12 (cB .lss (t 13) (t 14)),cO 16 (pick (t 12) cK (t 15)),aa 4 16] ret)))
theorem JH:Is Tryz.prog 187 KU:=mkI Tryz.func187
def Nd:F2:=(F2.mk 6 [RV.t 2] (ac [cO 2 (mov a8)] (ac [aa 3 0,aa 4 0,aP 5 .neq 3 4,aa 2 5] ret)))
theorem L8:Is Tryz.prog 188 Nd:=mkI Tryz.func188
def MX:F2:=(F2.mk 49 [] (ac [aa 8 1,aq 9 .add 8 1,aa 6 9] (block 0 ((ac [aa 10 6,aa 11 2,aP 12 .lss 10 11] (ay 12 skip (exit 0))).seq ((block 1 (ac [aa 15 6,aa 7 15] (block 2 (((mixS 1 [aa 16 7,aa 17 1,aP 18 .gtr 16 17,aa 19 18,an 20 19 (cM 0),an 21 19 (cM 7),an 22 19 (ixaS 1 (t 20) (t 21)),an 23 19 (cD 22),an 24 19 (cM 0),an 25 19 (cM 7),an 26 19 (cB .sub (t 25) (cN 1)),an 27 19 (ixaS 1 (t 24) (t 26)),an 28 19 (cD 27),an 29 19 (call (cF 187) [t 23,t 28]),cO 30 (pick (t 19) (t 29) a8)] [(0,0),(1,0),(2,0),(3,0),(4,0),(5,0),(6,0),(7,0),(8,0),(9,0),(10,0),(11,0),(12,0),(13,2),(14,0)]).seq (ay 30 skip (exit 2))).seq ((block 3 (ops 1 [aa 33 0,aa 34 7,aa 35 0,aa 36 7,aq 37 .sub 36 1,aa 38 0,aa 39 7,aq 40 .sub 39 1,cO 41 (ixaS 1 (t 38) (t 40)),aD 42 41,aa 43 0,aa 44 7,cO 45 (ixaS 1 (t 43) (t 44)),aD 46 45,cO 47 (ixaS 1 (t 33) (t 34)),bl 1 47 42,cO 48 (ixaS 1 (t 35) (t 37)),bl 1 48 46])).seq (ops 0 [aa 31 7,aq 32 .sub 31 1,aa 7 32]))).loop))).seq (ops 0 [aa 13 6,aq 14 .add 13 1,aa 6 14]))).loop)))
theorem OQ:Is Tryz.prog 189 MX:=mkI Tryz.func189
def Oz:F2:=(F2.mk 56 [] (ac [aa 11 1,aa 6 11] (ac [cO 7 (mov (cN 0))] (ac [aa 12 2,aa 13 1,aP 14 .sub 12 13,aa 8 14] ((ac [aa 15 8,aq 16 .sub 15 1,aq 17 .quo 16 2,aa 9 17] (block 0 ((ac [aa 18 9,aq 19 .geq 18 0] (ay 19 skip (exit 0))).seq ((block 1 (ops 0 [aa 22 0,aa 23 9,aa 24 8,aa 25 6,aJ 26 205 [t 22,t 23,t 24,t 25]])).seq (ops 0 [aa 20 9,aq 21 .sub 20 1,aa 9 21]))).loop)).seq (ac [aa 27 8,aq 28 .sub 27 1,aa 10 28] (block 2 ((ac [aa 29 10,aq 30 .geq 29 0] (ay 30 skip (exit 2))).seq ((block 3 ((ops 1 [aa 33 0,aa 34 6,aa 35 0,aa 36 6,aa 37 10,aP 38 .add 36 37,aa 39 0,aa 40 6,aa 41 10,aP 42 .add 40 41,cO 43 (ixaS 1 (t 39) (t 42)),aD 44 43,aa 45 0,aa 46 6,cO 47 (ixaS 1 (t 45) (t 46)),aD 48 47,cO 49 (ixaS 1 (t 33) (t 34)),bl 1 49 44,cO 50 (ixaS 1 (t 35) (t 38)),bl 1 50 48]).seq (ops 0 [aa 51 0,aa 52 7,aa 53 10,aa 54 6,aJ 55 205 [t 51,t 52,t 53,t 54]]))).seq (ops 0 [aa 31 10,aq 32 .sub 31 1,aa 10 32]))).loop)))))))
theorem N3:Is Tryz.prog 190 Oz:=mkI Tryz.func190
def Oc:F2:=(F2.mk 65 [] (ac [aa 11 2,aa 12 1,aP 13 .sub 11 12,aa 6 13] (ac [aa 14 6,aq 15 .geq 14 8] (ay 15 (ac [aa 16 6,cO 17 (conv IntKind.u64 (t 16)),cO 7 (alloc (AV.int IntKind.u64 (0))),bl 1 7 17] (ac [aa 18 6,aJ 19 198 [t 18],aa 8 19] (ac [aa 20 1,aa 21 6,aq 22 .quo 21 4,aq 23 .mul 22 2,aP 24 .add 20 23,aq 25 .sub 24 1,aa 9 25] (block 0 ((ac [aa 26 9,aa 27 1,aa 28 6,aq 29 .quo 28 4,aq 30 .mul 29 2,aP 31 .add 27 30,aq 32 .add 31 1,aP 33 .leq 26 32] (ay 33 skip (exit 0))).seq ((block 1 (ac [aJ 36 199 [t 7],aa 37 8,cO 38 (cB .sub (t 37) (c (AV.int IntKind.u64 (1)))),aP 39 .and 36 38,cO 40 (conv IntKind.i64 (t 39)),aa 10 40] ((ac [aa 41 10,aa 42 6,aP 43 .geq 41 42] (ay 43 (ops 0 [aa 44 10,aa 45 6,aP 46 .sub 44 45,aa 10 46]) skip)).seq (ops 1 [aa 47 0,aa 48 9,aa 49 0,aa 50 1,aa 51 10,aP 52 .add 50 51,aa 53 0,aa 54 1,aa 55 10,aP 56 .add 54 55,cO 57 (ixaS 1 (t 53) (t 56)),aD 58 57,aa 59 0,aa 60 9,cO 61 (ixaS 1 (t 59) (t 60)),aD 62 61,cO 63 (ixaS 1 (t 47) (t 48)),bl 1 63 58,cO 64 (ixaS 1 (t 49) (t 52)),bl 1 64 62])))).seq (ops 0 [aa 34 9,aq 35 .add 34 1,aa 9 35]))).loop)))) skip))))
theorem MV:Is Tryz.prog 191 Oc:=mkI Tryz.func191
def Nk:F2:=(F2.mk 57 [RV.t 6,RV.t 7] (ac [cO 6 (mov (cN 0)),cO 7 (mov (cN 0))] (ac [aa 13 2,aa 14 1,aP 15 .sub 13 14,aa 8 15] (ac [cO 9 (alloc (bj))] (ac [aa 16 1,aa 17 8,aq 18 .quo 17 4,aq 19 .mul 18 1,aP 20 .add 16 19,aa 10 20] (ac [aa 21 1,aa 22 8,aq 23 .quo 22 4,aq 24 .mul 23 2,aP 25 .add 21 24,aa 11 25] (ac [aa 26 1,aa 27 8,aq 28 .quo 27 4,aq 29 .mul 28 3,aP 30 .add 26 29,aa 12 30] ((ac [aa 31 8,aq 32 .geq 31 8] (ay 32 ((ac [aa 33 8,aq 34 .geq 33 50] (ay 34 (ac [aa 35 0,aa 36 10,aJ 37 206 [t 35,t 36,t 9],aa 10 37] (ac [aa 38 0,aa 39 11,aJ 40 206 [t 38,t 39,t 9],aa 11 40] (ops 0 [aa 41 0,aa 42 12,aJ 43 206 [t 41,t 42,t 9],aa 12 43]))) skip)).seq (ops 0 [aa 44 0,aa 45 10,aa 46 11,aa 47 12,aJ 48 207 [t 44,t 45,t 46,t 47,t 9],aa 11 48])) skip)).seq (ac [aD 49 9] (block 0 (ac [aq 52 .eql 49 0,aa 51 52] (ay 51 (ac [aa 53 11,aa 6 53,cO 7 (mov (cN 1))] ret) (ac [aq 55 .eql 49 12,aa 54 55] (ay 54 (ac [aa 56 11,aa 6 56,cO 7 (mov (cN 2))] ret) (ac [aa 50 11,aa 6 50,cO 7 (mov (cN 0))] ret)))))))))))))))
theorem LG:Is Tryz.prog 192 Nk:=mkI Tryz.func192
def Ly:F2:=(F2.mk 32 [] (ac [aa 8 1,aa 6 8] (ac [aa 9 2,aq 10 .sub 9 1,aa 7 10] (block 0 ((ac [aa 11 6,aa 12 7,aP 13 .lss 11 12] (ay 13 skip (exit 0))).seq (block 1 ((ops 1 [aa 14 0,aa 15 6,aa 16 0,aa 17 7,aa 18 0,aa 19 7,cO 20 (ixaS 1 (t 18) (t 19)),aD 21 20,aa 22 0,aa 23 6,cO 24 (ixaS 1 (t 22) (t 23)),aD 25 24,cO 26 (ixaS 1 (t 14) (t 15)),bl 1 26 21,cO 27 (ixaS 1 (t 16) (t 17)),bl 1 27 25]).seq (ac [aa 28 6,aq 29 .add 28 1,aa 6 29] (ops 0 [aa 30 7,aq 31 .sub 30 1,aa 7 31]))))).loop))))
theorem M7:Is Tryz.prog 193 Ly:=mkI Tryz.func193
def Oh:F2:=(F2.mk 133 [RV.t 6] (ac [cO 6 (mov a8)] (ac [aa 11 1,aq 12 .add 11 1,aa 7 12] ((ac [cO 8 (mov (cN 0))] (block 0 ((ac [aa 13 8,aq 14 .lss 13 5] (ay 14 skip (exit 0))).seq ((block 1 ((block 2 (((mixS 1 [aa 17 7,aa 18 2,aP 19 .lss 17 18,aa 20 19,an 21 20 (cM 0),an 22 20 (cM 7),an 23 20 (ixaS 1 (t 21) (t 22)),an 24 20 (cD 23),an 25 20 (cM 0),an 26 20 (cM 7),an 27 20 (cB .sub (t 26) (cN 1)),an 28 20 (ixaS 1 (t 25) (t 27)),an 29 20 (cD 28),an 30 20 (call (cF 187) [t 24,t 29]),an 31 20 (un UnOp.not (t 30)),cO 32 (pick (t 20) (t 31) a8)] [(0,0),(1,0),(2,0),(3,0),(4,0),(5,0),(6,0),(7,0),(8,0),(9,0),(10,0),(11,0),(12,0),(13,2),(14,0),(15,0)]).seq (ay 32 skip (exit 2))).seq (block 3 (ops 0 [aa 33 7,aq 34 .add 33 1,aa 7 34]))).loop).seq ((ac [aa 35 7,aa 36 2,aP 37 .eql 35 36] (ay 37 (ac [cO 6 (mov cK)] ret) skip)).seq ((ac [aa 38 2,aa 39 1,aP 40 .sub 38 39,aq 41 .lss 40 50] (ay 41 (ac [cO 6 (mov a8)] ret) skip)).seq ((ops 1 [aa 42 0,aa 43 7,aa 44 0,aa 45 7,aq 46 .sub 45 1,aa 47 0,aa 48 7,aq 49 .sub 48 1,cO 50 (ixaS 1 (t 47) (t 49)),aD 51 50,aa 52 0,aa 53 7,cO 54 (ixaS 1 (t 52) (t 53)),aD 55 54,cO 56 (ixaS 1 (t 42) (t 43)),bl 1 56 51,cO 57 (ixaS 1 (t 44) (t 46)),bl 1 57 55]).seq ((ac [aa 58 7,aa 59 1,aP 60 .sub 58 59,aq 61 .geq 60 2] (ay 61 (ac [aa 62 7,aq 63 .sub 62 1,aa 9 63] (block 4 ((ac [aa 64 9,aq 65 .geq 64 1] (ay 65 skip (exit 4))).seq ((block 5 (((mixS 1 [aa 68 0,aa 69 9,cO 70 (ixaS 1 (t 68) (t 69)),aD 71 70,aa 72 0,aa 73 9,aq 74 .sub 73 1,cO 75 (ixaS 1 (t 72) (t 74)),aD 76 75,aJ 77 187 [t 71,t 76],cO 78 (un UnOp.not (t 77))] [(0,0),(1,0),(2,0),(3,0),(4,0),(5,0),(6,0),(7,0),(8,0),(9,2),(10,0)]).seq (ay 78 (exit 4) skip)).seq (ops 1 [aa 79 0,aa 80 9,aa 81 0,aa 82 9,aq 83 .sub 82 1,aa 84 0,aa 85 9,aq 86 .sub 85 1,cO 87 (ixaS 1 (t 84) (t 86)),aD 88 87,aa 89 0,aa 90 9,cO 91 (ixaS 1 (t 89) (t 90)),aD 92 91,cO 93 (ixaS 1 (t 79) (t 80)),bl 1 93 88,cO 94 (ixaS 1 (t 81) (t 83)),bl 1 94 92]))).seq (ops 0 [aa 66 9,aq 67 .sub 66 1,aa 9 67]))).loop)) skip)).seq (ac [aa 95 2,aa 96 7,aP 97 .sub 95 96,aq 98 .geq 97 2] (ay 98 (ac [aa 99 7,aq 100 .add 99 1,aa 10 100] (block 6 ((ac [aa 101 10,aa 102 2,aP 103 .lss 101 102] (ay 103 skip (exit 6))).seq ((block 7 (((mixS 1 [aa 106 0,aa 107 10,cO 108 (ixaS 1 (t 106) (t 107)),aD 109 108,aa 110 0,aa 111 10,aq 112 .sub 111 1,cO 113 (ixaS 1 (t 110) (t 112)),aD 114 113,aJ 115 187 [t 109,t 114],cO 116 (un UnOp.not (t 115))] [(0,0),(1,0),(2,0),(3,0),(4,0),(5,0),(6,0),(7,0),(8,0),(9,2),(10,0)]).seq (ay 116 (exit 6) skip)).seq (ops 1 [aa 117 0,aa 118 10,aa 119 0,aa 120 10,aq 121 .sub 120 1,aa 122 0,aa 123 10,aq 124 .sub 123 1,cO 125 (ixaS 1 (t 122) (t 124)),aD 126 125,aa 127 0,aa 128 10,cO 129 (ixaS 1 (t 127) (t 128)),aD 130 129,cO 131 (ixaS 1 (t 117) (t 118)),bl 1 131 126,cO 132 (ixaS 1 (t 119) (t 121)),bl 1 132 130]))).seq (ops 0 [aa 104 10,aq 105 .add 104 1,aa 10 105]))).loop)) skip)))))))).seq (ops 0 [aa 15 8,aq 16 .add 15 1,aa 8 16]))).loop)).seq (ac [cO 6 (mov a8)] ret)))))
theorem Nn:Is Tryz.prog 194 Oh:=mkI Tryz.func194
def MZ:F2:=(F2.mk 84 [RV.t 8] (ac [cO 8 (mov (cN 0))] ((ops 1 [aa 11 0,aa 12 1,aa 13 0,aa 14 3,aa 15 0,aa 16 3,cO 17 (ixaS 1 (t 15) (t 16)),aD 18 17,aa 19 0,aa 20 1,cO 21 (ixaS 1 (t 19) (t 20)),aD 22 21,cO 23 (ixaS 1 (t 11) (t 12)),bl 1 23 18,cO 24 (ixaS 1 (t 13) (t 14)),bl 1 24 22]).seq (ac [aa 25 1,aq 26 .add 25 1,aa 27 2,aq 28 .sub 27 1,aa 9 26,aa 10 28] ((block 0 (block 1 ((block 2 (((mixS 1 [aa 29 9,aa 30 10,aP 31 .leq 29 30,aa 32 31,an 33 32 (cM 0),an 34 32 (cM 1),an 35 32 (ixaS 1 (t 33) (t 34)),an 36 32 (cD 35),an 37 32 (cM 0),an 38 32 (cM 9),an 39 32 (ixaS 1 (t 37) (t 38)),an 40 32 (cD 39),an 41 32 (call (cF 187) [t 36,t 40]),an 42 32 (un UnOp.not (t 41)),cO 43 (pick (t 32) (t 42) a8)] [(0,0),(1,0),(2,0),(3,0),(4,0),(5,0),(6,0),(7,0),(8,0),(9,0),(10,0),(11,0),(12,2),(13,0),(14,0)]).seq (ay 43 skip (exit 2))).seq (block 3 (ops 0 [aa 44 9,aq 45 .add 44 1,aa 9 45]))).loop).seq ((block 4 (((mixS 1 [aa 46 9,aa 47 10,aP 48 .leq 46 47,aa 49 48,an 50 49 (cM 0),an 51 49 (cM 1),an 52 49 (ixaS 1 (t 50) (t 51)),an 53 49 (cD 52),an 54 49 (cM 0),an 55 49 (cM 10),an 56 49 (ixaS 1 (t 54) (t 55)),an 57 49 (cD 56),an 58 49 (call (cF 187) [t 53,t 57]),cO 59 (pick (t 49) (t 58) a8)] [(0,0),(1,0),(2,0),(3,0),(4,0),(5,0),(6,0),(7,0),(8,0),(9,0),(10,0),(11,0),(12,2),(13,0)]).seq (ay 59 skip (exit 4))).seq (block 5 (ops 0 [aa 60 10,aq 61 .sub 60 1,aa 10 61]))).loop).seq ((ac [aa 62 9,aa 63 10,aP 64 .gtr 62 63] (ay 64 (exit 0) skip)).seq ((ops 1 [aa 65 0,aa 66 9,aa 67 0,aa 68 10,aa 69 0,aa 70 10,cO 71 (ixaS 1 (t 69) (t 70)),aD 72 71,aa 73 0,aa 74 9,cO 75 (ixaS 1 (t 73) (t 74)),aD 76 75,cO 77 (ixaS 1 (t 65) (t 66)),bl 1 77 72,cO 78 (ixaS 1 (t 67) (t 68)),bl 1 78 76]).seq (ac [aa 79 9,aq 80 .add 79 1,aa 9 80] (ops 0 [aa 81 10,aq 82 .sub 81 1,aa 10 82]))))))).loop).seq (ac [aa 83 9,aa 8 83] ret))))))
theorem MM:Is Tryz.prog 195 MZ:=mkI Tryz.func195
def LF:F2:=(F2.mk 168 [RV.t 8,RV.t 9] (ac [cO 8 (mov (cN 0)),cO 9 (mov a8)] ((ops 1 [aa 12 0,aa 13 1,aa 14 0,aa 15 3,aa 16 0,aa 17 3,cO 18 (ixaS 1 (t 16) (t 17)),aD 19 18,aa 20 0,aa 21 1,cO 22 (ixaS 1 (t 20) (t 21)),aD 23 22,cO 24 (ixaS 1 (t 12) (t 13)),bl 1 24 19,cO 25 (ixaS 1 (t 14) (t 15)),bl 1 25 23]).seq (ac [aa 26 1,aq 27 .add 26 1,aa 28 2,aq 29 .sub 28 1,aa 10 27,aa 11 29] ((block 0 (((mixS 1 [aa 30 10,aa 31 11,aP 32 .leq 30 31,aa 33 32,an 34 33 (cM 0),an 35 33 (cM 10),an 36 33 (ixaS 1 (t 34) (t 35)),an 37 33 (cD 36),an 38 33 (cM 0),an 39 33 (cM 1),an 40 33 (ixaS 1 (t 38) (t 39)),an 41 33 (cD 40),an 42 33 (call (cF 187) [t 37,t 41]),cO 43 (pick (t 33) (t 42) a8)] [(0,0),(1,0),(2,0),(3,0),(4,0),(5,0),(6,0),(7,0),(8,0),(9,0),(10,0),(11,0),(12,2),(13,0)]).seq (ay 43 skip (exit 0))).seq (block 1 (ops 0 [aa 44 10,aq 45 .add 44 1,aa 10 45]))).loop).seq ((block 2 (((mixS 1 [aa 46 10,aa 47 11,aP 48 .leq 46 47,aa 49 48,an 50 49 (cM 0),an 51 49 (cM 11),an 52 49 (ixaS 1 (t 50) (t 51)),an 53 49 (cD 52),an 54 49 (cM 0),an 55 49 (cM 1),an 56 49 (ixaS 1 (t 54) (t 55)),an 57 49 (cD 56),an 58 49 (call (cF 187) [t 53,t 57]),an 59 49 (un UnOp.not (t 58)),cO 60 (pick (t 49) (t 59) a8)] [(0,0),(1,0),(2,0),(3,0),(4,0),(5,0),(6,0),(7,0),(8,0),(9,0),(10,0),(11,0),(12,2),(13,0),(14,0)]).seq (ay 60 skip (exit 2))).seq (block 3 (ops 0 [aa 61 11,aq 62 .sub 61 1,aa 11 62]))).loop).seq ((ac [aa 63 10,aa 64 11,aP 65 .gtr 63 64] (ay 65 ((ops 1 [aa 66 0,aa 67 11,aa 68 0,aa 69 1,aa 70 0,aa 71 1,cO 72 (ixaS 1 (t 70) (t 71)),aD 73 72,aa 74 0,aa 75 11,cO 76 (ixaS 1 (t 74) (t 75)),aD 77 76,cO 78 (ixaS 1 (t 66) (t 67)),bl 1 78 73,cO 79 (ixaS 1 (t 68) (t 69)),bl 1 79 77]).seq (ac [aa 80 11,aa 8 80,cO 9 (mov cK)] ret)) skip)).seq ((ops 1 [aa 81 0,aa 82 10,aa 83 0,aa 84 11,aa 85 0,aa 86 11,cO 87 (ixaS 1 (t 85) (t 86)),aD 88 87,aa 89 0,aa 90 10,cO 91 (ixaS 1 (t 89) (t 90)),aD 92 91,cO 93 (ixaS 1 (t 81) (t 82)),bl 1 93 88,cO 94 (ixaS 1 (t 83) (t 84)),bl 1 94 92]).seq (ac [aa 95 10,aq 96 .add 95 1,aa 10 96] (ac [aa 97 11,aq 98 .sub 97 1,aa 11 98] ((block 4 (block 5 ((block 6 (((mixS 1 [aa 99 10,aa 100 11,aP 101 .leq 99 100,aa 102 101,an 103 102 (cM 0),an 104 102 (cM 10),an 105 102 (ixaS 1 (t 103) (t 104)),an 106 102 (cD 105),an 107 102 (cM 0),an 108 102 (cM 1),an 109 102 (ixaS 1 (t 107) (t 108)),an 110 102 (cD 109),an 111 102 (call (cF 187) [t 106,t 110]),cO 112 (pick (t 102) (t 111) a8)] [(0,0),(1,0),(2,0),(3,0),(4,0),(5,0),(6,0),(7,0),(8,0),(9,0),(10,0),(11,0),(12,2),(13,0)]).seq (ay 112 skip (exit 6))).seq (block 7 (ops 0 [aa 113 10,aq 114 .add 113 1,aa 10 114]))).loop).seq ((block 8 (((mixS 1 [aa 115 10,aa 116 11,aP 117 .leq 115 116,aa 118 117,an 119 118 (cM 0),an 120 118 (cM 11),an 121 118 (ixaS 1 (t 119) (t 120)),an 122 118 (cD 121),an 123 118 (cM 0),an 124 118 (cM 1),an 125 118 (ixaS 1 (t 123) (t 124)),an 126 118 (cD 125),an 127 118 (call (cF 187) [t 122,t 126]),an 128 118 (un UnOp.not (t 127)),cO 129 (pick (t 118) (t 128) a8)] [(0,0),(1,0),(2,0),(3,0),(4,0),(5,0),(6,0),(7,0),(8,0),(9,0),(10,0),(11,0),(12,2),(13,0),(14,0)]).seq (ay 129 skip (exit 8))).seq (block 9 (ops 0 [aa 130 11,aq 131 .sub 130 1,aa 11 131]))).loop).seq ((ac [aa 132 10,aa 133 11,aP 134 .gtr 132 133] (ay 134 (exit 4) skip)).seq ((ops 1 [aa 135 0,aa 136 10,aa 137 0,aa 138 11,aa 139 0,aa 140 11,cO 141 (ixaS 1 (t 139) (t 140)),aD 142 141,aa 143 0,aa 144 10,cO 145 (ixaS 1 (t 143) (t 144)),aD 146 145,cO 147 (ixaS 1 (t 135) (t 136)),bl 1 147 142,cO 148 (ixaS 1 (t 137) (t 138)),bl 1 148 146]).seq (ac [aa 149 10,aq 150 .add 149 1,aa 10 150] (ops 0 [aa 151 11,aq 152 .sub 151 1,aa 11 152]))))))).loop).seq ((ops 1 [aa 153 0,aa 154 11,aa 155 0,aa 156 1,aa 157 0,aa 158 1,cO 159 (ixaS 1 (t 157) (t 158)),aD 160 159,aa 161 0,aa 162 11,cO 163 (ixaS 1 (t 161) (t 162)),aD 164 163,cO 165 (ixaS 1 (t 153) (t 154)),bl 1 165 160,cO 166 (ixaS 1 (t 155) (t 156)),bl 1 166 164]).seq (ac [aa 167 11,aa 8 167,cO 9 (mov a8)] ret)))))))))))))
theorem OL:Is Tryz.prog 196 LF:=mkI Tryz.func196
def LQ:F2:=(F2.mk 82 [] (ac [aa 12 1,aa 10 12] (block 0 (block 1 (ac [aa 13 10,cO 14 (cB .mul (cN 2) (t 13)),aq 15 .add 14 1,aa 11 15] ((ac [aa 16 11,aa 17 2,aP 18 .geq 16 17] (ay 18 (exit 0) skip)).seq (((mixS 1 [aa 19 11,aq 20 .add 19 1,aa 21 2,aP 22 .lss 20 21,aa 23 22,an 24 23 (cM 4),an 25 23 (cM 0),an 26 23 (cM 3),an 27 23 (cM 11),an 28 23 (cB .add (t 26) (t 27)),an 29 23 (ixaS 1 (t 25) (t 28)),an 30 23 (cD 29),an 31 23 (cM 0),an 32 23 (cM 3),an 33 23 (cM 11),an 34 23 (cB .add (t 32) (t 33)),an 35 23 (cB .add (t 34) (cN 1)),an 36 23 (ixaS 1 (t 31) (t 35)),an 37 23 (cD 36),an 38 23 (call (t 24) [t 30,t 37]),an 39 23 (cB .lss (t 38) (cN 0)),cO 40 (pick (t 23) (t 39) a8)] [(0,0),(1,0),(2,0),(3,0),(4,0),(5,0),(6,0),(7,0),(8,0),(9,0),(10,0),(11,0),(12,0),(13,0),(14,0),(15,0),(16,0),(17,0),(18,0),(19,2),(20,0),(21,0)]).seq (ay 40 (ops 0 [aa 41 11,aq 42 .add 41 1,aa 11 42]) skip)).seq (((mixS 1 [aa 43 4,aa 44 0,aa 45 3,aa 46 10,aP 47 .add 45 46,cO 48 (ixaS 1 (t 44) (t 47)),aD 49 48,aa 50 0,aa 51 3,aa 52 11,aP 53 .add 51 52,cO 54 (ixaS 1 (t 50) (t 53)),aD 55 54,cO 56 (call (t 43) [t 49,t 55]),aq 57 .lss 56 0,cO 58 (un UnOp.not (t 57))] [(0,0),(1,0),(2,0),(3,0),(4,0),(5,0),(6,0),(7,0),(8,0),(9,0),(10,0),(11,0),(12,0),(13,2),(14,0),(15,0)]).seq (ay 58 ret skip)).seq ((ops 1 [aa 59 0,aa 60 3,aa 61 10,aP 62 .add 60 61,aa 63 0,aa 64 3,aa 65 11,aP 66 .add 64 65,aa 67 0,aa 68 3,aa 69 11,aP 70 .add 68 69,cO 71 (ixaS 1 (t 67) (t 70)),aD 72 71,aa 73 0,aa 74 3,aa 75 10,aP 76 .add 74 75,cO 77 (ixaS 1 (t 73) (t 76)),aD 78 77,cO 79 (ixaS 1 (t 59) (t 62)),bl 1 79 72,cO 80 (ixaS 1 (t 63) (t 66)),bl 1 80 78]).seq (ops 0 [aa 81 11,aa 10 81]))))))).loop)))
theorem Me:Is Tryz.prog 197 LQ:=mkI Tryz.func197
def M4:F2:=(F2.mk 7 [RV.t 2] (ac [cO 2 (mov (c (AV.int IntKind.u64 (0))))] (ac [aa 3 0,cO 4 (conv IntKind.u64 (t 3)),aJ 5 156 [t 4],cO 6 (cB .shl (c (AV.int IntKind.u64 (1))) (t 5)),aa 2 6] ret)))
theorem Ov:Is Tryz.prog 198 M4:=mkI Tryz.func198
def MS:F2:=(F2.mk 33 [RV.t 2] (ac [cO 2 (mov (c (AV.int IntKind.u64 (0))))] ((ops 1 [aa 3 0,cO 4 (nilck (t 3)),aD 5 4,aa 6 0,cO 7 (nilck (t 6)),aD 8 7,cO 9 (cB .shl (t 8) (c (AV.int IntKind.u64 (13)))),aP 10 .xor 5 9,cO 11 (nilck (t 3)),bl 1 11 10]).seq ((ops 1 [aa 12 0,cO 13 (nilck (t 12)),aD 14 13,aa 15 0,cO 16 (nilck (t 15)),aD 17 16,cO 18 (cB .shr (t 17) (c (AV.int IntKind.u64 (7)))),aP 19 .xor 14 18,cO 20 (nilck (t 12)),bl 1 20 19]).seq ((ops 1 [aa 21 0,cO 22 (nilck (t 21)),aD 23 22,aa 24 0,cO 25 (nilck (t 24)),aD 26 25,cO 27 (cB .shl (t 26) (c (AV.int IntKind.u64 (17)))),aP 28 .xor 23 27,cO 29 (nilck (t 21)),bl 1 29 28]).seq (ac [aa 30 0,cO 31 (nilck (t 30)),aD 32 31,aa 2 32] ret))))))
theorem Mz:Is Tryz.prog 199 MS:=mkI Tryz.func199
def LZ:F2:=(F2.mk 18 [RV.t 8] (ac [cO 8 (mov (cN 0))] (ac [aa 9 0,aa 10 1,aq 11 .sub 10 1,aa 12 1,aa 13 1,aq 14 .add 13 1,aa 15 2,aa 16 3,aJ 17 201 [t 9,t 11,t 12,t 14,t 15,t 16],aa 8 17] ret)))
theorem LN:Is Tryz.prog 200 LZ:=mkI Tryz.func200
def Mr:F2:=(F2.mk 41 [RV.t 12] (ac [cO 12 (mov (cN 0))] (ac [aa 14 0,aa 15 1,aa 16 2,aa 17 4,aa 18 5,aJ 19 208 [t 14,t 15,t 16,t 17,t 18],aa 13 19,aV 20 13 0,aV 21 13 1,aa 1 20,aa 2 21] (ac [aa 23 0,aa 24 2,aa 25 3,aa 26 4,aa 27 5,aJ 28 208 [t 23,t 24,t 25,t 26,t 27],aa 22 28,aV 29 22 0,aV 30 22 1,aa 2 29,aa 3 30] (ac [aa 32 0,aa 33 1,aa 34 2,aa 35 4,aa 36 5,aJ 37 208 [t 32,t 33,t 34,t 35,t 36],aa 31 37,aV 38 31 0,aV 39 31 1,aa 1 38,aa 2 39] (ac [aa 40 2,aa 12 40] ret))))))
theorem NF:Is Tryz.prog 201 Mr:=mkI Tryz.func201
def NI:F2:=(F2.mk 76 [] (ac [aa 10 1,aa 8 10] (block 0 (block 1 (ac [aa 11 8,cO 12 (cB .mul (cN 2) (t 11)),aq 13 .add 12 1,aa 9 13] ((ac [aa 14 9,aa 15 2,aP 16 .geq 14 15] (ay 16 (exit 0) skip)).seq (((mixS 1 [aa 17 9,aq 18 .add 17 1,aa 19 2,aP 20 .lss 18 19,aa 21 20,an 22 21 (cM 0),an 23 21 (cM 3),an 24 21 (cM 9),an 25 21 (cB .add (t 23) (t 24)),an 26 21 (ixaS 1 (t 22) (t 25)),an 27 21 (cD 26),an 28 21 (cM 0),an 29 21 (cM 3),an 30 21 (cM 9),an 31 21 (cB .add (t 29) (t 30)),an 32 21 (cB .add (t 31) (cN 1)),an 33 21 (ixaS 1 (t 28) (t 32)),an 34 21 (cD 33),an 35 21 (call (cF 187) [t 27,t 34]),cO 36 (pick (t 21) (t 35) a8)] [(0,0),(1,0),(2,0),(3,0),(4,0),(5,0),(6,0),(7,0),(8,0),(9,0),(10,0),(11,0),(12,0),(13,0),(14,0),(15,0),(16,0),(17,0),(18,2),(19,0)]).seq (ay 36 (ops 0 [aa 37 9,aq 38 .add 37 1,aa 9 38]) skip)).seq (((mixS 1 [aa 39 0,aa 40 3,aa 41 8,aP 42 .add 40 41,cO 43 (ixaS 1 (t 39) (t 42)),aD 44 43,aa 45 0,aa 46 3,aa 47 9,aP 48 .add 46 47,cO 49 (ixaS 1 (t 45) (t 48)),aD 50 49,aJ 51 187 [t 44,t 50],cO 52 (un UnOp.not (t 51))] [(0,0),(1,0),(2,0),(3,0),(4,0),(5,0),(6,0),(7,0),(8,0),(9,0),(10,0),(11,0),(12,2),(13,0)]).seq (ay 52 ret skip)).seq ((ops 1 [aa 53 0,aa 54 3,aa 55 8,aP 56 .add 54 55,aa 57 0,aa 58 3,aa 59 9,aP 60 .add 58 59,aa 61 0,aa 62 3,aa 63 9,aP 64 .add 62 63,cO 65 (ixaS 1 (t 61) (t 64)),aD 66 65,aa 67 0,aa 68 3,aa 69 8,aP 70 .add 68 69,cO 71 (ixaS 1 (t 67) (t 70)),aD 72 71,cO 73 (ixaS 1 (t 53) (t 56)),bl 1 73 66,cO 74 (ixaS 1 (t 57) (t 60)),bl 1 74 72]).seq (ops 0 [aa 75 9,aa 8 75]))))))).loop)))
theorem Nh:Is Tryz.prog 205 NI:=mkI Tryz.func205
def Nm:F2:=(F2.mk 15 [RV.t 6] (ac [cO 6 (mov (cN 0))] (ac [aa 7 0,aa 8 1,aq 9 .sub 8 1,aa 10 1,aa 11 1,aq 12 .add 11 1,aa 13 2,aJ 14 207 [t 7,t 9,t 10,t 12,t 13],aa 6 14] ret)))
theorem MJ:Is Tryz.prog 206 Nm:=mkI Tryz.func206
def Og:F2:=(F2.mk 36 [RV.t 10] (ac [cO 10 (mov (cN 0))] (ac [aa 12 0,aa 13 1,aa 14 2,aa 15 4,aJ 16 210 [t 12,t 13,t 14,t 15],aa 11 16,aV 17 11 0,aV 18 11 1,aa 1 17,aa 2 18] (ac [aa 20 0,aa 21 2,aa 22 3,aa 23 4,aJ 24 210 [t 20,t 21,t 22,t 23],aa 19 24,aV 25 19 0,aV 26 19 1,aa 2 25,aa 3 26] (ac [aa 28 0,aa 29 1,aa 30 2,aa 31 4,aJ 32 210 [t 28,t 29,t 30,t 31],aa 27 32,aV 33 27 0,aV 34 27 1,aa 1 33,aa 2 34] (ac [aa 35 2,aa 10 35] ret))))))
theorem LO:Is Tryz.prog 207 Og:=mkI Tryz.func207
def Mx:F2:=(F2.mk 32 [RV.t 10,RV.t 11] (ac [cO 10 (mov (cN 0)),cO 11 (mov (cN 0))] (((mixS 1 [aa 12 4,aa 13 0,aa 14 2,cO 15 (ixaS 1 (t 13) (t 14)),aD 16 15,aa 17 0,aa 18 1,cO 19 (ixaS 1 (t 17) (t 18)),aD 20 19,cO 21 (call (t 12) [t 16,t 20]),aq 22 .lss 21 0] [(0,0),(1,0),(2,0),(3,0),(4,0),(5,0),(6,0),(7,0),(8,0),(9,2),(10,0)]).seq (ay 22 (ac [aa 23 3,cO 24 (nilck (t 23)),aD 25 24,aq 26 .add 25 1,cO 27 (nilck (t 23)),bl 1 27 26] (ac [aa 28 2,aa 29 1,aa 10 28,aa 11 29] ret)) skip)).seq (ac [aa 30 1,aa 31 2,aa 10 30,aa 11 31] ret))))
theorem L2:Is Tryz.prog 208 Mx:=mkI Tryz.func208
def L4:F2:=(F2.mk 28 [RV.t 8,RV.t 9] (ac [cO 8 (mov (cN 0)),cO 9 (mov (cN 0))] (((mixS 1 [aa 10 0,aa 11 2,cO 12 (ixaS 1 (t 10) (t 11)),aD 13 12,aa 14 0,aa 15 1,cO 16 (ixaS 1 (t 14) (t 15)),aD 17 16,aJ 18 187 [t 13,t 17]] [(0,0),(1,0),(2,0),(3,0),(4,0),(5,0),(6,0),(7,0),(8,2)]).seq (ay 18 (ac [aa 19 3,cO 20 (nilck (t 19)),aD 21 20,aq 22 .add 21 1,cO 23 (nilck (t 19)),bl 1 23 22] (ac [aa 24 2,aa 25 1,aa 8 24,aa 9 25] ret)) skip)).seq (ac [aa 26 1,aa 27 2,aa 8 26,aa 9 27] ret))))
theorem My:Is Tryz.prog 210 L4:=mkI Tryz.func210
end Go.Proofs.YtekdaafnjdlenaaGreat
namespace Go.Proofs.YtekdaafnjdlenaaGreat
open Go Go.Abs
open Nat (reduceEqDiff reduceAdd reduceLeDiff)
def swp{α:Type}[Inhabited α](L:List α)(i j:Nat):List α:=(L.set i (L.getD j default)).set j (L.getD i default)
structure PermR{α:Type}[Inhabited α](a b:Nat)(L L':List α):Prop where
 len:L'.length=L.length
 out:∀i,i<a\/b<=i->L'.getD i default=L.getD i default
 perm:L'.Perm L
section
variable{α:Type}[Inhabited α]{a b a' b':Nat}{L L' L'':List α}
theorem d9{l:List α}{i j:Nat}{x:α}(h:i<l.length):(l.set i x).getD j default=if i=j then x else l.getD j default:=by
 simp only[List.getD,List.getElem?_set];split
 ·rename_i e;subst e;simp[h]
 ·rfl
theorem C9(i j:Nat):(swp L i j).length=L.length:=by simp[swp]
theorem eP{i j:Nat}(hi:i<L.length)(hj:j<L.length)(k:Nat):(swp L i j).getD k default=if k=j then L.getD i default else if k=i then L.getD j default else L.getD k default:=by
 unfold swp;rw[d9 (by simpa using hj),d9 hi];by_cases e:k=j
 ·subst e;simp
 ·rw[if_neg (λh=>e h.symm),if_neg e];by_cases e2:k=i
  ·subst e2;simp
  ·rw[if_neg (λh=>e2 h.symm),if_neg e2]
theorem GM{i j:Nat}(hi:i<L.length)(hj:j<L.length):(swp L i j).Perm L:=by
 unfold swp;have e1:L.getD i default=L[i]:=by simp[List.getD,hi]
 have e2:L.getD j default=L[j]:=by simp[List.getD,hj]
 rw[e1,e2];exact List.set_set_perm hi hj
theorem PermR.refl:PermR a b L L:=⟨rfl,λ_ _=>rfl,List.Perm.refl _⟩
theorem PermR.trans(h:PermR a b L L')(k:PermR a b L' L''):PermR a b L L'':=⟨k.len.trans h.len,λi hi=>(k.out i hi).trans (h.out i hi),k.perm.trans h.perm⟩
theorem PermR.mono(h:PermR a' b' L L')(h1:a<=a')(h2:b'<=b):PermR a b L L':=⟨h.len,λi hi=>h.out i (by omega),h.perm⟩
theorem PermR.swap{i j:Nat}(h1:a<=i/\i<b)(h2:a<=j/\j<b)(hb:b<=L.length):PermR a b L (swp L i j):=
 ⟨C9 i j,λk hk=>by rw[eP (by omega) (by omega),if_neg (by omega),if_neg (by omega)],GM (by omega) (by omega)⟩
theorem zN{l m:List α}(hl:l.length=m.length)(h:∀i,i<l.length->l.getD i default=m.getD i default):l=m:=
 List.ext_getElem hl (fun i h1 h2=>by
  have:=h i h1;simpa[List.getD,h1,h2] using this)
theorem PermR.mid(h:PermR a b L L')(hab:a<=b)(hb:b<=L.length):((L'.drop a).take (b-a)).Perm ((L.drop a).take (b-a)):=by
 have e1:∀M:List α,b<=M.length->M=M.take a++((M.drop a).take (b-a)++M.drop b):=λM hM=>by
  have:M.drop b=(M.drop a).drop (b-a):=by rw[List.drop_drop];congr 1;omega
  rw[this,FA,FA]
 have t:L'.take a=L.take a:=zN (by simp [h.len]) (fun i hi=>by
  have hi':i<a:=by simp at hi;omega
  rw[qZ hi',qZ hi'];exact h.out i (.inl hi'))
 have d:L'.drop b=L.drop b:=zN (by simp [h.len]) (fun i hi=>by
  have e:∀M:List α,(M.drop b).getD i default=M.getD (b+i) default:=λM=>by simp[List.getD,od]
  rw[e,e];exact h.out (b+i) (.inr (by omega)))
 have p:=h.perm;rw[e1 L' (by rw[h.len];exact hb),e1 L hb,t,d] at p;exact(List.perm_append_right_iff _).1 ((List.perm_append_left_iff _).1 p)
theorem Ct{M:List α}{x:α}(hab:a<=b)(hb:b<=M.length):x∈(M.drop a).take (b-a)↔ ∃i,a<=i/\i<b/\M.getD i default=x:=by
 constructor
 ·intro h;obtain⟨j,hj,e⟩:=kI h;have hj':j<b-a:=by simp at hj;omega
  refine⟨a+j,by omega,by omega,?_⟩;rw[<-e];simp[List.getD,List.getElem_take,List.getElem_drop,show a+j<M.length by omega]
 ·rintro⟨i,h1,h2,rfl⟩;rw[List.mem_iff_getElem?];refine⟨i-a,?_⟩;rw[jt,if_pos (by omega),od,show a+(i-a)=i by omega];simp[List.getD,show i<M.length by omega]
theorem PermR.all{p:α->Prop}(h:PermR a b L L')(hab:a<=b)(hb:b<=L.length)(hp:∀i,a<=i->i<b->p (L.getD i default)):∀i,a<=i->i<b->p (L'.getD i default):=by
 intro i h1 h2;have hm:L'.getD i default∈(L'.drop a).take (b-a):=(Ct hab (by rw[h.len];exact hb)).2 ⟨i,h1,h2,rfl⟩;obtain⟨j,k1,k2,e⟩:=(Ct hab hb).1 ((h.mid hab hb).mem_iff.1 hm);rw[<-e];exact hp j k1 k2
end
structure Ord{α:Type}(K:α->α->Int):Prop where
 irr:∀x,¬K x x<0
 asym:∀x y,K x y<0->¬K y x<0
 negtr:∀x y z,¬K y x<0->¬K z y<0->¬K z x<0
def bh{α:Type}[Inhabited α](K:α->α->Int)(a b:Nat)(L:List α):Prop:=∀i j,a<=i->i<j->j<b->¬K (L.getD j default) (L.getD i default)<0
theorem bh.one{α:Type}[Inhabited α]{K:α->α->Int}{a b:Nat}{L:List α}(h:b<=a+1):bh K a b L:=λi j h1 h2 h3=>by omega
structure LinK{α:Type}(K:α->α->Int):Prop where
 ord:Ord K
 eq:∀x y,¬K x y<0->¬K y x<0->x=y
def bR{α:Type}(K:α->α->Int)(l:List α):Prop:=l.Pairwise λx y=>K x y<0
def yj{α:Type}(K:α->α->Int):List α->α->List α
 |[],v=>[v]
 |a::l,v=>if K v a<0 then v::a::l else a::yj K l v
section
variable{α:Type}[DecidableEq α]{K:α->α->Int}
def vE(K:α->α->Int)(acc:List α)(v:α):List α:=if v∈acc then acc else yj K acc v
def vK(K:α->α->Int)(acc l:List α):List α:=l.foldl (vE K) acc
def vI(K:α->α->Int)(l:List α):List α:=vK K [] l
omit [DecidableEq α] in
theorem bR.nil:bR K ([]:List α):=pb
omit [DecidableEq α] in
theorem bR.nodup{l:List α}(hK:LinK K)(h:bR K l):l.Nodup:=vL (λ{a b} h e=>by subst e;exact hK.ord.irr a h) h
omit [DecidableEq α] in
theorem LinK.tri(hK:LinK K)(x y:α):K x y<0\/x=y\/K y x<0:=by
 by_cases h1:K x y<0
 ·exact .inl h1
 ·by_cases h2:K y x<0
  ·exact .inr (.inr h2)
  ·exact .inr (.inl (hK.eq x y h1 h2))
omit [DecidableEq α] in
theorem LinK.trans(hK:LinK K){x y z:α}(h1:K x y<0)(h2:K y z<0):K x z<0:=by
 refine Decidable.byContradiction λhn=>?_;exact hK.ord.negtr z x y hn (hK.ord.asym _ _ h1) h2
omit [DecidableEq α] in
theorem lB{a b:List α}(hK:LinK K)(ha:bR K a)(hb:bR K b)(h:∀x,x∈a↔x∈b):a=b:=by
 classical
 have hp:a.Perm b:=(List.perm_ext_iff_of_nodup (ha.nodup hK) (hb.nodup hK)).2 h;exact List.Perm.eq_of_pairwise (λx y _ _ h1 h2=>absurd h2 (hK.ord.asym _ _ h1)) ha hb hp
omit [DecidableEq α] in
theorem A1{l:List α}{v x:α}:x∈yj K l v↔x∈l\/x=v:=by
 induction l with
 |nil=>simp[yj]
 |cons a l ih=>
  unfold yj;split
  ·simp only[dg];exact⟨λh=>h.elim .inr .inl,λh=>h.elim .inr .inl⟩
  ·rw[dg,ih,dg,or_assoc]
omit [DecidableEq α] in
theorem Fu{l:List α}{v:α}(hK:LinK K)(h:bR K l)(hv:v∉l):bR K (yj K l v):=by
 induction l with
 |nil=>exact List.pairwise_singleton _ _
 |cons a l ih=>
  unfold bR at h;rw[im] at h;unfold yj;split
  ·rename_i hlt
   exact im.2 ⟨fun y hy=>by
    rcases dg.1 hy with rfl|hy
    ·exact hlt
    ·exact hK.trans hlt (h.1 y hy),im.2 h⟩
  ·rename_i hlt;refine im.2 ⟨λy hy=>?_,ih h.2 λhm=>hv (dy _ hm)⟩;rcases A1.1 hy with hy|rfl
   ·exact h.1 y hy
   ·rcases hK.tri y a with k|k|k
    ·exact absurd k hlt
    ·exact absurd (k▸cz) hv
    ·exact k
omit [DecidableEq α] in
theorem Gz{l:List α}{v:α}:(yj K l v).length=l.length+1:=by
 induction l with
 |nil=>rfl
 |cons a l ih=>unfold yj;split<;>simp[ih]
theorem Hi{acc:List α}{v x:α}:x∈vE K acc v↔x∈acc\/x=v:=by
 unfold vE;split
 ·rename_i h;exact⟨.inl,λh2=>h2.elim id (λe=>e▸h)⟩
 ·exact A1
theorem HJ{acc:List α}{v:α}(hK:LinK K)(h:bR K acc):bR K (vE K acc v):=by
 unfold vE;split
 ·exact h
 ·rename_i hn;exact Fu hK h hn
theorem Fk{acc:List α}{v:α}:(vE K acc v).length<=acc.length+1:=by
 unfold vE;split
 ·omega
 ·rw[Gz];exact aM _
theorem Az:∀{l acc:List α}{x:α},x∈vK K acc l↔x∈acc\/x∈l
 |[],acc,x=>by simp[vK]
 |v::l,acc,x=>by
  rw[show vK K acc (v::l)=vK K (vE K acc v) l from rfl,Az,Hi,dg,or_assoc]
theorem AJ(hK:LinK K):∀{l acc:List α},bR K acc->bR K (vK K acc l)
 |[],_,h=>h
 |v::l,acc,h=>AJ hK (l:=l) (HJ hK (v:=v) h)
theorem Ao:∀{l acc:List α},(vK K acc l).length<=acc.length+l.length
 |[],acc=>by simp[vK]
 |v::l,acc=>by
  rw[show vK K acc (v::l)=vK K (vE K acc v) l from rfl];have:=Ao (l:=l) (acc:=vE K acc v);have:=Fk (K:=K) (acc:=acc) (v:=v);rw[br];omega
theorem tC(hK:LinK K)(l:List α):bR K (vI K l):=AJ hK pb
theorem pY{l:List α}{x:α}:x∈vI K l↔x∈l:=by
 unfold vI;rw[Az];simp
theorem Ag{l:List α}:(vI K l).length<=l.length:=by
 have:=Ao (K:=K) (l:=l) (acc:=[]);unfold vI;rw[dw] at this;omega
theorem Ij(hK:LinK K){l:List α}(h:bR K l):vI K l=l:=lB hK (tC hK l) h λ_=>pY
theorem zX{l:List α}:vI K l=[]↔l=[]:=by
 constructor
 ·intro h;cases l with
  |nil=>rfl
  |cons a l=>
   have:a∈vI K (a::l):=pY.2 (cz ..);rw[h] at this;exact absurd this (by simp)
 ·rintro rfl;rfl
end
section
variable{α:Type}[Inhabited α][DecidableEq α]
end
abbrev Shn{α:Type}(l:List α):Prop:=l.length<=17592186044416
structure Vtx where
 color:Int
 label:Int
 deriving Inhabited,DecidableEq
abbrev Spx:=List Vtx
def Fg(v:Vtx):List AV:=[.int .i64 v.color,.int .i64 v.label]
abbrev dX(v:Vtx):AV:=.agg [.int .i64 v.color,.int .i64 v.label]
def aF(l:Spx):AV:=iA 2 dX l
def ao(l:List Spx):AV:=iA 1 aF l
def cX(l:Spx):List AV:=l.flatMap Fg
theorem Hb(v:Vtx):Dat (dX v):=Dat.agg (DatL.cons .int (DatL.cons .int DatL.nil))
theorem dN (l:Spx):Dat (aF l):=sX (fun x _ c hc=>by
 simp only[dX,AV.cells,dg,List.not_mem_nil,or_false] at hc;rcases hc with rfl|rfl<;>exact .int)
theorem bD (l:List Spx):Dat (ao l):=sX (fun x _ c hc=>by
 simp only[aF,iA,AV.cells,cC] at hc;subst hc;exact dN x)
instance datI_encX{v:Vtx}:DatI (dX v):=⟨Hb v⟩
instance datI_encXs{l:Spx}:DatI (aF l):=⟨dN l⟩
instance datI_encXss{l:List Spx}:DatI (ao l):=⟨bD l⟩
theorem aX{l:Spx}:(aF l).cells=[aF l]:=rfl
theorem be{l:Spx}:(aF l).one=true:=rfl
theorem ag{l:List Spx}:(ao l).cells=[ao l]:=rfl
theorem ak{l:List Spx}:(ao l).one=true:=rfl
theorem B8{l:Spx}{k:IntKind}{n:Int}:eY 2 (aF l) (.int k n)=if 0<=n/\n<l.length then some (.iptr [.int .i64 (l.getD n.toNat default).color,.int .i64 (l.getD n.toNat default).label] 0) else none:=nD
theorem az{l:Spx}:cT (aF l)=some (.int .i64 l.length):=lY
theorem sa{l:List Spx}{k:IntKind}{n:Int}:eY 1 (ao l) (.int k n)=if 0<=n/\n<l.length then some (.iptr [aF (l.getD n.toNat default)] 0) else none:=nD
theorem ai{l:List Spx}:cT (ao l)=some (.int .i64 l.length):=lY
theorem ix2{l:Spx}{k:Nat}(h:k<l.length):eY 2 (aF l) (.int .i64 (k:Int))=some (.iptr [.int .i64 (l.getD k default).color,.int .i64 (l.getD k default).label] 0):=by
 rw[B8,if_pos ⟨by omega,by omega⟩,bN]
theorem fQ{l:List Spx}{k:Nat}(h:k<l.length):eY 1 (ao l) (.int .i64 (k:Int))=some (.iptr [aF (l.getD k default)] 0):=by
 rw[sa,if_pos ⟨by omega,by omega⟩,bN]
theorem kM(l:Spx):(cX l).length=l.length*2:=by
 induction l with
 |nil=>rfl
 |cons a l ih=>rw[cX,vC,cP,br,show(l.flatMap Fg).length=l.length*2 from ih];show 2+_=_;omega
theorem nG(l m:Spx):cX (l++m)=cX l++cX m:=List.flatMap_append
theorem Kj(v:Vtx):cX [v]=[.int .i64 v.color,.int .i64 v.label]:=rfl
theorem Ca(l:Spx):(l.map dX).flatMap AV.cells=cX l:=by
 induction l with
 |nil=>rfl
 |cons a l ih=>rw[ew,vC,ih];rfl
theorem Lp{H:Hp}{s:AV}{l:Spx}(h:Row H 2 s (cX l)):Snap H s (aF l):=by
 refine Row.snap (elems:=l.map dX) (by rw[Ca];exact h) (λy hy=>?_) (by omega) (λy hy c hx=>?_)
 ·obtain⟨n,_,rfl⟩:=bz.1 hy;rfl
 ·obtain⟨n,_,rfl⟩:=bz.1 hy;simp only[dX,AV.cells,dg,List.not_mem_nil,or_false] at hx;rcases hx with rfl|rfl<;>exact .int
theorem kf{H:Hp}{s:AV}{l:List Spx}(h:Row H 1 s (l.map aF)):Snap H s (ao l):=h.snapL' (λ_=>rfl) (λx _=>dN x)
theorem zR{H:Hp}{l:Spx}:f8 2 H (aF l)=some (l.length,cX l):=by
 unfold aF iA;rw[ke,Ca];simp
theorem nJ(l:Spx):AV.ones (cX l)=true:=by
 unfold AV.ones;rw[eN];intro x hx;obtain⟨v,_,hv⟩:=List.mem_flatMap.1 hx;simp only[Fg,dg,List.not_mem_nil,or_false] at hv;rcases hv with rfl|rfl<;>rfl
def cu(v w:Vtx):Int:=if v.color<w.color then-1 else if v.color>w.color then 1 else if v.label<w.label then-1 else if v.label>w.label then 1 else 0
def bo:Spx->Spx->Int
 |[],[]=>0
 |[],_::_=>-1
 |_::_,[]=>1
 |a::l,b::m=>if cu a b≠0 then cu a b else bo l m
theorem px{v w:Vtx}:cu v w<0↔v.color<w.color\/(v.color=w.color/\v.label<w.label):=by
 unfold cu;(repeat' split)<;>constructor<;>intro h<;>omega
theorem pj{v w:Vtx}:v=w↔v.color=w.color/\v.label=w.label:=by
 obtain⟨a,b⟩:=v;obtain⟨c,d⟩:=w;simp
theorem jC{v w:Vtx}:cu v w=0↔v=w:=by
 rw[pj];unfold cu;(repeat' split)<;>constructor<;>intro h<;>omega
theorem wu(v w:Vtx):cu w v=- cu v w:=by
 unfold cu;(repeat' split)<;>omega
theorem Ce:LinK cu where
 ord:={irr:=λx=>by rw[px];omega,asym:=λx y h=>by rw[px] at *;omega,negtr:=λx y z h1 h2=>by rw[px] at *;omega}
 eq:=λx y h1 h2=>by rw[px] at *;rw[pj];omega
theorem gJ:∀l:Spx,bo l l=0
 |[]=>rfl
 |a::l=>by rw[bo,jC.2 rfl,if_neg (by simp)];exact gJ l
theorem qf:∀{l m:Spx},bo l m=0->l=m
 |[],[],_=>rfl
 |[],_::_,h=>by simp[bo] at h
 |_::_,[],h=>by simp[bo] at h
 |a::l,b::m,h=>by
  rw[bo] at h;by_cases e:cu a b=0
  ·rw[if_neg (λh=>h e)] at h;rw[jC.1 e,qf h]
  ·rw[if_pos e] at h;exact absurd h e
theorem Ey{l m:Spx}:bo l m=0↔l=m:=⟨qf,λh=>by rw[h];exact gJ _⟩
theorem nV:∀l m:Spx,bo m l=- bo l m
 |[],[]=>rfl
 |[],_::_=>rfl
 |_::_,[]=>rfl
 |a::l,b::m=>by
  rw[bo,bo,wu a b];by_cases e:cu a b=0
  ·rw[e,if_neg (by simp),if_neg (by simp)];exact nV l m
  ·rw[if_pos (by omega),if_pos e]
theorem sZ:∀(x y z:Spx),¬bo y x<0->¬bo z y<0->¬bo z x<0
 |[],_,[],_,_=>by simp[bo]
 |[],_,_::_,_,_=>by simp[bo]
 |_::_,[],_,h,_=>by simp[bo] at h
 |_::_,_::_,[],_,h=>by simp[bo] at h
 |a::x,b::y,c::z,h1,h2=>by
  rw[bo] at h1 h2 |-;have n:=Ce.ord.negtr a b c;by_cases e1:cu b a=0
  ·have e1':=jC.1 e1;subst e1';rw[if_neg (λh=>h e1)] at h1;by_cases e2:cu c b=0
   ·rw[if_neg (λh=>h e2)] at h2 |-;exact sZ x y z h1 h2
   ·rw[if_pos e2] at h2 |-;exact h2
  ·rw[if_pos e1] at h1;by_cases e2:cu c b=0
   ·have e2':=jC.1 e2;subst e2';rw[if_pos e1];exact h1
   ·rw[if_pos e2] at h2;have h3:=n h1 h2;by_cases e3:cu c a=0
    ·exfalso;have e3':=jC.1 e3;subst e3';have:=wu b c;omega
    ·rw[if_pos e3];exact h3
theorem ie:LinK bo where
 ord:={irr:=λx=>by rw[gJ];omega,asym:=λx y h=>by rw[nV];omega,negtr:=sZ}
 eq:=λx y h1 h2=>by
  have:=nV x y;exact qf (by omega)
theorem w9{l m:Spx}{k:Nat}(h1:k<l.length)(h2:k<m.length):bo (l.drop k) (m.drop k)=if cu (l.getD k default) (m.getD k default)≠0 then cu (l.getD k default) (m.getD k default) else bo (l.drop (k+1)) (m.drop (k+1)):=by
 rw[jB h1,jB h2,bo]
theorem uI{l m:Spx}{k:Nat}(h:l.length<=k\/m.length<=k)(hk:k<=l.length/\k<=m.length):bo (l.drop k) (m.drop k)=if l.length<m.length then-1 else if m.length<l.length then 1 else 0:=by
 by_cases e1:l.length=k
 ·rw[Gy (show l.length<=k by omega)];by_cases e2:m.length=k
  ·rw[Gy (by omega),if_neg (by omega),if_neg (by omega)];rfl
  ·rw[jB (l:=m) (k:=k) (by omega),if_pos (by omega)];rfl
 ·have e2:m.length=k:=by omega
  rw[jB (l:=l) (k:=k) (by omega),Gy (show m.length<=k by omega),if_neg (by omega),if_pos (by omega)];rfl
def dC(f:Nat->Int):Nat->Int
 |0=>0
 |n+1=>if dC f n≠0 then dC f n else f n
theorem c9{f:Nat->Int}:∀{n:Nat},(∀i,i<n->f i=0)->dC f n=0
 |0,_=>rfl
 |n+1,h=>by
  have:=c9 (f:=f) (n:=n) (λi hi=>h i (by omega));rw[dC,this,if_neg (by simp)];exact h n (by omega)
theorem di{f:Nat->Int}:∀{n k:Nat},k<n->(∀i,i<k->f i=0)->f k≠0->dC f n=f k
 |0,k,h,_,_=>absurd h (by omega)
 |n+1,k,h,h0,hk=>by
  rw[dC];by_cases e:k=n
  ·subst e;rw[c9 h0,if_neg (by simp)]
  ·rw[di (n:=n) (by omega) h0 hk,if_pos hk]
theorem gz{f:Nat->Int}:∀{n:Nat},dC f n=0->∀i,i<n->f i=0
 |0,_,i,h=>absurd h (by omega)
 |n+1,h,i,hi=>by
  rw[dC] at h;by_cases e:dC f n=0
  ·rw[e,if_neg (by simp)] at h;by_cases ei:i=n
   ·subst ei;exact h
   ·exact gz e i (by omega)
  ·rw[if_pos e] at h;exact absurd h e
def gu(v:Vtx):Bool:=decide (0<=v.color)&&decide (v.color<8)&&(decide (0<=v.label)&&decide (v.label<=1048576))
def oE(l:Spx)(k:Nat):Int:=if gu (l.getD k default)=false then 2 else if 0<k/\0<=cu (l.getD (k-1) default) (l.getD k default) then 14 else 0
def bT(l:Spx):Int:=if l.length=0 then 16 else if 8<l.length then 5 else dC (oE l) l.length
theorem cE{l:Spx}(h:bT l=0):1<=l.length/\l.length<=8/\bR cu l/\∀v∈l,gu v=true:=by
 unfold bT at h;split at h
 ·exact absurd h (by decide)
 split at h
 ·exact absurd h (by decide)
 rename_i h1 h2;have hz:=gz h
 have h3:∀k,k<l.length->gu (l.getD k default)=true/\(0<k->cu (l.getD (k-1) default) (l.getD k default)<0):=λk hk=>by
  have:=hz k hk;unfold oE at this;split at this
  ·exact absurd this (by decide)
  rename_i g1;split at this
  ·exact absurd this (by decide)
  rename_i g2;exact⟨by simpa using g1,λh0=>by omega⟩
 refine⟨by omega,by omega,?_,λv hv=>?_⟩
 ·have step:∀j i,i<j->j<l.length->cu (l.getD i default) (l.getD j default)<0:=by
    intro j
    induction j with
    |zero=>intro i h;omega
    |succ j ih=>
     intro i hi hj;have hs:=(h3 (j+1) hj).2 (by omega);rw[lX] at hs;by_cases e:i=j
     ·subst e;exact hs
     ·exact Ce.trans (ih i (by omega) (by omega)) hs
  unfold bR;rw[kE];intro i j hi hj hij;have:=step j i hij hj;simpa[List.getD,hi,hj] using this
 ·obtain⟨i,hi,rfl⟩:=kI hv;have:=(h3 i hi).1;simpa[List.getD,hi] using this
theorem ec{α:Type}[Inhabited α]{K:α->α->Int}{l:List α}(h:bR K l){i j:Nat}(hij:i<j)(hj:j<l.length):K (l.getD i default) (l.getD j default)<0:=by
 have:=kE.1 h i j (by omega) hj hij;simpa[List.getD,hj,show i<l.length by omega] using this
theorem zV{l:Spx}(h1:1<=l.length/\l.length<=8)(h2:bR cu l)(h3:∀v∈l,gu v=true):bT l=0:=by
 unfold bT;rw[if_neg (by omega),if_neg (by omega)];refine c9 λk hk=>?_;unfold oE;rw[h3 _ (aK hk),if_neg (by simp),if_neg];rintro⟨h0,h4⟩;have:=ec h2 (i:=k-1) (j:=k) (by omega) hk;omega
def c3i(a b:Int):Int:=if a<b then-1 else if a>b then 1 else 0
theorem Iv(v w:Vtx):(if c3i v.color w.color≠0 then c3i v.color w.color else c3i v.label w.label)=cu v w:=by
 unfold c3i cu;by_cases h1:v.color<w.color
 ·rw[if_pos h1,if_pos h1,if_pos (by simp)]
 ·rw[if_neg h1,if_neg h1];by_cases h2:v.color>w.color
  ·rw[if_pos h2,if_pos h2,if_pos (by simp)]
  ·rw[if_neg h2,if_neg h2,if_neg (by simp)]
theorem Cd(a b c d:Int):dU [.int,.int] [.int .i64 a,.int .i64 b] [.int .i64 c,.int .i64 d]=some (decide (a=c/\b=d)):=by
 have e:∀x y:Int,(x==y)=decide (x=y):=λx y=>rfl;by_cases h1:a=c
 ·by_cases h2:b=d
  ·subst h1 h2;simp[dU,jH]
  ·subst h1;simp only[dU,jH,if_true,e,ba h2,decide_true,h2,and_false,decide_false]
 ·simp only[dU,jH,if_true,e,ba h1,h1,false_and,decide_false]
theorem acq(a b c d:Int):pp .eql [.int,.int] [.int .i64 a,.int .i64 b] [.int .i64 c,.int .i64 d]=some (.bool (decide (a=c/\b=d))):=by
 unfold pp;rw[Cd]
theorem acn(a b c d:Int):pp .neq [.int,.int] [.int .i64 a,.int .i64 b] [.int .i64 c,.int .i64 d]=some (.bool (!decide (a=c/\b=d))):=by
 unfold pp;rw[Cd]
theorem yS(v w:Vtx):decide (v.color=w.color/\v.label=w.label)=decide (v=w):=decide_eq_decide.2 pj.symm
theorem rh{H:Hp}{d:Nat}{x y:AV}:f8 2 (ar H d [x,y]) (.msl d 2 2 0 1)=some (1,[x,y]):=gm (n:=2) (len:=1) (off:=0) (cs:=[x,y]) af rfl (by simp)
theorem ci{α:Type}[Inhabited α]{l:List α}{k:Nat}(h:k<l.length):l.take (k+1)=l.take k++[l.getD k default]:=by
 rw[List.take_add_one];simp[List.getD,h]
section
variable{α:Type}{K:α->α->Int}{v x:α}{l:List α}
end
def fH(a b:Spx):Bool:=a.all λv=>decide (v∈b)
section
attribute [local irreducible] aO am bf aZ aR aS aE aU a5 bk Go.Abs.Fn aY Go.Abs.Pure au aN Yl
theorem jG(n:Int):pU 165 [.int .i64 n] (.bool false):=by
 refine pO Ma ?_;simp only[Oy,aL];refine wnZ and_self ?_;exact ct (ba (λh=>h rfl))
theorem FV(a b:Int):pU 152 [.int .i64 a,.int .i64 b] (.int .i64 (c3i a b)):=by
 refine pO Mu ?_;simp only[L1,aL];have h1:=jG a;have h2:=jG b;unfold c3i
 repeat' (first|refine zW ?_|apply a_n|apply a_r|refine zO ?_|refine vZ ?_|refine cZ ?_ (hp:=by first|exact h1|exact h2)|refine cFZ ?_|(refine zGZ ?_ ?_<;>(intro _hg;try (exfalso;omega)))|refine b0 rfl ?_|refine r1Z ?_|fail)
 all_goals (refine eW ?_)
 ·rw[if_pos (by omega)]
 ·rw[if_neg (by omega),if_pos (by omega)]
 ·rw[if_neg (by omega),if_neg (by omega)]
theorem Ny(a b:Int):pU 151 [aH [a,b]] (.int .i64 (if a≠0 then a else b)):=by
 refine pO LU ?_;simp only[Np,aL];refine wnZ and_self ?_;refine Dp (λk=>[(3,.int .i64 0),(6,aH [a,b]),(7,.int .i64 2),(8,.int .i64 k)]) 2 (λk=>[a,b].getD k default=0) (by(iterate 4 refine And.intro rfl ?_);trivial) ?_;intro k hk hz;rcases(by omega:k=0\/k=1\/k=2) with rfl|rfl|rfl
 ·have e:[a,b].getD 0 default=a:=rfl;have ix:eY 1 (aH [a,b]) (.int .i64 ((0:Nat):Int))=some (.iptr [.int .i64 a] 0):=rfl;by_cases h0:a=0
  ·have z:decide (a≠0)=false:=ba (λh=>h h0);refine wnZ (aI @ix @z) ?_;exact⟨by omega,h0,by(iterate 4 refine And.intro rfl ?_);trivial,rfl,rfl⟩
  ·have z:decide (a≠0)=true:=a6 h0;refine wnZ (aI @ix @z) ?_;rw[if_pos h0];exact .int _ _
 ·have h0:a=0:=hz 0 (by omega);have ix:eY 1 (aH [a,b]) (.int .i64 ((1:Nat):Int))=some (.iptr [.int .i64 b] 0):=rfl;rw[if_neg (λh=>h h0)];by_cases h1:b=0
  ·have z:decide (b≠0)=false:=ba (λh=>h h1);refine wnZ (aI @ix @z) ?_;exact⟨by omega,h1,by(iterate 4 refine And.intro rfl ?_);trivial,rfl,rfl⟩
  ·have z:decide (b≠0)=true:=a6 h1;refine wnZ (aI @ix @z) ?_;exact .int _ _
 ·have h0:a=0:=hz 0 (by omega);have h1:b=0:=hz 1 (by omega);rw[if_neg (λh=>h h0),h1];refine wnZ and_self ?_;exact .int _ _
theorem Cs(v w:Vtx):pU 123 [dX v,dX w] (.int .i64 (cu v w)):=by
 refine pO MO ?_;simp only[OO,aL];have h1:=FV v.color w.color;have h2:=FV v.label w.label;have h3:=Ny (c3i v.color w.color) (c3i v.label w.label);rw[Iv] at h3;refine wkZ and_self ?_;refine dh ev0 (by((try simp only[cf,ZA,reduceEqDiff,↓reduceIte,reduceAdd,reduceLeDiff]);(try with_reducible rfl));rfl) h3 (aG (ah (eH af rfl rfl) ap) rfl) ?_;refine wnZ and_self ?_;exact .int _ _
theorem u4(v w:Vtx):pU 126 [dX v,dX w] (.int .i64 (cu v w)):=by
 refine pO Lr ?_;simp only[Mb,aL];unfold cu
 repeat' (first|refine zW ?_|apply a_n|apply a_r|refine zO ?_|refine vZ ?_|refine bxZ ?_|(refine zGZ ?_ ?_<;>(intro _hg;try (exfalso;omega)))|refine b0 rfl ?_|refine r1Z ?_|fail)
 all_goals (refine eW ?_;(repeat' split)<;>omega)
theorem BS(v:Vtx):pU 153 [dX v] (.bool (gu v)):=by
 refine pO Om ?_;simp only[NW,aL];unfold gu
 repeat' (first|refine zW ?_|apply a_n|refine zO ?_|refine vZ ?_|refine bxZ ?_|refine gTZ ?_|refine gFZ ?_|(refine zGZ ?_ ?_<;>(intro _hg;try (exfalso;omega)))|refine b0 rfl ?_|refine r1Z ?_|fail)
 all_goals (refine ct ?_;rw[Bool.eq_iff_iff];simp only[eu,yy,j0,false_iff];omega)
theorem ER(v:Vtx):pU 125 [dX v] (.bool (gu v)):=by
 refine pO L6 ?_;simp only[Na,aL];unfold gu
 repeat' (first|refine zW ?_|apply a_n|refine zO ?_|refine vZ ?_|refine bxZ ?_|refine gTZ ?_|refine gFZ ?_|(refine zGZ ?_ ?_<;>(intro _hg;try (exfalso;omega)))|refine b0 rfl ?_|refine r1Z ?_|fail)
 all_goals (refine ct ?_;rw[Bool.eq_iff_iff];simp only[eu,yy,j0,false_iff];omega)
theorem AN(l m:Spx)(hl:Shn l)(hm:Shn m):pU 122 [aF l,aF m,.func 123 []] (.int .i64 (bo l m)):=by
 refine pO NL ?_;simp only[Mq,aL];have hl':l.length<=17592186044416:=hl;have hm':m.length<=17592186044416:=hm;refine wnZ @az ?_;refine bF (X:=Nat) (λk=>[(0,aF l),(1,aF m),(2,.func 123 []),(11,aF l),(12,.int .i64 l.length),(13,.int .i64 k)]) (λk H nx=>k<=l.length/\k<=m.length/\bo l m=bo (l.drop k) (m.drop k)) (λk=>l.length-k) 0 ⟨bQ _,bQ _,rfl⟩ ag0 ?_;rintro k H nx ⟨h1,h2,h3⟩;by_cases hk:k<l.length
 rotate_left
 ·rw[h3,uI (by omega) ⟨h1,h2⟩];have zz:=@az;repeat' (first|refine zW ?_|apply a_n|apply a_x|apply a_r|refine zO ?_|refine vY ?_|(refine zGY ?_ ?_<;>(intro _hg;try (exfalso;omega)))|refine b0 rfl ?_|refine r1Y ?_|fail)
  all_goals (refine eW ?_)
  ·rw[if_pos (by omega)]
  ·rw[if_neg (by omega),if_neg (by omega)]
 have ix:=ix2 hk;by_cases hk2:k<m.length
 rotate_left
 ·rw[h3,uI (by omega) ⟨h1,h2⟩,if_neg (by omega),if_pos (by omega)];refine wnY (aI @az @ix) ?_
  all_goals exact eW rfl
 have iy:=ix2 hk2;have hc:=Cs (l.getD k default) (m.getD k default);have hd:=w9 hk hk2;by_cases he:cu (l.getD k default) (m.getD k default)=0
 ·rw[if_neg (λh=>h he)] at hd;rw[he] at hc;have z:decide ((0:Int)≠0)=false:=rfl;refine wnY (zI4 @az @ix @iy @z) ?_;exact⟨k+1,by omega,⟨by omega,by omega,h3.trans hd⟩,ag0⟩
 ·rw[if_pos he] at hd;have z:decide (cu (l.getD k default) (m.getD k default)≠0)=true:=a6 he;rw[h3,hd];refine wnY (zI4 @az @ix @iy @z) ?_;exact .int _ _
theorem gL(l m:Spx)(hl:Shn l)(hm:Shn m):pU 70 [aF l,aF m] (.int .i64 (bo l m)):=by
 refine pO PX ?_;simp only[b70,aL];have h:=AN l m hl hm;refine wnZ and_self ?_;exact .int _ _
theorem pf(l m:Spx)(hl:Shn l)(hm:Shn m):pU 73 [aF l,aF m] (.int .i64 (bo l m)):=by
 refine pO Pj ?_;simp only[b73,aL];have hl':l.length<=17592186044416:=hl;have hm':m.length<=17592186044416:=hm;refine wnZ and_self ?_;refine bF (X:=Nat) (λk=>[(0,aF l),(1,aF m),(5,.int .i64 k)]) (λk H nx=>k<=l.length/\k<=m.length/\bo l m=bo (l.drop k) (m.drop k)) (λk=>l.length-k) 0 ⟨bQ _,bQ _,rfl⟩ ag0 ?_;rintro k H nx ⟨h1,h2,h3⟩;by_cases hk:k<l.length/\k<m.length
 rotate_left
 ·rw[h3,uI (by omega) ⟨h1,h2⟩];have zz:=@az;repeat' (first|refine zW ?_|apply a_n|apply a_x|apply a_r|refine zO ?_|refine vY ?_|refine gTY ?_|refine gFY ?_|refine cFY ?_|(refine zGY ?_ ?_<;>(intro _hg;try (exfalso;omega)))|refine b0 rfl ?_|refine r1Y ?_|fail)
  all_goals (refine eW ?_;(repeat' split)<;>omega)
 have ix:=ix2 hk.1;have iy:=ix2 hk.2;have hc:=u4 (l.getD k default) (m.getD k default);have hd:=w9 hk.1 hk.2;by_cases he:cu (l.getD k default) (m.getD k default)=0
 ·rw[if_neg (λh=>h he)] at hd;rw[he] at hc;have z:decide ((0:Int)≠0)=false:=rfl;refine wkY (zI4 @az @ix @iy @z) ?_;exact⟨k+1,by omega,⟨by omega,by omega,h3.trans hd⟩,ag0⟩
 ·rw[if_pos he] at hd;have z:decide (cu (l.getD k default) (m.getD k default)≠0)=true:=a6 he;rw[h3,hd];refine wkY (zI4 @az @ix @iy @z) ?_;exact .int _ _
theorem Io(l m:Spx)(hl:Shn l)(hm:Shn m):pU 63 [aF l,aF m] (.bool (decide (l=m))):=by
 refine pO Pg ?_;simp only[b63,aL];have h:=pf l m hl hm;refine wnZ and_self ?_;exact ct (decide_eq_decide.2 Ey)
theorem r8{l:Spx}{k:Nat}:oE l k=if gu (l.getD k default)=false then 2 else if 0<k/\0<=cu (l.getD (k-1) default) (l.getD k default) then 14 else 0:=rfl
theorem qn(l:Spx)(hl:Shn l):pU 128 [aF l] (.int .i64 (bT l)):=by
 refine pO MB ?_;simp only[Ot,aL];have hl':l.length<=17592186044416:=hl;by_cases h0:l.length=0
 ·rw[show bT l=16 by unfold bT;rw[if_pos h0]];refine wnZ @az ?_
  all_goals exact eW rfl
 by_cases h8:8<l.length
 ·rw[show bT l=5 by unfold bT;rw[if_neg h0,if_pos h8]];refine wnZ @az ?_
  all_goals exact eW rfl
 rw[show bT l=dC (oE l) l.length by unfold bT;rw[if_neg h0,if_neg h8]];refine wnZ @az ?_;refine bF (X:=Nat) (λk=>[(0,aF l),(13,aF l),(14,.int .i64 l.length),(15,.int .i64 k)]) (λk H nx=>k<=l.length/\∀i,i<k->oE l i=0) (λk=>l.length-k) 0 ⟨bQ _,λi h=>absurd h (by omega)⟩ ag0 ?_;rintro k H nx ⟨h1,h2⟩;by_cases hk:k<l.length
 rotate_left
 ·rw[c9 λi hi=>h2 i (by omega)];refine wnY @az ?_;exact .int _ _
 have ix:=ix2 hk;have hp:=BS (l.getD k default);have hs:=r8 (l:=l) (k:=k);cases hr:gu (l.getD k default)
 ·rw[hr] at hp;rw[hr,if_pos rfl] at hs;rw[di hk h2 (by rw[hs];decide),hs];refine wnY (aI @az @ix) ?_;exact .int _ _
 rw[hr] at hp;rw[hr,if_neg (by decide)] at hs;by_cases hk0:0<k
 rotate_left
 ·rw[if_neg (λh=>hk0 h.1)] at hs;have zk:decide (0<(k:Int))=false:=ba (by omega);refine wkY (zI3 @az @ix @zk) ?_
  exact ⟨k + 1,by omega,⟨by omega,fun i hi=>by
   rcases jX.1 hi with h|rfl
   ·exact h2 i h
   ·exact hs⟩,ag0⟩
 have zk:decide (0<(k:Int))=true:=a6 (by omega)
 have iy:eY 2 (aF l) (.int .i64 ((k:Int)-1))=some (.iptr [.int .i64 (l.getD (k-1) default).color,.int .i64 (l.getD (k-1) default).label] 0):=by
  have:=ix2 (l:=l) (k:=k-1) (by omega)
  rwa [show((k-1:Nat):Int)=(k:Int)-1 by omega] at this
 have hc:=Cs (l.getD (k-1) default) (l.getD k default);by_cases hv:0<=cu (l.getD (k-1) default) (l.getD k default)
 ·have z:decide (0<=cu (l.getD (k-1) default) (l.getD k default))=true:=a6 hv;rw[if_pos ⟨hk0,hv⟩] at hs;rw[di hk h2 (by rw[hs];decide),hs];refine wkY (zI5 @az @ix @iy @zk @z) ?_;exact .int _ _
 ·have z:decide (0<=cu (l.getD (k-1) default) (l.getD k default))=false:=ba hv;rw[if_neg (λh=>hv h.2)] at hs;refine wkY (zI5 @az @ix @iy @zk @z) ?_
  exact ⟨k + 1,by omega,⟨by omega,fun i hi=>by
   rcases jX.1 hi with h|rfl
   ·exact h2 i h
   ·exact hs⟩,ag0⟩
theorem Cm(l:Spx)(hl:Shn l):pU 72 [aF l] (.int .i64 (bT l)):=by
 refine pO Pu ?_;simp only[b72,aL];have hl':l.length<=17592186044416:=hl;by_cases h0:l.length=0
 ·rw[show bT l=16 by unfold bT;rw[if_pos h0]];refine wnZ @az ?_
  all_goals exact eW rfl
 by_cases h8:8<l.length
 ·rw[show bT l=5 by unfold bT;rw[if_neg h0,if_pos h8]];refine wnZ @az ?_
  all_goals exact eW rfl
 rw[show bT l=dC (oE l) l.length by unfold bT;rw[if_neg h0,if_neg h8]];refine wnZ @az ?_;refine bF (X:=Nat) (λk=>[(0,aF l),(3,.int .i64 k)]) (λk H nx=>k<=l.length/\∀i,i<k->oE l i=0) (λk=>l.length-k) 0 ⟨bQ _,λi h=>absurd h (by omega)⟩ ag0 ?_;rintro k H nx ⟨h1,h2⟩;by_cases hk:k<l.length
 rotate_left
 ·rw[c9 λi hi=>h2 i (by omega)];refine wnY @az ?_;exact .int _ _
 have ix:=ix2 hk;have hp:=ER (l.getD k default);have hs:=r8 (l:=l) (k:=k);cases hr:gu (l.getD k default)
 ·rw[hr] at hp;rw[hr,if_pos rfl] at hs;rw[di hk h2 (by rw[hs];decide),hs];refine wnY (aI @az @ix) ?_;exact .int _ _
 rw[hr] at hp;rw[hr,if_neg (by decide)] at hs;by_cases hk0:0<k
 rotate_left
 ·rw[if_neg (λh=>hk0 h.1)] at hs;have zk:decide (0<(k:Int))=false:=ba (by omega);refine wkY (zI3 @az @ix @zk) ?_
  exact ⟨k + 1,by omega,⟨by omega,fun i hi=>by
   rcases jX.1 hi with h|rfl
   ·exact h2 i h
   ·exact hs⟩,ag0⟩
 have zk:decide (0<(k:Int))=true:=a6 (by omega)
 have iy:eY 2 (aF l) (.int .i64 ((k:Int)-1))=some (.iptr [.int .i64 (l.getD (k-1) default).color,.int .i64 (l.getD (k-1) default).label] 0):=by
  have:=ix2 (l:=l) (k:=k-1) (by omega)
  rwa [show((k-1:Nat):Int)=(k:Int)-1 by omega] at this
 have hc:=u4 (l.getD (k-1) default) (l.getD k default);by_cases hv:0<=cu (l.getD (k-1) default) (l.getD k default)
 ·have z:decide (0<=cu (l.getD (k-1) default) (l.getD k default))=true:=a6 hv;rw[if_pos ⟨hk0,hv⟩] at hs;rw[di hk h2 (by rw[hs];decide),hs];refine wkY (zI5 @az @ix @iy @zk @z) ?_;exact .int _ _
 ·have z:decide (0<=cu (l.getD (k-1) default) (l.getD k default))=false:=ba hv;rw[if_neg (λh=>hv h.2)] at hs;refine wkY (zI5 @az @ix @iy @zk @z) ?_
  exact ⟨k + 1,by omega,⟨by omega,fun i hi=>by
   rcases jX.1 hi with h|rfl
   ·exact h2 i h
   ·exact hs⟩,ag0⟩
theorem Ox(l:Spx)(v:Vtx)(hl:Shn l):pU 127 [aF l,dX v] (.bool (decide (v∈l))):=by
 refine pO LD ?_;simp only[NS,aL];have hl':l.length<=17592186044416:=hl;refine wnZ @az ?_;refine Dp (λk=>[(0,aF l),(3,.ptr 0 2 0),(5,.int .i64 k)]) l.length (λk=>l.getD k default≠v) (by simp (disch:=omega) only[agr,ZG,reduceEqDiff,↓reduceIte,br,dw,bP,reduceAdd]) ?_;intro k hk hz;by_cases hk2:k<l.length
 rotate_left
 ·refine wnZ @az ?_;exact ct (En λi hi=>hz i (by omega)).symm
 have ix:=ix2 hk2;have hd:=yS (l.getD k default) v;by_cases he:l.getD k default=v
 ·rw[a6 he] at hd;rw[Gq hk2 he];refine wnZ (zI4 @az @ix @acq @hd) ?_;exact .bool _
 ·rw[ba he] at hd;refine wnZ (zI4 @az @ix @acq @hd) ?_;exact⟨hk2,he,ag0,rfl,rfl⟩
theorem Fe(a b:Spx)(ha:Shn a)(hb:Shn b):pU 74 [aF a,aF b] (.bool (fH a b)):=by
 refine pO O1 ?_;simp only[b74,aL];have ha':a.length<=17592186044416:=ha;refine wnZ @az ?_;refine Dp (λk=>[(0,aF a),(1,aF b),(5,.int .i64 k)]) a.length (λk=>decide (a.getD k default∈b)=true) ag0 ?_;intro k hk hz;by_cases hk2:k<a.length
 rotate_left
 ·refine wnZ @az ?_;exact ct (lf λi hi=>hz i (by omega)).symm
 have ix:=ix2 hk2;have hh:=Ox b (a.getD k default) hb;cases hm:decide (a.getD k default∈b)
 ·rw[hm] at hh;rw[show fH a b=false from jA hk2 hm];refine wnZ (aI @az @ix) ?_;exact .bool _
 ·rw[hm] at hh;refine wnZ (aI @az @ix) ?_;exact⟨hk2,rfl,ag0,rfl,rfl⟩
theorem DQ(x y:List Spx)(hx:Shn x)(hy:Shn y)(hxs:∀v∈x,Shn v)(hys:∀v∈y,Shn v):pU 23 [ao x,ao y] (.bool (decide (x=y))):=by
 refine pO PC ?_;simp only[b23,aL];have hx':x.length<=17592186044416:=hx;have hy':y.length<=17592186044416:=hy;by_cases hlen:x.length=y.length
 rotate_left
 ·have z:decide ((x.length:Int)≠y.length)=true:=a6 (by omega);rw[ba (λe=>hlen (by rw[e]))];refine wnZ (aI @ai @z) ?_;exact .bool _
 have z:decide ((x.length:Int)≠y.length)=false:=ba (by omega);refine wnZ (aI @ai @z) ?_;refine bF (X:=Nat) (λk=>[(0,ao x),(1,ao y),(5,.int .i64 k)]) (λk H nx=>k<=x.length/\∀i,i<k->x.getD i default=y.getD i default) (λk=>x.length-k) 0 ⟨bQ _,λi h=>absurd h (by omega)⟩ ag0 ?_;rintro k H nx ⟨hk,hz⟩;by_cases hk2:k<x.length
 rotate_left
 ·refine wnY @ai ?_;refine ct ?_
  symm;rw[yy]
  refine List.ext_getElem hlen λi h3 h4=>?_;have:=hz i (by omega);simpa[List.getD,h3,h4] using this
 have ix:=fQ hk2;have iy:=fQ (l:=y) (k:=k) (by omega);have hc:=Io (x.getD k default) (y.getD k default) (hxs _ (aK hk2)) (hys _ (aK (by omega)));by_cases he:x.getD k default=y.getD k default
 ·rw[a6 he] at hc;refine wkY (zI3 @ai @ix @iy) ?_
  exact ⟨k + 1,by omega,⟨by omega,fun i hi=>by
   rcases jX.1 hi with h|rfl
   ·exact hz i h
   ·exact he⟩,ag0⟩
 ·rw[ba he] at hc;rw[ba (p:=x=y) (λe=>he (by rw[e]))];refine wkY (zI3 @ai @ix @iy) ?_;exact .bool _
def lQ(c:List Spx):Bool:=decide (c.length<=30)&&c.all λs=>decide (s.length<=10)
theorem Ja(l:Spx)(hl:Shn l):pU 145 [aF l] (.bool (decide (l.length<=10))):=by
 refine pO L7 ?_;simp only[OM,aL];refine wnZ @az ?_;exact ct (decide_eq_decide.2 (by omega))
theorem GV(c:List Spx)(hc:Shn c)(hs:∀s∈c,Shn s):pU 95 [ao c] (.bool (lQ c)):=by
 refine pO PP ?_;simp only[b95,aL];have hc':c.length<=17592186044416:=hc;unfold lQ;by_cases h:c.length<=30
 rotate_left
 ·have z:decide (30<(c.length:Int))=true:=a6 (by omega);rw[ba h,Bool.false_and];refine wnZ (aI @ai @z) ?_;exact .bool _
 have z:decide (30<(c.length:Int))=false:=ba (by omega);rw[a6 h,Bool.true_and];refine wnZ (aI @ai @z) ?_;refine Dp (λk=>[(0,ao c),(3,.int .i64 k)]) c.length (λk=>decide ((c.getD k default).length<=10)=true) ag0 ?_;intro k hk hz;by_cases hk2:k<c.length
 rotate_left
 ·refine wnZ @ai ?_;exact ct (lf λi hi=>hz i (by omega)).symm
 have ix:=fQ hk2;have hf:=Ja (c.getD k default) (hs _ (aK hk2));cases hm:decide ((c.getD k default).length<=10)
 ·rw[hm] at hf;rw[jA hk2 hm];refine wnZ (aI @ai @ix) ?_;exact .bool _
 ·rw[hm] at hf;refine wnZ (aI @ai @ix) ?_;exact⟨hk2,rfl,ag0,rfl,rfl⟩
abbrev cl(c:List Spx):AV:=.agg [ao c]
theorem dt(c:List Spx):Dat (cl c):=Dat.agg (DatL.cons (bD c) DatL.nil)
instance datI_encCx{c:List Spx}:DatI (cl c):=⟨dt c⟩
theorem H7(c:List Spx)(hc:Shn c)(hs:∀s∈c,Shn s):pU 41 [cl c] (.bool (lQ c)):=by
 refine pO PD ?_;simp only[b41,aL];have h:=GV c hc hs;refine wnZ (aI @ak @ag) ?_;exact .bool _
end
end Go.Proofs.YtekdaafnjdlenaaGreat
