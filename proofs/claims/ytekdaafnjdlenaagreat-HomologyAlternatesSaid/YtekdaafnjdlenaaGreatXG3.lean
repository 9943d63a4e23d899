/- Contracts of functions and plain laws, for all inputs that the theorems name. -/
import Derived.Test.YtekdaafnjdlenaaGreatXG2
import Derived.ChangeArms
import Derived.Carry
import Derived.Deep.Slices
import Derived.Lib.SmallJoins
import Derived.Test.YtekdaafnjdlenaaGreatProg
import Derived.KernelRfl

set_option linter.unusedSimpArgs false
set_option linter.unusedVariables false
set_option maxHeartbeats 4000000
namespace Go.Abs
open Go.RowKit
variable{P:Program}{T:Tm}{H:Hp}{nx:Nat}
theorem LG{K:CP}(h:K .normal T H nx):aM P .skip T H nx K:=h
theorem LW{K:CP}{i:Nat}(h:K (.exit i) T H nx):aM P (.exit i) T H nx K:=h
theorem O6{K:CP}(h:K .ret T H nx):aM P .ret T H nx K:=h
theorem LB{K:CP}{l:List Op2}(h:am P .text l T H nx λT H nx=>K .normal T H nx):aM P (.ops 0 l) T H nx K:=⟨T,H,nx,_,Gh.refl _ _ _,h⟩
theorem w_mix1{K:CP}{l:List Op2}{C:List Nat}(h:am P .draw l T H nx λT H nx=>K .normal T H nx):aM P (.mix 1 l C) T H nx K:=.inl ⟨by decide,T,H,nx,_,Gh.refl _ _ _,h⟩
theorem pz{K:CP}{l:List Op2}{C:List Nat}(h:am P (.fresh nx) l T H nx λT H nx=>K .normal T H nx):aM P (.mix 2 l C) T H nx K:=.inl ⟨by decide,T,H,nx,_,Gh.refl _ _ _,h⟩
theorem Ll{K:CP}{m:Nat}{l alt:List Op2}{C:List Nat}(ha:(C.map λk=>l.getD k ⟨none,none,.dead⟩)=alt)(h:am P .text alt T H nx λT H nx=>K .normal T H nx):aM P (.mix m l C) T H nx K:=by
 subst ha;exact .inr ⟨T,H,nx,_,Gh.refl _ _ _,h⟩
theorem yA{K:CP}{l alt:List Op2}{C:List Nat}(ha:(C.map λk=>l.getD k ⟨none,none,.dead⟩)=alt)(h:am P .text alt T H nx λT H nx=>K .normal T H nx):aM P (.mix 9 l C) T H nx K:=Ll ha h
theorem JG{K:CP}{l:List Op2}{C:List (Nat×Nat)}(h:am P .draw l T H nx λT H nx=>K .normal T H nx):aM P (.mixS 1 l C) T H nx K:=.inl ⟨by decide,T,H,nx,_,Gh.refl _ _ _,h⟩
theorem Jk{K:CP}{l:List Op2}{C:List (Nat×Nat)}(h:am P (.fresh nx) l T H nx λT H nx=>K .normal T H nx):aM P (.mixS 2 l C) T H nx K:=.inl ⟨by decide,T,H,nx,_,Gh.refl _ _ _,h⟩
theorem CD(S:Hp){K:CP}{m:Nat}{l:List Op2}{alt:List (Op2×Nat)}{C:List (Nat×Nat)}(ha:(C.map λk=>(l.getD k.1 ⟨none,none,.dead⟩,k.2))=alt)(hs:Sub S H)(h:bm P S alt T H nx λT H nx=>K .normal T H nx):aM P (.mixS m l C) T H nx K:=by
 subst ha;exact .inr ⟨T,H,nx,_,S,Gh.refl _ _ _,hs,h⟩
theorem Me(S:Hp){K:CP}{l:List Op2}{f:Nat×Nat}{C D:List (Nat×Nat)}(hs:Sub S H)(h:iW P S (l.getD f.1 ⟨none,none,.dead⟩,f.2) (D.map λk=>(l.getD k.1 ⟨none,none,.dead⟩,k.2)) (C.map λk=>(l.getD k.1 ⟨none,none,.dead⟩,k.2)) T H nx λT H nx=>K .normal T H nx):aM P (.mixF l f C D) T H nx K:=⟨T,H,nx,_,S,Gh.refl _ _ _,hs,h⟩
theorem MQ{S:Hp}{K:SP}{f:Op2×Nat}{l2:List (Op2×Nat)}(h:bm P S (f::l2) T H nx K):iW P S f l2 [] T H nx K:=h
theorem KB{S:Hp}{K:SP}{f:Op2×Nat}{l l2:List (Op2×Nat)}{o:Op2}{k:Nat}(h:bm P S [(o,k)] T H nx λT H nx=>iW P S f l2 l T H nx K)(hk:¬(k=1\/k=2):=by decide):iW P S f l2 ((o,k)::l) T H nx K:=⟨λq=>absurd q hk,h⟩
theorem MY{S:Hp}{K:SP}{f x:Op2×Nat}{l l2:List (Op2×Nat)}(h1:bm P S (f::x::(l++l2)) T H nx K)(h2:bm P S [x] T H nx λT H nx=>iW P S f l2 l T H nx K):iW P S f l2 (x::l) T H nx K:=⟨λ_=>h1,h2⟩
theorem w5{S:Hp}{K:SP}(h:K T H nx):bm P S [] T H nx K:=h
theorem KM{S:Hp}{K:SP}{l:List (Op2×Nat)}{d:Option Nat}{i:Ins}{r:AV}(h:cw T S i=some r)(k:bm P S l (aP T d r) H nx K):bm P S ((⟨d,none,i⟩,0)::l) T H nx K:=by
 show aD (cw T S i) λr=>bm P S l (aP T d r) H nx K;rw[h];exact k
theorem Nc{S:Hp}{K:SP}{l:List (Op2×Nat)}{d:Option Nat}{len:Nat}{z cs:List AV}{parts:List (Nat×Nat×Opd)}{pv:List (Nat×Nat×AV)}(hp:parts.map (λp=>(p.1,p.2.1,ov T p.2.2))=pv)(hc:eU (bv (.agg z) len) pv=some cs)(hl:len≠0)(hn:cs.length=len)(ho:cs.all AV.one=true)
    (k:bm P S l (aP T d (.sl 1 cs)) H nx K):bm P S ((⟨d,none,.bldS 1 len z parts⟩,3)::l) T H nx K:=by
 show aD (wN T (.bldS 1 len z parts)) _
 have:wN T (.bldS 1 len z parts)=some (.sl 1 cs):=by
  simp only[wN,kI,hl,if_false,hp,hc,uj,ao,if_true,hn];rw[if_pos ⟨trivial,hl,ho⟩]
 rw[this];exact k
theorem MF{S:Hp}{K:SP}{l:List (Op2×Nat)}{d:Option Nat}{i:Ins}{r:AV}(h:ilk T S i=some r)(k:bm P S l (aP T d r) H nx K):bm P S ((⟨d,none,i⟩,4)::l) T H nx K:=by
 show aD (ilk T S i) λr=>bm P S l (aP T d r) H nx K;rw[h];exact k
theorem eb{S:Hp}{K:SP}{l:List (Op2×Nat)}{d:Option Nat}{i:Ins}(k:am P .text [⟨d,none,i⟩] T H nx λT H nx=>Sub S H/\bm P S l T H nx K):bm P S ((⟨d,none,i⟩,1)::l) T H nx K:=by
 have k:bn P .text i T H nx λr H nx=>Sub S H/\bm P S l (aP T d r) H nx K:=k;show bn P .text i T H nx λr H' nx'=>(0=0->Sub S H')/\bm P S l (aP T d r) H' nx' K;exact o6 k (λ_ _ _ h=>⟨λ_=>h.1,h.2⟩)
theorem iR{S:Hp}{K:SP}{l:List (Op2×Nat)}{d:Option Nat}{i:Ins}(k:am P .text [⟨d,none,i⟩] T H nx λT H nx=>bm P S l T H nx K):bm P S ((⟨d,none,i⟩,2)::l) T H nx K:=by
 have k:bn P .text i T H nx λr H nx=>bm P S l (aP T d r) H nx K:=k;show bn P .text i T H nx λr H' nx'=>(1=0->Sub S H')/\bm P S l (aP T d r) H' nx' K;exact o6 k (λ_ _ _ h=>⟨λhh=>absurd hh (by decide),h⟩)
theorem LL(I:(Nat->Bool)->Tm->Hp->Nat->Prop){K:CP}{l:List Op2}{B:List (List Nat)}(h0:I (λ_=>false) T H nx)
    (h1:∀(i:Nat)(L:Nat->Bool)(T:Tm)(H:Hp)(nx:Nat),i<l.length->L i=false->(∀k∈B.getD i [],L k=true)->I L T H nx->am P .text [l.getD i ⟨none,none,.dead⟩] T H nx (I λk=>L k || decide (k=i)))
    (h2:∀(L:Nat->Bool)(T:Tm)(H:Hp)(nx:Nat),(∀k,k<l.length->L k=true)->I L T H nx->K .normal T H nx):aM P (.anyI l B) T H nx K:=⟨T,H,nx,_,I,Gh.refl _ _ _,h0,h1,h2⟩
theorem Ml{K:CP}{l:List Op2}(h:am P .draw l T H nx λT H nx=>K .normal T H nx):aM P (.ops 1 l) T H nx K:=⟨T,H,nx,_,Gh.refl _ _ _,h⟩
theorem Ls{K:CP}{l:List Op2}(h:am P (.fresh nx) l T H nx λT H nx=>K .normal T H nx):aM P (.ops 2 l) T H nx K:=⟨T,H,nx,_,Gh.refl _ _ _,h⟩
theorem dT{K:CP}{x y:C2}(h:aM P x T H nx λe T H nx=>aS e (aM P y T H nx K) (K e T H nx)):aM P (.seq x y) T H nx K:=h
theorem mI{K:CP}{i:Nat}{b:C2}(h:aM P b T H nx λe T H nx=>K (rN i e) T H nx):aM P (.block i b) T H nx K:=h
theorem Co{K:CP}{c:Opd}{x y:C2}{b:Bool}(hc:ov T c=.bool b)(h1:b=true->aM P x T H nx K)(h2:b=false->aM P y T H nx K):aM P (.cond c x y) T H nx K:=by
 simp only[aM,hc];exact⟨h1,h2⟩
theorem D1{K:CP}{c:Opd}{x y:C2}(hc:ov T c=.bool true)(h1:aM P x T H nx K):aM P (.cond c x y) T H nx K:=
 Co hc (λ_=>h1) (λh=>by cases h)
theorem Em{K:CP}{c:Opd}{x y:C2}(hc:ov T c=.bool false)(h2:aM P y T H nx K):aM P (.cond c x y) T H nx K:=
 Co hc (λh=>by cases h) (λ_=>h2)
theorem LH{K:CP}{b:C2}(h:aZ (aM P b) T H nx K):aM P (.loop b) T H nx K:=h
theorem a_n{A B:Prop}(h:A):aS .normal A B:=h
theorem a_x{A B:Prop}{i:Nat}(h:B):aS (.exit i) A B:=h
theorem a_r{A B:Prop}(h:B):aS .ret A B:=h
theorem jv{dm:DM}{K:SP}(h:K T H nx):am P dm [] T H nx K:=h
theorem po{dm:DM}{K:SP}{l:List Op2}{d:Option Nat}{i:Ins}{r:AV}(hi:ic i=.val)(hd:dm2 dm T i=true)(h:cw T H i=some r)(k:am P dm l (aP T d r) H nx K):am P dm (⟨d,none,i⟩::l) T H nx K:=by
 show bn P dm i T H nx λr H nx=>am P dm l (aP T d r) H nx K;unfold bn;rw[hi];exact⟨hd,by rw[h];exact k⟩
theorem pu{dm:DM}{K:SP}{l:List Op2}{d:Option Nat}{i:Ins}{r:AV}{H':Hp}{nx':Nat}(hi:ic i=.eff)(hd:dm2 dm T i=true)(h:kI T H nx i=some (r,H',nx'))(k:am P dm l (aP T d r) H' nx' K):am P dm (⟨d,none,i⟩::l) T H nx K:=by
 show bn P dm i T H nx λr H nx=>am P dm l (aP T d r) H nx K;unfold bn;rw[hi];exact⟨hd,by rw[h];exact k⟩
theorem C6{K:SP}{l:List Op2}{d:Option Nat}{f:Opd}{args:List Opd}{g:FuncId}{caps:List AV}(hf:ov T f=.func g caps)(k:Fn P g (args.map (ov T)++caps) H nx λr H nx=>am P .text l (aP T d r) H nx K):
    am P .text (⟨d,none,.call f args⟩::l) T H nx K:=by
 left;show aD (qB (ov T f)) _;rw[hf];exact k
theorem Ei{dm:DM}(hdm:dm.isText=false){K:SP}{l:List Op2}{d:Option Nat}{f:Opd}{args:List Opd}{g:FuncId}{caps:List AV}(hf:ov T f=.func g caps)(k:aY P g (args.map (ov T)++caps) H λr=>am P dm l (aP T d r) H nx K):
    am P dm (⟨d,none,.call f args⟩::l) T H nx K:=by
 left;show aD (qB (ov T f)) _;rw[hf];show(match dm.isText with|false=>_|true=>_);rw[hdm];exact k
theorem zh{K:SP}{l:List Op2}{d:Option Nat}{f:Opd}{args:List Opd}{b:Nat}{xs:List AV}(hf:ov T f=.yld b)(ha:args.map (ov T)=xs)(k:Yl P b xs H nx λr H nx=>am P .text l (aP T d r) H nx K):
    am P .text (⟨d,none,.call f args⟩::l) T H nx K:=by
 right;exact⟨rfl,.inl ⟨b,hf,by rw[ha];exact k⟩⟩
theorem lA{K:SP}{l:List Op2}{d:Option Nat}{i:Ins}(hi:ic i=.sp)(k:isp i T H nx λr H nx=>am P .text l (aP T d r) H nx K):am P .text (⟨d,none,i⟩::l) T H nx K:=by
 show bn P .text i T H nx λr H nx=>am P .text l (aP T d r) H nx K;unfold bn;rw[hi];exact⟨rfl,k⟩
theorem sy{K:SP}{l:List Op2}{d:Option Nat}(k:am P .text l (aP T d (.mp nx)) (ao H nx [.omap [] []]) (nx+1) K):am P .text (⟨d,none,.mkm none⟩::l) T H nx K:=lA rfl ⟨.inl rfl,.inl k⟩
theorem nw{K:SP}{l:List Op2}{d:Option Nat}{kk:MK}{m key x:Opd}{b:Nat}{ks vs:List AV}{kv xv:AV}{r:Option Nat}(hm:ov T m=.mp b)(hb:H b=some [.omap ks vs])(hk:ov T key=kv)(hx:ov T x=xv)(hfit:kD kk kv=true)(hr:dK kk kv ks=some r)
    (k:am P .text l (aP T d (.tup [])) (ao H b [.omap (dl kv r ks) (gL xv r vs)]) nx K):am P .text (⟨d,none,.mput kk m key x⟩::l) T H nx K:=by
 subst hk hx;exact lA rfl (.inl ⟨b,ks,vs,r,hm,hb,hfit,hr,k⟩)
theorem fh{K:SP}{l:List Op2}{d:Option Nat}{kk:MK}{z:AV}{ok:Bool}{m key:Opd}{b:Nat}{ks vs:List AV}{kv:AV}{r:Option Nat}(hm:ov T m=.mp b)(hb:H b=some [.omap ks vs])(hk:ov T key=kv)(hfit:kD kk kv=true)(hr:dK kk kv ks=some r)
    (k:am P .text l (aP T d (mget z ok r vs)) H nx K):am P .text (⟨d,none,.mget kk z ok m key⟩::l) T H nx K:=by
 subst hk;exact lA rfl (.inl ⟨b,ks,vs,r,hm,hb,hfit,hr,k⟩)
theorem Iu{K:SP}{l:List Op2}{d:Option Nat}{kk:MK}{z:AV}{m key:Opd}{b:Nat}{ks vs:List AV}{kv:AV}{r:Option Nat}(hm:ov T m=.mp b)(hb:H b=some [.omap ks vs])(hk:ov T key=kv)(hfit:kD kk kv=true)(hr:dK kk kv ks=some r)
    (k:am P .text l (aP T d (.tup [EP z r vs,.int .i64 (Cq r ks)])) (ao H b [.omap (dl kv r ks) (pc z r vs)]) nx K):am P .text (⟨d,none,.mplc kk z m key⟩::l) T H nx K:=by
 subst hk;exact lA rfl ⟨b,ks,vs,r,hm,hb,hfit,hr,k⟩
theorem G1{K:SP}{l:List Op2}{d:Option Nat}{m s x:Opd}{b i:Nat}{ks vs:List AV}{xv:AV}(hm:ov T m=.mp b)(hb:H b=some [.omap ks vs])(hi:ov T s=.int .i64 (i:Int))(hlt:i<ks.length)(hx:ov T x=xv)
    (k:am P .text l (aP T d (.tup [])) (ao H b [.omap ks (vs.set i xv)]) nx K):am P .text (⟨d,none,.mpst m s x⟩::l) T H nx K:=by
 subst hx;exact lA rfl ⟨b,ks,vs,i,hm,hb,hi,hlt,k⟩
theorem LV{K:SP}{l:List Op2}{d:Option Nat}{m:Opd}{b:Nat}{ks vs:List AV}(hm:ov T m=.mp b)(hb:H b=some [.omap ks vs])(k:am P .text l (aP T d (.int .i64 ks.length)) H nx K):am P .text (⟨d,none,.mlen m⟩::l) T H nx K:=lA rfl (.inl ⟨b,ks,vs,hm,hb,k⟩)
theorem LK{K:SP}{l:List Op2}{d:Option Nat}{m:Opd}{b:Nat}{ks vs:List AV}(hm:ov T m=.mp b)(hb:H b=some [.omap ks vs])(k:am P .text l (aP T d (.itr nx)) (ao H nx [.oiter b ks.length []]) (nx+1) K):am P .text (⟨d,none,.mrng m⟩::l) T H nx K:=lA rfl (.inl ⟨b,ks,vs,hm,hb,k⟩)
theorem Mn{K:SP}{l:List Op2}{d:Option Nat}{it:Opd}{b m n0:Nat}{seen:List Nat}{ks vs:List AV}(hi:ov T it=.itr b)(hb:H b=some [.oiter m n0 seen])(hm:H m=some [.omap ks vs])(hkn:ks.length=n0)
    (h1:∀i,i<ks.length->i∉seen->am P .text l (aP T d (.tup [.bool true,ks.getD i .undef,vs.getD i .undef])) (ao H b [.oiter m n0 (seen++[i])]) nx K)
    (h2:(∀i,i<n0->i<ks.length->i∈seen)->am P .text l (aP T d (.tup [.bool false])) H nx K):am P .text (⟨d,none,.mnxt it⟩::l) T H nx K:=lA rfl (.inl ⟨b,m,n0,seen,ks,vs,hi,hb,hm,hkn,h1,h2⟩)
theorem LJ{K:SP}{l:List Op2}{d:Option Nat}{it:Opd}{b m n0 i:Nat}{seen:List Nat}{ks vs:List AV}(hi:ov T it=.itr b)(hb:H b=some [.oiter m n0 seen])(hm:H m=some [.omap ks vs])(hkn:ks.length=n0)(hl:seen.getLast?=some i)(hlt:i<ks.length)
    (k:am P .text l (aP T d (.tup [ks.getD i .undef,vs.getD i .undef])) H nx K):am P .text (⟨d,none,.ment it⟩::l) T H nx K:=lA rfl (.inl ⟨b,m,n0,i,seen,ks,vs,hi,hb,hm,hkn,hl,hlt,k⟩)
theorem Lj{K:SP}{l:List Op2}{d:Option Nat}(k:am P .text l (aP T d (.mp nx)) (ao H nx [.bmap [] [] [] 0]) (nx+1) K):am P .text (⟨d,none,.mkm none⟩::l) T H nx K:=lA rfl ⟨.inl rfl,.inr k⟩
theorem Kq{K:SP}{l:List Op2}{d:Option Nat}{kk:MK}{m key x:Opd}{b:Nat}{ks vs:List AV}{bs:List Nat}{ck:Nat}{kv xv:AV}{r:Option Nat}(hm:ov T m=.mp b)(hb:H b=some [.bmap ks vs bs ck])(hk:ov T key=kv)(hx:ov T x=xv)(hfit:kD kk kv=true)(hr:dK kk kv ks=some r)
    (k:am P .text l (aP T d (.tup [])) (ao H b [.bmap (dl kv r ks) (gL xv r vs) (sr ck r bs) (wZ ck r)]) nx K):am P .text (⟨d,none,.mput kk m key x⟩::l) T H nx K:=by
 subst hk hx;exact lA rfl (.inr ⟨b,ks,vs,bs,ck,r,hm,hb,hfit,hr,k⟩)
theorem LO{K:SP}{l:List Op2}{d:Option Nat}{kk:MK}{m key:Opd}{b:Nat}{ks vs:List AV}{bs:List Nat}{ck:Nat}{kv:AV}{r:Option Nat}(hm:ov T m=.mp b)(hb:H b=some [.bmap ks vs bs ck])(hk:ov T key=kv)(hfit:kD kk kv=true)(hr:dK kk kv ks=some r)
    (k:am P .text l (aP T d (.tup [])) (ao H b [.bmap (m8 r ks) (m8 r vs) (m8 r bs) ck]) nx K):am P .text (⟨d,none,.mdel kk m key⟩::l) T H nx K:=by
 subst hk;exact lA rfl ⟨b,ks,vs,bs,ck,r,hm,hb,hfit,hr,k⟩
theorem DS{K:SP}{l:List Op2}{d:Option Nat}{kk:MK}{z:AV}{ok:Bool}{m key:Opd}{b:Nat}{ks vs:List AV}{bs:List Nat}{ck:Nat}{kv:AV}{r:Option Nat}(hm:ov T m=.mp b)(hb:H b=some [.bmap ks vs bs ck])(hk:ov T key=kv)(hfit:kD kk kv=true)(hr:dK kk kv ks=some r)
    (k:am P .text l (aP T d (mget z ok r vs)) H nx K):am P .text (⟨d,none,.mget kk z ok m key⟩::l) T H nx K:=by
 subst hk;exact lA rfl (.inr ⟨b,ks,vs,bs,ck,r,hm,hb,hfit,hr,k⟩)
theorem JZ{K:SP}{l:List Op2}{d:Option Nat}{m:Opd}{b:Nat}{ks vs:List AV}{bs:List Nat}{ck:Nat}(hm:ov T m=.mp b)(hb:H b=some [.bmap ks vs bs ck])(k:am P .text l (aP T d (.itr nx)) (ao H nx [.biter b ck []]) (nx+1) K):am P .text (⟨d,none,.mrng m⟩::l) T H nx K:=lA rfl (.inr ⟨b,ks,vs,bs,ck,hm,hb,k⟩)
theorem JM{K:SP}{l:List Op2}{d:Option Nat}{it:Opd}{b m ck:Nat}{seen bs:List Nat}{ks vs:List AV}(hi:ov T it=.itr b)(hb:H b=some [.biter m ck seen])(hm:H m=some [.bmap ks vs bs ck])
    (h1:∀(i s:Nat),bs[i]?=some s->s∉seen->am P .text l (aP T d (.tup [.bool true,ks.getD i .undef,vs.getD i .undef])) (ao H b [.biter m ck (seen++[s])]) nx K)
    (h2:(∀s∈bs,s∈seen)->am P .text l (aP T d (.tup [.bool false])) H nx K):am P .text (⟨d,none,.mnxt it⟩::l) T H nx K:=lA rfl (.inr ⟨b,m,ck,seen,ks,vs,bs,hi,hb,hm,h1,h2⟩)
theorem Jl{K:SP}{l:List Op2}{d:Option Nat}{it:Opd}{b m ck i s:Nat}{seen bs:List Nat}{ks vs:List AV}(hi:ov T it=.itr b)(hb:H b=some [.biter m ck seen])(hm:H m=some [.bmap ks vs bs ck])(hl:seen.getLast?=some s)(hbi:bs[i]?=some s)
    (k:am P .text l (aP T d (.tup [ks.getD i .undef,vs.getD i .undef])) H nx K):am P .text (⟨d,none,.ment it⟩::l) T H nx K:=lA rfl (.inr ⟨b,m,ck,i,s,seen,ks,vs,bs,hi,hb,hm,hl,hbi,k⟩)
theorem KR{K:SP}{l:List Op2}{d:Option Nat}{sz n:Nat}{x y:Opd}{H':Hp}(h:uI sz (ov T x) (ov T y) H=some (n,H'))(k:am P .text l (aP T d (.int .i64 n)) H' nx K):am P .text (⟨d,none,.cpy sz x y⟩::l) T H nx K:=lA rfl ⟨n,H',h,k⟩
theorem KP{K:SP}{l:List Op2}{d:Option Nat}{sz:Nat}{z:AV}{x:Opd}{H':Hp}(h:sk sz z (ov T x) H=some H')(k:am P .text l (aP T d (.tup [])) H' nx K):am P .text (⟨d,none,.clr sz z x⟩::l) T H nx K:=lA rfl ⟨H',h,k⟩
theorem KY{K:SP}{l:List Op2}{d:Option Nat}{len sz:Nat}{x:Opd}{b n off:Nat}{cs:List AV}(hx:ov T x=.ptr b n off)(hb:H b=some cs)(hn:cs.length=n)(hf:off+len*sz=n)(k:am P .text l (aP T d (.msl b n sz off len)) H nx K):am P .text (⟨d,none,.slp len sz x⟩::l) T H nx K:=lA rfl ⟨b,n,off,cs,hx,hb,hn,hf,k⟩
theorem rp{K:SP}{l:List Op2}{d:Option Nat}{neg:Bool}{x:Opd}{k:Nat}(hx:eT (ov T x)=some k)(h1:0<k->am P .text l (aP T d (.bool neg)) H nx K)(h2:k=0->am P .text l (aP T d (.bool true)) H nx K)(h3:k=0->am P .text l (aP T d (.bool false)) H nx K):am P .text (⟨d,none,.snil neg x⟩::l) T H nx K:=lA rfl ⟨k,hx,h1,λh=>⟨h2 h,h3 h⟩⟩
theorem I5{K:CP}{g:Opd}{ps:List Nat}{a b:C2}{f:FuncId}{caps:List AV}(hg:ov T g=.func f caps)
    (h:∀ (c0:AV) (cj:AEx→AV),(∀ (args:List AV) (H':Hp) (nx':Nat) (K':AV→Hp→Nat→Prop),H' nx=some [c0]→args.length=ps.length →
        aM P a (mf T ps args) H' nx' (λe T2 H2 nx2=>aS e (H2 nx=some [c0]/\aM P b T2 (c9 H2 nx) nx2 λe T3 H3 nx3=>aS e (K' (.bool true) (ao H3 nx [c0]) nx3) (K' (.bool false) (ao H3 nx [cj e]) nx3)) False)->
        Yl P nx args H' nx' K')->
     Fn P f (.yld nx::caps) (ao H nx [c0]) (nx+1) λ_ H' nx'=>(H' nx=some [c0]/\K .normal T (c9 H' nx) nx')\/ ∃e,e≠.normal/\H' nx=some [cj e]/\K e T (c9 H' nx) nx'):aM P (.rangeF g ps a b) T H nx K:=⟨f,caps,hg,h⟩
theorem L0{dm:DM}{K:SP}{l:List Op2}{d:Option Nat}{i:Ins}{t:Nat}{w:Bool}(h:T t=.bool w)(k:am P dm (⟨d,none,i⟩::l) T H nx K):am P dm (⟨d,some (t,w),i⟩::l) T H nx K:=by
 show aX (g2 T (some (t,w))) _ _;have:g2 T (some (t,w))=some true:=by simp[g2,h]
 rw[this];exact k
theorem MA{dm:DM}{K:SP}{l:List Op2}{d:Option Nat}{i:Ins}{t:Nat}{w:Bool}(h:T t=.bool (!w)\/T t=.tup [])(k:am P dm l (aP T d (.tup [])) H nx K):am P dm (⟨d,some (t,w),i⟩::l) T H nx K:=by
 show aX (g2 T (some (t,w))) _ _
 have:g2 T (some (t,w))=some false:=by
  rcases h with h|h
  ·cases w<;>simp[g2,h]
  ·simp[g2,h]
 rw[this];exact k
theorem bC{e:AEx}{A:Prop}(he:e.ends=true)(h:A):aV e.ends A:=⟨he,h⟩
theorem r_1{K:AV->Prop}{a:RV}{x:AV}(ha:rv T H a=some x)(h:K x):bw T H K [a]:=by
 show aD (rv T H a) K;rw[ha];exact h
theorem r_2{K:AV->Prop}{a b:RV}{x y:AV}(ha:rv T H a=some x)(hb:rv T H b=some y)(h:K (.tup [x,y])):bw T H K [a,b]:=by
 show aD (rv T H a) _;rw[ha];show aD (rv T H b) _;rw[hb];exact h
theorem r_5{K:AV->Prop}{a b c d e:RV}{x y z u v:AV}(ha:rv T H a=some x)(hb:rv T H b=some y)(hc:rv T H c=some z)(hd:rv T H d=some u)(he:rv T H e=some v)(h:K (.tup [x,y,z,u,v])):bw T H K [a,b,c,d,e]:=by
 show zq T H [a,b,c,d,e] λxs=>K (.tup xs);simp only[zq,ha,hb,hc,hd,he];exact h
theorem r_3{K:AV->Prop}{a b c:RV}{x y z:AV}(ha:rv T H a=some x)(hb:rv T H b=some y)(hc:rv T H c=some z)(h:K (.tup [x,y,z])):bw T H K [a,b,c]:=by
 show aD (rv T H a) _;rw[ha];show aD (rv T H b) _;rw[hb];show aD (rv T H c) _;rw[hc];exact h
theorem B5{T:Tm}{t:Nat}{v:AV}(h:T t=v):upd T t v=T:=by
 funext x;simp only[upd];split
 ·rename_i e;rw[e,h]
 ·rfl
theorem O5{dm:DM}{K:SP}{l:List Op2}{d:Option Nat}{i:Ins}{t:Nat}{w b:Bool}(h:T t=.bool b)(k1:b=w->am P dm (⟨d,none,i⟩::l) (upd T t (.bool w)) H nx K)
    (k2:b=!w->am P dm l (aP (upd T t (.bool (!w))) d (.tup [])) H nx K):am P dm (⟨d,some (t,w),i⟩::l) T H nx K:=by
 by_cases hb:b=w
 ·subst hb;have:=k1 rfl;rw[B5 h] at this;exact L0 h this
 ·have hb':b=!w:=by cases b<;>cases w<;>simp_all
  subst hb';have:=k2 rfl;rw[B5 h] at this;exact MA (.inl h) this
theorem sK{α:Type}{f:α->AV}{l:List α}{k:Nat}{u:AV}(d:α)(h:k<l.length):(l.map f).getD k u=f (l.getD k d):=by
 simp[List.getD,h]
theorem DY{c:Prop}[Decidable c]{x:Option AV}{r:AV}(hc:c)(h:x=some r):(if c then x else none)=some r:=by rw[if_pos hc];exact h
theorem Gl{k:IntKind}{n:Int}:AV.cells (.int k n)=[.int k n]:=rfl
end Go.Abs
namespace Go.Abs
open Go.RowKit
def Dat(x:AV):Prop:=∀H,Snap H x x
theorem Dat.int{k:IntKind}{n:Int}:Dat (.int k n):=λ_=>.int _ _
theorem Dat.bool{b:Bool}:Dat (.bool b):=λ_=>.bool _
theorem Dat.str{s:ByteArray}:Dat (.str s):=λ_=>.str _
theorem Dat.esl:Dat .esl:=λ_=>.esl
theorem Dat.nilp:Dat .nilp:=λ_=>.nilp
theorem Dat.nilf:Dat .nilf:=λ_=>.nilf
theorem Dat.sl{sz:Nat}{l:List AV}(h:∀x∈l,∀c∈x.cells,Dat c):Dat (.sl sz l):=λH=>
 .sl sz l l rfl (fun i x y hx hy=>by rw [hx] at hy; cases hy; rfl) (fun i j x y a b hx hy ha hb=>by
  rw[hx] at hy;cases hy;rw[ha] at hb;cases hb;exact h x (ib hx) a (ib ha) H)
theorem Dat.agg{l:List AV}(h:∀x∈l,Dat x):Dat (.agg l):=λH=>
 .agg l l rfl (λi a c ha hc=>by rw[ha] at hc;cases hc;exact h a (ib ha) H)
theorem Dat.tup{l:List AV}(h:∀x∈l,Dat x):Dat (.tup l):=λH=>
 .tup l l rfl (λi a c ha hc=>by rw[ha] at hc;cases hc;exact h a (ib ha) H)
theorem Dat.func{f:FuncId}{l:List AV}(h:∀x∈l,Dat x):Dat (.func f l):=λH=>
 .func f l l rfl (λi a c ha hc=>by rw[ha] at hc;cases hc;exact h a (ib ha) H)
def aH(l:List Int):AV:=.sl 1 (l.map (AV.int .i64))
def bU(l:List (List Int)):AV:=.sl 1 (l.map aH)
theorem dz (l:List Int):Dat (aH l):=Dat.sl (fun x hx c hc=>by
 obtain⟨n,_,rfl⟩:=bu.1 hx;simp only[AV.cells,bT] at hc;subst hc;exact .int)
theorem oG (l:List (List Int)):Dat (bU l):=Dat.sl (fun x hx c hc=>by
 obtain⟨n,_,rfl⟩:=bu.1 hx;simp only[aH,AV.cells,bT] at hc;subst hc;exact dz n)
theorem aj{H:Hp}:aO H [] []:=aO.nil
theorem aN{H:Hp}{x:AV}{xs ys:List AV}(h:Dat x)(hs:aO H xs ys):aO H (x::xs) (x::ys):=aO.cons (h H) hs
class DatI(x:AV):Prop where
 d:Dat x
instance datI_int{k:IntKind}{n:Int}:DatI (.int k n):=⟨.int⟩
instance datI_bool{b:Bool}:DatI (.bool b):=⟨.bool⟩
instance datI_str{s:ByteArray}:DatI (.str s):=⟨.str⟩
instance datI_esl:DatI .esl:=⟨.esl⟩
instance datI_nilf:DatI .nilf:=⟨.nilf⟩
instance datI_encV{l:List Int}:DatI (aH l):=⟨dz l⟩
instance datI_encVV{l:List (List Int)}:DatI (bU l):=⟨oG l⟩
theorem bk{H:Hp}{x:AV}{xs ys:List AV}[h:DatI x](hs:aO H xs ys):aO H (x::xs) (x::ys):=aN h.d hs
variable{P:Program}{T:Tm}{H:Hp}{nx:Nat}
theorem ey{dm:DM}{K:SP}{l:List Op2}{d:Option Nat}{f:Opd}{args:List Opd}{g:FuncId}{caps xs ys:List AV}{r:AV}(hf:ov T f=.func g caps)(ha:args.map (ov T)++caps=xs)
    (hp:Pure P g ys r) (hs:aq H xs ys r) (k:am P dm l (aP T d r) H nx K):am P dm (⟨d,none,.call f args⟩::l) T H nx K:=by
 subst ha;cases hd:dm.isText with
 |false=>exact Ei hd hf (aY.of_pure hp hs k)
 |true=>
  cases dm with
  |text=>exact C6 hf (Fn.of_pure hp hs k)
  |draw=>cases hd
  |fresh m=>cases hd
theorem gy{dm:DM}{K:SP}{l:List Op2}{d:Option Nat}{f:Opd}{args:List Opd}{g:FuncId}{caps xs ys:List AV}{r:AV}(hf:ov T f=.func g caps)(ha:args.map (ov T)++caps=xs)
    (hp:PureF P g ys r) (hs:aO H xs ys) (k:am P dm l (aP T d r) H nx K):am P dm (⟨d,none,.call f args⟩::l) T H nx K:=by
 subst ha;have hc:=hp.callOk hs;cases hd:dm.isText with
 |false=>exact Ei hd hf (aY.of_callOk hc k)
 |true=>
  cases dm with
  |text=>exact C6 hf (Fn.of_callOk hc k)
  |draw=>cases hd
  |fresh m=>cases hd
theorem El{dm:DM}{K:SP}{l:List Op2}{d:Option Nat}{f:Opd}{args:List Opd}{g:FuncId}{caps xs:List AV}{r:AV}(hf:ov T f=.func g caps)(ha:args.map (ov T)++caps=xs)
    (hp:Pure P g xs r) (hs:aq H xs xs r) (k:am P dm l (aP T d r) H nx K):am P dm (⟨d,none,.call f args⟩::l) T H nx K:=ey hf ha hp hs k
theorem aL{xs ys:List AV}{r:AV}{H:Hp}(h:aO b9 xs ys):aq H xs ys r:=.inl h
theorem aB{xs ys:List AV}{r:AV}{H:Hp}(h:aO H xs ys)(hr:r.sca=true):aq H xs ys r:=.inr ⟨h,hr⟩
theorem uq{α:Type}[Inhabited α]{f:α->AV}{l:List α}{sz:Nat}{k:IntKind}{n:Int}:eP sz (.sl sz (l.map f)) (.int k n)=if 0<=n/\n<l.length then some (.iptr (f (l.getD n.toNat default)).cells 0) else none:=by
 simp only[eP,true_and,bt];split
 ·rename_i h;rw[sK default (by omega)]
 ·rfl
theorem rS{α:Type}{f:α->AV}{l:List α}{sz:Nat}:dH (.sl sz (l.map f))=some (.int .i64 l.length):=by simp[dH]
theorem oH{l:List Int}{k:IntKind}{n:Int}:eP 1 (aH l) (.int k n)=if 0<=n/\n<l.length then some (.iptr [.int .i64 (l.getD n.toNat default)] 0) else none:=uq
theorem pR{l:List (List Int)}{k:IntKind}{n:Int}:eP 1 (bU l) (.int k n)=if 0<=n/\n<l.length then some (.iptr [aH (l.getD n.toNat default)] 0) else none:=uq
theorem v8{l:List Int}:dH (aH l)=some (.int .i64 l.length):=rS
theorem sE{l:List (List Int)}:dH (bU l)=some (.int .i64 l.length):=rS
end Go.Abs
namespace Go.Abs
theorem SA:(∀(T:Tm)(n:Nat),ov T (.t n)=T n)/\(∀(T:Tm)(v:AV),ov T (.c v)=v)/\(∀(T:Tm)(d t:Nat)(v:AV),upd T d v t=if t=d then v else T t)/\(∀(T:Tm)(d:Nat)(v:AV),aP T (some d) v=upd T d v)/\
    (∀(T:Tm)(v:AV),aP T none v=T)/\(∀(x:AV)(l:List AV),T0 (x::l) 0=x)/\(∀(x:AV)(l:List AV)(n:Nat),T0 (x::l) (n+1)=T0 l n)/\(∀n:Nat,T0 [] n=.undef)/\
    (∀(d t:Nat)(v:AV)(l:List (Nat×AV)),tl ((d,v)::l) t=if t=d then v else tl l t)/\(∀t:Nat,tl [] t=.undef)/\
    (∀(T:Tm)(t:Nat)(ts:List Nat)(x:AV)(xs:List AV),mf T (t::ts) (x::xs)=mf (upd T t x) ts xs)/\(∀(T:Tm)(xs:List AV),mf T [] xs=T):=
 ⟨λ_ _=>rfl,λ_ _=>rfl,λ_ _ _ _=>rfl,λ_ _ _=>rfl,λ_ _=>rfl,λ_ _=>rfl,λ_ _ _=>rfl,λ_=>rfl,λ_ _ _ _=>rfl,λ_=>rfl,λ_ _ _ _ _=>rfl,λ_ xs=>by cases xs<;>rfl⟩
theorem SV:(∀(T:Tm)(H:Hp)(x:Opd),cw T H (.mov x)=some (ov T x))/\
    (∀(T:Tm)(H:Hp)(c a b:Opd),cw T H (.pick c a b)=match ov T c with|.bool t=>some (if t=true then ov T a else ov T b)|_=>none)/\
    (∀(T:Tm)(H:Hp)(a:Opd),cw T H (.ld1 a)=rd1 H (ov T a))/\(∀(T:Tm)(H:Hp)(k:Nat)(a:Opd),cw T H (.ldn k a)=(rd H k (ov T a)).map .agg)/\
    (∀(T:Tm)(H:Hp)(op:BinOp)(tb tf:Bool)(x y:Opd),cw T H (.bin op tb tf x y)=bE op tb tf (ov T x) (ov T y))/\
    (∀(T:Tm)(H:Hp)(op:UnOp)(x:Opd),cw T H (.un op x)=aun op (ov T x))/\
    (∀(T:Tm)(H:Hp)(f:FuncId)(caps:List Opd),cw T H (.mkfn f caps)=some (.func f (caps.map (ov T))))/\
    (∀(T:Tm)(H:Hp)(k:Nat)(p:Opd),cw T H (.fa k p)=m9 k (ov T p))/\
    (∀(T:Tm)(H:Hp)(sz:Nat)(x i:Opd),cw T H (.ixaS sz x i)=eP sz (ov T x) (ov T i))/\
    (∀(T:Tm)(H:Hp)(x:Opd)(i:Nat),cw T H (.ext x i)=jz (ov T x) i)/\
    (∀(T:Tm)(H:Hp)(x:Opd),cw T H (.lenS x)=dH (ov T x))/\
    (∀(T:Tm)(H:Hp)(z:List AV)(parts:List (Nat×Nat×Opd)),cw T H (.bld z parts)=(eU z (parts.map λp=>(p.1,p.2.1,ov T p.2.2))).map .agg)/\
    (∀(T:Tm)(H:Hp)(x:Opd)(l:List Opd),cw T H (.mx x l)=jm qK (ov T x) (l.map (ov T)))/\
    (∀(T:Tm)(H:Hp)(x:Opd)(l:List Opd),cw T H (.mn x l)=jm qH (ov T x) (l.map (ov T)))/\
    (∀(T:Tm)(H:Hp)(k:IntKind)(x:Opd),cw T H (.conv k x)=wH (ov T x) λn=>some (.int k (k.wrap n)))/\
    (∀(T:Tm)(H:Hp)(sz:Nat)(x:Opd)(lo hi mx:Option Opd),cw T H (.sls sz x lo hi mx)=jC sz (ov T x) (lo.map (ov T)) (hi.map (ov T)) (mx.map (ov T)))/\
    (∀(T:Tm)(H:Hp)(off:Nat)(x:Opd),cw T H (.part1 off x)=iV (ov T x) λcs=>cs[off]?)/\
    (∀(T:Tm)(H:Hp)(op:BinOp)(ks:List TK)(x y:Opd),cw T H (.binS op ks x y)=iV (ov T x) λxs=>iV (ov T y) λys=>pi op ks xs ys):=
 ⟨fun _ _ _=>rfl,fun _ _ _ _ _=>rfl,fun _ _ _=>rfl,fun _ _ _ _=>rfl,fun _ _ _ _ _ _ _=>rfl,fun _ _ _ _=>rfl,fun _ _ _ _=>rfl,fun _ _ _ _=>rfl,fun _ _ _ _ _=>rfl,fun _ _ _ _=>rfl,fun _ _ _=>rfl,
  λ_ _ _ _=>rfl,λ_ _ _ _=>rfl,λ_ _ _ _=>rfl,λ_ _ _ _=>rfl,λ_ _ _ _ _ _ _=>rfl,λ_ _ _ _=>rfl,λ_ _ _ _ _ _=>rfl⟩
def pD:AV->AV->Option AV
 |.str s,.int _ n=>if 0<=n/\n<s.size then some (.int .u8 (s[n.toNat]?.getD 0).toNat) else none
 |_,_=>none
theorem SV2:(∀(T:Tm)(H:Hp)(x i:Opd),cw T H (.ixStr x i)=pD (ov T x) (ov T i))/\
    (∀(s:ByteArray)(k:IntKind)(n:Int),pD (.str s) (.int k n)=if 0<=n/\n<s.size then some (.int .u8 (s[n.toNat]?.getD 0).toNat) else none):=
 ⟨fun T H x i=>by
  simp only[cw];cases ov T x<;>cases ov T i<;>rfl,λ_ _ _=>rfl⟩
theorem SN:(∀(k:IntKind)(a b:Int)(tb tf:Bool),bE .lss tb tf (.int k a) (.int k b)=some (.bool (decide (a<b))))/\(∀(k:IntKind)(a b:Int)(tb tf:Bool),bE .leq tb tf (.int k a) (.int k b)=some (.bool (decide (a<=b))))/\
    (∀(k:IntKind)(a b:Int)(tb tf:Bool),bE .gtr tb tf (.int k a) (.int k b)=some (.bool (decide (b<a))))/\(∀(k:IntKind)(a b:Int)(tb tf:Bool),bE .geq tb tf (.int k a) (.int k b)=some (.bool (decide (b<=a))))/\
    (∀(k:IntKind)(a b:Int)(tb tf:Bool),bE .eql tb tf (.int k a) (.int k b)=some (.bool (decide (a=b))))/\(∀(k:IntKind)(a b:Int)(tb tf:Bool),bE .neq tb tf (.int k a) (.int k b)=some (.bool (decide (a≠b))))/\
    (∀(k:IntKind)(a b:Int)(tb tf:Bool),bE .add tb tf (.int k a) (.int k b)=some (.int k (k.wrap (a+b))))/\(∀(k:IntKind)(a b:Int)(tb tf:Bool),bE .sub tb tf (.int k a) (.int k b)=some (.int k (k.wrap (a-b))))/\
    (∀(k:IntKind)(a b:Int)(tb tf:Bool),bE .mul tb tf (.int k a) (.int k b)=some (.int k (k.wrap (a*b))))/\
    (∀(a b:Bool)(tf:Bool),bE .eql true tf (.bool a) (.bool b)=some (.bool (a==b)))/\(∀(a b:Bool)(tf:Bool),bE .neq true tf (.bool a) (.bool b)=some (.bool (!(a==b))))/\
    (∀tb:Bool,bE .eql tb true .nilf .nilf=some (.bool true))/\(∀tb:Bool,bE .neq tb true .nilf .nilf=some (.bool false))/\
    (∀(tb:Bool)(f:FuncId)(c:List AV),bE .eql tb true (.func f c) .nilf=some (.bool false))/\(∀(tb:Bool)(f:FuncId)(c:List AV),bE .neq tb true (.func f c) .nilf=some (.bool true))/\
    (∀b:Bool,aun .not (.bool b)=some (.bool (!b)))/\
    (∀(k:IntKind)(a b:Int),qK (.int k a) (.int k b)=some (.int k (max a b)))/\(∀(k:IntKind)(a b:Int),qH (.int k a) (.int k b)=some (.int k (min a b)))/\
    (∀(f:AV->AV->Option AV)(x:AV),jm f x []=some x)/\(∀(f:AV->AV->Option AV)(x y:AV)(l:List AV),jm f x (y::l)=match f x y with|some z=>jm f z l|none=>none)/\
    (∀(k:Nat)(b n off:Nat),m9 k (.ptr b n off)=some (.ptr b n (off+k)))/\(∀(k:Nat)(cs:List AV)(off:Nat),m9 k (.iptr cs off)=some (.iptr cs (off+k)))/\
    (∀(cs:List AV)(off:Nat),rd1 b9 (.iptr cs off)=cs[off]?):=
 ⟨fun _ _ _ _ _=>Kf,fun _ _ _ _ _=>Kb,fun _ _ _ _ _=>Jy,fun _ _ _ _ _=>Kh,fun _ _ _ _ _=>J4,fun _ _ _ _ _=>Jo,fun _ _ _ _ _=>J2,fun _ _ _ _ _=>Ka,fun _ _ _ _ _=>JD,
  λ_ _ _=>rfl,λ_ _ _=>rfl,λ_=>rfl,λ_=>rfl,λ_ _ _=>rfl,λ_ _ _=>rfl,λ_=>rfl,
  λk a b=>by simp only[qK,Int.max_def];split<;>split<;>simp <;>omega,λk a b=>by simp only[qH,Int.min_def];split<;>split<;>simp <;>omega,λ_ _=>rfl,λ_ _ _ _=>rfl,λ_ _ _ _=>rfl,λ_ _ _=>rfl,λ_ _=>rfl⟩
theorem SL:(∀(a:AV)(l:List AV),(a::l)[0]?=some a)/\(∀(a:AV)(l:List AV)(n:Nat),(a::l)[n+1]?=l[n]?)/\(∀(l:List AV),l.drop 0=l)/\(∀(a:AV)(l:List AV)(n:Nat),(a::l).drop (n+1)=l.drop n)/\(∀n:Nat,([]:List AV).drop n=[])/\
    (∀(l:List AV),l.take 0=[])/\(∀(a:AV)(l:List AV)(n:Nat),(a::l).take (n+1)=a::l.take n)/\(∀n:Nat,([]:List AV).take n=[])/\(∀(l:List AV),[]++l=l)/\(∀(l:List AV),l++[]=l)/\(∀(a:AV)(l m:List AV),(a::l)++m=a::(l++m))/\
    (∀(cs:List AV)(off:Nat)(new:List AV),bB cs off new=cs.take off++new++cs.drop (off+new.length))/\(([]:List AV).length=0)/\(∀(a:AV)(l:List AV),(a::l).length=l.length+1)/\
    (∀(k:IntKind)(n:Int),(AV.int k n).cells=[.int k n])/\(∀b:Bool,(AV.bool b).cells=[.bool b])/\(∀s:ByteArray,(AV.str s).cells=[.str s])/\(∀(k:Nat)(l:List AV),(AV.sl k l).cells=[.sl k l])/\(∀l:List AV,(AV.agg l).cells=l)/\(AV.esl.cells=[.esl])/\(AV.nilf.cells=[.nilf])/\
    (∀(f:FuncId)(c:List AV),(AV.func f c).cells=[.func f c])/\(∀(b n off:Nat),(AV.ptr b n off).cells=[.ptr b n off])/\(∀(c:List AV)(off:Nat),(AV.iptr c off).cells=[.iptr c off])/\(∀(b n sz off len:Nat),(AV.msl b n sz off len).cells=[.msl b n sz off len])/\(∀b:Nat,(AV.yld b).cells=[.yld b])/\(∀b:Nat,(AV.mp b).cells=[.mp b])/\(AV.nilp.cells=[.nilp])/\(∀(f:FuncId)(c:List AV),(AV.bfn f c).cells=[.bfn f c]):=
 ⟨fun _ _=>rfl,fun _ _ _=>rfl,fun _=>rfl,fun _ _ _=>rfl,fun n=>by cases n <;> rfl,fun _=>rfl,fun _ _ _=>rfl,fun n=>by cases n <;> rfl,fun _=>rfl,fun l=>gJ l,fun _ _ _=>rfl,fun _ _ _=>rfl,rfl,fun _ _=>rfl,
  λ_ _=>rfl,λ_=>rfl,λ_=>rfl,λ_ _=>rfl,λ_=>rfl,rfl,rfl,λ_ _=>rfl,λ_ _ _=>rfl,λ_ _=>rfl,λ_ _ _ _ _=>rfl,λ_=>rfl,λ_=>rfl,rfl,λ_ _=>rfl⟩
def AV.ones(l:List AV):Bool:=l.all AV.one
theorem SO:(AV.ones []=true)/\(∀(a:AV)(l:List AV),AV.ones (a::l)=(a.one&&AV.ones l))/\(∀(k:IntKind)(n:Int),(AV.int k n).one=true)/\(∀b:Bool,(AV.bool b).one=true)/\(∀s:ByteArray,(AV.str s).one=true)/\(∀(k:Nat)(l:List AV),(AV.sl k l).one=true)/\(AV.esl.one=true)/\(AV.nilf.one=true)/\
    (∀(f:FuncId)(c:List AV),(AV.func f c).one=true)/\(∀(b n off:Nat),(AV.ptr b n off).one=true)/\(∀(c:List AV)(off:Nat),(AV.iptr c off).one=true)/\(∀(b n sz off len:Nat),(AV.msl b n sz off len).one=true)/\(∀b:Nat,(AV.yld b).one=true)/\(∀b:Nat,(AV.mp b).one=true)/\(AV.nilp.one=true)/\(∀l:List AV,l.all AV.one=AV.ones l):=
 ⟨rfl,λ_ _=>by simp[AV.ones],λ_ _=>rfl,λ_=>rfl,λ_=>rfl,λ_ _=>rfl,rfl,rfl,λ_ _=>rfl,λ_ _ _=>rfl,λ_ _=>rfl,λ_ _ _ _ _=>rfl,λ_=>rfl,λ_=>rfl,rfl,λ_=>rfl⟩
variable{P:Program}{T:Tm}{H:Hp}{nx:Nat}
theorem ql{dm:DM}{K:SP}{l:List Op2}{d:Option Nat}{z:AV}{cs:List AV}(hd:dm2 dm T (.alloc z)=true)(hc:z.cells=cs)(ho:AV.ones cs=true)(k:am P dm l (aP T d (.ptr nx cs.length 0)) (ao H nx cs) (nx+1) K):am P dm (⟨d,none,.alloc z⟩::l) T H nx K:=by
 subst hc;refine pu rfl hd ?_ k;simp only[kI,wE];rw[if_pos (show z.flat=true from ho)]
theorem KI{dm:DM}{K:SP}{l:List Op2}{d:Option Nat}{x:Opd}{v:AV}{cs:List AV}(hd:dm2 dm T (.box x)=true)(hx:ov T x=v)(hc:v.cells=cs)(ho:AV.ones cs=true)(k:am P dm l (aP T d (.ptr nx cs.length 0)) (ao H nx cs) (nx+1) K):am P dm (⟨d,none,.box x⟩::l) T H nx K:=by
 subst hc hx;refine pu rfl hd ?_ k;simp only[kI,wE];rw[if_pos (show(ov T x).flat=true from ho)]
theorem L1{dm:DM}{K:SP}{l:List Op2}{d:Option Nat}{sz:Nat}{p x:Opd}{b n off:Nat}{v:AV}{cs vs:List AV}(hd:dm2 dm T (.st sz p x)=true)(hp:ov T p=.ptr b n off)(hx:ov T x=v)(hb:H b=some cs)(hc:v.cells=vs)(ho:AV.ones vs=true)(hn:cs.length=n)(hl:vs.length=sz)(hf:off+sz<=n)
    (k:am P dm l (aP T d (.tup [])) (ao H b (bB cs off vs)) nx K):am P dm (⟨d,none,.st sz p x⟩::l) T H nx K:=by
 subst hc hx;refine pu rfl hd ?_ k;simp only[kI,hp,hb];rw[if_pos ⟨hn,ho,hl,hf⟩]
theorem zR{dm:DM}{K:SP}{l:List Op2}{d:Option Nat}{sz bytes:Nat}{z:List AV}{x y:Opd}{k1 k2:IntKind}{n m:Int}(hd:dm2 dm T (.mks sz bytes z x y)=true)(hx:ov T x=.int k1 n)(hy:ov T y=.int k2 m)(h0:0<=n)(h1:n<=m)(h2:m<=9223372036854775807)(h3:bytes*m<=281474976710656)
    (k:am P dm l (aP T d (.msl nx (m.toNat*sz) sz 0 n.toNat)) (ao H nx (bv (.agg z) m.toNat)) (nx+1) K):am P dm (⟨d,none,.mks sz bytes z x y⟩::l) T H nx K:=by
 refine pu rfl hd ?_ k;simp only[kI,hx,hy];rw[if_pos ⟨h0,h1,h2,h3⟩]
theorem KC{dm:DM}{K:SP}{l:List Op2}{d:Option Nat}{sz len:Nat}{z:List AV}{parts:List (Nat×Nat×Opd)}{pv:List (Nat×Nat×AV)}{cs:List AV}(hd:dm2 dm T (.bldS sz len z parts)=true)(hl:len≠0)(hp:parts.map (λp=>(p.1,p.2.1,ov T p.2.2))=pv)(hc:eU (bv (.agg z) len) pv=some cs)
    (k:am P dm l (aP T d (.msl nx cs.length sz 0 len)) (ao H nx cs) (nx+1) K):am P dm (⟨d,none,.bldS sz len z parts⟩::l) T H nx K:=by
 refine pu rfl hd ?_ k;simp only[kI,hl,if_false,hp,hc]
theorem Hh{dm:DM}{K:SP}{l:List Op2}{d:Option Nat}{sz:Nat}{z:List AV}(hd:dm2 dm T (.bldS sz 0 z [])=true)(k:am P dm l (aP T d .esl) H nx K):am P dm (⟨d,none,.bldS sz 0 z []⟩::l) T H nx K:=by
 refine pu rfl hd ?_ k;simp[kI]
theorem jG{dm:DM}{K:SP}{l:List Op2}{d:Option Nat}{sz bytes n:Nat}{s x:Opd}{v:AV}{new:List AV}(hd:dm2 dm T (.app sz bytes s x)=true)(hs:ov T s=.esl)(hx:ov T x=v)(hsrc:gC sz H v=some (n,new))(ho:AV.ones new=true)(h1:n*bytes<=140737488355328)(h2:n<=9223372036854775807)
    (k:am P dm l (aP T d (.msl nx (n*sz) sz 0 n)) (ao H nx new) (nx+1) K):am P dm (⟨d,none,.app sz bytes s x⟩::l) T H nx K:=by
 subst hx;refine pu rfl hd ?_ k;simp only[kI,J7,hs,hsrc];rw[if_pos (show new.all AV.one=true from ho),if_pos ⟨h1,h2⟩]
theorem BJ{dm:DM}{K:SP}{l:List Op2}{d:Option Nat}{sz bytes n:Nat}{s x:Opd}{v:AV}{new cs:List AV}{b m len:Nat}(hd:dm2 dm T (.app sz bytes s x)=true)(hs:ov T s=.msl b m sz 0 len)(hb:H b=some cs)(hx:ov T x=v)(hsrc:gC sz H v=some (n,new))(ho:AV.ones new=true)(hm:cs.length=m)(hl:m=len*sz)
    (h1:(len+n)*bytes<=140737488355328) (h2:len+n<=9223372036854775807)
    (k:am P dm l (aP T d (.msl b ((len+n)*sz) sz 0 (len+n))) (ao H b (cs++new)) nx K):am P dm (⟨d,none,.app sz bytes s x⟩::l) T H nx K:=by
 subst hx;refine pu rfl hd ?_ k;simp only[kI,J7,hs,hsrc,hb];rw[if_pos (show new.all AV.one=true from ho),if_pos ⟨hm,trivial⟩,if_pos ⟨trivial,hl,h1,h2⟩]
theorem y7{dm:DM}{K:SP}{l:List Op2}{d:Option Nat}{sz bytes n:Nat}{s x:Opd}{v:AV}{new cs:List AV}{b m off len:Nat}(hd:dm2 dm T (.app sz bytes s x)=true)(hs:ov T s=.msl b m sz off len)(hb:H b=some cs)(hx:ov T x=v)(hsrc:gC sz H v=some (n,new))(ho:AV.ones new=true)(hm:cs.length=m)(hl:off=0->m≠len*sz)(h0:0<m)(h1:off+(len+n)*sz<=m)
    (k:am P dm l (aP T d (.msl b m sz off (len+n))) (ao H b (bB cs (off+len*sz) new)) nx K):am P dm (⟨d,none,.app sz bytes s x⟩::l) T H nx K:=by
 subst hx;refine pu rfl hd ?_ k;simp only[kI,J7,hs,hsrc,hb];rw[if_pos (show new.all AV.one=true from ho),if_pos ⟨hm,trivial⟩,if_neg (λh=>hl h.1 h.2.1),if_pos ⟨h1,h0⟩]
theorem kL{sz:Nat}{l:List AV}:gC sz H (.sl sz l)=some (l.length,l.flatMap AV.cells):=by simp[gC]
theorem qp{sz:Nat}:gC sz H .esl=some (0,[]):=rfl
theorem gK{sz b n off len:Nat}{cs:List AV}(h:H b=some cs)(hn:cs.length=n)(hf:off+len*sz<=n):gC sz H (.msl b n sz off len)=some (len,(cs.drop off).take (len*sz)):=by
 simp only[gC];split
 ·rename_i h0;subst h0;simp
 ·simp only[h,hn,true_and,hf,if_true]
theorem SR:(∀(H:Hp)(b n off:Nat),rd1 H (.ptr b n off)=match H b with|some cs=>if cs.length=n then cs[off]? else none|none=>none)/\
    (∀(H:Hp)(k b n off:Nat),rd H k (.ptr b n off)=match H b with|some cs=>if cs.length=n/\off+k<=n then some ((cs.drop off).take k) else none|none=>none)/\
    (∀(H:Hp)(cs:List AV)(off:Nat),rd1 H (.iptr cs off)=cs[off]?)/\(∀(H:Hp)(cs:List AV)(off k:Nat),rd H k (.iptr cs off)=if off+k<=cs.length then some ((cs.drop off).take k) else none)/\
    (∀(l:List AV)(i:Nat),jz (.tup l) i=l[i]?)/\(∀(l:List AV)(f:List AV->Option AV),iV (.agg l) f=f l)/\(∀(k:IntKind)(n:Int)(f:Int->Option AV),wH (.int k n) f=f n)/\
    (∀(cs:List AV),eU cs []=some cs)/\
    (∀(cs:List AV)(off sz:Nat)(x:AV)(r:List (Nat×Nat×AV)),eU cs ((off,sz,x)::r)=if AV.ones x.cells=true/\x.cells.length=sz/\off+sz<=cs.length then eU (bB cs off x.cells) r else none)/\
    (∀(b n sz off len:Nat),dH (.msl b n sz off len)=some (.int .i64 len))/\(dH .esl=some (.int .i64 0))/\(∀(sz:Nat)(l:List AV),dH (.sl sz l)=some (.int .i64 l.length))/\
    (∀(z:AV),bv z 0=[])/\(∀(z:AV)(n:Nat),bv z (n+1)=z.cells++bv z n):=
 ⟨λ_ _ _ _=>rfl,λ_ _ _ _ _=>rfl,λ_ _ _=>rfl,λ_ _ _ _=>rfl,λl i=>by cases l<;>rfl,λ_ _=>rfl,λ_ _ _=>rfl,λ_=>rfl,λ_ _ _ _ _=>rfl,λ_ _ _ _ _=>rfl,rfl,λ_ _=>rfl,λ_=>rfl,λz n=>by simp[bv,List.replicate_succ]⟩
end Go.Abs
namespace Go.Abs
theorem cQ{H:Hp}{a b:Bool}(h:a=b):Snap H (.bool a) (.bool b):=by subst h;exact .bool _
theorem eV{H:Hp}{k:IntKind}{a b:Int}(h:a=b):Snap H (.int k a) (.int k b):=by subst h;exact .int _ _
theorem bS{H:Hp}{l m:List AV}(h:aO H l m):Snap H (.tup l) (.tup m):=.tup l m h.1 h.2
theorem mb{H:Hp}{l m:List AV}(h:aO H l m):Snap H (.agg l) (.agg m):=.agg l m h.1 h.2
theorem ag{H:Hp}{x y:AV}{xs ys:List AV}(h:Snap H x y)(hs:aO H xs ys):aO H (x::xs) (y::ys):=aO.cons h hs
theorem Dat.snap{H:Hp}{x:AV}(h:Dat x):Snap H x x:=h H
theorem ca{P:Program}{b:C2}{T:Tm}{H:Hp}{nx:Nat}{K:CP}{X:Type}(L:X->List (Nat×AV))(I:X->Hp->Nat->Prop)(μ:X->Nat)(x0:X)(h0:I x0 H nx)(hT:agr T (L x0))
    (step:∀x H nx,I x H nx->aM P b (tl (L x)) H nx λe T H' nx'=>aS e (∃y,μ y<μ x/\I y H' nx'/\agr T (L y)) (K e T H' nx')):aZ (aM P b) T H nx K:=by
 refine Hg (X:=X×Hp×Nat) (λx=>tl (L x.1)) (λx=>x.2.1) (λx=>x.2.2) (λx=>I x.1 x.2.1 x.2.2) (λx=>μ x.1) ⟨(x0,H,nx),h0,_,Gh.weak (vB hT)⟩ (λx hx=>eC b (step x.1 x.2.1 x.2.2 hx) (λe T H' nx' h=>?_));cases e with
 |normal=>
  obtain⟨y,h1,h2,h3⟩:=h;exact⟨(y,H',nx'),h2,h1,_,Gh.weak (vB h3)⟩
 |exit i=>exact h
 |ret=>exact h
def mP(Hf:Hp)(cs cs':List AV):Prop:=cs'.length=cs.length/\∀(i:Nat)(x x':AV),cs[i]?=some x->cs'[i]?=some x'->x'=x\/Snap Hf x x'
theorem mP.refl(Hf:Hp)(cs:List AV):mP Hf cs cs:=⟨rfl,λi x x' h1 h2=>.inl (by rw[h1] at h2;cases h2;rfl)⟩
theorem mP.snoc{Hf:Hp}{cs:List AV}{x x':AV}(h:Snap Hf x x'):mP Hf (cs++[x]) (cs++[x']):=by
 refine⟨by simp,λi y y' h1 h2=>?_⟩;by_cases hi:i<cs.length
 ·rw[iI hi] at h1 h2;rw[h1] at h2;cases h2;exact .inl rfl
 ·rw[jH (by omega)] at h1 h2;cases hj:i-cs.length with
  |zero=>rw[hj] at h1 h2;simp at h1 h2;subst h1 h2;exact .inr h
  |succ j=>rw[hj] at h1;simp at h1
structure Fz(Hf H H':Hp):Prop where
 sub:∀b cs,Hf b=some cs->H b=some cs
 to:∀b cs',H' b=some cs'->∃cs,H b=some cs/\Hf b=none/\mP Hf cs cs'
def Cm(Hf:Hp)(T:Tm):List (Nat×AV)->Prop
 |[]=>True
 |(d,v)::l=>(T d=v\/Snap Hf (T d) v)/\Cm Hf T l
theorem D0{Hf:Hp}{T:Tm}:∀{l:List (Nat×AV)},Cm Hf T l->∀t,tl l t=.undef\/tl l t=T t\/Snap Hf (T t) (tl l t)
 |[],_,t=>.inl rfl
 |(d,v)::l,h,t=>by
  simp only[tl];split
  ·rename_i e;subst e;rcases h.1 with h1|h1
   ·exact .inr (.inl h1.symm)
   ·exact .inr (.inr h1)
  ·exact D0 h.2 t
theorem Fz.gh{Hf H H':Hp}{T:Tm}{l:List (Nat×AV)}{nx:Nat}(h:Fz Hf H H')(ha:Cm Hf T l):Gh T H nx (tl l) H' nx Hf:=
 ⟨h.sub,aJ _,fun b cs' hb=>by
  obtain⟨cs,h1,h2,h3,h4⟩:=h.to b cs' hb;exact .inl ⟨cs,h1,h2,h3,λi x x' hx hx'=>(h4 i x x' hx hx').imp id .inl⟩,λt=>by
  rcases D0 ha t with h1|h1|h1
  ·exact .inl h1
  ·exact .inr (.inl h1)
  ·exact .inr (.inr (.inl h1))⟩
def only(b:Nat)(cs:List AV):Hp:=λx=>if x=b then some cs else none
theorem jl{b:Nat}{cs:List AV}:only b cs b=some cs:=by simp[only]
theorem o9{P:Program}{T:Tm}{H:Hp}{nx:Nat}{K:CP}{l:List Op2}(Hf H':Hp)(L:List (Nat×AV))(hf:Fz Hf H H')(ha:Cm Hf T L)(h:am P .text l (tl L) H' nx λT H nx=>K .normal T H nx):aM P (.ops 0 l) T H nx K:=⟨_,H',nx,Hf,hf.gh ha,h⟩
theorem Fz.one{H:Hp}{b:Nat}{cs:List AV}(hb:H b=some cs):Fz (only b cs) H (c9 H b):=
 ⟨fun x c h=>by unfold only at h; split at h <;> cases h; subst_vars; exact hb,fun x c h=>by
  have:=rR h;exact⟨c,this.2,by simp[only,this.1],mP.refl _ _⟩⟩
theorem Fz.all{H:Hp}:Fz H H b9:=⟨λ_ _ h=>h,λ_ _ h=>(by cases h)⟩
theorem Dp{T:Tm}{Hf:Hp}:∀{l:List (Nat×AV)},agr T l->Cm Hf T l
 |[],_=>trivial
 |(_,_)::_,h=>⟨.inl h.1,Dp h.2⟩
theorem OY{P:Program}{b:C2}{T:Tm}{H:Hp}{nx:Nat}{K:CP}{X:Type}(L:X->List (Nat×AV))(I:X->Hp->Nat->Prop)(μ:X->Nat)(x0:X)(h0:∃Hf H',Fz Hf H H'/\I x0 H' nx/\Cm Hf T (L x0))
    (step:∀x H nx,I x H nx->aM P b (tl (L x)) H nx λe T H' nx'=>aS e (∃y,μ y<μ x/\∃Hf H'',Fz Hf H' H''/\I y H'' nx'/\Cm Hf T (L y)) (K e T H' nx')):aZ (aM P b) T H nx K:=by
 obtain⟨Hf,H0,hf,hI,ha⟩:=h0;refine Hg (X:=X×Hp×Nat) (λx=>tl (L x.1)) (λx=>x.2.1) (λx=>x.2.2) (λx=>I x.1 x.2.1 x.2.2) (λx=>μ x.1) ⟨(x0,H0,nx),hI,_,hf.gh ha⟩ (λx hx=>eC b (step x.1 x.2.1 x.2.2 hx) (λe T H' nx' h=>?_));cases e with
 |normal=>
  obtain⟨y,h1,Hf,H'',h2,h3,h4⟩:=h;exact⟨(y,H'',nx'),h3,h1,_,h2.gh h4⟩
 |exit i=>exact h
 |ret=>exact h
theorem Fz.none{H:Hp}:Fz b9 H H:=⟨λ_ _ h=>(by cases h),λb cs h=>⟨cs,h,rfl,mP.refl _ _⟩⟩
theorem oV{α:Type}[DecidableEq α](k:MK)(enc:α->AV)(h:∀a b,qJ k (enc a) (enc b)=some (decide (a=b)))(v:α):∀ks:List α,dK k (enc v) (ks.map enc)=some (if v∈ks then some (ks.idxOf v) else none)
 |[]=>rfl
 |x::l=>by
  simp only[ff,dK,h];by_cases e:v=x
  ·subst e;simp
  ·have e':x≠v:=λh=>e h.symm;simp only[e,decide_false,oV k enc h v l,lq,cU,false_or];by_cases hm:v∈l
   ·simp only[hm,if_true,lq];simp[List.idxOf_cons,beq_eq_false_iff_ne.2 e']
   ·simp[hm]
theorem rP{α:Type}{l:List α}{n k:Nat}{d:α}(h:k<n):(l.take n).getD k d=l.getD k d:=by
 simp only[List.getD,iQ,if_pos h]
theorem Dh{α:Type}[Inhabited α]{l:List α}{k:Nat}(h:k<l.length):l.take (k+1)=l.take k++[l.getD k default]:=by
 rw[List.take_add_one];simp[List.getD,h]
theorem kf{α:Type}[Inhabited α]{l:List α}{k:Nat}(h:k<l.length):l.drop k=l.getD k default::l.drop (k+1):=by
 rw[List.drop_eq_getElem_cons h];simp[List.getD,h]
theorem ae{H:Hp}{b:Nat}{cs:List AV}:ao H b cs b=some cs:=if_pos rfl
theorem xI{H:Hp}{f:FuncId}{l m:List AV}(h:aO H l m):Snap H (.func f l) (.func f m):=.func f l m h.1 h.2
theorem AH{H:Hp}{b n off:Nat}{cs cs':List AV}(hb:H b=some cs)(hn:cs.length=n)(h:aO H cs cs'):Snap H (.ptr b n off) (.iptr cs' off):=.ptr b n off cs cs' hb hn (by rw[h.1,hn]) h.2
theorem Dat.iptr{cs:List AV}{off:Nat}(h:∀x∈cs,Dat x):Dat (.iptr cs off):=λH=>.iptr cs cs off rfl (λi a c ha hc=>by rw[ha] at hc;cases hc;exact h a (ib ha) H)
theorem DatL.nil:∀x∈([]:List AV),Dat x:=by simp
theorem DatL.cons{x:AV}{l:List AV}(h:Dat x)(hl:∀y∈l,Dat y):∀y∈x::l,Dat y:=λy hy=>(cU.1 hy).elim (λe=>e▸h) (hl y)
theorem jr{H:Hp}{b n off len:Nat}{cs:List AV}{l:List AV}(hb:H b=some cs)(hn:cs.length=n)(hf:off+len<=n)(hl:l.length=len)(hc:∀y∈l,y.cells=[y])(h:∀(i:Nat)(a c:AV),cs[off+i]?=some a->l[i]?=some c->Snap H a c):Snap H (.msl b n 1 off len) (.sl 1 l):=by
 refine .msl b n 1 off len cs l hb hn (by omega) hl (λy hy=>by rw[hc y hy];rfl) (λi j y a c hy hc' ha=>?_);rw[hc y (ib hy)] at hc';cases j with
 |zero=>simp at hc';subst hc';exact h i a y (by simpa using ha) hy
 |succ j=>simp at hc'
theorem eN{H:Hp}{b n len:Nat}{l:List Int}(hb:H b=some (l.map (AV.int .i64)))(hn:n=len)(hl:l.length=len):Snap H (.msl b n 1 0 len) (aH l):=by
 subst hn;refine jr hb (by simp[hl]) (by omega) (by simp[hl]) (λy hy=>by simp at hy;obtain⟨n,_,rfl⟩:=hy;rfl) (λi a c ha hc=>?_);rw[cE] at ha;rw[ha] at hc;cases hc;simp at ha;obtain⟨n,_,rfl⟩:=ha;exact .int _ _
theorem bq{H:Hp}:∀{l:List AV},(∀x∈l,Dat x)->aO H l l
 |[],_=>aO.nil
 |x::l,h=>aO.cons (h x (by simp) H) (bq (λy hy=>h y (by simp[hy])))
theorem bg{α:Type}[Inhabited α]{l:List α}{k:Nat}(h:k<l.length):l.getD k default∈l:=by
 have:l.getD k default=l[k]:=by simp[List.getD,h]
 rw[this];exact pe h
theorem iq{H:Hp}{l:List Int}:gC 1 H (aH l)=some (l.length,l.map (AV.int .i64)):=by
 unfold aH;rw[kL]
 congr 2
 ·simp
 ·induction l with
  |nil=>rfl
  |cons a l ih=>simp only[ff,sZ,ih];rfl
theorem jw{l:List Int}:AV.ones (l.map (AV.int .i64))=true:=by
 simp[AV.ones,AV.one]
theorem oC{l:List (List Int)}:AV.ones (l.map aH)=true:=by
 simp[AV.ones,aH,AV.one]
theorem kr{H:Hp}{l:List (List Int)}:gC 1 H (bU l)=some (l.length,l.map aH):=by
 unfold bU;rw[kL]
 congr 2
 ·simp
 ·induction l with
  |nil=>rfl
  |cons a l ih=>simp only[ff,sZ,ih];rfl
theorem CI{l:List Int}:eT (aH l)=some l.length:=by simp[eT,aH]
theorem Aq{l:List (List Int)}:eT (bU l)=some l.length:=by simp[eT,bU]
theorem fA{l:List Int}:(aH l).one=true:=rfl
theorem eF{l:List (List Int)}:(bU l).one=true:=rfl
theorem E8{H:Hp}{b n len:Nat}{l:List AV}(hb:H b=some l)(hn:n=len)(hl:l.length=len)(hc:∀y∈l,y.cells=[y]/\Dat y):Snap H (.msl b n 1 0 len) (.sl 1 l):=by
 subst hn;refine jr hb hl (by omega) hl (λy hy=>(hc y hy).1) (λi a c ha hc'=>?_);rw[cE] at ha;rw[ha] at hc';cases hc';exact(hc a (ib ha)).2 H
theorem r_0{T:Tm}{H:Hp}{K:AV->Prop}(h:K (.tup [])):bw T H K []:=h
theorem getElem?_map_lt{α:Type}[Inhabited α]{f:α->AV}{l:List α}{k:Nat}(h:k<l.length):(l.map f)[k]?=some (f (l.getD k default)):=by
 simp[List.getD,h]
theorem IK{sz b m off len:Nat}{k:IntKind}{n:Int}:eP sz (.msl b m sz off len) (.int k n)=if 0<=n/\n<len then some (.ptr b m (off+n.toNat*sz)) else none:=by simp[eP]
theorem oZ{P:Program}{T:Tm}{H:Hp}{nx:Nat}{K:CP}{g:Opd}{ps:List Nat}{a b:C2}{f:FuncId}{caps:List AV}(y y1:Nat)(hy:nx=y)(hy1:y+1=y1)(hg:ov T g=.func f caps)
    (h:∀ (c0:AV) (cj:AEx→AV),(∀ (args:List AV) (H':Hp) (nx':Nat) (K':AV→Hp→Nat→Prop),H' y=some [c0]→args.length=ps.length →
        aM P a (mf T ps args) H' nx' (λe T2 H2 nx2=>aS e (H2 y=some [c0]/\aM P b T2 (c9 H2 y) nx2 λe T3 H3 nx3=>aS e (K' (.bool true) (ao H3 y [c0]) nx3) (K' (.bool false) (ao H3 y [cj e]) nx3)) False)->
        Yl P y args H' nx' K')->
     Fn P f (.yld y::caps) (ao H y [c0]) y1 λ_ H' nx'=>(H' y=some [c0]/\K .normal T (c9 H' y) nx')\/ ∃e,e≠.normal/\H' y=some [cj e]/\K e T (c9 H' y) nx'):aM P (.rangeF g ps a b) T H nx K:=by
 subst hy hy1;exact I5 hg h
theorem x6{H:Hp}{b n len:Nat}{l:List Int}(hb:H b=some (l.map (AV.int .i64)))(hn:n=len)(hl:l.length=len):SnapF H (.msl b n 1 0 len) (aH l):=by
 subst hn;refine .msl b n 1 0 n _ _ hb (by simp[hl]) (by omega) (by simp[hl]) (λy hy=>by simp at hy;obtain⟨n,_,rfl⟩:=hy;rfl) (λi j y a c hy hc ha=>?_);rw[lf] at hy;cases hi:l[i]? with
 |none=>rw[hi] at hy;cases hy
 |some q=>
  rw[hi] at hy;cases hy;cases j with
  |zero=>
   simp only[AV.cells,vU,wq] at hc;subst hc;simp[hi] at ha;subst ha;exact .int _ _
  |succ j=>simp[AV.cells] at hc
theorem Fg{H:Hp}{l:List Int}(h:l.length=0):SnapF H .esl (aH l):=by
 have:l=[]:=fj.1 h;subst this;exact .eslsl 1
end Go.Abs
namespace Go.Abs
inductive Row(H:Hp)(sz:Nat):AV->List AV->Prop
 |nil:Row H sz .esl []
 |box (b len:Nat) (cs:List AV) (hb:H b=some cs) (hl:cs.length=len*sz):Row H sz (.msl b (len*sz) sz 0 len) cs
def cf:AV->Option Nat
 |.msl b _ _ _ _=>some b
 |_=>none
theorem Row.len{H:Hp}{sz:Nat}{s:AV}{cs:List AV}(h:Row H sz s cs):∃n:Nat,dH s=some (.int .i64 n)/\cs.length=n*sz:=by
 cases h with
 |nil=>exact⟨0,rfl,by simp⟩
 |box b len cs hb hl=>exact⟨len,rfl,hl⟩
theorem Row.lenS{H:Hp}{sz n:Nat}{s:AV}{cs:List AV}(h:Row H sz s cs)(hl:cs.length=n*sz)(hz:0<sz):dH s=some (.int .i64 n):=by
 obtain⟨m,h1,h2⟩:=h.len;have:m=n:=Nat.eq_of_mul_eq_mul_right hz (by omega);subst this;exact h1
theorem Row.same{H H':Hp}{sz:Nat}{s:AV}{cs:List AV}(h:Row H sz s cs)(hs:∀b,cf s=some b->H' b=H b):Row H' sz s cs:=by
 cases h with
 |nil=>exact .nil
 |box b len cs hb hl=>exact .box b len cs ((hs b rfl).trans hb) hl
theorem Row.one{H:Hp}{sz:Nat}{s:AV}{cs:List AV}(h:Row H sz s cs):s.one=true/\s.cells=[s]:=by
 cases h<;>exact⟨rfl,rfl⟩
theorem ab{H:Hp}{b x:Nat}{cs:List AV}(h:x≠b):ao H b cs x=H x:=if_neg h
theorem cK{H:Hp}{b x:Nat}(h:x≠b):c9 H b x=H x:=if_neg h
variable{P:Program}{T:Tm}{H:Hp}{nx:Nat}
theorem mY{dm:DM}{K:SP}{l:List Op2}{d:Option Nat}{sz bytes k:Nat}{s x:Opd}{sv xv:AV}{cs new:List AV}(hd:dm2 dm T (.app sz bytes s x)=true)(hs:ov T s=sv)(hrow:Row H sz sv cs)(hx:ov T x=xv)(hsrc:gC sz H xv=some (k,new))(ho:AV.ones new=true)(hk:new.length=k*sz)
    (hz:0<sz) (h1:(cs.length+k)*bytes<=140737488355328) (h2:cs.length+k<=9223372036854775807)
    (next:∀(sv':AV)(H':Hp)(nx':Nat),Row H' sz sv' (cs++new)->nx<=nx'->nx'<=nx+1->(∀i,i<nx->cf sv≠some i->H' i=H i)->(∀b,cf sv'=some b->cf sv=some b\/b=nx/\nx'=nx+1)->am P dm l (aP T d sv') H' nx' K):
    am P dm (⟨d,none,.app sz bytes s x⟩::l) T H nx K:=by
 cases hrow with
 |nil=>
  refine jG hd hs hx hsrc ho (by simpa using h1) (by simpa using h2) ?_;exact next _ _ _ (.box nx k new ae hk) (Nat.le_succ _) (aJ _) (λi hi _=>ab (by omega)) (λb hb=>by cases hb;exact .inr ⟨rfl,rfl⟩)
 |box b len cs hb hl=>
  have hle:len<=cs.length:=by rw[hl];exact Nat.le_mul_of_pos_right _ hz
  have hb1:(len+k)*bytes<=140737488355328:=fp (mO _ (by omega)) h1;refine BJ hd hs hb hx hsrc ho hl rfl hb1 (by omega) ?_;exact next _ _ _ (.box b (len+k) (cs++new) ae (by rw[cA,hl,hk,gd])) (aJ _) (Nat.le_succ _) (λi hi hne=>ab (λe=>hne (by rw[e];rfl))) (λb' hb'=>by cases hb';exact .inl rfl)
theorem Row.snap{H:Hp}{sz:Nat}{s:AV}{elems:List AV}(h:Row H sz s (elems.flatMap AV.cells))(hc:∀y∈elems,y.cells.length=sz)(hz:0<sz)(hd:∀y∈elems,∀c∈y.cells,Dat c):Snap H s (.sl sz elems):=by
 obtain⟨f1,f2⟩:=fL elems hc;generalize he:elems.flatMap AV.cells=cs at h;cases h with
 |nil=>
  have:elems.length*sz=0:=by rw[<-f1,he];rfl
  have:elems=[]:=fj.1 (by
   rcases Nat.mul_eq_zero.1 this with h|h
   ·exact h
   ·omega)
  subst this;exact .eslsl sz
 |box b len cs hb hl=>
  have hlen:elems.length=len:=Nat.eq_of_mul_eq_mul_right hz (by rw[<-f1,he,hl]);refine .msl b (len*sz) sz 0 len cs elems hb hl (by omega) hlen hc (λi j y a c hy hc' ha=>?_);have hj:j<sz:=by rw[<-hc y (ib hy)];exact(bN.1 hc').1
  have key:∀(l:List AV)(i j:Nat)(y c:AV),(∀z∈l,z.cells.length=sz)->l[i]?=some y->y.cells[j]?=some c->j<sz->(l.flatMap AV.cells)[i*sz+j]?=some c:=by
   intro l
   induction l with
   |nil=>intro i j y c _ h;simp at h
   |cons x l ih=>
    intro i j y c hl hy hc hj;rw[sZ];cases i with
    |zero=>
     simp at hy;subst hy;rw[wt,cE,iI (by rw[hl x (by simp)];exact hj)];exact hc
    |succ i=>
     rw[jH (by rw[hl x (by simp),gd];omega),hl x (by simp)];have:=ih i j y c (λz hz=>hl z (by simp[hz])) (by simpa using hy) hc hj;rw[<-this];congr 1;rw[gd];omega
  have:=key elems i j y c hc hy hc' hj;rw[he,<-cE (i*sz)] at this;rw[this] at ha;cases ha;exact hd y (ib hy) a (ib hc') H
theorem lg{α:Type}{f:α->AV}(h:∀x,(f x).cells=[f x])(l:List α):(l.map f).flatMap AV.cells=l.map f:=by
 induction l with
 |nil=>rfl
 |cons a l ih=>rw[ff,sZ,ih,h];rfl
theorem Row.snapI{H:Hp}{s:AV}{l:List Int}(h:Row H 1 s (l.map (AV.int .i64))):Snap H s (aH l):=by
 refine Row.snap (elems:=l.map (AV.int .i64)) (by rw[lg (λ_=>rfl)];exact h) (λy hy=>?_) ng (λy hy c hc=>?_)
 ·simp at hy;obtain⟨n,_,rfl⟩:=hy;rfl
 ·simp at hy;obtain⟨n,_,rfl⟩:=hy;simp only[Gl,bT] at hc;subst hc;exact .int
theorem cR{K:CP}{x y:C2}(M:SP)(h1:aM P x T H nx λe T H nx=>aS e (M T H nx) (K e T H nx))(h2:∀T H nx,M T H nx->aM P y T H nx K):aM P (.seq x y) T H nx K:=by
 refine dT (eC x h1 (λe T H nx h=>?_));cases e with
 |normal=>exact h2 T H nx h
 |exit i=>exact h
 |ret=>exact h
end Go.Abs
namespace Go.Abs
theorem PQ:(∀l:List Int,(aH l).cells=[aH l])/\(∀l:List (List Int),(bU l).cells=[bU l])/\(∀x:Nat,b9 x=none)/\
    (∀(α β:Type)(f:α->β)(a:α)(l:List α),(a::l).map f=f a::l.map f)/\(∀(α β:Type)(f:α->β),([]:List α).map f=[])/\(∀(α β:Type)(f:α->β)(a:α),(some a).map f=some (f a))/\(∀(α β:Type)(f:α->β),(none:Option α).map f=none)/\
    (∀n:Nat,0+n=n)/\(∀n:Nat,n+0=n)/\(∀p:Prop,(p/\p)=p)/\(∀p:Prop,(p/\True)=p)/\(∀p:Prop,(True/\p)=p)/\((!true)=false)/\((!false)=true)/\
    (∀(α:Type)(a:α)(l m:List α),(a::l)++m=a::(l++m))/\(∀(α:Type)(l:List α),[]++l=l)/\(∀(α:Type)(l:List α),l++[]=l):=
 ⟨λ_=>rfl,λ_=>rfl,λ_=>rfl,λ_ _ _ _ _=>rfl,λ_ _ _=>rfl,λ_ _ _ _=>rfl,λ_ _ _=>rfl,cE,nq,and_self,and_true,true_and,rfl,rfl,λ_ _ _ _=>rfl,λ_ _=>rfl,λ_ l=>gJ l⟩
theorem zz(p:Prop):(p/\p)=p:=and_self p
theorem ct:(∀(H:Hp)(b x:Nat)(cs:List AV),ao H b cs x=if x=b then some cs else H x)/\(∀(H:Hp)(b x:Nat),c9 H b x=if x=b then none else H x):=⟨λ_ _ _ _=>rfl,λ_ _ _=>rfl⟩
theorem c7:(∀(H:Hp)(b:Nat)(cs:List AV),ao H b cs b=some cs)/\(∀(H:Hp)(b x:Nat)(cs:List AV),x≠b->ao H b cs x=H x)/\(∀(H:Hp)(b:Nat),c9 H b b=none)/\(∀(H:Hp)(b x:Nat),x≠b->c9 H b x=H x)/\(∀a b c:Nat,a+b+c=a+(b+c)):=
 ⟨λ_ _ _=>ae,λ_ _ _ _ h=>ab h,λ_ _=>jf,λ_ _ _ h=>cK h,ra⟩
theorem ZA:((∀ l:List Int,(aH l).cells=[aH l])∧(∀ l:List (List Int),(bU l).cells=[bU l])∧(∀ x:Nat,b9 x=none) ∧
    (∀(α β:Type)(f:α->β)(a:α)(l:List α),(a::l).map f=f a::l.map f)/\(∀(α β:Type)(f:α->β),([]:List α).map f=[])/\(∀(α β:Type)(f:α->β)(a:α),(some a).map f=some (f a))/\(∀(α β:Type)(f:α->β),(none:Option α).map f=none)/\
    (∀n:Nat,0+n=n)/\(∀n:Nat,n+0=n)/\(∀p:Prop,(p/\p)=p)/\(∀p:Prop,(p/\True)=p)/\(∀p:Prop,(True/\p)=p)/\((!true)=false)/\((!false)=true)/\
    (∀(α:Type)(a:α)(l m:List α),(a::l)++m=a::(l++m))/\(∀(α:Type)(l:List α),[]++l=l)/\(∀(α:Type)(l:List α),l++[]=l))/\
    ((∀ (T:Tm) (n:Nat),ov T (.t n)=T n)∧(∀ (T:Tm) (v:AV),ov T (.c v)=v)∧(∀ (T:Tm) (d t:Nat) (v:AV),upd T d v t=if t=d then v else T t)∧(∀ (T:Tm) (d:Nat) (v:AV),aP T (some d) v=upd T d v) ∧
    (∀(T:Tm)(v:AV),aP T none v=T)/\(∀(x:AV)(l:List AV),T0 (x::l) 0=x)/\(∀(x:AV)(l:List AV)(n:Nat),T0 (x::l) (n+1)=T0 l n)/\(∀n:Nat,T0 [] n=.undef)/\
    (∀(d t:Nat)(v:AV)(l:List (Nat×AV)),tl ((d,v)::l) t=if t=d then v else tl l t)/\(∀t:Nat,tl [] t=.undef)/\
    (∀(T:Tm)(t:Nat)(ts:List Nat)(x:AV)(xs:List AV),mf T (t::ts) (x::xs)=mf (upd T t x) ts xs)/\(∀(T:Tm)(xs:List AV),mf T [] xs=T))/\
    ((∀ (T:Tm) (H:Hp) (x:Opd),cw T H (.mov x)=some (ov T x)) ∧
    (∀(T:Tm)(H:Hp)(c a b:Opd),cw T H (.pick c a b)=match ov T c with|.bool t=>some (if t=true then ov T a else ov T b)|_=>none)/\
    (∀(T:Tm)(H:Hp)(a:Opd),cw T H (.ld1 a)=rd1 H (ov T a))/\(∀(T:Tm)(H:Hp)(k:Nat)(a:Opd),cw T H (.ldn k a)=(rd H k (ov T a)).map .agg)/\
    (∀(T:Tm)(H:Hp)(op:BinOp)(tb tf:Bool)(x y:Opd),cw T H (.bin op tb tf x y)=bE op tb tf (ov T x) (ov T y))/\
    (∀(T:Tm)(H:Hp)(op:UnOp)(x:Opd),cw T H (.un op x)=aun op (ov T x))/\
    (∀(T:Tm)(H:Hp)(f:FuncId)(caps:List Opd),cw T H (.mkfn f caps)=some (.func f (caps.map (ov T))))/\
    (∀(T:Tm)(H:Hp)(k:Nat)(p:Opd),cw T H (.fa k p)=m9 k (ov T p))/\
    (∀(T:Tm)(H:Hp)(sz:Nat)(x i:Opd),cw T H (.ixaS sz x i)=eP sz (ov T x) (ov T i))/\
    (∀(T:Tm)(H:Hp)(x:Opd)(i:Nat),cw T H (.ext x i)=jz (ov T x) i)/\
    (∀(T:Tm)(H:Hp)(x:Opd),cw T H (.lenS x)=dH (ov T x))/\
    (∀(T:Tm)(H:Hp)(z:List AV)(parts:List (Nat×Nat×Opd)),cw T H (.bld z parts)=(eU z (parts.map λp=>(p.1,p.2.1,ov T p.2.2))).map .agg)/\
    (∀(T:Tm)(H:Hp)(x:Opd)(l:List Opd),cw T H (.mx x l)=jm qK (ov T x) (l.map (ov T)))/\
    (∀(T:Tm)(H:Hp)(x:Opd)(l:List Opd),cw T H (.mn x l)=jm qH (ov T x) (l.map (ov T)))/\
    (∀(T:Tm)(H:Hp)(k:IntKind)(x:Opd),cw T H (.conv k x)=wH (ov T x) λn=>some (.int k (k.wrap n)))/\
    (∀(T:Tm)(H:Hp)(sz:Nat)(x:Opd)(lo hi mx:Option Opd),cw T H (.sls sz x lo hi mx)=jC sz (ov T x) (lo.map (ov T)) (hi.map (ov T)) (mx.map (ov T)))/\
    (∀(T:Tm)(H:Hp)(off:Nat)(x:Opd),cw T H (.part1 off x)=iV (ov T x) λcs=>cs[off]?)/\
    (∀(T:Tm)(H:Hp)(op:BinOp)(ks:List TK)(x y:Opd),cw T H (.binS op ks x y)=iV (ov T x) λxs=>iV (ov T y) λys=>pi op ks xs ys))/\
    ((∀ (T:Tm) (H:Hp) (x i:Opd),cw T H (.ixStr x i)=pD (ov T x) (ov T i)) ∧
    (∀(s:ByteArray)(k:IntKind)(n:Int),pD (.str s) (.int k n)=if 0<=n/\n<s.size then some (.int .u8 (s[n.toNat]?.getD 0).toNat) else none))/\
    ((∀ (k:IntKind) (a b:Int) (tb tf:Bool),bE .lss tb tf (.int k a) (.int k b)=some (.bool (decide (a < b))))∧(∀ (k:IntKind) (a b:Int) (tb tf:Bool),bE .leq tb tf (.int k a) (.int k b)=some (.bool (decide (a ≤ b)))) ∧
    (∀(k:IntKind)(a b:Int)(tb tf:Bool),bE .gtr tb tf (.int k a) (.int k b)=some (.bool (decide (b<a))))/\(∀(k:IntKind)(a b:Int)(tb tf:Bool),bE .geq tb tf (.int k a) (.int k b)=some (.bool (decide (b<=a))))/\
    (∀(k:IntKind)(a b:Int)(tb tf:Bool),bE .eql tb tf (.int k a) (.int k b)=some (.bool (decide (a=b))))/\(∀(k:IntKind)(a b:Int)(tb tf:Bool),bE .neq tb tf (.int k a) (.int k b)=some (.bool (decide (a≠b))))/\
    (∀(k:IntKind)(a b:Int)(tb tf:Bool),bE .add tb tf (.int k a) (.int k b)=some (.int k (k.wrap (a+b))))/\(∀(k:IntKind)(a b:Int)(tb tf:Bool),bE .sub tb tf (.int k a) (.int k b)=some (.int k (k.wrap (a-b))))/\
    (∀(k:IntKind)(a b:Int)(tb tf:Bool),bE .mul tb tf (.int k a) (.int k b)=some (.int k (k.wrap (a*b))))/\
    (∀(a b:Bool)(tf:Bool),bE .eql true tf (.bool a) (.bool b)=some (.bool (a==b)))/\(∀(a b:Bool)(tf:Bool),bE .neq true tf (.bool a) (.bool b)=some (.bool (!(a==b))))/\
    (∀tb:Bool,bE .eql tb true .nilf .nilf=some (.bool true))/\(∀tb:Bool,bE .neq tb true .nilf .nilf=some (.bool false))/\
    (∀(tb:Bool)(f:FuncId)(c:List AV),bE .eql tb true (.func f c) .nilf=some (.bool false))/\(∀(tb:Bool)(f:FuncId)(c:List AV),bE .neq tb true (.func f c) .nilf=some (.bool true))/\
    (∀b:Bool,aun .not (.bool b)=some (.bool (!b)))/\
    (∀(k:IntKind)(a b:Int),qK (.int k a) (.int k b)=some (.int k (max a b)))/\(∀(k:IntKind)(a b:Int),qH (.int k a) (.int k b)=some (.int k (min a b)))/\
    (∀(f:AV->AV->Option AV)(x:AV),jm f x []=some x)/\(∀(f:AV->AV->Option AV)(x y:AV)(l:List AV),jm f x (y::l)=match f x y with|some z=>jm f z l|none=>none)/\
    (∀(k:Nat)(b n off:Nat),m9 k (.ptr b n off)=some (.ptr b n (off+k)))/\(∀(k:Nat)(cs:List AV)(off:Nat),m9 k (.iptr cs off)=some (.iptr cs (off+k)))/\
    (∀(cs:List AV)(off:Nat),rd1 b9 (.iptr cs off)=cs[off]?))/\
    ((∀ (H:Hp) (b n off:Nat),rd1 H (.ptr b n off)=match H b with | some cs=>if cs.length=n then cs[off]? else none | none=>none) ∧
    (∀(H:Hp)(k b n off:Nat),rd H k (.ptr b n off)=match H b with|some cs=>if cs.length=n/\off+k<=n then some ((cs.drop off).take k) else none|none=>none)/\
    (∀(H:Hp)(cs:List AV)(off:Nat),rd1 H (.iptr cs off)=cs[off]?)/\(∀(H:Hp)(cs:List AV)(off k:Nat),rd H k (.iptr cs off)=if off+k<=cs.length then some ((cs.drop off).take k) else none)/\
    (∀(l:List AV)(i:Nat),jz (.tup l) i=l[i]?)/\(∀(l:List AV)(f:List AV->Option AV),iV (.agg l) f=f l)/\(∀(k:IntKind)(n:Int)(f:Int->Option AV),wH (.int k n) f=f n)/\
    (∀(cs:List AV),eU cs []=some cs)/\
    (∀(cs:List AV)(off sz:Nat)(x:AV)(r:List (Nat×Nat×AV)),eU cs ((off,sz,x)::r)=if AV.ones x.cells=true/\x.cells.length=sz/\off+sz<=cs.length then eU (bB cs off x.cells) r else none)/\
    (∀(b n sz off len:Nat),dH (.msl b n sz off len)=some (.int .i64 len))/\(dH .esl=some (.int .i64 0))/\(∀(sz:Nat)(l:List AV),dH (.sl sz l)=some (.int .i64 l.length))/\
    (∀(z:AV),bv z 0=[])/\(∀(z:AV)(n:Nat),bv z (n+1)=z.cells++bv z n))/\
    ((∀ (a:AV) (l:List AV),(a :: l)[0]?=some a)∧(∀ (a:AV) (l:List AV) (n:Nat),(a :: l)[n + 1]?=l[n]?)∧(∀ (l:List AV),l.drop 0=l)∧(∀ (a:AV) (l:List AV) (n:Nat),(a :: l).drop (n + 1)=l.drop n)∧(∀ n:Nat,([]:List AV).drop n=[]) ∧
    (∀(l:List AV),l.take 0=[])/\(∀(a:AV)(l:List AV)(n:Nat),(a::l).take (n+1)=a::l.take n)/\(∀n:Nat,([]:List AV).take n=[])/\(∀(l:List AV),[]++l=l)/\(∀(l:List AV),l++[]=l)/\(∀(a:AV)(l m:List AV),(a::l)++m=a::(l++m))/\
    (∀(cs:List AV)(off:Nat)(new:List AV),bB cs off new=cs.take off++new++cs.drop (off+new.length))/\(([]:List AV).length=0)/\(∀(a:AV)(l:List AV),(a::l).length=l.length+1)/\
    (∀(k:IntKind)(n:Int),(AV.int k n).cells=[.int k n])/\(∀b:Bool,(AV.bool b).cells=[.bool b])/\(∀s:ByteArray,(AV.str s).cells=[.str s])/\(∀(k:Nat)(l:List AV),(AV.sl k l).cells=[.sl k l])/\(∀l:List AV,(AV.agg l).cells=l)/\(AV.esl.cells=[.esl])/\(AV.nilf.cells=[.nilf])/\
    (∀(f:FuncId)(c:List AV),(AV.func f c).cells=[.func f c])/\(∀(b n off:Nat),(AV.ptr b n off).cells=[.ptr b n off])/\(∀(c:List AV)(off:Nat),(AV.iptr c off).cells=[.iptr c off])/\(∀(b n sz off len:Nat),(AV.msl b n sz off len).cells=[.msl b n sz off len])/\(∀b:Nat,(AV.yld b).cells=[.yld b])/\(∀b:Nat,(AV.mp b).cells=[.mp b])/\(AV.nilp.cells=[.nilp])/\(∀(f:FuncId)(c:List AV),(AV.bfn f c).cells=[.bfn f c]))/\
    ((∀(b:Bool)(x y:AV),(match (AV.bool b:AV) with|.bool t=>some (if t=true then x else y)|_=>none)=some (if b=true then x else y))):=
 ⟨PQ,SA,SV,SV2,SN,SR,SL,λ_ _ _=>rfl⟩
theorem ZV:((AV.ones []=true)∧(∀ (a:AV) (l:List AV),AV.ones (a :: l)=(a.one && AV.ones l))∧(∀ (k:IntKind) (n:Int),(AV.int k n).one=true)∧(∀ b:Bool,(AV.bool b).one=true)∧(∀ s:ByteArray,(AV.str s).one=true)∧(∀ (k:Nat) (l:List AV),(AV.sl k l).one=true)∧(AV.esl.one=true)∧(AV.nilf.one=true) ∧
    (∀(f:FuncId)(c:List AV),(AV.func f c).one=true)/\(∀(b n off:Nat),(AV.ptr b n off).one=true)/\(∀(c:List AV)(off:Nat),(AV.iptr c off).one=true)/\(∀(b n sz off len:Nat),(AV.msl b n sz off len).one=true)/\(∀b:Nat,(AV.yld b).one=true)/\(∀b:Nat,(AV.mp b).one=true)/\(AV.nilp.one=true)/\(∀l:List AV,l.all AV.one=AV.ones l))/\(∀l:List Int,(aH l).one=true)/\(∀l:List (List Int),(bU l).one=true)/\(∀b:Bool,(b&&b)=b)/\((false=true)=False)/\(∀a:Int,-9223372036854775808<=a->a<=9223372036854775807->IntKind.wrap .i64 a=a)/\
    (∀(l:List Int)(k:IntKind)(n:Int),eP 1 (aH l) (.int k n)=if 0<=n/\n<l.length then some (.iptr [.int .i64 (l.getD n.toNat default)] 0) else none)/\(∀(l:List (List Int))(k:IntKind)(n:Int),eP 1 (bU l) (.int k n)=if 0<=n/\n<l.length then some (.iptr [aH (l.getD n.toNat default)] 0) else none)/\
    (∀l:List Int,dH (aH l)=some (.int .i64 l.length))/\(∀l:List (List Int),dH (bU l)=some (.int .i64 l.length))/\(∀n:Nat,(n:Int).toNat=n)/\(∀(α β:Type)(f:α->β)(l:List α),(l.map f).length=l.length)/\
    (∀(sz b m off len:Nat)(k:IntKind)(n:Int),eP sz (.msl b m sz off len) (.int k n)=if 0<=n/\n<len then some (.ptr b m (off+n.toNat*sz)) else none)/\(∀(α:Type)(_:Inhabited α)(f:α->AV)(l:List α)(k:Nat),k<l.length->(l.map f)[k]?=some (f (l.getD k default)))/\(∀n:Nat,n*1=n):=
 ⟨SO,λ_=>rfl,λ_=>rfl,Bool.and_self,kJ,λ_=>y9,λ_ _ _=>oH,λ_ _ _=>pR,λ_=>v8,λ_=>sE,cC,λ_ _ _ _=>bt _,λ_ _ _ _ _ _ _=>IK,λ_ _ _ _ _ h=>getElem?_map_lt h,Nat.mul_one⟩
theorem ZG:((∀ (T:Tm) (n:Nat),ov T (.t n)=T n)∧(∀ (T:Tm) (v:AV),ov T (.c v)=v)∧(∀ (T:Tm) (d t:Nat) (v:AV),upd T d v t=if t=d then v else T t)∧(∀ (T:Tm) (d:Nat) (v:AV),aP T (some d) v=upd T d v) ∧
    (∀(T:Tm)(v:AV),aP T none v=T)/\(∀(x:AV)(l:List AV),T0 (x::l) 0=x)/\(∀(x:AV)(l:List AV)(n:Nat),T0 (x::l) (n+1)=T0 l n)/\(∀n:Nat,T0 [] n=.undef)/\
    (∀(d t:Nat)(v:AV)(l:List (Nat×AV)),tl ((d,v)::l) t=if t=d then v else tl l t)/\(∀t:Nat,tl [] t=.undef)/\
    (∀(T:Tm)(t:Nat)(ts:List Nat)(x:AV)(xs:List AV),mf T (t::ts) (x::xs)=mf (upd T t x) ts xs)/\(∀(T:Tm)(xs:List AV),mf T [] xs=T))/\(∀a:Int,-9223372036854775808<=a->a<=9223372036854775807->IntKind.wrap .i64 a=a)/\(∀a b:Nat,((a+b:Nat):Int)=(a:Int)+(b:Int))/\(((1:Nat):Int)=1)/\(((0:Nat):Int)=0)/\(∀p:Prop,(p/\True)=p)/\(∀p:Prop,(p/\p)=p):=
 ⟨SA,λ_=>y9,Int.natCast_add,rfl,rfl,and_true,and_self⟩
theorem BQ{P:Program}{b:C2}{T:Tm}{H:Hp}{nx:Nat}{K:CP}(L:Nat->List (Nat×AV))(n:Nat)(p:Nat->Prop)(hT:agr T (L 0))
    (step:∀k,k<=n->(∀i,i<k->p i)->aM P b (tl (L k)) H nx λe T H' nx'=>aS e (k<n/\p k/\agr T (L (k+1))/\H'=H/\nx'=nx) (K e T H' nx')):aZ (aM P b) T H nx K:=by
 refine od (X:=Nat) L (λk=>k<=n/\∀i,i<k->p i) (λk=>n-k) 0 ⟨bW _,λi h=>(by omega)⟩ hT ?_;rintro k ⟨h1,h2⟩;refine eC b (step k h1 h2) (λe T H' nx' h=>?_);cases e with
 |normal=>
  obtain⟨g1,g2,g3,g4,g5⟩:=h;refine⟨k+1,⟨by omega,λi hi=>?_⟩,by omega,g3,g4,g5⟩;rcases kH.1 hi with h|rfl
  ·exact h2 i h
  ·exact g2
 |exit i=>exact h
 |ret=>exact h
theorem lN{α:Type}[Inhabited α]{l:List α}{p:α->Bool}(h:∀i,i<l.length->p (l.getD i default)=true):l.all p=true:=by
 rw[eA];intro x hx;obtain⟨i,hi,e⟩:=lm hx;have:=h i hi
 rwa [show l.getD i default=x by simp[List.getD,hi,e]] at this
theorem ke{α:Type}[Inhabited α]{l:List α}{p:α->Bool}{k:Nat}(hk:k<l.length)(h:p (l.getD k default)=false):l.all p=false:=by
 rw[Bool.eq_false_iff,ne_eq,eA];intro hh;have:=hh _ (bg hk);rw[h] at this;cases this
theorem si{α:Type}[Inhabited α]{l:List α}{p:α->Bool}(h:∀i,i<l.length->p (l.getD i default)=false):l.any p=false:=by
 rw[List.any_eq_false];intro x hx;obtain⟨i,hi,e⟩:=lm hx;have:=h i hi;rw[show l.getD i default=x by simp[List.getD,hi,e]] at this;simp[this]
theorem Hy{α:Type}[Inhabited α][DecidableEq α]{l:List α}{v:α}{k:Nat}(hk:k<l.length)(h:l.getD k default=v):decide (v∈l)=true:=by
 rw[wK,<-h];exact bg hk
theorem FG{α:Type}[Inhabited α][DecidableEq α]{l:List α}{v:α}(h:∀i,i<l.length->l.getD i default≠v):decide (v∈l)=false:=by
 rw[decide_eq_false_iff_not];intro hm;obtain⟨i,hi,e⟩:=lm hm;exact h i hi (by simp[List.getD,hi,e])
def iO{α:Type}(sz:Nat)(f:α->AV)(l:List α):AV:=.sl sz (l.map f)
theorem JU(l:List (List Int)):bU l=iO 1 aH l:=rfl
section
variable{α:Type}{sz:Nat}{f:α->AV}{l:List α}
theorem uf (h:∀ x ∈ l,∀ c ∈ (f x).cells,Dat c):Dat (iO sz f l):=Dat.sl (fun x hx c hc=>by
 obtain⟨y,hy,rfl⟩:=bu.1 hx;exact h y hy c hc)
theorem Gp (hc:∀ x,(f x).cells=[f x]) (h:∀ x,Dat (f x)):Dat (iO sz f l):=uf (fun x _ c hx=>by
 rw[hc,bT] at hx;subst hx;exact h x)
theorem oE[Inhabited α]{k:IntKind}{n:Int}:eP sz (iO sz f l) (.int k n)=if 0<=n/\n<l.length then some (.iptr (f (l.getD n.toNat default)).cells 0) else none:=uq
theorem mH:dH (iO sz f l)=some (.int .i64 l.length):=rS
theorem y5{k:Nat}(h:k<=l.length):jC sz (iO sz f l) none (some (.int .i64 k)) none=some (iO sz f (l.take k)):=by
 simp[jC,bV,iO,h]
theorem jT{k:Nat}(h:k<=l.length):jC sz (iO sz f l) (some (.int .i64 k)) none none=some (iO sz f (l.drop k)):=by
 simp[jC,bV,iO,h];rw[eM (by simp)]
theorem ER{H:Hp}(hc:∀x,(f x).cells=[f x]):gC 1 H (iO 1 f l)=some (l.length,l.map f):=by
 unfold iO;rw[kL,lg hc];simp
theorem Row.snapL'{H:Hp}{s:AV}(h:Row H 1 s (l.map f))(hc:∀x,(f x).cells=[f x])(hd:∀x∈l,Dat (f x)):Snap H s (iO 1 f l):=by
 refine Row.snap (elems:=l.map f) (by rw[lg hc];exact h) (λy hy=>?_) ng (λy hy c hx=>?_)
 ·obtain⟨n,_,rfl⟩:=bu.1 hy;rw[hc];rfl
 ·obtain⟨n,hn,rfl⟩:=bu.1 hy;rw[hc,bT] at hx;subst hx;exact hd n hn
end
theorem gR{a:Int}(h1:0<=a)(h2:a<18446744073709551616):IntKind.wrap .u64 a=a:=by
 simp only[IntKind.wrap,IntKind.bits,IntKind.signed];simp;omega
theorem vI{a:Int}:IntKind.wrap .u8 a=a%256:=by
 simp only[IntKind.wrap,IntKind.bits,IntKind.signed];simp
theorem yu{k:IntKind}{a b:Nat}{tb tf:Bool}{k':IntKind}(hb:b<=k.bits):bE .shr tb tf (.int k a) (.int k' b)=some (.int k ((a/2^b:Nat):Int)):=by
 have h:¬((b:Int)<0):=by omega
 simp only[bE,rK,h,if_false,or_true,if_true,cC,Nat.min_eq_left hb]
 congr 2
 rw[Int.fdiv_eq_ediv_of_nonneg _ (Int.le_of_lt (Int.pow_pos (by omega)))];simp
theorem DZ{k:IntKind}{a b:Nat}{tb tf:Bool}{k':IntKind}(hb:b<=k.bits)(h:a*2^b<2^(k.bits-1)):bE .shl tb tf (.int k a) (.int k' b)=some (.int k ((a*2^b:Nat):Int)):=by
 have h0:¬((b:Int)<0):=by omega
 simp only[bE,rK,h0,if_false,true_or,if_true,cC,Nat.min_eq_left hb]
 congr 2
 have e:(a:Int)*2^b=((a*2^b:Nat):Int):=by simp
 rw[e];generalize a*2^b=c at h;cases k<;>(simp only[IntKind.bits,IntKind.wrap,IntKind.signed] at h |-;simp at h |-;omega)
theorem DJ{k:IntKind}{a b:Int}{tb tf:Bool}(ha:0<=a)(hb:0<b):bE .rem tb tf (.int k a) (.int k b)=some (.int k (a%b)):=by
 show(if (k=k) then fK .rem k a b else none)=_;rw[if_pos rfl];simp only[fK,if_neg (show ¬b=0 by omega),Int.tmod_eq_emod_of_nonneg ha]
theorem qw{a b:Int}{tb tf:Bool}(ha:0<=a)(h2:a<=9223372036854775807)(hb:0<b):bE .quo tb tf (.int .i64 a) (.int .i64 b)=some (.int .i64 (a/b)):=by
 show(if (IntKind.i64=IntKind.i64) then fK .quo .i64 a b else none)=_;rw[if_pos rfl];have h3:0<=a/b:=Int.ediv_nonneg ha (by omega);have h4:a/b<=a:=Int.ediv_le_self _ ha;simp only[fK,if_neg (show ¬b=0 by omega),Int.tdiv_eq_ediv_of_nonneg ha];rw[y9 (by omega) (by omega)]
theorem aU{P:Program}{T:Tm}{H:Hp}{nx:Nat}{K:SP}{l:List Op2}{d:Option Nat}{f:Opd}{args:List Opd}{g:FuncId}{caps xs:List AV}{R:AV->Hp->Nat->Prop}(hf:ov T f=.func g caps)(ha:args.map (ov T)++caps=xs)(hc:Fn P g xs H nx R)
    (k:∀r H' nx',R r H' nx'->am P .text l (aP T d r) H' nx' K):am P .text (⟨d,none,.call f args⟩::l) T H nx K:=by
 subst ha;exact C6 hf (Fn.mono hc k)
def Nv(l:List UInt8):AV:=.str ⟨l.toArray⟩
theorem Io(l:List UInt8):Dat (Nv l):=.str
instance datI_encS{l:List UInt8}:DatI (Nv l):=⟨Io l⟩
end Go.Abs
namespace Go.Abs
open Go.RowKit
variable{P:Program}{T:Tm}{H:Hp}{nx:Nat}
theorem aI{a b:Prop}(x:a)(y:b):a/\b:=⟨x,y⟩
theorem ev0{α:Type}{a b:α}(h:a=b:=by(try simp only[ct,ZA,Nat.reduceEqDiff,↓reduceIte,Nat.reduceAdd,Nat.reduceLeDiff]);(try with_reducible rfl);first|done|fail):a=b:=h
theorem evZ{α:Type}{a b:α}(h:a=b:=by(try simp only[ct,ZA,Nat.reduceEqDiff,↓reduceIte,Nat.reduceAdd,Nat.reduceLeDiff,zz]);(try with_reducible rfl);first|done|fail):a=b:=h
theorem evY{α:Type}{a b:α}(h:a=b:=by(try simp (disch:=omega) only[c7,ZA,Nat.reduceEqDiff,↓reduceIte,Nat.reduceAdd,Nat.reduceLeDiff,zz]);(try with_reducible rfl);first|done|fail):a=b:=h
theorem ag0{T:Tm}{l:List (Nat×AV)}(h:agr T l:=by simp (disch:=omega) only[agr,ZG,Nat.reduceEqDiff,↓reduceIte];first|done|fail):agr T l:=h
theorem agZ{T:Tm}{l:List (Nat×AV)}(h:agr T l:=by simp (disch:=omega) only[agr,ZG,Nat.reduceEqDiff,↓reduceIte,zz];first|done|fail):agr T l:=h
theorem vZ{dm:DM}{K:SP}{l:List Op2}{d:Option Nat}{i:Ins}{r:AV}(k:am P dm l (aP T d r) H nx K)(hi:ic i=.val:=by rfl)(hd:dm2 dm T i=true:=by rfl)(h:cw T H i=some r:=by(try simp (disch:=omega) only[ct,ZA,Nat.reduceEqDiff,↓reduceIte,Nat.reduceAdd,Nat.reduceLeDiff,ZV,reduceCtorEq,zz]);first|with_reducible rfl|(apply DY;(focus omega);with_reducible rfl)):am P dm (⟨d,none,i⟩::l) T H nx K:=po hi hd h k
theorem nvZ{S:Hp}{K:SP}{l:List (Op2×Nat)}{d:Option Nat}{i:Ins}{r:AV}(k:bm P S l (aP T d r) H nx K)(h:cw T S i=some r:=by(try simp (disch:=omega) only[ct,ZA,Nat.reduceEqDiff,↓reduceIte,Nat.reduceAdd,Nat.reduceLeDiff,ZV,reduceCtorEq,zz]);first|with_reducible rfl|(apply DY;(focus omega);with_reducible rfl)):bm P S ((⟨d,none,i⟩,0)::l) T H nx K:=KM h k
theorem cZ{dm:DM}{K:SP}{l:List Op2}{d:Option Nat}{f:Opd}{args:List Opd}{g:FuncId}{caps xs:List AV}{r:AV}(k:am P dm l (aP T d r) H nx K)(hf:ov T f=.func g caps:=by(try simp only[ct,ZA,Nat.reduceEqDiff,↓reduceIte,Nat.reduceAdd,Nat.reduceLeDiff,zz]);(try with_reducible rfl);first|done|fail)(ha:args.map (ov T)++caps=xs:=by(try simp only[ct,ZA,Nat.reduceEqDiff,↓reduceIte,Nat.reduceAdd,Nat.reduceLeDiff,zz]);(try with_reducible rfl);first|done|fail)(hp:Pure P g xs r)(hs:aq H xs xs r:=by(first|refine aB ?_ rfl|apply aL);(repeat' (first|exact aj|apply bk|(apply aN;(focus with_reducible assumption))));first|done|fail):am P dm (⟨d,none,.call f args⟩::l) T H nx K:=El hf ha hp hs k
theorem alZ{dm:DM}{K:SP}{l:List Op2}{d:Option Nat}{z:AV}{cs:List AV}(k:am P dm l (aP T d (.ptr nx cs.length 0)) (ao H nx cs) (nx+1) K)(hd:dm2 dm T (.alloc z)=true:=by rfl)(hc:z.cells=cs:=by(try simp only[ct,ZA,Nat.reduceEqDiff,↓reduceIte,Nat.reduceAdd,Nat.reduceLeDiff,zz]);(try with_reducible rfl);first|done|fail)(ho:AV.ones cs=true:=by simp only[SO,Bool.and_self,fA,eF,zz];first|done|fail):am P dm (⟨d,none,.alloc z⟩::l) T H nx K:=ql hd hc ho k
theorem bxZ{dm:DM}{K:SP}{l:List Op2}{d:Option Nat}{x:Opd}{v:AV}{cs:List AV}(k:am P dm l (aP T d (.ptr nx cs.length 0)) (ao H nx cs) (nx+1) K)(hd:dm2 dm T (.box x)=true:=by rfl)(hx:ov T x=v:=by(try simp only[ct,ZA,Nat.reduceEqDiff,↓reduceIte,Nat.reduceAdd,Nat.reduceLeDiff,zz]);(try with_reducible rfl);first|done|fail)(hc:v.cells=cs:=by(try simp only[ct,ZA,Nat.reduceEqDiff,↓reduceIte,Nat.reduceAdd,Nat.reduceLeDiff,zz]);(try with_reducible rfl);first|done|fail)(ho:AV.ones cs=true:=by simp only[SO,Bool.and_self,fA,eF,zz];first|done|fail):am P dm (⟨d,none,.box x⟩::l) T H nx K:=KI hd hx hc ho k
theorem stZ{dm:DM}{K:SP}{l:List Op2}{d:Option Nat}{sz:Nat}{p x:Opd}{b n off:Nat}{v:AV}{cs vs:List AV}(k:am P dm l (aP T d (.tup [])) (ao H b (bB cs off vs)) nx K)(hd:dm2 dm T (.st sz p x)=true:=by rfl)(hp:ov T p=.ptr b n off:=by(try simp only[ct,ZA,Nat.reduceEqDiff,↓reduceIte,Nat.reduceAdd,Nat.reduceLeDiff,zz]);(try with_reducible rfl);first|done|fail)(hx:ov T x=v:=by(try simp only[ct,ZA,Nat.reduceEqDiff,↓reduceIte,Nat.reduceAdd,Nat.reduceLeDiff,zz]);(try with_reducible rfl);first|done|fail)(hb:H b=some cs:=by(try simp only[ct,ZA,Nat.reduceEqDiff,↓reduceIte,Nat.reduceAdd,Nat.reduceLeDiff,zz]);(try with_reducible rfl);first|done|fail)(hc:v.cells=vs:=by(try simp only[ct,ZA,Nat.reduceEqDiff,↓reduceIte,Nat.reduceAdd,Nat.reduceLeDiff,zz]);(try with_reducible rfl);first|done|fail)(ho:AV.ones vs=true:=by simp only[SO,Bool.and_self,fA,eF,zz];first|done|fail)(hn:cs.length=n:=by(try simp only[SL,Nat.reduceAdd,Nat.reduceMul,bt]);first|done|omega)(hl:vs.length=sz:=by(try simp only[SL,Nat.reduceAdd,Nat.reduceMul,bt]);first|done|omega)(hf:off+sz<=n:=by(try simp only[SL,Nat.reduceAdd,Nat.reduceMul,bt]);first|done|omega):am P dm (⟨d,none,.st sz p x⟩::l) T H nx K:=L1 hd hp hx hb hc ho hn hl hf k
theorem blZ{dm:DM}{K:SP}{l:List Op2}{d:Option Nat}{sz len:Nat}{z:List AV}{parts:List (Nat×Nat×Opd)}{pv:List (Nat×Nat×AV)}{cs:List AV}(k:am P dm l (aP T d (.msl nx cs.length sz 0 len)) (ao H nx cs) (nx+1) K)(hd:dm2 dm T (.bldS sz len z parts)=true:=by rfl)(hl:len≠0:=by exact Nat.succ_ne_zero _)(hp:parts.map (λp=>(p.1,p.2.1,ov T p.2.2))=pv:=by(try simp only[ct,ZA,Nat.reduceEqDiff,↓reduceIte,Nat.reduceAdd,Nat.reduceLeDiff,zz]);(try with_reducible rfl);first|done|fail)(hc:eU (bv (.agg z) len) pv=some cs:=by(try simp only[ct,ZA,Nat.reduceEqDiff,↓reduceIte,Nat.reduceAdd,Nat.reduceLeDiff,SO,Bool.and_self,fA,eF,zz]);(try with_reducible rfl);first|done|fail):am P dm (⟨d,none,.bldS sz len z parts⟩::l) T H nx K:=KC hd hl hp hc k
theorem b0Z{dm:DM}{K:SP}{l:List Op2}{d:Option Nat}{sz:Nat}{z:List AV}(k:am P dm l (aP T d .esl) H nx K)(hd:dm2 dm T (.bldS sz 0 z [])=true:=by rfl):am P dm (⟨d,none,.bldS sz 0 z []⟩::l) T H nx K:=Hh hd k
theorem a0Z{dm:DM}{K:SP}{l:List Op2}{d:Option Nat}{sz bytes n:Nat}{s x:Opd}{v:AV}{new:List AV}(k:am P dm l (aP T d (.msl nx (n*sz) sz 0 n)) (ao H nx new) (nx+1) K)(hd:dm2 dm T (.app sz bytes s x)=true:=by rfl)(hs:ov T s=.esl:=by(try simp only[ct,ZA,Nat.reduceEqDiff,↓reduceIte,Nat.reduceAdd,Nat.reduceLeDiff,zz]);(try with_reducible rfl);first|done|fail)(hx:ov T x=v:=by(try simp only[ct,ZA,Nat.reduceEqDiff,↓reduceIte,Nat.reduceAdd,Nat.reduceLeDiff,zz]);(try with_reducible rfl);first|done|fail)(hsrc:gC sz H v=some (n,new):=by first|exact iq|exact kr|exact qp|(apply gK;(focus ((try simp only[ct,ZA,Nat.reduceEqDiff,↓reduceIte,Nat.reduceAdd,Nat.reduceLeDiff,zz]);(try with_reducible rfl);first|done|fail));(iterate 2 (focus ((try simp only[SL,Nat.reduceAdd,Nat.reduceMul,bt]);first|done|omega))))|exact kL)(ho:AV.ones new=true:=by first|exact jw|exact oC|(simp only[SO,Bool.and_self,fA,eF,zz];first|done|fail))(h1:n*bytes<=140737488355328:=by(try simp only[SL,Nat.reduceAdd,Nat.reduceMul,bt]);first|done|omega)(h2:n<=9223372036854775807:=by(try simp only[SL,Nat.reduceAdd,Nat.reduceMul,bt]);first|done|omega):am P dm (⟨d,none,.app sz bytes s x⟩::l) T H nx K:=jG hd hs hx hsrc ho h1 h2 k
theorem apZ{dm:DM}{K:SP}{l:List Op2}{d:Option Nat}{sz bytes n:Nat}{s x:Opd}{v:AV}{new cs:List AV}{b m len:Nat}(k:am P dm l (aP T d (.msl b ((len+n)*sz) sz 0 (len+n))) (ao H b (cs++new)) nx K)(hd:dm2 dm T (.app sz bytes s x)=true:=by rfl)(hs:ov T s=.msl b m sz 0 len:=by(try simp only[ct,ZA,Nat.reduceEqDiff,↓reduceIte,Nat.reduceAdd,Nat.reduceLeDiff,zz]);(try with_reducible rfl);first|done|fail)(hb:H b=some cs:=by(try simp only[ct,ZA,Nat.reduceEqDiff,↓reduceIte,Nat.reduceAdd,Nat.reduceLeDiff,zz]);(try with_reducible rfl);first|done|fail)(hx:ov T x=v:=by(try simp only[ct,ZA,Nat.reduceEqDiff,↓reduceIte,Nat.reduceAdd,Nat.reduceLeDiff,zz]);(try with_reducible rfl);first|done|fail)(hsrc:gC sz H v=some (n,new):=by first|exact iq|exact kr|exact qp|(apply gK;(focus ((try simp only[ct,ZA,Nat.reduceEqDiff,↓reduceIte,Nat.reduceAdd,Nat.reduceLeDiff,zz]);(try with_reducible rfl);first|done|fail));(iterate 2 (focus ((try simp only[SL,Nat.reduceAdd,Nat.reduceMul,bt]);first|done|omega))))|exact kL)(ho:AV.ones new=true:=by first|exact jw|exact oC|(simp only[SO,Bool.and_self,fA,eF,zz];first|done|fail))(hm:cs.length=m:=by(try simp only[SL,Nat.reduceAdd,Nat.reduceMul,bt]);first|done|omega)(hl:m=len*sz:=by(try simp only[SL,Nat.reduceAdd,Nat.reduceMul,bt]);first|done|omega)(h1:(len+n)*bytes<=140737488355328:=by(try simp only[SL,Nat.reduceAdd,Nat.reduceMul,bt]);first|done|omega)(h2:len+n<=9223372036854775807:=by(try simp only[SL,Nat.reduceAdd,Nat.reduceMul,bt]);first|done|omega):am P dm (⟨d,none,.app sz bytes s x⟩::l) T H nx K:=BJ hd hs hb hx hsrc ho hm hl h1 h2 k
theorem gTZ{dm:DM}{K:SP}{l:List Op2}{d:Option Nat}{i:Ins}{t:Nat}{w:Bool}(k:am P dm (⟨d,none,i⟩::l) T H nx K)(h:T t=.bool w:=by simp only[ct,ZA,Nat.reduceEqDiff,↓reduceIte,Nat.reduceAdd,Nat.reduceLeDiff,zz];first|done|fail):am P dm (⟨d,some (t,w),i⟩::l) T H nx K:=L0 h k
theorem gFZ{dm:DM}{K:SP}{l:List Op2}{d:Option Nat}{i:Ins}{t:Nat}{w:Bool}(k:am P dm l (aP T d (.tup [])) H nx K)(h:T t=.bool (!w)\/T t=.tup []:=by simp only[ct,ZA,Nat.reduceEqDiff,↓reduceIte,Nat.reduceAdd,Nat.reduceLeDiff,or_true,true_or,zz];first|done|fail):am P dm (⟨d,some (t,w),i⟩::l) T H nx K:=MA h k
theorem cTZ{K:CP}{c:Opd}{x y:C2}(h1:aM P x T H nx K)(hc:ov T c=.bool true:=by simp only[ct,ZA,Nat.reduceEqDiff,↓reduceIte,Nat.reduceAdd,Nat.reduceLeDiff,zz];first|done|fail):aM P (.cond c x y) T H nx K:=D1 hc h1
theorem cFZ{K:CP}{c:Opd}{x y:C2}(h2:aM P y T H nx K)(hc:ov T c=.bool false:=by simp only[ct,ZA,Nat.reduceEqDiff,↓reduceIte,Nat.reduceAdd,Nat.reduceLeDiff,zz];first|done|fail):aM P (.cond c x y) T H nx K:=Em hc h2
theorem r1Z{K:AV->Prop}{a:RV}{x:AV}(h:K x)(ha:rv T H a=some x:=by simp only[rv,ct,ZA,Nat.reduceEqDiff,↓reduceIte,Nat.reduceAdd,Nat.reduceLeDiff,zz];with_reducible rfl):bw T H K [a]:=r_1 ha h
theorem r2Z{K:AV->Prop}{a b:RV}{x y:AV}(h:K (.tup [x,y]))(ha:rv T H a=some x:=by simp only[rv,ct,ZA,Nat.reduceEqDiff,↓reduceIte,Nat.reduceAdd,Nat.reduceLeDiff,zz];with_reducible rfl)(hb:rv T H b=some y:=by simp only[rv,ct,ZA,Nat.reduceEqDiff,↓reduceIte,Nat.reduceAdd,Nat.reduceLeDiff,zz];with_reducible rfl):bw T H K [a,b]:=r_2 ha hb h
theorem r3Z{K:AV->Prop}{a b c:RV}{x y z:AV}(h:K (.tup [x,y,z]))(ha:rv T H a=some x:=by simp only[rv,ct,ZA,Nat.reduceEqDiff,↓reduceIte,Nat.reduceAdd,Nat.reduceLeDiff,zz];with_reducible rfl)(hb:rv T H b=some y:=by simp only[rv,ct,ZA,Nat.reduceEqDiff,↓reduceIte,Nat.reduceAdd,Nat.reduceLeDiff,zz];with_reducible rfl)(hc:rv T H c=some z:=by simp only[rv,ct,ZA,Nat.reduceEqDiff,↓reduceIte,Nat.reduceAdd,Nat.reduceLeDiff,zz];with_reducible rfl):bw T H K [a,b,c]:=r_3 ha hb hc h
theorem r5Z{K:AV->Prop}{a b c d e:RV}{x y z u v:AV}(h:K (.tup [x,y,z,u,v]))(ha:rv T H a=some x:=by simp only[rv,ct,ZA,Nat.reduceEqDiff,↓reduceIte,Nat.reduceAdd,Nat.reduceLeDiff,zz];with_reducible rfl)(hb:rv T H b=some y:=by simp only[rv,ct,ZA,Nat.reduceEqDiff,↓reduceIte,Nat.reduceAdd,Nat.reduceLeDiff,zz];with_reducible rfl)(hc:rv T H c=some z:=by simp only[rv,ct,ZA,Nat.reduceEqDiff,↓reduceIte,Nat.reduceAdd,Nat.reduceLeDiff,zz];with_reducible rfl)(hd:rv T H d=some u:=by simp only[rv,ct,ZA,Nat.reduceEqDiff,↓reduceIte,Nat.reduceAdd,Nat.reduceLeDiff,zz];with_reducible rfl)(he:rv T H e=some v:=by simp only[rv,ct,ZA,Nat.reduceEqDiff,↓reduceIte,Nat.reduceAdd,Nat.reduceLeDiff,zz];with_reducible rfl):bw T H K [a,b,c,d,e]:=r_5 ha hb hc hd he h
theorem vY{dm:DM}{K:SP}{l:List Op2}{d:Option Nat}{i:Ins}{r:AV}(k:am P dm l (aP T d r) H nx K)(hi:ic i=.val:=by rfl)(hd:dm2 dm T i=true:=by first|rfl|(simp (disch:=omega) only[dm2,th,wB,c7,ZA,Nat.reduceEqDiff,↓reduceIte,Nat.reduceAdd,Nat.reduceLeDiff,zz,iG];first|done|omega))(h:cw T H i=some r:=by(try simp (disch:=omega) only[c7,ZA,Nat.reduceEqDiff,↓reduceIte,Nat.reduceAdd,Nat.reduceLeDiff,ZV,reduceCtorEq,zz]);first|with_reducible rfl|(apply DY;(focus omega);with_reducible rfl)):am P dm (⟨d,none,i⟩::l) T H nx K:=po hi hd h k
theorem nvY{S:Hp}{K:SP}{l:List (Op2×Nat)}{d:Option Nat}{i:Ins}{r:AV}(k:bm P S l (aP T d r) H nx K)(h:cw T S i=some r:=by(try simp (disch:=omega) only[c7,ZA,Nat.reduceEqDiff,↓reduceIte,Nat.reduceAdd,Nat.reduceLeDiff,ZV,reduceCtorEq,zz]);first|with_reducible rfl|(apply DY;(focus omega);with_reducible rfl)):bm P S ((⟨d,none,i⟩,0)::l) T H nx K:=KM h k
theorem cY{dm:DM}{K:SP}{l:List Op2}{d:Option Nat}{f:Opd}{args:List Opd}{g:FuncId}{caps xs:List AV}{r:AV}(k:am P dm l (aP T d r) H nx K)(hf:ov T f=.func g caps:=by(try simp (disch:=omega) only[c7,ZA,Nat.reduceEqDiff,↓reduceIte,Nat.reduceAdd,Nat.reduceLeDiff,zz]);(try with_reducible rfl);first|done|fail)(ha:args.map (ov T)++caps=xs:=by(try simp (disch:=omega) only[c7,ZA,Nat.reduceEqDiff,↓reduceIte,Nat.reduceAdd,Nat.reduceLeDiff,zz]);(try with_reducible rfl);first|done|fail)(hp:Pure P g xs r)(hs:aq H xs xs r:=by(first|refine aB ?_ rfl|apply aL);(repeat' (first|exact aj|apply bk|(apply aN;(focus with_reducible assumption))));first|done|fail):am P dm (⟨d,none,.call f args⟩::l) T H nx K:=El hf ha hp hs k
theorem alY{dm:DM}{K:SP}{l:List Op2}{d:Option Nat}{z:AV}{cs:List AV}(k:am P dm l (aP T d (.ptr nx cs.length 0)) (ao H nx cs) (nx+1) K)(hd:dm2 dm T (.alloc z)=true:=by first|rfl|(simp (disch:=omega) only[dm2,th,wB,c7,ZA,Nat.reduceEqDiff,↓reduceIte,Nat.reduceAdd,Nat.reduceLeDiff,zz,iG];first|done|omega))(hc:z.cells=cs:=by(try simp (disch:=omega) only[c7,ZA,Nat.reduceEqDiff,↓reduceIte,Nat.reduceAdd,Nat.reduceLeDiff,zz]);(try with_reducible rfl);first|done|fail)(ho:AV.ones cs=true:=by simp (disch:=omega) only[SO,Bool.and_self,fA,eF,zz];first|done|fail):am P dm (⟨d,none,.alloc z⟩::l) T H nx K:=ql hd hc ho k
theorem bxY{dm:DM}{K:SP}{l:List Op2}{d:Option Nat}{x:Opd}{v:AV}{cs:List AV}(k:am P dm l (aP T d (.ptr nx cs.length 0)) (ao H nx cs) (nx+1) K)(hd:dm2 dm T (.box x)=true:=by first|rfl|(simp (disch:=omega) only[dm2,th,wB,c7,ZA,Nat.reduceEqDiff,↓reduceIte,Nat.reduceAdd,Nat.reduceLeDiff,zz,iG];first|done|omega))(hx:ov T x=v:=by(try simp (disch:=omega) only[c7,ZA,Nat.reduceEqDiff,↓reduceIte,Nat.reduceAdd,Nat.reduceLeDiff,zz]);(try with_reducible rfl);first|done|fail)(hc:v.cells=cs:=by(try simp (disch:=omega) only[c7,ZA,Nat.reduceEqDiff,↓reduceIte,Nat.reduceAdd,Nat.reduceLeDiff,zz]);(try with_reducible rfl);first|done|fail)(ho:AV.ones cs=true:=by simp (disch:=omega) only[SO,Bool.and_self,fA,eF,zz];first|done|fail):am P dm (⟨d,none,.box x⟩::l) T H nx K:=KI hd hx hc ho k
theorem stY{dm:DM}{K:SP}{l:List Op2}{d:Option Nat}{sz:Nat}{p x:Opd}{b n off:Nat}{v:AV}{cs vs:List AV}(k:am P dm l (aP T d (.tup [])) (ao H b (bB cs off vs)) nx K)(hd:dm2 dm T (.st sz p x)=true:=by first|rfl|(simp (disch:=omega) only[dm2,th,wB,c7,ZA,Nat.reduceEqDiff,↓reduceIte,Nat.reduceAdd,Nat.reduceLeDiff,zz,iG];first|done|omega))(hp:ov T p=.ptr b n off:=by(try simp (disch:=omega) only[c7,ZA,Nat.reduceEqDiff,↓reduceIte,Nat.reduceAdd,Nat.reduceLeDiff,zz]);(try with_reducible rfl);first|done|fail)(hx:ov T x=v:=by(try simp (disch:=omega) only[c7,ZA,Nat.reduceEqDiff,↓reduceIte,Nat.reduceAdd,Nat.reduceLeDiff,zz]);(try with_reducible rfl);first|done|fail)(hb:H b=some cs:=by(try simp (disch:=omega) only[c7,ZA,Nat.reduceEqDiff,↓reduceIte,Nat.reduceAdd,Nat.reduceLeDiff,zz]);(try with_reducible rfl);first|done|fail)(hc:v.cells=vs:=by(try simp (disch:=omega) only[c7,ZA,Nat.reduceEqDiff,↓reduceIte,Nat.reduceAdd,Nat.reduceLeDiff,zz]);(try with_reducible rfl);first|done|fail)(ho:AV.ones vs=true:=by simp (disch:=omega) only[SO,Bool.and_self,fA,eF,zz];first|done|fail)(hn:cs.length=n:=by(try simp only[SL,Nat.reduceAdd,Nat.reduceMul,bt]);first|done|omega)(hl:vs.length=sz:=by(try simp only[SL,Nat.reduceAdd,Nat.reduceMul,bt]);first|done|omega)(hf:off+sz<=n:=by(try simp only[SL,Nat.reduceAdd,Nat.reduceMul,bt]);first|done|omega):am P dm (⟨d,none,.st sz p x⟩::l) T H nx K:=L1 hd hp hx hb hc ho hn hl hf k
theorem blY{dm:DM}{K:SP}{l:List Op2}{d:Option Nat}{sz len:Nat}{z:List AV}{parts:List (Nat×Nat×Opd)}{pv:List (Nat×Nat×AV)}{cs:List AV}(k:am P dm l (aP T d (.msl nx cs.length sz 0 len)) (ao H nx cs) (nx+1) K)(hd:dm2 dm T (.bldS sz len z parts)=true:=by first|rfl|(simp (disch:=omega) only[dm2,th,wB,c7,ZA,Nat.reduceEqDiff,↓reduceIte,Nat.reduceAdd,Nat.reduceLeDiff,zz,iG];first|done|omega))(hl:len≠0:=by exact Nat.succ_ne_zero _)(hp:parts.map (λp=>(p.1,p.2.1,ov T p.2.2))=pv:=by(try simp (disch:=omega) only[c7,ZA,Nat.reduceEqDiff,↓reduceIte,Nat.reduceAdd,Nat.reduceLeDiff,zz]);(try with_reducible rfl);first|done|fail)(hc:eU (bv (.agg z) len) pv=some cs:=by(try simp (disch:=omega) only[c7,ZA,Nat.reduceEqDiff,↓reduceIte,Nat.reduceAdd,Nat.reduceLeDiff,SO,Bool.and_self,fA,eF,zz]);(try with_reducible rfl);first|done|fail):am P dm (⟨d,none,.bldS sz len z parts⟩::l) T H nx K:=KC hd hl hp hc k
theorem b0Y{dm:DM}{K:SP}{l:List Op2}{d:Option Nat}{sz:Nat}{z:List AV}(k:am P dm l (aP T d .esl) H nx K)(hd:dm2 dm T (.bldS sz 0 z [])=true:=by first|rfl|(simp (disch:=omega) only[dm2,th,wB,c7,ZA,Nat.reduceEqDiff,↓reduceIte,Nat.reduceAdd,Nat.reduceLeDiff,zz,iG];first|done|omega)):am P dm (⟨d,none,.bldS sz 0 z []⟩::l) T H nx K:=Hh hd k
theorem a0Y{dm:DM}{K:SP}{l:List Op2}{d:Option Nat}{sz bytes n:Nat}{s x:Opd}{v:AV}{new:List AV}(k:am P dm l (aP T d (.msl nx (n*sz) sz 0 n)) (ao H nx new) (nx+1) K)(hd:dm2 dm T (.app sz bytes s x)=true:=by first|rfl|(simp (disch:=omega) only[dm2,th,wB,c7,ZA,Nat.reduceEqDiff,↓reduceIte,Nat.reduceAdd,Nat.reduceLeDiff,zz,iG];first|done|omega))(hs:ov T s=.esl:=by(try simp (disch:=omega) only[c7,ZA,Nat.reduceEqDiff,↓reduceIte,Nat.reduceAdd,Nat.reduceLeDiff,zz]);(try with_reducible rfl);first|done|fail)(hx:ov T x=v:=by(try simp (disch:=omega) only[c7,ZA,Nat.reduceEqDiff,↓reduceIte,Nat.reduceAdd,Nat.reduceLeDiff,zz]);(try with_reducible rfl);first|done|fail)(hsrc:gC sz H v=some (n,new):=by first|exact iq|exact kr|exact qp|(apply gK;(focus ((try simp (disch:=omega) only[c7,ZA,Nat.reduceEqDiff,↓reduceIte,Nat.reduceAdd,Nat.reduceLeDiff,zz]);(try with_reducible rfl);first|done|fail));(iterate 2 (focus ((try simp only[SL,Nat.reduceAdd,Nat.reduceMul,bt]);first|done|omega))))|exact kL)(ho:AV.ones new=true:=by first|exact jw|exact oC|(simp only[SO,Bool.and_self,fA,eF,zz];first|done|fail))(h1:n*bytes<=140737488355328:=by(try simp only[SL,Nat.reduceAdd,Nat.reduceMul,bt]);first|done|omega)(h2:n<=9223372036854775807:=by(try simp only[SL,Nat.reduceAdd,Nat.reduceMul,bt]);first|done|omega):am P dm (⟨d,none,.app sz bytes s x⟩::l) T H nx K:=jG hd hs hx hsrc ho h1 h2 k
theorem apY{dm:DM}{K:SP}{l:List Op2}{d:Option Nat}{sz bytes n:Nat}{s x:Opd}{v:AV}{new cs:List AV}{b m len:Nat}(k:am P dm l (aP T d (.msl b ((len+n)*sz) sz 0 (len+n))) (ao H b (cs++new)) nx K)(hd:dm2 dm T (.app sz bytes s x)=true:=by first|rfl|(simp (disch:=omega) only[dm2,th,wB,c7,ZA,Nat.reduceEqDiff,↓reduceIte,Nat.reduceAdd,Nat.reduceLeDiff,zz,iG];first|done|omega))(hs:ov T s=.msl b m sz 0 len:=by(try simp (disch:=omega) only[c7,ZA,Nat.reduceEqDiff,↓reduceIte,Nat.reduceAdd,Nat.reduceLeDiff,zz]);(try with_reducible rfl);first|done|fail)(hb:H b=some cs:=by(try simp (disch:=omega) only[c7,ZA,Nat.reduceEqDiff,↓reduceIte,Nat.reduceAdd,Nat.reduceLeDiff,zz]);(try with_reducible rfl);first|done|fail)(hx:ov T x=v:=by(try simp (disch:=omega) only[c7,ZA,Nat.reduceEqDiff,↓reduceIte,Nat.reduceAdd,Nat.reduceLeDiff,zz]);(try with_reducible rfl);first|done|fail)(hsrc:gC sz H v=some (n,new):=by first|exact iq|exact kr|exact qp|(apply gK;(focus ((try simp (disch:=omega) only[c7,ZA,Nat.reduceEqDiff,↓reduceIte,Nat.reduceAdd,Nat.reduceLeDiff,zz]);(try with_reducible rfl);first|done|fail));(iterate 2 (focus ((try simp only[SL,Nat.reduceAdd,Nat.reduceMul,bt]);first|done|omega))))|exact kL)(ho:AV.ones new=true:=by first|exact jw|exact oC|(simp only[SO,Bool.and_self,fA,eF,zz];first|done|fail))(hm:cs.length=m:=by(try simp only[SL,Nat.reduceAdd,Nat.reduceMul,bt]);first|done|omega)(hl:m=len*sz:=by(try simp only[SL,Nat.reduceAdd,Nat.reduceMul,bt]);first|done|omega)(h1:(len+n)*bytes<=140737488355328:=by(try simp only[SL,Nat.reduceAdd,Nat.reduceMul,bt]);first|done|omega)(h2:len+n<=9223372036854775807:=by(try simp only[SL,Nat.reduceAdd,Nat.reduceMul,bt]);first|done|omega):am P dm (⟨d,none,.app sz bytes s x⟩::l) T H nx K:=BJ hd hs hb hx hsrc ho hm hl h1 h2 k
theorem gTY{dm:DM}{K:SP}{l:List Op2}{d:Option Nat}{i:Ins}{t:Nat}{w:Bool}(k:am P dm (⟨d,none,i⟩::l) T H nx K)(h:T t=.bool w:=by simp (disch:=omega) only[c7,ZA,Nat.reduceEqDiff,↓reduceIte,Nat.reduceAdd,Nat.reduceLeDiff,zz];first|done|fail):am P dm (⟨d,some (t,w),i⟩::l) T H nx K:=L0 h k
theorem gFY{dm:DM}{K:SP}{l:List Op2}{d:Option Nat}{i:Ins}{t:Nat}{w:Bool}(k:am P dm l (aP T d (.tup [])) H nx K)(h:T t=.bool (!w)\/T t=.tup []:=by simp (disch:=omega) only[c7,ZA,Nat.reduceEqDiff,↓reduceIte,Nat.reduceAdd,Nat.reduceLeDiff,or_true,true_or,zz];first|done|fail):am P dm (⟨d,some (t,w),i⟩::l) T H nx K:=MA h k
theorem cTY{K:CP}{c:Opd}{x y:C2}(h1:aM P x T H nx K)(hc:ov T c=.bool true:=by simp (disch:=omega) only[c7,ZA,Nat.reduceEqDiff,↓reduceIte,Nat.reduceAdd,Nat.reduceLeDiff,zz];first|done|fail):aM P (.cond c x y) T H nx K:=D1 hc h1
theorem cFY{K:CP}{c:Opd}{x y:C2}(h2:aM P y T H nx K)(hc:ov T c=.bool false:=by simp (disch:=omega) only[c7,ZA,Nat.reduceEqDiff,↓reduceIte,Nat.reduceAdd,Nat.reduceLeDiff,zz];first|done|fail):aM P (.cond c x y) T H nx K:=Em hc h2
theorem r1Y{K:AV->Prop}{a:RV}{x:AV}(h:K x)(ha:rv T H a=some x:=by simp (disch:=omega) only[rv,c7,ZA,Nat.reduceEqDiff,↓reduceIte,Nat.reduceAdd,Nat.reduceLeDiff,zz];with_reducible rfl):bw T H K [a]:=r_1 ha h
theorem r2Y{K:AV->Prop}{a b:RV}{x y:AV}(h:K (.tup [x,y]))(ha:rv T H a=some x:=by simp (disch:=omega) only[rv,c7,ZA,Nat.reduceEqDiff,↓reduceIte,Nat.reduceAdd,Nat.reduceLeDiff,zz];with_reducible rfl)(hb:rv T H b=some y:=by simp (disch:=omega) only[rv,c7,ZA,Nat.reduceEqDiff,↓reduceIte,Nat.reduceAdd,Nat.reduceLeDiff,zz];with_reducible rfl):bw T H K [a,b]:=r_2 ha hb h
theorem r3Y{K:AV->Prop}{a b c:RV}{x y z:AV}(h:K (.tup [x,y,z]))(ha:rv T H a=some x:=by simp (disch:=omega) only[rv,c7,ZA,Nat.reduceEqDiff,↓reduceIte,Nat.reduceAdd,Nat.reduceLeDiff,zz];with_reducible rfl)(hb:rv T H b=some y:=by simp (disch:=omega) only[rv,c7,ZA,Nat.reduceEqDiff,↓reduceIte,Nat.reduceAdd,Nat.reduceLeDiff,zz];with_reducible rfl)(hc:rv T H c=some z:=by simp (disch:=omega) only[rv,c7,ZA,Nat.reduceEqDiff,↓reduceIte,Nat.reduceAdd,Nat.reduceLeDiff,zz];with_reducible rfl):bw T H K [a,b,c]:=r_3 ha hb hc h
theorem r5Y{K:AV->Prop}{a b c d e:RV}{x y z u v:AV}(h:K (.tup [x,y,z,u,v]))(ha:rv T H a=some x:=by simp (disch:=omega) only[rv,c7,ZA,Nat.reduceEqDiff,↓reduceIte,Nat.reduceAdd,Nat.reduceLeDiff,zz];with_reducible rfl)(hb:rv T H b=some y:=by simp (disch:=omega) only[rv,c7,ZA,Nat.reduceEqDiff,↓reduceIte,Nat.reduceAdd,Nat.reduceLeDiff,zz];with_reducible rfl)(hc:rv T H c=some z:=by simp (disch:=omega) only[rv,c7,ZA,Nat.reduceEqDiff,↓reduceIte,Nat.reduceAdd,Nat.reduceLeDiff,zz];with_reducible rfl)(hd:rv T H d=some u:=by simp (disch:=omega) only[rv,c7,ZA,Nat.reduceEqDiff,↓reduceIte,Nat.reduceAdd,Nat.reduceLeDiff,zz];with_reducible rfl)(he:rv T H e=some v:=by simp (disch:=omega) only[rv,c7,ZA,Nat.reduceEqDiff,↓reduceIte,Nat.reduceAdd,Nat.reduceLeDiff,zz];with_reducible rfl):bw T H K [a,b,c,d,e]:=r_5 ha hb hc hd he h
class StW(A:Prop)(B:outParam Prop):Prop where st:B->A
class StO(A:Prop)(B:outParam Prop):Prop where st:B->A
class StM(A:Prop)(B:outParam Prop):Prop where st:B->A
theorem zW{A B:Prop}[i:StW A B](h:B):A:=i.st h
theorem zO{A B:Prop}[i:StO A B](h:B):A:=i.st h
theorem zM{A B:Prop}[i:StM A B](h:B):A:=i.st h
instance{K:CP}{x y:C2}:StW (aM P (.seq x y) T H nx K) (aM P x T H nx λe T H nx=>aS e (aM P y T H nx K) (K e T H nx)):=⟨dT⟩
instance{K:CP}{i:Nat}{b:C2}:StW (aM P (.block i b) T H nx K) (aM P b T H nx λe T H nx=>K (rN i e) T H nx):=⟨mI⟩
instance{K:CP}{b:C2}:StW (aM P (.loop b) T H nx K) (aZ (aM P b) T H nx K):=⟨LH⟩
instance{K:CP}:StO (aM P .skip T H nx K) (K .normal T H nx):=⟨LG⟩
instance{K:CP}{i:Nat}:StO (aM P (.exit i) T H nx K) (K (.exit i) T H nx):=⟨LW⟩
instance{K:CP}:StO (aM P .ret T H nx K) (K .ret T H nx):=⟨O6⟩
instance{K:CP}{l:List Op2}:StO (aM P (.ops 0 l) T H nx K) (am P .text l T H nx λT H nx=>K .normal T H nx):=⟨LB⟩
instance{K:CP}{l:List Op2}:StO (aM P (.ops 1 l) T H nx K) (am P .draw l T H nx λT H nx=>K .normal T H nx):=⟨Ml⟩
instance{K:CP}{l:List Op2}:StO (aM P (.ops 2 l) T H nx K) (am P (.fresh nx) l T H nx λT H nx=>K .normal T H nx):=⟨Ls⟩
instance{K:CP}{l:List Op2}{C:List Nat}:StO (aM P (.mix 1 l C) T H nx K) (am P .draw l T H nx λT H nx=>K .normal T H nx):=⟨w_mix1⟩
instance{K:CP}{l:List Op2}{C:List Nat}:StO (aM P (.mix 2 l C) T H nx K) (am P (.fresh nx) l T H nx λT H nx=>K .normal T H nx):=⟨pz⟩
instance{dm:DM}{K:SP}:StO (am P dm [] T H nx K) (K T H nx):=⟨jv⟩
instance{S:Hp}{K:SP}:StO (bm P S [] T H nx K) (K T H nx):=⟨w5⟩
instance{S:Hp}{K:SP}{l:List (Op2×Nat)}{d:Option Nat}{i:Ins}:StO (bm P S ((⟨d,none,i⟩,2)::l) T H nx K) (am P .text [⟨d,none,i⟩] T H nx λT H nx=>bm P S l T H nx K):=⟨iR⟩
instance{K:AV->Prop}:StO (bw T H K []) (K (.tup [])):=⟨r_0⟩
instance{K:CP}{l:List Op2}{C:List (Nat×Nat)}:StM (aM P (.mixS 1 l C) T H nx K) (am P .draw l T H nx λT H nx=>K .normal T H nx):=⟨JG⟩
instance{K:CP}{l:List Op2}{C:List (Nat×Nat)}:StM (aM P (.mixS 2 l C) T H nx K) (am P (.fresh nx) l T H nx λT H nx=>K .normal T H nx):=⟨Jk⟩
class NZ(b w:Bool)(p q:outParam Prop):Prop where
 t:b=w->p
 f:b=!w->q
instance(priority:=10){b:Bool}:NZ b true (b=true) (b=false):=⟨id,id⟩
instance(priority:=10){b:Bool}:NZ b false (b=false) (b=true):=⟨id,id⟩
instance{p:Prop}{i:Decidable p}:NZ (decide p) true p (¬p):=⟨nf,of_decide_eq_false⟩
instance{p:Prop}{i:Decidable p}:NZ (decide p) false (¬p) p:=⟨of_decide_eq_false,nf⟩
instance(priority:=2000):NZ true true True False:=⟨λ_=>trivial,λh=>by cases h⟩
instance(priority:=2000):NZ true false False True:=⟨λh=>(by cases h),λ_=>trivial⟩
instance(priority:=2000):NZ false true False True:=⟨λh=>(by cases h),λ_=>trivial⟩
instance(priority:=2000):NZ false false True False:=⟨λ_=>trivial,λh=>by cases h⟩
instance(priority:=2000){i:Decidable True}:NZ (decide True) true True False:=⟨λ_=>trivial,λh=>of_decide_eq_false h trivial⟩
instance(priority:=2000){i:Decidable True}:NZ (decide True) false False True:=⟨λh=>of_decide_eq_false h trivial,λ_=>trivial⟩
instance(priority:=2000){i:Decidable False}:NZ (decide False) true False True:=⟨nf,λ_=>trivial⟩
instance(priority:=2000){i:Decidable False}:NZ (decide False) false True False:=⟨λ_=>trivial,nf⟩
instance{b w:Bool}{p q:Prop}[i:NZ b w p q]:NZ (!b) w q p:=⟨λh=>i.f (by cases b<;>cases w<;>simp_all),λh=>i.t (by cases b<;>cases w<;>simp_all)⟩
class StG(A:Prop)(v:outParam AV)(w:outParam Bool)(B C:outParam Prop):Prop where
 st:∀b:Bool,v=.bool b->(b=w->B)->(b=!w->C)->A
instance{K:CP}{c:Opd}{x y:C2}:StG (aM P (.cond c x y) T H nx K) (ov T c) true (aM P x T H nx K) (aM P y T H nx K):=⟨λ_ h k1 k2=>Co h k1 k2⟩
instance{dm:DM}{K:SP}{l:List Op2}{d:Option Nat}{i:Ins}{t:Nat}:StG (am P dm (⟨d,some (t,true),i⟩::l) T H nx K) (T t) true (am P dm (⟨d,none,i⟩::l) (upd T t (.bool true)) H nx K) (am P dm l (aP (upd T t (.bool false)) d (.tup [])) H nx K):=⟨λ_ h k1 k2=>O5 h k1 k2⟩
instance{dm:DM}{K:SP}{l:List Op2}{d:Option Nat}{i:Ins}{t:Nat}:StG (am P dm (⟨d,some (t,false),i⟩::l) T H nx K) (T t) false (am P dm (⟨d,none,i⟩::l) (upd T t (.bool false)) H nx K) (am P dm l (aP (upd T t (.bool true)) d (.tup [])) H nx K):=⟨λ_ h k1 k2=>O5 h k1 k2⟩
theorem zGZ{A:Prop}{v:AV}{w b:Bool}{B C p q:Prop}[i:StG A v w B C][n:NZ b w p q](k1:p->B)(k2:q->C)(h:v=.bool b:=by(try simp only[ct,ZA,Nat.reduceEqDiff,↓reduceIte,Nat.reduceAdd,Nat.reduceLeDiff,zz]);(try with_reducible rfl);first|done|fail):A:=i.st b h (λh=>k1 (n.t h)) (λh=>k2 (n.f h))
theorem zGY{A:Prop}{v:AV}{w b:Bool}{B C p q:Prop}[i:StG A v w B C][n:NZ b w p q](k1:p->B)(k2:q->C)(h:v=.bool b:=by(try simp (disch:=omega) only[c7,ZA,Nat.reduceEqDiff,↓reduceIte,Nat.reduceAdd,Nat.reduceLeDiff,zz]);(try with_reducible rfl);first|done|fail):A:=i.st b h (λh=>k1 (n.t h)) (λh=>k2 (n.f h))
structure WkQ(B:Prop):Prop where
 q:B
class DatLI(l:List AV):Prop where
 d:∀x∈l,Dat x
instance:DatLI []:=⟨λ_ h=>(by cases h)⟩
instance{x:AV}{l:List AV}[h:DatI x][k:DatLI l]:DatLI (x::l):=⟨DatL.cons h.d k.d⟩
instance{l:List AV}[k:DatLI l]:DatI (.agg l):=⟨Dat.agg k.d⟩
instance{f:FuncId}{l:List AV}[k:DatLI l]:DatI (.func f l):=⟨Dat.func k.d⟩
instance{l:List AV}{n:Nat}[k:DatLI l]:DatI (.iptr l n):=⟨Dat.iptr k.d⟩
theorem wkZ{A B F:Prop}(zz:F)(k:B)(h:F->WkQ B->A:=by intro zz _q;(repeat' (first|refine zW ?_|refine zM ?_|apply a_n|apply a_x|apply a_r|refine zO ?_|refine vZ ?_|refine nvZ ?_|refine cZ ?_ (hp:=by assumption)|refine bxZ ?_|refine alZ ?_|refine blZ ?_|refine b0Z ?_|refine a0Z ?_|refine apZ ?_|refine stZ ?_|refine gTZ ?_|refine gFZ ?_|refine cTZ ?_|refine cFZ ?_|(refine zGZ ?_ ?_<;>(intro _hg;try (exfalso;omega)))|refine bC rfl ?_|refine r1Z ?_|refine r2Z ?_|refine r3Z ?_|refine r5Z ?_|refine yA rfl ?_|fail));first|(exact _q.q;done)|fail):A:=h zz ⟨k⟩
theorem wnZ{A B F:Prop}(zz:F)(k:B)(h:F->WkQ B->A:=by intro zz _q;(repeat' (first|refine zW ?_|apply a_n|apply a_x|apply a_r|refine zO ?_|refine vZ ?_|refine nvZ ?_|refine cZ ?_ (hp:=by assumption)|refine bxZ ?_|refine alZ ?_|refine blZ ?_|refine b0Z ?_|refine a0Z ?_|refine apZ ?_|refine stZ ?_|refine gTZ ?_|refine gFZ ?_|refine cTZ ?_|refine cFZ ?_|(refine zGZ ?_ ?_<;>(intro _hg;try (exfalso;omega)))|refine bC rfl ?_|refine r1Z ?_|refine r2Z ?_|refine r3Z ?_|refine r5Z ?_|refine yA rfl ?_|fail));first|(exact _q.q;done)|fail):A:=h zz ⟨k⟩
theorem wkY{A B F:Prop}(zz:F)(k:B)(h:F->WkQ B->A:=by intro zz _q;(repeat' (first|refine zW ?_|refine zM ?_|apply a_n|apply a_x|apply a_r|refine zO ?_|refine vY ?_|refine nvY ?_|refine cY ?_ (hp:=by assumption)|refine bxY ?_|refine alY ?_|refine blY ?_|refine b0Y ?_|refine a0Y ?_|refine apY ?_|refine stY ?_|refine gTY ?_|refine gFY ?_|refine cTY ?_|refine cFY ?_|(refine zGY ?_ ?_<;>(intro _hg;try (exfalso;omega)))|refine bC rfl ?_|refine r1Y ?_|refine r2Y ?_|refine r3Y ?_|refine r5Y ?_|refine yA rfl ?_|fail));first|(exact _q.q;done)|fail):A:=h zz ⟨k⟩
theorem wnY{A B F:Prop}(zz:F)(k:B)(h:F->WkQ B->A:=by intro zz _q;(repeat' (first|refine zW ?_|apply a_n|apply a_x|apply a_r|refine zO ?_|refine vY ?_|refine nvY ?_|refine cY ?_ (hp:=by assumption)|refine bxY ?_|refine alY ?_|refine blY ?_|refine b0Y ?_|refine a0Y ?_|refine apY ?_|refine stY ?_|refine gTY ?_|refine gFY ?_|refine cTY ?_|refine cFY ?_|(refine zGY ?_ ?_<;>(intro _hg;try (exfalso;omega)))|refine bC rfl ?_|refine r1Y ?_|refine r2Y ?_|refine r3Y ?_|refine r5Y ?_|refine yA rfl ?_|fail));first|(exact _q.q;done)|fail):A:=h zz ⟨k⟩
theorem zI3{a b c:Prop}(xa:a)(xb:b)(xc:c):a/\b/\c:=⟨xa,xb,xc⟩
theorem zI4{a b c d:Prop}(xa:a)(xb:b)(xc:c)(xd:d):a/\b/\c/\d:=⟨xa,xb,xc,xd⟩
theorem zI5{a b c d e:Prop}(xa:a)(xb:b)(xc:c)(xd:d)(xe:e):a/\b/\c/\d/\e:=⟨xa,xb,xc,xd,xe⟩
theorem zI6{a b c d e f:Prop}(xa:a)(xb:b)(xc:c)(xd:d)(xe:e)(xf:f):a/\b/\c/\d/\e/\f:=⟨xa,xb,xc,xd,xe,xf⟩
theorem zI7{a b c d e f g:Prop}(xa:a)(xb:b)(xc:c)(xd:d)(xe:e)(xf:f)(xg:g):a/\b/\c/\d/\e/\f/\g:=⟨xa,xb,xc,xd,xe,xf,xg⟩
theorem zI8{a b c d e f g h:Prop}(xa:a)(xb:b)(xc:c)(xd:d)(xe:e)(xf:f)(xg:g)(xh:h):a/\b/\c/\d/\e/\f/\g/\h:=⟨xa,xb,xc,xd,xe,xf,xg,xh⟩
theorem zI9{a b c d e f g h i:Prop}(xa:a)(xb:b)(xc:c)(xd:d)(xe:e)(xf:f)(xg:g)(xh:h)(xi:i):a/\b/\c/\d/\e/\f/\g/\h/\i:=⟨xa,xb,xc,xd,xe,xf,xg,xh,xi⟩
theorem lu{a b c d e f g h i j:Prop}(xa:a)(xb:b)(xc:c)(xd:d)(xe:e)(xf:f)(xg:g)(xh:h)(xi:i)(xj:j):a/\b/\c/\d/\e/\f/\g/\h/\i/\j:=⟨xa,xb,xc,xd,xe,xf,xg,xh,xi,xj⟩
theorem lpI{b:C2}{K:CP}{X:Type}(L:X->List (Nat×AV))(I:X->Hp->Nat->Prop)(μ:X->Nat)(x0:X)(h0:I x0 H nx)
    (step:∀x H nx,I x H nx->aM P b (tl (L x)) H nx λe T H' nx'=>aS e (∃y,μ y<μ x/\I y H' nx'/\agr T (L y)) (K e T H' nx')) (hT:agr T (L x0):=by(repeat' (first|exact trivial|refine And.intro rfl ?_));first|done|fail):aZ (aM P b) T H nx K:=ca L I μ x0 h0 hT step
theorem eR{dm:DM}{K:SP}{l:List Op2}{d:Option Nat}{sz bytes k:Nat}{s x:Opd}{sv xv:AV}{cs new:List AV}(hrow:Row H sz sv cs)(next:∀(sv':AV)(H':Hp)(nx':Nat),Row H' sz sv' (cs++new)->nx<=nx'->nx'<=nx+1->(∀i,i<nx->cf sv≠some i->H' i=H i)->(∀b,cf sv'=some b->cf sv=some b\/b=nx/\nx'=nx+1)->am P dm l (aP T d sv') H' nx' K)(hd:dm2 dm T (.app sz bytes s x)=true:=by rfl)(hs:ov T s=sv:=by(try simp only[ct,ZA,Nat.reduceEqDiff,↓reduceIte,Nat.reduceAdd,Nat.reduceLeDiff]);(try with_reducible rfl);first|done|fail)(hx:ov T x=xv:=by(try simp only[ct,ZA,Nat.reduceEqDiff,↓reduceIte,Nat.reduceAdd,Nat.reduceLeDiff]);(try with_reducible rfl);first|done|fail)(hsrc:gC sz H xv=some (k,new):=by first|exact jh|exact r6|fail)(ho:AV.ones new=true:=by rfl)(hk:new.length=k*sz:=by rfl)(hz:0<sz:=by first|exact ng|omega|fail)(h1:(cs.length+k)*bytes<=140737488355328:=by first|(rw[bt];omega)|omega|fail)(h2:cs.length+k<=9223372036854775807:=by first|(rw[bt];omega)|omega|fail):am P dm (⟨d,none,.app sz bytes s x⟩::l) T H nx K:=mY hd hs hrow hx hsrc ho hk hz h1 h2 next
end Go.Abs
namespace Go.Abs
open Go.RowKit
theorem Snap.self{H H':Hp}{x y:AV}(h:Snap H x y):Snap H' y y:=by
 induction h with
 |bool b=>exact .bool _
 |int k n=>exact .int _ _
 |str s=>exact .str _
 |nilp=>exact .nilp
 |nilf=>exact .nilf
 |nilm=>exact .nilm
 |esl=>exact .esl
 |eslsl sz=>exact .slnil _ _
 |sl sz l l' hl hc h ih=>
  refine .sl sz l' l' rfl (λi x y hx hy=>by rw[hx] at hy;cases hy;rfl) (λi j x y a b hx hy ha hb=>?_);rw[hx] at hy;cases hy;rw[ha] at hb;cases hb;have hlt:i<l.length:=by rw[hl];exact(bN.1 hx).1
  have hz:l[i]?=some l[i]:=by simp[hlt]
  have hcl:=hc i _ _ hz hx;have hj:j<l[i].cells.length:=by rw[<-hcl];exact(bN.1 ha).1
  exact ih i j l[i] x l[i].cells[j] a hz hx (by simp[hj]) ha
 |slnil sz sz'=>exact .slnil _ _
 |msl b n sz off len cs l' hb hn hfit hl hc h ih=>
  refine .sl sz l' l' rfl (λi x y hx hy=>by rw[hx] at hy;cases hy;rfl) (λi j x y a c hx hy ha hc'=>?_);rw[hx] at hy;cases hy;rw[ha] at hc';cases hc';have hi:i<len:=by rw[<-hl];exact(bN.1 hx).1
  have hj:j<sz:=by rw[<-hc x (ib hx)];exact(bN.1 ha).1
  have hlt:off+i*sz+j<cs.length:=by
   have:(i+1)*sz<=len*sz:=mO _ hi;rw[gd] at this;omega
  exact ih i j x cs[off+i*sz+j] a hx ha (by simp[hlt])
 |mslnil b n sz off sz'=>exact .slnil _ _
 |ptr b n off cs cs' hb hn hl h ih=>
  refine .iptr cs' cs' off rfl (λi a c ha hc=>?_);rw[ha] at hc;cases hc;have hlt:i<cs.length:=by rw[hn,<-hl];exact(bN.1 ha).1
  exact ih i cs[i] a (by simp[hlt]) ha
 |iptr cs cs' off hl h ih=>
  refine .iptr cs' cs' off rfl (λi a c ha hc=>?_);rw[ha] at hc;cases hc;have hlt:i<cs.length:=by rw[<-hl];exact(bN.1 ha).1
  exact ih i cs[i] a (by simp[hlt]) ha
 |func f cs cs' hl h ih=>
  refine .func f cs' cs' rfl (λi a c ha hc=>?_);rw[ha] at hc;cases hc;have hlt:i<cs.length:=by rw[<-hl];exact(bN.1 ha).1
  exact ih i cs[i] a (by simp[hlt]) ha
 |agg cs cs' hl h ih=>
  refine .agg cs' cs' rfl (λi a c ha hc=>?_);rw[ha] at hc;cases hc;have hlt:i<cs.length:=by rw[<-hl];exact(bN.1 ha).1
  exact ih i cs[i] a (by simp[hlt]) ha
 |tup cs cs' hl h ih=>
  refine .tup cs' cs' rfl (λi a c ha hc=>?_);rw[ha] at hc;cases hc;have hlt:i<cs.length:=by rw[<-hl];exact(bN.1 ha).1
  exact ih i cs[i] a (by simp[hlt]) ha
theorem Fn.of_pureZ{P:Program}{f:FuncId}{args args':List AV}{r:AV}(hp:Pure P f args' r){H Hf H':Hp}{nx:Nat}(hsub:∀b cs,Hf b=some cs->H b=some cs)(hH:∀b cs,H' b=some cs->H b=some cs/\Hf b=none)(hs:aO Hf args args')
    {R:AV->Hp->Nat->Prop} (hR:R r H' nx):Fn P f args H nx R:=by
 refine⟨hp.1,λE w vs hE hh hfr hv=>?_⟩
 have hsim:Sim E {n:=vs.length} ⟨T0 args,H,nx⟩ {tmps:=vs.toArray,defers:=[]} w:=by
  refine⟨hE,hh,hfr,λl hl=>(by cases hl),bW _,by simp,λt=>?_,⟨lS,λd hd=>(by cases hd)⟩⟩;show Rel E w (T0 args t) (vs.toArray.getD t Go.undef);by_cases ht:t<args.length
  ·have h1:args[t]?=some args[t]:=by simp[ht]
   have h2:vs[t]?=some (vs[t]'(by rw[hv.1];exact ht)):=by simp[hv.1,ht]
   have:=hv.2 t _ _ h1 h2;have e1:T0 args t=args[t]:=by simp[T0,List.getD,ht]
   have e2:vs.toArray.getD t Go.undef=vs[t]'(by rw[hv.1];exact ht):=by simp[Array.getD,hv.1,ht]
   rw[e1,e2];exact this
  ·have e1:T0 args t=.undef:=by simp[T0,List.getD,ht]
   rw[e1];exact .undef _
 have hg:Gh (T0 args) H nx (T0 args') H' nx Hf:=by
  refine⟨hsub,aJ _,λb cs' hb=>?_,λt=>?_⟩
  ·obtain⟨h1,h2⟩:=hH b cs' hb;exact .inl ⟨cs',h1,h2,rfl,λi x x' hx hx'=>.inl (by rw[hx] at hx';cases hx';rfl)⟩
  ·by_cases ht:t<args.length
   ·have h1:args[t]?=some args[t]:=by simp[ht]
    have h2:args'[t]?=some (args'[t]'(by rw[hs.1];exact ht)):=by simp[hs.1,ht]
    have:=hs.2 t _ _ h1 h2;have e1:T0 args t=args[t]:=by simp[T0,List.getD,ht]
    have e2:T0 args' t=args'[t]'(by rw[hs.1];exact ht):=by simp[T0,List.getD,hs.1,ht]
    right;right;left;rw[e1,e2];exact this
   ·left;simp[T0,List.getD,hs.1,ht]
 obtain⟨E',he,hsim'⟩:=hsim.ghost hg
 have hself:aO b9 args' args':=⟨rfl,fun i x y hx hy=>by
  rw[hx] at hy;cases hy;have hlt:i<args.length:=by rw[<-hs.1];exact(bN.1 hx).1
  exact(hs.2 i args[i] x (by simp[hlt]) hx).self⟩
 have hv':d6 E' w args' vs:=by
  refine⟨by rw[hv.1,hs.1],λi x v hx hvi=>?_⟩;have hlt:i<vs.length:=(bN.1 hvi).1;have hla:i<args'.length:=(bN.1 hx).1;have:=hsim'.tmps i
  have e1:T0 args' i=x:=by
   have:=(bN.1 hx).2;simp[T0,List.getD,hx]
  have e2:vs.toArray.getD i Go.undef=v:=by
   have:=(bN.1 hvi).2;simp[Array.getD,hlt,this]
  simp only at this;rw[e1,e2] at this;exact this
 refine((Fn.of_pure hp (.inl hself) (H:=H') (nx:=nx) (R:=R) hR).2 E' w vs hsim'.env hsim'.heap hsim'.fresh hv').mono ?_;rintro e w' ⟨v,E2,r2,H2,nx2,k1,k2,k3,k4,k5,k6,k7⟩;exact⟨v,E2,r2,H2,nx2,k1,he.trans k2,k3,k4,k5,k6,k7⟩
end Go.Abs
namespace Go.Abs
open Go Go.RowKit
def yV(W:World):Nat->Prop:=λb=>b<W.heap.size
theorem FJ{W:World}{a:Addr}{v:Value}(h:W.cell? a=some v):yV W a.block/\a.spot=none:=by
 unfold World.cell? at h;unfold yV;cases hb:W.heap[a.block]? with
 |none=>simp[hb] at h
 |some o=>
  refine⟨(jL.1 hb).1,?_⟩;cases hs:a.spot with
  |none=>rfl
  |some s=>cases o<;>simp[hb,hs] at h
section
variable{H:Type}{enc:TypeId×Value->H}{P:Program}{W:World}
def gH(enc:TypeId×Value->H)(P:Program)(W:World)(t:TypeId){α:Type}(f:α->AV)(good:α->Prop):Prop:=
 ∀(n:Nat)(cs:List Value)(x:DataW H×List MemPlace),DataW.trod enc P W 0 (λ_=>true) true n t cs=some x->(∀k∈x.1.weights P t,k<=reachBytes)->∃a:α,good a/\d6 (E0 (yV W)) W (f a).cells cs
theorem gH.mono{t:TypeId}{α:Type}{f:α->AV}{good good':α->Prop}(h:gH enc P W t f good)(hg:∀a,good a->good' a):gH enc P W t f good':=
 λn cs x hx hw=>let ⟨a,h1,h2⟩:=h n cs x hx hw;⟨a,hg a h1,h2⟩
theorem uc {E:Env} {w:World} {x:AV} {y:Value} (h:Rel E w x y):d6 E w [x] [y]:=⟨rfl,fun i a b ha hb=>by
 cases i with
 |zero=>simp at ha hb;subst ha hb;exact h
 |succ i=>simp at ha⟩
theorem d6.app{E:Env}{w:World}{xs xs':List AV}{ys ys':List Value}(h:d6 E w xs ys)(h':d6 E w xs' ys'):d6 E w (xs++xs') (ys++ys'):=by
 have hl:xs.length=ys.length:=h.1.symm;refine⟨by simp[h.1,h'.1],λi a b ha hb=>?_⟩;by_cases hi:i<xs.length
 ·rw[iI hi] at ha;rw[iI (by omega)] at hb;exact h.2 i a b ha hb
 ·rw[jH (by omega)] at ha;rw[jH (by omega)] at hb;rw[hl] at ha;exact h'.2 _ a b ha hb
theorem Gk{t:TypeId}{k:IntKind}(ht:P.underlying t=some (.int k)):gH enc P W t (AV.int k) (λn=>(Lit.int k n).wf=true):=λn cs x hx _=>by
 obtain⟨a,rfl,rfl,hw⟩:=DataW.trod_int ht hx;exact⟨a,hw,uc (.int _ _)⟩
theorem vK{e:TypeId}{l:List (DataW H)}{d:DataW H}(h:d∈l){k:Nat}(hk:k∈d.weights P e):k∈DataW.weightsAll P e l:=by
 induction l with
 |nil=>cases h
 |cons a l ih=>
  unfold DataW.weightsAll;rcases cU.1 h with rfl|h
  ·exact nj _ hk
  ·exact mh _ (ih h)
theorem AX{α:Type}{len:Nat}{Q:Nat->α->Prop}(h:∀i,i<len->∃a,Q i a):∃l:List α,l.length=len/\∀i a,l[i]?=some a->Q i a:=by
 induction len with
 |zero=>exact⟨[],rfl,λi a h=>by simp at h⟩
 |succ n ih=>
  obtain⟨l,h1,h2⟩:=ih (λi hi=>h i (by omega));obtain⟨a,ha⟩:=h n (by omega);refine⟨l++[a],by simp[h1],λi b hb=>?_⟩;by_cases hi:i<l.length
  ·rw[iI hi] at hb;exact h2 i b hb
  ·rw[jH (by omega)] at hb
   have:i-l.length=0:=by
    by_cases h0:i-l.length=0
    ·exact h0
    ·rw[List.getElem?_eq_none (by simp;omega)] at hb;cases hb
   rw[this] at hb;simp at hb;subst hb;have:i=n:=by omega
   subst this;exact ha
theorem sN{t e:TypeId}{sz by_:Nat}{α:Type}{f:α->AV}{good:α->Prop}(ht:P.underlying t=some (.slice e))(hsz:P.cellsOf e=sz)(hby:P.bytesOf e=by_)(hpos:0<sz)(hc:∀a,(f a).cells.length=sz)
    (he:gH enc P W e f good):gH enc P W t (iO sz f) (λl=>(∀a∈l,good a)/\l.length<=9223372036854775807/\l.length*by_<=140737488351232):=λn cs x hx hw=>by
 rcases Go.Deep.open_slice ht hx with⟨rfl,rfl⟩|⟨a,len,cap,m,n',D,Pl,rfl,hb,hlc,hcm,hm,hxe,hel⟩
 ·exact⟨[],⟨λ_ h=>(by cases h),by simp,by simp⟩,uc (.slnil _)⟩
 simp only[if_true] at hm;subst hxe;subst hm;have hw':∀k∈((DataW.slice (H:=H) ((List.range len).map D) ((List.range (m-len)).map λj=>D (len+j))).weights P t),k<=reachBytes:=hw;simp only[DataW.weights,ht] at hw';have hlen:(((List.range len).map D).length+((List.range (m-len)).map λj=>D (len+j)).length)*P.bytesOf e<=reachBytes:=hw' _ (cW ..)
 have hbd:len*by_<=140737488351232:=by
  rw[hby] at hlen;simp only[bt,List.length_range] at hlen;have h1:len*by_<=(len+(m-len))*by_:=mO _ (by omega);have h2:reachBytes=140737488351232:=rfl;omega
 have hlm:len<=9223372036854775807:=fp hlc hcm
 have key:∀i,i<len->∃a':α,good a'/\∃cs',W.cells? 0 (a.add (i*sz)) sz=some cs'/\d6 (E0 (yV W)) W (f a').cells cs':=λi hi=>by
  obtain⟨cs',h1,h2⟩:=hel i (by omega);rw[hsz] at h1;obtain⟨a',g1,g2⟩:=he n' cs' _ h2 (λk hk=>hw' k (dS _ (nj _ (vK (bu.2 ⟨i,du.2 hi,rfl⟩) hk))));exact⟨a',g1,cs',h1,g2⟩
 obtain⟨l,hl,hq⟩:=AX key;refine⟨l,⟨λx hx=>?_,by omega,by rw[hl];exact hbd⟩,uc ?_⟩
 ·obtain⟨i,hi⟩:=zQ hx;exact(hq i x hi).1
 by_cases h0:len=0
 ·subst h0;have:l=[]:=fj.1 hl;subst this;exact .slempty _ _ _
 have hcell:∀i j,i<len->j<sz->∃v,W.cell? ((a.add (i*sz)).add j)=some v:=λi j hi hj=>by
  obtain⟨a',_,cs',h1,h2⟩:=key i hi;unfold World.cells? at h1;rw[if_pos (bW _)] at h1;have h3:=mapM_some_get h1 j j (by simp[hj])
  have h4:j<cs'.length:=by
   have:=mapM_some_length h1;simp at this;omega
  exact⟨cs'[j],by rw[h3];simp[h4]⟩
 obtain⟨v0,hv0⟩:=hcell 0 0 (by omega) hpos;have ho:=FJ hv0;simp only[wt,Addr.add,if_true] at ho;obtain⟨blk,off,sp⟩:=a;obtain⟨ho,hsp⟩:=ho;simp only at hsp ho;subst hsp
 have hadd:∀i j,((⟨blk,off,none⟩:Addr).add (i*sz)).add j=⟨blk,off+(i*sz+j),none⟩:=λi j=>by
  rw[da,da,ra]
 have hcell':∀k,k<len*sz->∃v,W.cell? ⟨blk,off+k,none⟩=some v:=λk hk=>by
  have h1:k/sz<len:=Nat.div_lt_of_lt_mul (by rw[Nat.mul_comm];exact hk);have h2:k%sz<sz:=Nat.mod_lt _ hpos;obtain⟨v,hv⟩:=hcell (k/sz) (k%sz) h1 h2;rw[hadd,Nat.div_add_mod'] at hv;exact⟨v,hv⟩
 have hlen2:(l.map f).length=len:=by simp[hl]
 have:=Rel.sl (E:=E0 (yV W)) (w:=W) sz (l.map f) blk off m (λk=>(W.cell? ⟨blk,off+k,none⟩).getD Go.undef) ho (by rw[hlen2];exact hlc)
  (λx hx=>by obtain⟨b,_,rfl⟩:=bu.1 hx;exact hc b)
  (fun k hk=>by
   rw[hlen2] at hk;obtain⟨v,hv⟩:=hcell' k hk;simp only[hv,ru])
  (fun i j x y hx hy=>by
   rw[lf,Option.map_eq_some_iff] at hx;obtain⟨a',ha',rfl⟩:=hx;obtain⟨_,cs',h1,h2⟩:=hq i a' ha'
   have hj:j<sz:=by
    have:=(bN.1 hy).1
    rwa [hc] at this
   have hi:i<len:=by
    have:=(bN.1 ha').1;omega
   unfold World.cells? at h1;rw[if_pos (bW _)] at h1;have h3:=mapM_some_get h1 j j (by simp[hj])
   have h4:j<cs'.length:=by
    have:=mapM_some_length h1;simp at this;omega
   rw[hadd] at h3;have h5:cs'[j]?=some cs'[j]:=by simp[h4]
   rw[h5] at h3;simp only[h3,ru];exact h2.2 j y _ hy h5)
 rw[hlen2] at this;exact this
def yI(enc:TypeId×Value->H)(P:Program)(W:World)(fs:List Field)(off:Nat){α:Type}(g:α->List AV)(good:α->Prop):Prop:=
 ∀(n tot:Nat)(cs:List Value)(ys:List (DataW H×List MemPlace)),ys.length=fs.length->(∀(i:Nat)(f:Field),fs[i]?=some f->DataW.trod enc P W 0 (λ_=>true) true n f.type ((cs.drop f.offset).take (P.cellsOf f.type))=ys[i]?)->
  (∀k∈DataW.weightsEach P (fs.map λf:Field=>f.type) (ys.map (·.1)),k<=reachBytes)->cs.length=tot->tot=off+(fs.map λf:Field=>P.cellsOf f.type).sum->∃a:α,good a/\d6 (E0 (yV W)) W (g a) (cs.drop off)
theorem wg{off:Nat}:yI enc P W [] off (λ_:Unit=>[]) (λ_=>True):=λn tot cs ys _ _ _ h1 h2=>by
 refine⟨(),trivial,?_⟩;rw[CF (by simp at h2;omega)];exact⟨rfl,λi a b h=>by simp at h⟩
theorem ou{fd:Field}{fs:List Field}{off off':Nat}{α β:Type}{f:α->AV}{g:β->List AV}{good:α->Prop}{good':β->Prop}(ho:fd.offset=off)(ho':off+P.cellsOf fd.type=off')
    (h:gH enc P W fd.type f good) (h':yI enc P W fs off' g good'):yI enc P W (fd::fs) off (λa:α×β=>(f a.1).cells++g a.2) (λa=>good a.1/\good' a.2):=λn tot cs ys hl hy hw h1 h2=>by
 obtain⟨y,ys,rfl⟩:∃y ys',ys=y::ys':=by
  cases ys with
  |nil=>simp at hl
  |cons y ys=>exact⟨y,ys,rfl⟩
 have hy0:=hy 0 fd rfl;simp only[vU] at hy0;rw[ho] at hy0;simp only[ff,DataW.weightsEach] at hw;obtain⟨a,g1,g2⟩:=h n _ y hy0 (λk hk=>hw k (nj _ hk));simp only[ff,List.sum_cons] at h2
 obtain ⟨b,g3,g4⟩:=h' n tot cs ys (by simpa using hl) (fun i f hf=>by
  have:=hy (i+1) f (by simpa using hf);simpa using this) (λk hk=>hw k (mh _ hk)) h1 (by omega)
 refine⟨(a,b),⟨g1,g3⟩,?_⟩
 have e:cs.drop off=(cs.drop off).take (P.cellsOf fd.type)++cs.drop off':=by
  rw[<-ho',<-List.drop_drop,Cf]
 rw[e];exact d6.app g2 g4
theorem qa{t:TypeId}{fs:Array Field}{α:Type}{g:α->List AV}{good:α->Prop}(ht:P.underlying t=some (.struct fs))(hsum:P.cellsOf t=(fs.toList.map λf:Field=>P.cellsOf f.type).sum)
    (h:yI enc P W fs.toList 0 g good):gH enc P W t (λa=>.agg (g a)) good:=λn cs x hx hw=>by
 obtain⟨ys,n',rfl,rfl,hl,hs,hy⟩:=DataW.trod_struct ht hx
 obtain ⟨a,g1,g2⟩:=h n' _ cs ys (by rw [hs]; simp) (fun i f hf=>hy i f (by simpa using hf)) (fun k hk=>hw k (by
  simp only[DataW.weights,ht];exact hk)) hl (by rw[cE,hsum])
 exact⟨a,g1,by rw[List.drop_zero] at g2;exact g2⟩
theorem gH.map{t:TypeId}{α β:Type}{f:α->AV}{good:α->Prop}{f':β->AV}{good':β->Prop}(h:gH enc P W t f good)(φ:α->β)(hg:∀a,good a->good' (φ a))(hf:∀a,good a->(f' (φ a)).cells=(f a).cells):gH enc P W t f' good':=λn cs x hx hw=>by
 obtain⟨a,h1,h2⟩:=h n cs x hx hw;exact⟨φ a,hg a h1,by rw[hf a h1];exact h2⟩
theorem gH.at{t u:TypeId}{α:Type}{f:α->AV}{good:α->Prop}(e:t=u)(h:gH enc P W u f good):gH enc P W t f good:=e▸h
theorem gH.argA{t:TypeId}{α:Type}{f:α->AV}{good:α->Prop}(h:gH enc P W t f good){r:Reach}{base:Nat}{v:Value}{d:DataW H}{ps:List MemPlace}(ht:vF P t=true)(hf:∀a,∃cs,f a=.agg cs)
    (hval:Value.okWide P W r base t v) (hd:DataW.Trod enc P W 0 (λ_=>true) true t v d ps) (hw:∀k∈d.weights P t,k<=reachBytes):∃a,good a/\Rel (E0 (yV W)) W (f a) v:=by
 obtain⟨n,hn⟩:=hd;obtain⟨a,h1,h2⟩:=h n _ _ hn hw;refine⟨a,h1,?_⟩
 obtain⟨cs,hcs,_⟩:∃cs,v=.agg cs/\True:=by
  unfold Value.okWide at hval;unfold vF at ht;split at hval
  ·obtain⟨cs,h,_⟩:=hval;exact⟨cs,h,trivial⟩
  ·obtain⟨cs,h,_⟩:=hval;exact⟨cs,h,trivial⟩
  ·rename_i k1 k2;revert ht;cases hu:P.underlying t with
   |none=>simp
   |some u=>
    cases u with
    |struct fs=>exact absurd hu (k1 fs)
    |array m e=>exact absurd hu (k2 m e)
    |_=>simp
 subst hcs;obtain⟨xs,hx⟩:=hf a;rw[hx] at h2 |-;exact .agg xs cs.toList h2.1 h2.2
theorem pr(hl:laidOutB P=true){W':World}(hb:Below W.heap.size W W'){sp:Nat->Bool}:∀{ts:List TypeId}{vs:List Value}{ds:List (DataW H)}{ps:List MemPlace},(∀t∈ts,P.readableRec t=true/\t<P.types.size)->
    DataW.TrodAll enc P W 0 (λ_=>true) true ts vs ds ps->(∀p∈ps,p.block<W.heap.size)->(∀p∈ps,sp p.block=true)->DataW.TrodAll enc P W' 0 sp true ts vs ds ps
 |[],[],[],ps,_,h,_,_=>h
 |t::ts,v::vs,d::ds,ps,hr,⟨p,q,h1,h2,e⟩,hlt,hsp=>by
  subst e
  exact ⟨p,q,WideElems.Trod_stays hl (hr t (cW ..)).1 (hr t (cW ..)).2 h1 (fun x hx=>hb.same (hlt x (nj _ hx))) (fun x hx=>hsp x (nj _ hx)),
   pr hl hb (λt ht=>hr t (dS _ ht)) h2 (λx hx=>hlt x (mh _ hx)) (λx hx=>hsp x (mh _ hx)),rfl⟩
 |[],_::_,_,_,_,h,_,_=>h.elim
 |[],[],_::_,_,_,h,_,_=>h.elim
 |_::_,[],_,_,_,h,_,_=>h.elim
 |_::_,_::_,[],_,_,h,_,_=>h.elim
theorem oB:∀{ts:List TypeId}{ds:List (DataW H)}{i:Nat}{t:TypeId}{d:DataW H},ts[i]?=some t->ds[i]?=some d->∀k∈d.weights P t,k∈DataW.weightsEach P ts ds
 |t::ts,d::ds,0,_,_,h1,h2,k,hk=>by
  simp at h1 h2;subst h1 h2;unfold DataW.weightsEach;exact nj _ hk
 |t::ts,d::ds,i+1,_,_,h1,h2,k,hk=>by
  unfold DataW.weightsEach;exact mh _ (oB (ts:=ts) (ds:=ds) (by simpa using h1) (by simpa using h2) k hk)
 |[],_,i,_,_,h1,_,_,_=>by simp at h1
 |_::_,[],i,_,_,_,h2,_,_=>by simp at h2
end
end Go.Abs
namespace Go.Proofs.YtekdaafnjdlenaaGreat
open Go Go.Abs Go.Abs.C2 Go.Abs.Ins Go.Abs.Opd Go.Abs.TK Go.Abs.MK
def cO(d:Nat)(i:Ins):Op2:=Op2.mk (some d) none i
def cG(d g:Nat)(b:Bool)(i:Ins):Op2:=Op2.mk (some d) (some (g,b)) i
def cN(k:Int):Opd:=Opd.c (AV.int IntKind.i64 k)
def cM(n:Nat):Ins:=Ins.mov (Opd.t n)
def cD(n:Nat):Ins:=Ins.ld1 (Opd.t n)
def cF(n:Nat):Opd:=Opd.c (AV.func n [])
def cB(o:BinOp)(x y:Opd):Ins:=Ins.bin o false false x y
def Ia:Opd:=Opd.c (AV.bool false)
def Jn:Opd:=Opd.c (AV.bool true)
def aa(d s:Nat):Op2:=Op2.mk (some d) none (Ins.mov (Opd.t s))
def aG(d s:Nat):Op2:=Op2.mk (some d) none (Ins.ld1 (Opd.t s))
def bi(d n s:Nat):Op2:=Op2.mk (some d) none (Ins.ldn n (Opd.t s))
def bj(d s:Nat):Op2:=Op2.mk (some d) none (Ins.lenS (Opd.t s))
def b0(d n s:Nat):Op2:=Op2.mk (some d) none (Ins.fa n (Opd.t s))
def aW(d s n:Nat):Op2:=Op2.mk (some d) none (Ins.ext (Opd.t s) n)
def aF(d f:Nat)(l:List Opd):Op2:=Op2.mk (some d) none (Ins.call (Opd.c (AV.func f [])) l)
def bl(d:Nat)(o:BinOp)(x y:Nat):Op2:=Op2.mk (some d) none (Ins.bin o false false (Opd.t x) (Opd.t y))
def aA(d:Nat)(o:BinOp)(x:Nat)(y:Int):Op2:=Op2.mk (some d) none (Ins.bin o false false (Opd.t x) (Opd.c (AV.int IntKind.i64 y)))
def bz(n p v:Nat):Op2:=Op2.mk none none (Ins.st n (Opd.t p) (Opd.t v))
def bA(d g:Nat)(i:Ins):Op2:=Op2.mk (some d) (some (g,false)) i
def ap(d g:Nat)(i:Ins):Op2:=Op2.mk (some d) (some (g,true)) i
def cV(n:Nat)(x y:C2):C2:=C2.cond (Opd.t n) x y
def ac(l:List Op2)(x:C2):C2:=C2.seq (C2.ops 0 l) x
def dQ(k b:Nat):C2:=C2.ops 0 [Op2.mk (some k) none (Ins.bin BinOp.add false false (Opd.t b) (Opd.c (AV.int IntKind.i64 1))),Op2.mk (some b) none (Ins.mov (Opd.t k))]
def JN(k n:Nat)(x:C2):C2:=C2.seq (C2.cond (Opd.t k) C2.skip (C2.exit n)) x
def dX(k a b n:Nat)(x:C2):C2:=C2.seq (C2.ops 0 [Op2.mk (some k) none (Ins.bin BinOp.lss false false (Opd.t a) (Opd.t b))]) (C2.seq (C2.cond (Opd.t k) C2.skip (C2.exit n)) x)
def aE(d:Nat)(k:Int):Op2:=Op2.mk (some d) none (Ins.mov (Opd.c (AV.int IntKind.i64 k)))
def fS(d p a:Nat):Op2:=Op2.mk (some d) none (Ins.pick (Opd.t p) (Opd.c (AV.bool true)) (Opd.t a))
def dx(d p a:Nat):Op2:=Op2.mk (some d) none (Ins.pick (Opd.t p) (Opd.t a) (Opd.c (AV.bool false)))
def dg(d s:Nat):Op2:=Op2.mk (some d) none (Ins.box (Opd.t s))
def be(d n s i:Nat):Op2:=Op2.mk (some d) none (Ins.ixaS n (Opd.t s) (Opd.t i))
def iU(d s:Nat):Op2:=Op2.mk (some d) none (Ins.un UnOp.not (Opd.t s))
def gj(d n b s x:Nat):Op2:=Op2.mk (some d) none (Ins.app n b (Opd.t s) (Opd.t x))
def bO(d:Nat):Op2:=Op2.mk (some d) none (Ins.mov (Opd.c AV.esl))
def cz(d:Nat):Op2:=Op2.mk (some d) none (Ins.mov (Opd.c (AV.bool false)))
def ln(d:Nat):Op2:=Op2.mk (some d) none (Ins.mov (Opd.c (AV.bool true)))
def aC(l:List Op2):C2:=C2.seq (C2.ops 0 l) C2.ret
def aQ(n:Nat)(x:C2):C2:=C2.cond (Opd.t n) x C2.skip
def bc:AV:=AV.int IntKind.i64 0
theorem aK:(∀(d:Nat)(i:Ins),cO d i=Op2.mk (some d) none i)/\(∀(d g:Nat)(b:Bool)(i:Ins),cG d g b i=Op2.mk (some d) (some (g,b)) i)/\(∀(k:Int),cN k=Opd.c (AV.int IntKind.i64 k))/\(∀(n:Nat),cM n=Ins.mov (Opd.t n))/\(∀(n:Nat),cD n=Ins.ld1 (Opd.t n))/\(∀(n:Nat),cF n=Opd.c (AV.func n []))/\(∀(o:BinOp)(x y:Opd),cB o x y=Ins.bin o false false x y)/\(Ia=Opd.c (AV.bool false))/\(Jn=Opd.c (AV.bool true))/\(∀(d s:Nat),aa d s=Op2.mk (some d) none (Ins.mov (Opd.t s)))/\(∀(d s:Nat),aG d s=Op2.mk (some d) none (Ins.ld1 (Opd.t s)))/\(∀(d n s:Nat),bi d n s=Op2.mk (some d) none (Ins.ldn n (Opd.t s)))/\(∀(d s:Nat),bj d s=Op2.mk (some d) none (Ins.lenS (Opd.t s)))/\(∀(d n s:Nat),b0 d n s=Op2.mk (some d) none (Ins.fa n (Opd.t s)))/\(∀(d s n:Nat),aW d s n=Op2.mk (some d) none (Ins.ext (Opd.t s) n))/\(∀(d f:Nat)(l:List Opd),aF d f l=Op2.mk (some d) none (Ins.call (Opd.c (AV.func f [])) l))/\(∀(d:Nat)(o:BinOp)(x y:Nat),bl d o x y=Op2.mk (some d) none (Ins.bin o false false (Opd.t x) (Opd.t y)))/\(∀(d:Nat)(o:BinOp)(x:Nat)(y:Int),aA d o x y=Op2.mk (some d) none (Ins.bin o false false (Opd.t x) (Opd.c (AV.int IntKind.i64 y))))/\(∀(n p v:Nat),bz n p v=Op2.mk none none (Ins.st n (Opd.t p) (Opd.t v)))/\(∀(d g:Nat)(i:Ins),bA d g i=Op2.mk (some d) (some (g,false)) i)/\(∀(d g:Nat)(i:Ins),ap d g i=Op2.mk (some d) (some (g,true)) i)/\(∀(n:Nat)(x y:C2),cV n x y=C2.cond (Opd.t n) x y)/\(∀(l:List Op2)(x:C2),ac l x=C2.seq (C2.ops 0 l) x)/\(∀(k b:Nat),dQ k b=C2.ops 0 [Op2.mk (some k) none (Ins.bin BinOp.add false false (Opd.t b) (Opd.c (AV.int IntKind.i64 1))),Op2.mk (some b) none (Ins.mov (Opd.t k))])/\(∀(k n:Nat)(x:C2),JN k n x=C2.seq (C2.cond (Opd.t k) C2.skip (C2.exit n)) x)/\(∀(k a b n:Nat)(x:C2),dX k a b n x=C2.seq (C2.ops 0 [Op2.mk (some k) none (Ins.bin BinOp.lss false false (Opd.t a) (Opd.t b))]) (C2.seq (C2.cond (Opd.t k) C2.skip (C2.exit n)) x))/\(∀(d:Nat)(k:Int),aE d k=Op2.mk (some d) none (Ins.mov (Opd.c (AV.int IntKind.i64 k))))/\(∀(d p a:Nat),fS d p a=Op2.mk (some d) none (Ins.pick (Opd.t p) (Opd.c (AV.bool true)) (Opd.t a)))/\(∀(d p a:Nat),dx d p a=Op2.mk (some d) none (Ins.pick (Opd.t p) (Opd.t a) (Opd.c (AV.bool false))))/\(∀(d s:Nat),dg d s=Op2.mk (some d) none (Ins.box (Opd.t s)))/\(∀(d n s i:Nat),be d n s i=Op2.mk (some d) none (Ins.ixaS n (Opd.t s) (Opd.t i)))/\(∀(d s:Nat),iU d s=Op2.mk (some d) none (Ins.un UnOp.not (Opd.t s)))/\(∀(d n b s x:Nat),gj d n b s x=Op2.mk (some d) none (Ins.app n b (Opd.t s) (Opd.t x)))/\(∀(d:Nat),bO d=Op2.mk (some d) none (Ins.mov (Opd.c AV.esl)))/\(∀(d:Nat),cz d=Op2.mk (some d) none (Ins.mov (Opd.c (AV.bool false))))/\(∀(d:Nat),ln d=Op2.mk (some d) none (Ins.mov (Opd.c (AV.bool true))))/\(∀(l:List Op2),aC l=C2.seq (C2.ops 0 l) C2.ret)/\(∀(n:Nat)(x:C2),aQ n x=C2.cond (Opd.t n) x C2.skip)/\(bc=AV.int IntKind.i64 0):=⟨λ_ _=>rfl,λ_ _ _ _=>rfl,λ_=>rfl,λ_=>rfl,λ_=>rfl,λ_=>rfl,λ_ _ _=>rfl,rfl,rfl,λ_ _=>rfl,λ_ _=>rfl,λ_ _ _=>rfl,λ_ _=>rfl,λ_ _ _=>rfl,λ_ _ _=>rfl,λ_ _ _=>rfl,λ_ _ _ _=>rfl,λ_ _ _ _=>rfl,λ_ _ _=>rfl,λ_ _ _=>rfl,λ_ _ _=>rfl,λ_ _ _=>rfl,λ_ _=>rfl,λ_ _=>rfl,λ_ _ _=>rfl,λ_ _ _ _ _=>rfl,λ_ _=>rfl,λ_ _ _=>rfl,λ_ _ _=>rfl,λ_ _=>rfl,λ_ _ _ _=>rfl,λ_ _=>rfl,λ_ _ _ _ _=>rfl,λ_=>rfl,λ_=>rfl,λ_=>rfl,λ_=>rfl,λ_ _=>rfl,rfl⟩
theorem mkI{P:Program}{f:FuncId}{F:F2}{fn:Func}(h1:P.funcs[f]?=some fn)(h2:zU P fn=some F:=by kernel_rfl):Is P f F:=Is.mk' h1 h2
theorem follows:Tryz.prog.follows .mixedOrders=true:=by rfl
abbrev pU:=@Go.Abs.Pure Tryz.prog
theorem pO{f:FuncId}{F:F2}{args:List AV}{r:AV}(hf:Is Tryz.prog f F)(hb:aM Tryz.prog F.body (T0 args) b9 0 λe T H nx=>aV e.ends (bw T H (λx=>Snap H x r) F.res))(hl:args.length<=F.n:=by exact Nat.le_of_ble_eq_true rfl):Go.Abs.Pure Tryz.prog f args r:=Go.Abs.Pure.of_c2 follows hf hl hb
theorem fO{f:FuncId}{F:F2}{args:List AV}{H:Hp}{nx:Nat}{K:AV->Hp->Nat->Prop}(hf:Is Tryz.prog f F)(hb:aM Tryz.prog F.body (T0 args) H nx λe T H nx=>aV e.ends (bw T H (λx=>K x H nx) F.res))(hl:args.length<=F.n:=by exact Nat.le_of_ble_eq_true rfl):Go.Abs.Fn Tryz.prog f args H nx K:=Go.Abs.Fn.of_c2 follows hf hl hb
theorem qO{f:FuncId}{F:F2}{args:List AV}{r:AV}(hf:Is Tryz.prog f F)(hb:aM Tryz.prog F.body (T0 args) b9 0 λe T H nx=>aV e.ends (bw T H (λx=>SnapF H x r) F.res))(hl:args.length<=F.n:=by exact Nat.le_of_ble_eq_true rfl):Go.Abs.PureF Tryz.prog f args r:=Go.Abs.PureF.of_c2 follows hf hl hb
def b3:F2:=(F2.mk 60 [RV.t 4] (ac [dg 2 0,cz 4] ((ac [bi 13 1 2,aF 14 11 [t 13,c AV.esl],iU 15 14] (aQ 15 (aC [aF 16 12 [],aa 4 16]))).seq (ac [bi 18 1 2,aF 19 13 [t 18],aa 17 19,aW 20 17 0,aW 21 17 1,aa 5 20,aa 6 21] (ac [bi 23 1 2,aF 24 14 [t 23],aa 22 24,aW 25 22 0,aW 26 22 1,aa 7 25,aa 8 26] (ac [bi 28 1 2,aa 29 1,aF 30 15 [t 28,t 29],aa 27 30,aW 31 27 0,aW 32 27 1,aa 9 31,aa 10 32] (ac [bi 34 1 2,aa 35 1,aF 36 16 [t 34,t 35],aa 33 36,aW 37 33 0,aW 38 33 1,aa 11 37,aa 12 38] (aC [aF 39 12 [],aa 40 39,ap 41 40 (cM 5),ap 42 40 (cM 7),ap 43 40 (call (cF 17) [t 41,t 42]),dx 44 40 43,aa 45 44,ap 46 45 (cM 6),ap 47 45 (cM 8),ap 48 45 (cB .eql (t 46) (t 47)),dx 49 45 48,aa 50 49,ap 51 50 (cM 9),ap 52 50 (cM 11),ap 53 50 (bin BinOp.eql true false (t 51) (t 52)),dx 54 50 53,aa 55 54,ap 56 55 (cM 10),ap 57 55 (cM 12),ap 58 55 (cB .eql (t 56) (t 57)),dx 59 55 58,aa 4 59]))))))))
def b6:F2:=(F2.mk 37 [RV.t 6] (ac [dg 3 0,cz 6] ((ac [bi 7 1 3,aa 8 1,aa 9 2,cO 10 (bldS 1 2 [AV.esl] [(0,1,t 8),(1,1,t 9)]),aF 11 11 [t 7,t 10],iU 12 11] (aQ 12 (aC [aF 13 12 [],aa 6 13]))).seq ((mixS 1 [aF 14 12 [],aa 15 14,ap 16 15 (ldn 1 (t 3)),ap 17 15 (cM 1),ap 18 15 (cM 2),ap 19 15 (call (cF 25) [t 16,t 17,t 18]),ap 20 15 (ldn 1 (t 3)),ap 21 15 (cM 1),ap 22 15 (cM 2),ap 23 15 (call (cF 26) [t 20,t 21,t 22]),ap 24 15 (cB .eql (t 19) (t 23)),dx 25 15 24,aa 26 25,ap 27 26 (ldn 1 (t 3)),ap 28 26 (cM 1),ap 29 26 (cM 2),ap 30 26 (call (cF 27) [t 27,t 28,t 29]),ap 31 26 (ldn 1 (t 3)),ap 32 26 (cM 1),ap 33 26 (cM 2),ap 34 26 (call (cF 24) [t 31,t 32,t 33]),ap 35 26 (cB .eql (t 30) (t 34)),dx 36 26 35,aa 6 36] [(0,1),(1,0),(2,0),(3,0),(4,0),(6,0),(7,0),(8,0),(5,1),(9,1),(10,0),(11,0),(12,0),(13,0),(14,0),(15,0),(17,0),(18,0),(19,0),(16,1),(20,2),(21,0),(22,0),(23,0)]).seq ret))))
def b10:F2:=(F2.mk 141 [RV.t 2] (ac [dg 1 0,cz 2] ((ac [bi 22 1 1,aF 23 11 [t 22,c AV.esl],iU 24 23,aa 25 24,bA 26 25 (ldn 1 (t 1)),bA 27 25 (call (cF 28) [t 26]),bA 28 25 (cB .neq (t 27) (cN 0)),fS 29 25 28] (aQ 29 (aC [aF 30 12 [],aa 2 30]))).seq (ac [bi 32 1 1,aF 33 13 [t 32],aa 31 33,aW 34 31 0,aW 35 31 1,aa 3 34,aa 4 35] (ac [bi 37 1 1,aF 38 37 [t 37],aa 36 38,aW 39 36 0,aW 40 36 1,aa 5 39,aa 6 40] (ac [bi 42 1 1,aF 43 38 [t 42],aa 41 43,aW 44 41 0,aW 45 41 1,aa 7 44,aa 8 45] ((ac [aa 46 4,aa 47 6,bl 48 .add 46 47,aa 49 8,bl 50 .add 48 49,aA 51 .neq 50 0] (aQ 51 (aC [cz 2]))).seq (ac [aE 9 0,aE 10 1] ((ac [aa 52 3,bj 53 52,aE 54 0] (block 0 ((dX 55 54 53 0 ((block 1 (ac [be 56 1 52 54,aG 57 56,aa 12 57] (ops 0 [aa 58 9,aa 59 10,aa 60 12,bl 61 .mul 59 60,bl 62 .add 58 61,aa 63 10,cO 64 (un UnOp.neg (t 63)),aa 9 62,aa 10 64]))).seq (dQ 65 54)))).loop)).seq (ac [aE 13 0] ((ac [aa 66 7,bj 67 66,aE 68 0] (block 2 ((dX 69 68 67 2 ((block 3 (ac [be 70 1 66 68,aG 71 70,aa 15 71] (ops 0 [aa 72 13,aa 73 15,aA 74 .add 73 1,cO 75 (mx (t 72) [t 74]),aa 13 75]))).seq (dQ 76 68)))).loop)).seq ((ac [aa 77 9,aa 78 5,bl 79 .neq 77 78,aa 80 79,bA 81 80 (cM 3),bA 82 80 (lenS (t 81)),bA 83 80 (cB .gtr (t 82) (cN 0)),bA 84 80 (cM 83),ap 85 84 (cM 3),ap 86 84 (ixaS 1 (t 85) (cN 0)),ap 87 84 (cD 86),ap 88 84 (cM 13),ap 89 84 (cB .neq (t 87) (t 88)),bA 90 80 (pick (t 84) (t 89) Ia),fS 91 80 90,aa 92 91,bA 93 92 (cM 3),bA 94 92 (lenS (t 93)),bA 95 92 (cB .eql (t 94) (cN 0)),bA 96 92 (cM 95),ap 97 96 (fa 0 (t 1)),ap 98 96 (cD 97),ap 99 96 (lenS (t 98)),ap 100 96 (cB .gtr (t 99) (cN 0)),bA 101 92 (pick (t 96) (t 100) Ia),fS 102 92 101] (aQ 102 (aC [cz 2]))).seq (ac [cO 103 (bld [bc,bc] [(0,1,cN ((7))),(1,1,cN ((1048576)))]),cO 104 (bldS 2 1 [bc,bc] [(0,2,t 103)]),cO 105 (bldS 1 1 [AV.esl] [(0,1,t 104)]),cO 106 (bld [AV.esl] [(0,1,t 105)]),cO 16 (alloc (AV.agg [AV.esl])),bz 1 16 106] (ac [bi 108 1 1,bi 109 1 16,aF 110 39 [t 108,t 109],aa 107 110,aW 111 107 0,aW 112 107 1,cO 17 (alloc (AV.agg [AV.esl])),bz 1 17 111,aa 18 112] ((ac [aa 113 18,aA 114 .neq 113 0] (aQ 114 (aC [aa 115 18,aA 116 .eql 115 7,aa 117 116,bA 118 117 (cM 18),bA 119 117 (cB .eql (t 118) (cN 5)),fS 120 117 119,aa 121 120,ap 122 121 (call (cF 12) []),dx 123 121 122,aa 2 123]))).seq ((ac [cO 19 (mov (cN ((-1))))] (block 4 ((ac [aa 124 19,aA 125 .lss 124 4] (cV 125 skip (exit 4))).seq ((block 5 (ac [bi 129 1 17,aa 130 19,aF 131 15 [t 129,t 130],aa 128 131,aW 132 128 0,aW 133 128 1,aa 20 132,aa 21 133] (ac [aa 134 21,aA 135 .neq 134 0,aa 136 135,bA 137 136 (cM 20),bA 138 136 (un UnOp.not (t 137)),fS 139 136 138] (aQ 139 (aC [cz 2]))))).seq (ops 0 [aa 126 19,aA 127 .add 126 1,aa 19 127]))).loop)).seq (aC [aF 140 12 [],aa 2 140])))))))))))))))))
theorem QD:Is Tryz.prog 10 b10:=mkI Tryz.func10
def b11:F2:=(F2.mk 40 [RV.t 4] (ac [dg 2 0,cz 4] ((ac [aa 10 1,bj 11 10,aE 12 0] (block 0 ((dX 13 12 11 0 ((block 1 (ac [be 14 1 10 12,aG 15 14,aa 6 15] (ac [aa 16 6,aF 17 40 [t 16],iU 18 17] (aQ 18 (aC [cz 4]))))).seq (dQ 19 12)))).loop)).seq (ac [aE 7 0] ((ac [b0 20 0 2,aG 21 20,bj 22 21,aE 23 0] (block 2 ((dX 24 23 22 2 ((block 3 (ac [be 25 1 21 23,aG 26 25,aa 9 26] (ops 0 [aa 27 7,aa 28 9,bj 29 28,cO 30 (mn (t 29) [cN ((10))]),cO 31 (cB .shl (cN 1) (t 30)),bl 32 .add 27 31,aa 7 32]))).seq (dQ 33 23)))).loop)).seq (aC [bi 34 1 2,aF 35 41 [t 34],aa 36 35,ap 37 36 (cM 7),ap 38 36 (cB .leq (t 37) (cN 400)),dx 39 36 38,aa 4 39]))))))
theorem Qo:Is Tryz.prog 11 b11:=mkI Tryz.func11
def b12:F2:=(F2.mk 193 [RV.t 0] (ac [cz 0] (ac [cO 21 (bldS 1 2 [bc] [(0,1,cN ((0))),(1,1,cN ((1)))]),aF 22 42 [t 21],cO 23 (bldS 1 2 [bc] [(0,1,cN ((0))),(1,1,cN ((2)))]),aF 24 42 [t 23],cO 25 (bldS 1 2 [bc] [(0,1,cN ((1))),(1,1,cN ((2)))]),aF 26 42 [t 25],cO 27 (bldS 1 3 [AV.esl] [(0,1,t 22),(1,1,t 24),(2,1,t 26)]),aa 1 27] (ac [aa 28 1,cO 29 (bld [AV.esl] [(0,1,t 28)]),cO 30 (bldS 1 3 [bc] [(0,1,cN ((0))),(1,1,cN ((1))),(2,1,cN ((2)))]),aF 31 42 [t 30],cO 32 (bldS 1 1 [AV.esl] [(0,1,t 31)]),cO 33 (bld [AV.esl] [(0,1,t 32)]),cO 2 (alloc (AV.agg [AV.esl])),cO 3 (alloc (AV.agg [AV.esl])),bz 1 2 29,bz 1 3 33] (ac [cO 34 (bldS 1 3 [bc] [(0,1,cN ((0))),(1,1,cN ((1))),(2,1,cN ((2)))]),aF 35 42 [t 34],cO 36 (bldS 1 3 [bc] [(0,1,cN ((0))),(1,1,cN ((1))),(2,1,cN ((3)))]),aF 37 42 [t 36],cO 38 (bldS 1 3 [bc] [(0,1,cN ((0))),(1,1,cN ((2))),(2,1,cN ((3)))]),aF 39 42 [t 38],cO 40 (bldS 1 3 [bc] [(0,1,cN ((1))),(1,1,cN ((2))),(2,1,cN ((3)))]),aF 41 42 [t 40],cO 42 (bldS 1 4 [AV.esl] [(0,1,t 35),(1,1,t 37),(2,1,t 39),(3,1,t 41)]),cO 43 (bld [AV.esl] [(0,1,t 42)]),cO 4 (alloc (AV.agg [AV.esl])),bz 1 4 43] (ac [bi 45 1 2,aF 46 13 [t 45],aa 44 46,aW 47 44 0,aW 48 44 1,aa 5 47,aa 6 48] (ac [bi 50 1 3,aF 51 13 [t 50],aa 49 51,aW 52 49 0,aW 53 49 1,aa 7 52,aa 8 53] (ac [bi 55 1 4,aF 56 13 [t 55],aa 54 56,aW 57 54 0,aW 58 54 1,aa 9 57,aa 10 58] (ac [bi 60 1 2,aF 61 18 ([t 60,cN ((1))]),aa 59 61,aW 62 59 0,aW 63 59 1,aa 11 62,aa 12 63] ((ac [aa 64 6,aa 65 8,bl 66 .add 64 65,aa 67 10,bl 68 .add 66 67,aa 69 12,bl 70 .add 68 69,aA 71 .neq 70 0,aa 72 71,bA 73 72 (cM 5),bA 74 72 (bldS 1 2 [bc] [(0,1,cN ((1))),(1,1,cN ((1)))]),bA 75 72 (call (cF 17) [t 73,t 74]),bA 76 72 (un UnOp.not (t 75)),fS 77 72 76,aa 78 77,bA 79 78 (cM 7),bA 80 78 (bldS 1 3 [bc] [(0,1,cN ((1))),(1,1,cN ((0))),(2,1,cN ((0)))]),bA 81 78 (call (cF 17) [t 79,t 80]),bA 82 78 (un UnOp.not (t 81)),fS 83 78 82,aa 84 83,bA 85 84 (cM 9),bA 86 84 (bldS 1 3 [bc] [(0,1,cN ((1))),(1,1,cN ((0))),(2,1,cN ((1)))]),bA 87 84 (call (cF 17) [t 85,t 86]),bA 88 84 (un UnOp.not (t 87)),fS 89 84 88,aa 90 89,bA 91 90 (cM 11),bA 92 90 (lenS (t 91)),bA 93 90 (cB .neq (t 92) (cN 1)),fS 94 90 93,aa 95 94,bA 96 95 (cM 11),bA 97 95 (ixaS 1 (t 96) (cN 0)),bA 98 95 (cD 97),bA 99 95 (cM 1),bA 100 95 (call (cF 23) [t 98,t 99]),bA 101 95 (un UnOp.not (t 100)),fS 102 95 101] (aQ 102 (aC [cz 0]))).seq (ac [bi 104 1 2,aa 105 1,aF 106 21 [t 104,t 105],aa 103 106,aW 107 103 0,aW 108 103 1,aW 109 103 2,aW 110 103 3,aa 13 107,aa 14 108,aa 15 109,aa 6 110] (ac [bi 112 1 3,aa 113 1,aF 114 21 [t 112,t 113],aa 111 114,aW 115 111 0,aW 116 111 1,aW 117 111 2,aW 118 111 3,aa 16 115,aa 17 116,aa 18 117,aa 8 118] (ac [bi 120 1 4,aF 121 15 ([t 120,cN ((1))]),aa 119 121,aW 122 119 0,aW 123 119 1,aa 19 122,aa 10 123] (ac [bi 125 1 4,aF 126 15 ([t 125,cN ((2))]),aa 124 126,aW 127 124 0,aW 128 124 1,aa 20 127,aa 12 128] ((ac [aa 129 6,aa 130 8,bl 131 .add 129 130,aa 132 10,bl 133 .add 131 132,aa 134 12,bl 135 .add 133 134,aA 136 .neq 135 0,aa 137 136,bA 138 137 (cM 15),fS 139 137 138,aa 140 139,bA 141 140 (cM 18),bA 142 140 (un UnOp.not (t 141)),fS 143 140 142,aa 144 143,bA 145 144 (cM 19),bA 146 144 (un UnOp.not (t 145)),fS 147 144 146,aa 148 147,bA 149 148 (cM 20),fS 150 148 149,aa 151 150,bA 152 151 (cM 16),bA 153 151 (bldS 1 3 [bc] [(0,1,cN ((0))),(1,1,cN ((1))),(2,1,cN ((2)))]),bA 154 151 (call (cF 42) [t 153]),bA 155 151 (bldS 1 1 [AV.esl] [(0,1,t 154)]),bA 156 151 (call (cF 23) [t 152,t 155]),bA 157 151 (un UnOp.not (t 156)),fS 158 151 157] (aQ 158 (aC [cz 0]))).seq ((mix 1 [bi 159 1 2,aa 160 1,aa 161 14,aF 162 27 [t 159,t 160,t 161],aA 163 .eql 162 0,aa 164 163,ap 165 164 (ldn 1 (t 2)),ap 166 164 (cM 1),ap 167 164 (cM 1),ap 168 164 (sls 1 (t 167) (some (cN 2)) none none),ap 169 164 (call (cF 27) [t 165,t 166,t 168]),ap 170 164 (cB .eql (t 169) (cN 0)),dx 171 164 170,aa 172 171,ap 173 172 (ldn 1 (t 3)),ap 174 172 (cM 1),ap 175 172 (cM 1),ap 176 172 (sls 1 (t 175) (some (cN 2)) none none),ap 177 172 (call (cF 27) [t 173,t 174,t 176]),ap 178 172 (cB .eql (t 177) (cN 18)),dx 179 172 178,aa 180 179,ap 181 180 (ldn 1 (t 3)),ap 182 180 (cM 1),ap 183 180 (cM 16),ap 184 180 (call (cF 25) [t 181,t 182,t 183]),ap 185 180 (cB .eql (t 184) (cN 0)),dx 186 180 185,aa 187 186,ap 188 187 (ldn 1 (t 2)),ap 189 187 (cM 1),ap 190 187 (call (cF 25) [t 188,t 189,c AV.esl]),ap 191 187 (cB .eql (t 190) (cN 18)),dx 192 187 191,aa 0 192] [1,2,0,3,4,5,7,8,9,6,10,11,12,13,15,16,17,14,18,19,20,21,23,24,22,25,26,27,28,30,29,31,32,33,34]).seq ret))))))))))))))))
theorem QN:Is Tryz.prog 12 b12:=mkI Tryz.func12
def b13:F2:=(F2.mk 14 [RV.t 2,RV.t 3] (ac [dg 1 0,bO 2,aE 3 0] ((ac [bi 5 1 1,aF 6 43 [t 5],aa 4 6] (ac [aa 7 4,aA 8 .neq 7 0] (aQ 8 (aC [aa 9 4,bO 2,aa 3 9])))).seq (aC [bi 10 1 1,aF 11 44 [t 10],aW 12 11 0,aW 13 11 1,aa 2 12,aa 3 13]))))
theorem Ql:Is Tryz.prog 13 b13:=mkI Tryz.func13
def b15:F2:=(F2.mk 47 [RV.t 4,RV.t 5] (ac [dg 2 0,cz 4,aE 5 0] ((ac [bi 9 1 2,aF 10 43 [t 9],aa 6 10] (ac [aa 11 6,aA 12 .neq 11 0] (aQ 12 (aC [aa 13 6,cz 4,aa 5 13])))).seq ((ac [aa 14 1,cO 15 (cB .lss (t 14) (cN ((-1)))),aa 16 15,bA 17 16 (cM 1),bA 18 16 (cB .geq (t 17) (cN 8)),fS 19 16 18] (aQ 19 (aC [cz 4,aE 5 2]))).seq (ac [bi 21 1 2,aF 22 44 [t 21],aa 20 22,aW 23 20 0,aW 24 20 1,aa 7 23,aa 8 24] ((ac [aa 25 8,aA 26 .neq 25 0,aa 27 26,bA 28 27 (cM 7),bA 29 27 (lenS (t 28)),bA 30 27 (cB .eql (t 29) (cN 0)),fS 31 27 30] (aQ 31 (aC [aa 32 8,cz 4,aa 5 32]))).seq (ac [aa 33 7,cO 34 (ixaS 1 (t 33) (cN 0)),aG 35 34,aA 36 .sub 35 1,cO 37 (ixaS 1 (t 33) (cN 0)),bz 1 37 36] (aC [aa 38 7,aa 39 1,aA 40 .add 39 1,aa 41 7,bj 42 41,cO 43 (mn (t 40) [t 42]),cO 44 (sls 1 (t 38) none (some (t 43)) none),aF 45 48 ([t 44,c (AV.func 49 [])]),iU 46 45,aa 4 46,aE 5 0]))))))))
theorem Qk:Is Tryz.prog 15 b15:=mkI Tryz.func15
def b17:F2:=(F2.mk 26 [RV.t 4] (ac [cz 4] ((ac [aa 6 0,bj 7 6,aa 8 1,bj 9 8,bl 10 .neq 7 9] (aQ 10 (aC [cz 4]))).seq ((ac [aa 11 0,bj 12 11,aE 13 0] (block 0 ((dX 14 13 12 0 ((block 1 (ac [aa 15 13,aa 5 15] ((ops 1 [aa 16 0,aa 17 5,be 18 1 16 17,aG 19 18,aa 20 1,aa 21 5,be 22 1 20 21,aG 23 22,bl 24 .neq 19 23]).seq (aQ 24 (aC [cz 4]))))).seq (dQ 25 13)))).loop)).seq (aC [ln 4])))))
theorem Qr:Is Tryz.prog 17 b17:=mkI Tryz.func17
def b18:F2:=(F2.mk 46 [RV.c1 4,RV.c1 5] (ac [dg 2 0,dg 3 1,cO 4 (alloc AV.esl),cO 5 (alloc (bc))] ((ac [bi 12 1 2,aF 13 43 [t 12],aa 6 13] (ac [aa 14 6,aA 15 .neq 14 0] (aQ 15 (aC [aa 16 6,Op2.mk none none (Ins.st 1 (t 4) (c AV.esl)),bz 1 5 16])))).seq ((ac [aG 17 3,aA 18 .lss 17 0,aa 19 18,bA 20 19 (cD 3),bA 21 19 (cB .geq (t 20) (cN 8)),fS 22 19 21] (aQ 22 (aC [Op2.mk none none (Ins.st 1 (t 4) (c AV.esl)),Op2.mk none none (Ins.st 1 (t 5) (cN 2))]))).seq (ac [cO 7 (alloc AV.esl)] ((ac [bi 23 1 2,aG 24 3,aF 25 50 [t 23,t 24]] (block 0 (rangeF (t 25) [26,27] (ac [aa 8 26] (ops 0 [aa 9 27])) (block 1 ((ac [aa 28 9,aA 29 .neq 28 0] (aQ 29 (aC [aa 30 9,Op2.mk none none (Ins.st 1 (t 4) (c AV.esl)),bz 1 5 30]))).seq (ac [bi 32 1 2,aG 33 3,aa 34 8,aF 35 34 [t 32,t 33,t 34],aa 31 35,aW 36 31 0,aW 37 31 1,aa 10 36,aa 11 37] ((ac [aa 38 11,aA 39 .neq 38 0] (aQ 39 (aC [aa 40 11,Op2.mk none none (Ins.st 1 (t 4) (c AV.esl)),bz 1 5 40]))).seq (ops 0 [aG 41 7,aa 42 10,cO 43 (bldS 1 1 [AV.esl] [(0,1,t 42)]),gj 44 1 24 41 43,bz 1 7 44])))))))).seq (aC [aG 45 7,bz 1 4 45,Op2.mk none none (Ins.st 1 (t 5) (cN 0))])))))))
theorem QU:Is Tryz.prog 18 b18:=mkI Tryz.func18
def b21:F2:=(F2.mk 84 [RV.t 4,RV.t 5,RV.t 6,RV.t 7] (ac [dg 2 0,bO 4,bO 5,cz 6,aE 7 0] ((ac [bi 19 1 2,aF 20 43 [t 19],aa 8 20] (ac [aa 21 8,aA 22 .neq 21 0] (aQ 22 (aC [aa 23 8,bO 4,bO 5,cz 6,aa 7 23])))).seq (ac [bi 25 1 2,aa 26 1,aF 27 57 [t 25,t 26],aa 24 27,aW 28 24 0,aW 29 24 1,aa 9 28,aa 10 29] ((ac [aa 30 10,aA 31 .neq 30 0] (aQ 31 (aC [aa 32 10,bO 4,bO 5,cz 6,aa 7 32]))).seq ((ac [aa 33 1,bj 34 33,aA 35 .eql 34 0] (aQ 35 (aC [bO 4,bO 5,ln 6,aE 7 0]))).seq (ac [aa 36 1,cO 37 (ixaS 1 (t 36) (cN 0)),aG 38 37,bj 39 38,aA 40 .sub 39 1,aa 11 40] (ac [bi 42 1 2,aa 43 11,aA 44 .add 43 1,aF 45 58 [t 42,t 44],aa 41 45,aW 46 41 0,aW 47 41 1,cO 12 (alloc (AV.agg [bc,AV.esl])),bz 2 12 46,aa 10 47] ((ac [aa 48 10,aA 49 .neq 48 0] (aQ 49 (aC [aa 50 10,bO 4,bO 5,cz 6,aa 7 50]))).seq (ac [bi 52 2 12,aa 53 9,aF 54 59 [t 52,t 53],aa 51 54,aW 55 51 0,aW 56 51 1,aW 57 51 2,aW 58 51 3,aa 13 55,aa 14 56,aa 15 57,aa 10 58] ((ac [aa 59 10,aA 60 .neq 59 0] (aQ 60 (aC [aa 61 10,bO 4,bO 5,cz 6,aa 7 61]))).seq ((ac [aa 62 15] (aQ 62 (ac [bi 64 1 2,aa 65 11,aA 66 .add 65 1,aa 67 13,aF 68 34 [t 64,t 66,t 67],aa 63 68,aW 69 63 0,aW 70 63 1,aa 16 69,aa 17 70] (aC [aa 71 16,aa 72 17,aA 73 .eql 72 0,aa 74 17,aa 4 71,bO 5,aa 6 73,aa 7 74])))).seq (ac [bi 76 1 2,aa 77 11,aa 78 14,aF 79 34 [t 76,t 77,t 78],aa 75 79,aW 80 75 0,aW 81 75 1,aa 18 80,aa 10 81] (aC [aa 82 18,aa 83 10,bO 4,aa 5 82,cz 6,aa 7 83]))))))))))))))
theorem P0:Is Tryz.prog 21 b21:=mkI Tryz.func21
def b23:F2:=(F2.mk 27 [RV.t 4] (ac [cz 4] ((ac [aa 6 0,bj 7 6,aa 8 1,bj 9 8,bl 10 .neq 7 9] (aQ 10 (aC [cz 4]))).seq ((ac [aE 5 0] (block 0 ((ac [aa 11 5,aa 12 0,bj 13 12,bl 14 .lss 11 13] (cV 14 skip (exit 0))).seq ((block 1 ((mixS 1 [aa 17 0,aa 18 5,be 19 1 17 18,aG 20 19,aa 21 1,aa 22 5,be 23 1 21 22,aG 24 23,aF 25 63 [t 20,t 24],iU 26 25] [(0,0),(1,0),(2,0),(3,0),(4,0),(5,0),(6,0),(7,0),(8,2),(9,0)]).seq (aQ 26 (aC [cz 4])))).seq (ops 0 [aa 15 5,aA 16 .add 15 1,aa 5 16]))).loop)).seq (aC [ln 4])))))
theorem QG:Is Tryz.prog 23 b23:=mkI Tryz.func23
def b25:F2:=(F2.mk 55 [RV.t 6] (ac [dg 3 0,aE 6 0] ((ac [bi 13 1 3,aa 14 1,aa 15 2,aF 16 67 [t 13,t 14,t 15],aa 12 16,aW 17 12 0,aW 18 12 1,aW 19 12 2,aa 7 17,aa 8 18,aa 9 19] (ac [aa 20 9,aA 21 .neq 20 0] (aQ 21 (aC [aa 22 9,aa 6 22])))).seq (((ops 1 [aa 23 1,bj 24 23,aA 25 .gtr 24 0,aa 26 25,ap 27 26 (cM 2),ap 28 26 (lenS (t 27)),ap 29 26 (cB .gtr (t 28) (cN 0)),dx 30 26 29,aa 31 30,ap 32 31 (cM 2),ap 33 31 (ixaS 1 (t 32) (cN 0)),ap 34 31 (cD 33),ap 35 31 (lenS (t 34)),ap 36 31 (cM 1),ap 37 31 (ixaS 1 (t 36) (cN 0)),ap 38 31 (cD 37),ap 39 31 (lenS (t 38)),ap 40 31 (cB .add (t 39) (cN 1)),ap 41 31 (cB .neq (t 35) (t 40)),dx 42 31 41]).seq (aQ 42 (aC [aE 6 15]))).seq (ac [aa 44 2,aF 45 29 [t 44],aa 43 45,aW 46 43 0,aW 47 43 1,aa 10 46,aa 11 47] ((ac [aa 48 11,aA 49 .neq 48 0] (aQ 49 (aC [aa 50 11,aa 6 50]))).seq ((ac [aa 51 10,aa 52 1,aF 53 68 ([t 51,t 52,c (AV.func 69 [])]),iU 54 53] (aQ 54 (aC [aE 6 18]))).seq (aC [aE 6 0]))))))))
theorem Qu:Is Tryz.prog 25 b25:=mkI Tryz.func25
def b27:F2:=(F2.mk 55 [RV.t 6] (ac [dg 3 0,aE 6 0] (ac [bi 12 1 3,aa 13 1,aa 14 2,aF 15 67 [t 12,t 13,t 14],aa 11 15,aW 16 11 0,aW 17 11 1,aW 18 11 2,aa 7 16,aa 8 17,aa 9 18] ((ac [aa 19 9,aA 20 .neq 19 0] (aQ 20 (aC [aa 21 9,aa 6 21]))).seq ((ac [aa 22 1,bj 23 22,aA 24 .eql 23 0,aa 25 24,bA 26 25 (cM 2),bA 27 25 (lenS (t 26)),bA 28 25 (cB .eql (t 27) (cN 0)),fS 29 25 28] (aQ 29 (aC [aE 6 18]))).seq (((ops 1 [aa 30 1,cO 31 (ixaS 1 (t 30) (cN 0)),aG 32 31,bj 33 32,aa 34 2,cO 35 (ixaS 1 (t 34) (cN 0)),aG 36 35,bj 37 36,bl 38 .neq 33 37]).seq (aQ 38 (aC [aE 6 15]))).seq ((ops 1 [bi 40 1 3,aa 41 1,cO 42 (ixaS 1 (t 41) (cN 0)),aG 43 42,bj 44 43,aF 45 58 [t 40,t 44],aa 39 45,aW 46 39 0,aW 47 39 1,cO 10 (alloc (AV.agg [bc,AV.esl])),bz 2 10 46,aa 9 47]).seq ((ac [aa 48 9,aA 49 .neq 48 0] (aQ 49 (aC [aa 50 9,aa 6 50]))).seq (aC [bi 51 2 10,aa 52 7,aa 53 8,aF 54 71 [t 51,t 52,t 53],aa 6 54])))))))))
theorem P2:Is Tryz.prog 27 b27:=mkI Tryz.func27
def b28:F2:=(F2.mk 68 [RV.t 2] (ac [dg 1 0,aE 2 0] (ac [b0 8 0 1,aG 9 8,aa 3 9] ((ac [aa 10 3,bj 11 10,aA 12 .gtr 11 4096] (aQ 12 (aC [aE 2 5]))).seq ((ac [aE 4 0] (block 0 ((ac [aa 13 4,aa 14 3,bj 15 14,bl 16 .lss 13 15] (cV 16 skip (exit 0))).seq ((block 1 ((ac [aa 19 3,aa 20 4,be 21 1 19 20,aG 22 21,aF 23 72 [t 22],aa 5 23] (ac [aa 24 5,aA 25 .neq 24 0] (aQ 25 (aC [aa 26 5,aa 2 26])))).seq ((mixS 1 [aa 27 4,aA 28 .gtr 27 0,aa 29 28,ap 30 29 (cM 3),ap 31 29 (cM 4),ap 32 29 (cB .sub (t 31) (cN 1)),ap 33 29 (ixaS 1 (t 30) (t 32)),ap 34 29 (cD 33),ap 35 29 (cM 3),ap 36 29 (cM 4),ap 37 29 (ixaS 1 (t 35) (t 36)),ap 38 29 (cD 37),ap 39 29 (call (cF 73) [t 34,t 38]),ap 40 29 (cB .geq (t 39) (cN 0)),dx 41 29 40] [(0,0),(1,0),(2,0),(3,0),(4,0),(5,0),(6,0),(7,0),(8,0),(9,0),(10,0),(11,0),(12,2),(13,0),(14,0)]).seq (aQ 41 (aC [aE 2 14]))))).seq (ops 0 [aa 17 4,aA 18 .add 17 1,aa 4 18]))).loop)).seq ((ac [aE 6 0] (block 2 ((ac [aa 42 6,aa 43 3,bj 44 43,bl 45 .lss 42 44] (cV 45 skip (exit 2))).seq ((block 3 (ac [aE 7 0] (block 4 ((ac [aa 48 7,aa 49 3,bj 50 49,bl 51 .lss 48 50] (cV 51 skip (exit 4))).seq ((block 5 ((mixS 1 [aa 54 6,aa 55 7,bl 56 .neq 54 55,aa 57 56,ap 58 57 (cM 3),ap 59 57 (cM 6),ap 60 57 (ixaS 1 (t 58) (t 59)),ap 61 57 (cD 60),ap 62 57 (cM 3),ap 63 57 (cM 7),ap 64 57 (ixaS 1 (t 62) (t 63)),ap 65 57 (cD 64),ap 66 57 (call (cF 74) [t 61,t 65]),dx 67 57 66] [(0,0),(1,0),(2,0),(3,0),(4,0),(5,0),(6,0),(7,0),(8,0),(9,0),(10,0),(11,0),(12,2),(13,0)]).seq (aQ 67 (aC [aE 2 7])))).seq (ops 0 [aa 52 7,aA 53 .add 52 1,aa 7 53]))).loop))).seq (ops 0 [aa 46 6,aA 47 .add 46 1,aa 6 47]))).loop)).seq (aC [aE 2 0])))))))
theorem PY:Is Tryz.prog 28 b28:=mkI Tryz.func28
def b29:F2:=(F2.mk 15 [RV.t 2,RV.t 3] (ac [bO 2,aE 3 0] ((ac [aa 5 0,aF 6 75 [t 5],aa 4 6] (ac [aa 7 4,aA 8 .neq 7 0] (aQ 8 (aC [aa 9 4,bO 2,aa 3 9])))).seq (aC [aa 10 0,aF 11 77 [t 10],aF 12 76 [t 11],aW 13 12 0,aW 14 12 1,aa 2 13,aa 3 14]))))
theorem P8:Is Tryz.prog 29 b29:=mkI Tryz.func29
def b30:F2:=(F2.mk 60 [RV.t 4,RV.t 5] (ac [dg 2 0,bO 4,aE 5 0] ((ac [bi 15 1 2,aF 16 78 [t 15],aa 6 16] (ac [aa 17 6,aA 18 .neq 17 0] (aQ 18 (aC [aa 19 6,bO 4,aa 5 19])))).seq ((ac [aa 20 1,aF 21 75 [t 20],aa 7 21] (ac [aa 22 7,aA 23 .neq 22 0] (aQ 23 (aC [aa 24 7,bO 4,aa 5 24])))).seq ((ac [aa 25 1,bj 26 25,aA 27 .eql 26 0] (aQ 27 (aC [bO 4,aE 5 0]))).seq ((mixS 1 [bi 29 1 2,aa 30 1,cO 31 (ixaS 1 (t 30) (cN 0)),aG 32 31,bj 33 32,aF 34 79 [t 29,t 33],aa 28 34,aW 35 28 0,aW 36 28 1,aa 8 35,aa 9 36] [(0,0),(1,0),(2,0),(3,0),(4,0),(5,2),(6,0),(7,0),(8,0),(9,0),(10,0)]).seq ((ac [aa 37 9,aA 38 .neq 37 0] (aQ 38 (aC [aa 39 9,bO 4,aa 5 39]))).seq (ac [bO 10] ((ac [aa 40 1,bj 41 40,aE 42 0] (block 0 ((dX 43 42 41 0 ((block 1 (ac [be 44 1 40 42,aG 45 44,aa 12 45] (ac [aa 47 8,aa 48 12,aF 49 80 [t 47,t 48],aa 46 49,aW 50 46 0,aW 51 46 1,aa 13 50,aa 14 51] ((ac [aa 52 14,iU 53 52] (aQ 53 (aC [bO 4,aE 5 6]))).seq (ops 0 [aa 54 10,aa 55 13,cO 56 (bldS 1 1 [bc] [(0,1,t 55)]),gj 57 1 8 54 56,aa 10 57]))))).seq (dQ 58 42)))).loop)).seq (aC [aa 59 10,aa 4 59,aE 5 0]))))))))))
theorem Qz:Is Tryz.prog 30 b30:=mkI Tryz.func30
def b33:F2:=(F2.mk 14 [RV.t 2,RV.t 3] (ac [cz 2,aE 3 0] ((ac [aa 5 0,aF 6 75 [t 5],aa 4 6] (ac [aa 7 4,aA 8 .neq 7 0] (aQ 8 (aC [aa 9 4,cz 2,aa 3 9])))).seq (aC [aa 10 0,aF 11 77 [t 10],bj 12 11,aA 13 .eql 12 0,aa 2 13,aE 3 0]))))
theorem QW:Is Tryz.prog 33 b33:=mkI Tryz.func33
def b34:F2:=(F2.mk 72 [RV.t 6,RV.t 7] (ac [dg 3 0,bO 6,aE 7 0] ((ac [bi 14 1 3,aF 15 78 [t 14],aa 8 15] (ac [aa 16 8,aA 17 .neq 16 0] (aQ 17 (aC [aa 18 8,bO 6,aa 7 18])))).seq ((ac [aa 19 1,aA 20 .lss 19 0,aa 21 20,bA 22 21 (cM 1),bA 23 21 (cB .geq (t 22) (cN 8)),fS 24 21 23] (aQ 24 (aC [bO 6,aE 7 2]))).seq (ac [bi 26 1 3,aa 27 1,aF 28 83 [t 26,t 27],aa 25 28,aW 29 25 0,aW 30 25 1,aa 9 29,aa 10 30] ((ac [aa 31 10,aA 32 .neq 31 0] (aQ 32 (aC [aa 33 10,bO 6,aa 7 33]))).seq (ac [bO 11] ((ac [aa 34 2,bj 35 34,aE 36 0] (block 0 ((dX 37 36 35 0 ((block 1 (ac [aa 38 36,be 39 1 34 36,aG 40 39,aa 12 38,aa 13 40] ((block 2 (ac [aa 42 13,aA 43 .lss 42 0,aa 44 43,bA 45 44 (cM 13),bA 46 44 (cM 9),bA 47 44 (lenS (t 46)),bA 48 44 (cB .geq (t 45) (t 47)),fS 49 44 48,aa 41 49] (cV 41 (aC [bO 6,aE 7 2]) (ac [aa 51 12,aA 52 .gtr 51 0,aa 53 52,ap 54 53 (cM 13),ap 55 53 (cM 2),ap 56 53 (cM 12),ap 57 53 (cB .sub (t 56) (cN 1)),ap 58 53 (ixaS 1 (t 55) (t 57)),ap 59 53 (cD 58),ap 60 53 (cB .leq (t 54) (t 59)),dx 61 53 60,aa 50 61] (aQ 50 (aC [bO 6,aE 7 14])))))).seq (ops 0 [aa 62 11,aa 63 9,aa 64 13,be 65 1 63 64,aG 66 65,cO 67 (bldS 1 1 [AV.esl] [(0,1,t 66)]),gj 68 1 24 62 67,aa 11 68])))).seq (dQ 69 36)))).loop)).seq (aC [aa 70 11,aF 71 84 [t 70],aa 6 71,aE 7 0])))))))))
theorem P7:Is Tryz.prog 34 b34:=mkI Tryz.func34
def b37:F2:=(F2.mk 40 [RV.t 2,RV.t 3] (ac [dg 1 0,aE 2 0,aE 3 0] ((ac [bi 9 1 1,aF 10 78 [t 9],aa 4 10] (ac [aa 11 4,aA 12 .neq 11 0] (aQ 12 (aC [aa 13 4,aE 2 0,aa 3 13])))).seq (ac [aE 5 0] ((ac [aE 6 1] (block 0 ((ac [aa 14 6,aA 15 .leq 14 8] (cV 15 skip (exit 0))).seq ((block 1 (ac [b0 19 0 1,aG 20 19,aa 21 6,aF 22 87 [t 20,t 21],aa 18 22,aW 23 18 0,aW 24 18 1,aa 7 23,aa 8 24] ((ac [aa 25 8,aA 26 .neq 25 0] (aQ 26 (aC [aa 27 8,aE 2 0,aa 3 27]))).seq (ac [aa 28 6,aA 29 .rem 28 2,aA 30 .eql 29 1] (cV 30 (ops 0 [aa 31 5,aa 32 7,bj 33 32,bl 34 .add 31 33,aa 5 34]) (ops 0 [aa 35 5,aa 36 7,bj 37 36,bl 38 .sub 35 37,aa 5 38])))))).seq (ops 0 [aa 16 6,aA 17 .add 16 1,aa 6 17]))).loop)).seq (aC [aa 39 5,aa 2 39,aE 3 0]))))))
theorem NL:Is Tryz.prog 37 b37:=mkI Tryz.func37
def b38:F2:=(F2.mk 90 [RV.t 2,RV.t 3] (ac [dg 1 0,bO 2,aE 3 0] ((ac [bi 20 1 1,aF 21 78 [t 20],aa 4 21] (ac [aa 22 4,aA 23 .neq 22 0] (aQ 23 (aC [aa 24 4,bO 2,aa 3 24])))).seq (ac [cO 25 (mkm none),cO 5 (alloc AV.nilm),bz 1 5 25] (ac [cO 26 (mkfn 88 [t 5]),aa 6 26] ((ac [b0 27 0 1,aG 28 27,bj 29 28,aE 30 0] (block 0 ((dX 31 30 29 0 ((block 1 (ac [be 32 1 28 30,aG 33 32,aa 8 33] (ac [aa 34 8,cO 35 (sls 2 (t 34) (some (cN 1)) none none),bj 36 35,aE 37 0] (block 2 ((dX 38 37 36 2 ((block 3 (ac [be 39 2 35 37,bi 40 2 39,cO 10 (alloc (AV.agg [bc,bc])),bz 2 10 40] ((anyI [aa 41 6,aa 42 8,cO 43 (ixaS 2 (t 42) (cN 0)),bi 44 2 43,cO 45 (call (t 41) [t 44]),aa 46 6,bi 47 2 10,cO 48 (call (t 46) [t 47]),cO 11 (alloc (AV.agg [bc,bc])),cO 12 (alloc (AV.agg [bc,bc])),bz 2 11 45,bz 2 12 48] [[],[],[1],[1,2],[0,1,2,3],[],[],[0,1,2,3,4,5,6],[],[],[0,1,2,3,4,5,6,7,8,9],[0,1,2,3,4,5,6,7,8,9,10]]).seq (ac [bi 49 2 11,bi 50 2 12,cO 51 (binS BinOp.neq [int,int] (t 49) (t 50))] (aQ 51 (ops 0 [aG 52 5,bi 53 2 11,bi 54 2 12,Op2.mk none none (mput (MK.st [int,int]) (t 52) (t 53) (t 54))])))))).seq (dQ 55 37)))).loop)))).seq (dQ 56 30)))).loop)).seq (ac [cO 57 (mkm none),aa 13 57] (ac [bO 14] ((ac [b0 58 0 1,aG 59 58,bj 60 59,aE 61 0] (block 4 ((dX 62 61 60 4 ((block 5 (ac [be 63 1 59 61,aG 64 63,aa 16 64] (ac [aa 65 6,aa 66 16,cO 67 (ixaS 2 (t 66) (cN 0)),bi 68 2 67,cO 69 (call (t 65) [t 68]),cO 17 (alloc (AV.agg [bc,bc])),bz 2 17 69] ((ac [aa 71 13,bi 72 2 17,cO 73 (Ins.mget (MK.st [int,int]) (bc) true (t 71) (t 72)),aa 70 73,aW 74 70 0,aW 75 70 1,aa 18 74,aa 19 75] (ac [aa 76 19,iU 77 76] (aQ 77 (ops 0 [aa 78 13,bi 79 2 17,aa 80 13,cO 81 (mlen (t 80)),Op2.mk none none (mput (MK.st [int,int]) (t 78) (t 79) (t 81))])))).seq (ops 0 [aa 82 14,aa 83 13,bi 84 2 17,cO 85 (Ins.mget (MK.st [int,int]) (bc) false (t 83) (t 84)),cO 86 (bldS 1 1 [bc] [(0,1,t 85)]),gj 87 1 8 82 86,aa 14 87]))))).seq (dQ 88 61)))).loop)).seq (aC [aa 89 14,aa 2 89,aE 3 0]))))))))))
theorem P1:Is Tryz.prog 38 b38:=mkI Tryz.func38
def b39:F2:=(F2.mk 112 [RV.cn 4 1,RV.t 5] (ac [dg 2 0,dg 3 1,cO 4 (alloc (AV.agg [AV.esl])),aE 5 0] ((ac [bi 19 1 2,bi 20 1 3,aF 21 89 [t 19,t 20],aa 6 21] (ac [aa 22 6,aA 23 .neq 22 0] (aQ 23 (aC [cO 24 (bld [AV.esl] []),aa 25 6,bz 1 4 24,aa 5 25])))).seq ((ac [b0 26 0 2,aG 27 26,bj 28 27,aA 29 .eql 28 0,aa 30 29,bA 31 30 (fa 0 (t 3)),bA 32 30 (cD 31),bA 33 30 (lenS (t 32)),bA 34 30 (cB .eql (t 33) (cN 0)),fS 35 30 34] (aQ 35 ((mixS 1 [b0 36 0 2,aG 37 36,aF 38 91 [t 37],b0 39 0 3,aG 40 39,gj 41 1 24 38 40,aF 42 90 [t 41],bz 1 4 42,aE 5 0] [(0,0),(1,0),(3,0),(4,0),(2,1),(5,2),(6,2),(7,2),(8,0)]).seq ret))).seq (ac [b0 43 0 2,aG 44 43,aF 45 92 [t 44],aa 7 45] ((ac [b0 46 0 3,aG 47 46,aF 48 93 [t 47],bj 49 48,aE 50 0] (block 0 ((dX 51 50 49 0 ((block 1 (ac [be 52 2 48 50,bi 53 2 52,cO 9 (alloc (AV.agg [bc,bc])),bz 2 9 53] (ac [aa 54 7,bi 55 2 9,cO 56 (Ins.mget (MK.st [int,int]) AV.esl false (t 54) (t 55)),bj 57 56,aA 58 .gtr 57 0] (aQ 58 (aC [cO 59 (bld [AV.esl] []),bz 1 4 59,aE 5 7]))))).seq (dQ 60 50)))).loop)).seq (ac [bi 62 1 2,aF 63 94 [t 62],aa 61 63,aW 64 61 0,aW 65 61 1,aa 10 64,aa 11 65] (ac [bi 67 1 3,aF 68 94 [t 67],aa 66 68,aW 69 66 0,aW 70 66 1,aa 12 69,aa 13 70] ((ac [aa 71 10,aa 72 12,bl 73 .add 71 72,aA 74 .add 73 2,aA 75 .gtr 74 8,aa 76 75,bA 77 76 (fa 0 (t 2)),bA 78 76 (cD 77),bA 79 76 (lenS (t 78)),bA 80 76 (fa 0 (t 3)),bA 81 76 (cD 80),bA 82 76 (lenS (t 81)),bA 83 76 (cB .mul (t 79) (t 82)),bA 84 76 (cB .gtr (t 83) (cN 4096)),fS 85 76 84] (aQ 85 (aC [cO 86 (bld [AV.esl] []),bz 1 4 86,aE 5 5]))).seq (ac [bO 14] ((ac [b0 87 0 2,aG 88 87,bj 89 88,aE 90 0] (block 2 ((dX 91 90 89 2 ((block 3 (ac [be 92 1 88 90,aG 93 92,aa 16 93] (ac [b0 94 0 3,aG 95 94,bj 96 95,aE 97 0] (block 4 ((dX 98 97 96 4 ((block 5 (ac [be 99 1 95 97,aG 100 99,aa 18 100] (ops 0 [aa 101 14,aa 102 16,aa 103 18,cO 104 (bldS 1 2 [AV.esl] [(0,1,t 102),(1,1,t 103)]),aF 105 93 [t 104],cO 106 (bldS 1 1 [AV.esl] [(0,1,t 105)]),gj 107 1 24 101 106,aa 14 107]))).seq (dQ 108 97)))).loop)))).seq (dQ 109 90)))).loop)).seq (aC [aa 110 14,aF 111 90 [t 110],bz 1 4 111,aE 5 0]))))))))))))
theorem Q0:Is Tryz.prog 39 b39:=mkI Tryz.func39
def b40:F2:=(F2.mk 28 [RV.t 2] (ac [cz 2] ((ac [aE 3 0] (block 0 ((ac [aa 4 3,aa 5 0,bj 6 5,bl 7 .lss 4 6,aa 8 7,ap 9 8 (cM 3),ap 10 8 (cB .lss (t 9) (cN 50)),dx 11 8 10] (cV 11 skip (exit 0))).seq ((block 1 (ac [aa 14 0,aa 15 3,be 16 1 14 15,aG 17 16,bj 18 17,aA 19 .gtr 18 10] (aQ 19 (aC [cz 2])))).seq (ops 0 [aa 12 3,aA 13 .add 12 1,aa 3 13]))).loop)).seq (aC [aa 20 0,bj 21 20,aA 22 .leq 21 40,aa 23 22,bA 24 23 (cM 0),bA 25 23 (lenS (t 24)),bA 26 23 (cB .gtr (t 25) (cN 4096)),fS 27 23 26,aa 2 27]))))
theorem Qn:Is Tryz.prog 40 b40:=mkI Tryz.func40
def b41:F2:=(F2.mk 6 [RV.t 2] (ac [dg 1 0,cz 2] (aC [b0 3 0 1,aG 4 3,aF 5 95 [t 4],aa 2 5])))
theorem QI:Is Tryz.prog 41 b41:=mkI Tryz.func41
def b42:F2:=(F2.mk 19 [RV.t 2] (ac [bO 2] (ac [bO 3] ((ac [aa 6 0,bj 7 6,aE 8 0] (block 0 ((dX 9 8 7 0 ((block 1 (ac [be 10 1 6 8,aG 11 10,aa 5 11] (ops 0 [aa 12 3,aa 13 5,cO 14 (bld [bc,bc] [(0,1,t 13)]),cO 15 (bldS 2 1 [bc,bc] [(0,2,t 14)]),gj 16 2 16 12 15,aa 3 16]))).seq (dQ 17 8)))).loop)).seq (aC [aa 18 3,aa 2 18])))))
theorem QQ:Is Tryz.prog 42 b42:=mkI Tryz.func42
def b43:F2:=(F2.mk 11 [RV.t 2] (ac [dg 1 0,aE 2 0] (ac [bi 6 1 1,aF 7 37 [t 6],aa 5 7,aW 8 5 0,aW 9 5 1,aa 3 8,aa 4 9] (aC [aa 10 4,aa 2 10]))))
theorem Lu:Is Tryz.prog 43 b43:=mkI Tryz.func43
def b44:F2:=(F2.mk 79 [RV.t 2,RV.t 3] (ac [dg 1 0,bO 2,aE 3 0] (ac [bi 16 1 1,aF 17 96 [t 16],aa 15 17,aW 18 15 0,aW 19 15 1,aW 20 15 2,aa 4 18,aa 5 19,aa 6 20] ((ac [aa 21 6,aA 22 .neq 21 0] (aQ 22 (aC [aa 23 6,bO 2,aa 3 23]))).seq (ac [cO 24 (mkm none),aa 7 24] ((ac [aa 25 4,aA 26 .add 25 2,aE 27 0] (block 0 ((dX 28 27 26 0 ((block 1 (ac [aa 29 27,aa 8 29] (ac [bi 31 1 1,aa 32 8,aF 33 58 [t 31,t 32],aa 30 33,aW 34 30 0,aW 35 30 1,cO 9 (alloc (AV.agg [bc,AV.esl])),bz 2 9 34,aa 10 35] ((ac [aa 36 10,aA 37 .neq 36 0] (aQ 37 (aC [aa 38 10,bO 2,aa 3 38]))).seq (ac [aa 40 7,aa 41 8,bi 42 2 9,aF 43 97 [t 42],aa 39 43,aW 44 39 0,aW 45 39 1,Op2.mk none none (mput (one int) (t 40) (t 41) (t 44)),aa 10 45] (ac [aa 46 10,aA 47 .neq 46 0] (aQ 47 (aC [aa 48 10,bO 2,aa 3 48])))))))).seq (dQ 49 27)))).loop)).seq (ac [bO 11] ((ac [aa 50 4,aA 51 .add 50 1,aE 52 0] (block 2 ((dX 53 52 51 2 ((block 3 (ac [aa 54 52,aa 12 54] (ac [bi 56 1 1,aa 57 12,aF 58 98 [t 56,t 57],aa 55 58,aW 59 55 0,aW 60 55 1,aa 13 59,aa 14 60] ((ac [aa 61 14,aA 62 .neq 61 0] (aQ 62 (aC [aa 63 14,bO 2,aa 3 63]))).seq (ops 0 [aa 64 11,aa 65 13,aa 66 7,aa 67 12,cO 68 (Ins.mget (one int) (bc) false (t 66) (t 67)),bl 69 .sub 65 68,aa 70 7,aa 71 12,aA 72 .add 71 1,cO 73 (Ins.mget (one int) (bc) false (t 70) (t 72)),bl 74 .sub 69 73,cO 75 (bldS 1 1 [bc] [(0,1,t 74)]),gj 76 1 8 64 75,aa 11 76]))))).seq (dQ 77 52)))).loop)).seq (aC [aa 78 11,aa 2 78,aE 3 0])))))))))
theorem Np:Is Tryz.prog 44 b44:=mkI Tryz.func44
def b48:F2:=(F2.mk 9 [RV.t 4] (ac [cz 4] (aC [aa 5 0,aa 6 1,aF 7 101 [t 5,t 6],aA 8 .geq 7 0,aa 4 8])))
theorem Q1:Is Tryz.prog 48 b48:=mkI Tryz.func48
def b49:F2:=(F2.mk 5 [RV.t 2] (ac [cz 2] (aC [aa 3 0,aA 4 .neq 3 0,aa 2 4])))
theorem QK:Is Tryz.prog 49 b49:=mkI Tryz.func49
def b50:F2:=(F2.mk 6 [RV.t 4] (ac [dg 2 0,dg 3 1,cO 4 (mov (c AV.nilf))] (aC [cO 5 (mkfn 102 [t 2,t 3]),aa 4 5])))
theorem Qq:Is Tryz.prog 50 b50:=mkI Tryz.func50
def b57:F2:=(F2.mk 31 [RV.t 4,RV.t 5] (ac [dg 2 0,bO 4,aE 5 0] (ac [bi 10 1 2,aa 11 1,aF 12 30 [t 10,t 11],aa 9 12,aW 13 9 0,aW 14 9 1,aa 6 13,aa 7 14] ((ac [aa 15 7,aA 16 .neq 15 0] (aQ 16 (aC [aa 17 7,bO 4,aa 5 17]))).seq (ac [aa 19 1,aF 20 33 [t 19],aa 18 20,aW 21 18 0,aW 22 18 1,aa 8 21,aa 7 22] ((ac [aa 23 7,aA 24 .eql 23 0,aa 25 24,ap 26 25 (cM 8),ap 27 25 (un UnOp.not (t 26)),dx 28 25 27] (aQ 28 (aC [bO 4,aE 5 3]))).seq (aC [aa 29 6,aa 30 7,aa 4 29,aa 5 30])))))))
theorem QJ:Is Tryz.prog 57 b57:=mkI Tryz.func57
def b58:F2:=(F2.mk 26 [RV.cn 4 2,RV.t 5] (ac [dg 2 0,cO 4 (alloc (AV.agg [bc,AV.esl])),aE 5 0] ((ac [aa 8 1,aA 9 .lss 8 8] (aQ 9 (aC [bi 10 1 2,aa 11 1,aF 12 112 [t 10,t 11],aW 13 12 0,aW 14 12 1,bz 2 4 13,aa 5 14]))).seq (ac [bi 16 1 2,aa 17 1,aA 18 .sub 17 1,aF 19 98 [t 16,t 18],aa 15 19,aW 20 15 0,aW 21 15 1,aa 6 20,aa 7 21] (aC [aa 22 6,cO 23 (mks 1 24 [AV.esl] (t 22) (t 22)),cO 24 (bld [bc,AV.esl] [(1,1,t 23)]),aa 25 7,bz 2 4 24,aa 5 25])))))
theorem Qf:Is Tryz.prog 58 b58:=mkI Tryz.func58
def b59:F2:=(F2.mk 65 [RV.t 4,RV.t 5,RV.t 6,RV.t 7] (ac [dg 2 0,bO 4,bO 5,cz 6,aE 7 0] ((ac [bi 17 2 2,aF 18 113 [t 17],aa 8 18] (ac [aa 19 8,aA 20 .neq 19 0] (aQ 20 (aC [aa 21 8,bO 4,bO 5,cz 6,aa 7 21])))).seq ((ac [aa 22 1,b0 23 1 2,aG 24 23,bj 25 24,aF 26 114 [t 22,t 25],aa 9 26] (ac [aa 27 9,aA 28 .neq 27 0] (aQ 28 (aC [aa 29 9,bO 4,bO 5,cz 6,aa 7 29])))).seq (ac [bi 31 2 2,aF 32 115 [t 31],aa 30 32,aW 33 30 0,aW 34 30 1,aa 10 33,aa 11 34] ((ac [aa 35 11,bj 36 35,aE 37 0] (block 0 ((dX 38 37 36 0 ((block 1 (ac [be 39 1 35 37,aG 40 39,aa 13 40] (ac [aa 41 13,aa 42 1,aF 43 116 [t 41,t 42]] (aQ 43 (aC [aa 44 13,bO 4,aa 5 44,cz 6,aE 7 0]))))).seq (dQ 45 37)))).loop)).seq (ac [bO 14] ((ac [aa 46 10,bj 47 46,aE 48 0] (block 2 ((dX 49 48 47 2 ((block 3 (ac [be 50 2 46 48,bi 51 2 50,cO 16 (alloc (AV.agg [AV.esl,AV.esl])),bz 2 16 51] (ac [b0 52 1 16,aG 53 52,aa 54 1,aF 55 116 [t 53,t 54]] (aQ 55 (ops 0 [aa 56 14,b0 57 0 16,aG 58 57,cO 59 (ixaS 1 (t 58) (cN 0)),aG 60 59,cO 61 (bldS 1 1 [bc] [(0,1,t 60)]),gj 62 1 8 56 61,aa 14 62]))))).seq (dQ 63 48)))).loop)).seq (aC [aa 64 14,aa 4 64,bO 5,ln 6,aE 7 0])))))))))
theorem QV:Is Tryz.prog 59 b59:=mkI Tryz.func59
def b63:F2:=(F2.mk 9 [RV.t 4] (ac [cz 4] (aC [aa 5 0,aa 6 1,aF 7 73 [t 5,t 6],aA 8 .eql 7 0,aa 4 8])))
theorem Qi:Is Tryz.prog 63 b63:=mkI Tryz.func63
def b67:F2:=(F2.mk 36 [RV.t 6,RV.t 7,RV.t 8] (ac [dg 3 0,bO 6,bO 7,aE 8 0] ((ac [bi 13 1 3,aF 14 43 [t 13],aa 9 14] (ac [aa 15 9,aA 16 .neq 15 0] (aQ 16 (aC [aa 17 9,bO 6,bO 7,aa 8 17])))).seq (ac [bi 19 1 3,aa 20 1,aF 21 30 [t 19,t 20],aa 18 21,aW 22 18 0,aW 23 18 1,aa 10 22,aa 11 23] ((ac [aa 24 11,aA 25 .neq 24 0] (aQ 25 (aC [aa 26 11,bO 6,bO 7,aa 8 26]))).seq (ac [bi 28 1 3,aa 29 2,aF 30 30 [t 28,t 29],aa 27 30,aW 31 27 0,aW 32 27 1,aa 12 31,aa 11 32] (aC [aa 33 10,aa 34 12,aa 35 11,aa 6 33,aa 7 34,aa 8 35])))))))
theorem QR:Is Tryz.prog 67 b67:=mkI Tryz.func67
def b68:F2:=(F2.mk 32 [RV.t 6] (ac [cz 6] ((ac [aa 10 0,bj 11 10,aa 12 1,bj 13 12,bl 14 .neq 11 13] (aQ 14 (aC [cz 6]))).seq ((ac [aa 15 0,bj 16 15,aE 17 0] (block 0 ((dX 18 17 16 0 ((block 1 (ac [aa 19 17,be 20 1 15 17,aG 21 20,aa 7 19,aa 8 21] (ac [aa 22 1,aa 23 7,be 24 1 22 23,aG 25 24,aa 9 25] (ac [aa 26 2,aa 27 8,aa 28 9,cO 29 (call (t 26) [t 27,t 28]),iU 30 29] (aQ 30 (aC [cz 6])))))).seq (dQ 31 17)))).loop)).seq (aC [ln 6])))))
theorem QC:Is Tryz.prog 68 b68:=mkI Tryz.func68
def b69:F2:=(F2.mk 9 [RV.t 4] (ac [cz 4] (aC [aa 5 0,aa 6 1,aF 7 70 [t 5,t 6],aA 8 .eql 7 0,aa 4 8])))
theorem QP:Is Tryz.prog 69 b69:=mkI Tryz.func69
def b70:F2:=(F2.mk 8 [RV.t 4] (ac [aE 4 0] (aC [aa 5 0,aa 6 1,aF 7 122 ([t 5,t 6,c (AV.func 123 [])]),aa 4 7])))
theorem QY:Is Tryz.prog 70 b70:=mkI Tryz.func70
def b71:F2:=(F2.mk 57 [RV.t 6] (ac [dg 3 0,aE 6 0] ((ac [bi 13 2 3,aF 14 113 [t 13],aa 7 14] (ac [aa 15 7,aA 16 .neq 15 0] (aQ 16 (aC [aa 17 7,aa 6 17])))).seq ((ac [aa 18 1,b0 19 1 3,aG 20 19,bj 21 20,aF 22 114 [t 18,t 21],aa 8 22] (ac [aa 23 8,aA 24 .neq 23 0] (aQ 24 (aC [aa 25 8,aa 6 25])))).seq ((ac [aa 26 2,b0 27 1 3,aG 28 27,bj 29 28,aF 30 114 [t 26,t 29],aa 9 30] (ac [aa 31 9,aA 32 .neq 31 0] (aQ 32 (aC [aa 33 9,aa 6 33])))).seq (ac [bO 10] ((ac [aa 34 2,bj 35 34,aE 36 0] (block 0 ((dX 37 36 35 0 ((block 1 (ac [be 38 1 34 36,aG 39 38,aa 12 39] (ops 0 [aa 40 10,b0 41 1 3,aG 42 41,aa 43 12,be 44 1 42 43,aG 45 44,aF 46 124 [t 40,t 45],aa 10 46]))).seq (dQ 47 36)))).loop)).seq ((ac [aa 48 10,bj 49 48,aA 50 .gtr 49 0,aa 51 50,bA 52 51 (cM 2),bA 53 51 (cM 1),bA 54 51 (call (cF 116) [t 52,t 53]),bA 55 51 (un UnOp.not (t 54)),fS 56 51 55] (aQ 56 (aC [aE 6 18]))).seq (aC [aE 6 0])))))))))
theorem P9:Is Tryz.prog 71 b71:=mkI Tryz.func71
def b72:F2:=(F2.mk 39 [RV.t 2] (ac [aE 2 0] ((block 0 (ac [aa 5 0,bj 6 5,aA 7 .eql 6 0,aa 4 7] (cV 4 (aC [aE 2 16]) (ac [aa 9 0,bj 10 9,aA 11 .gtr 10 8,aa 8 11] (aQ 8 (aC [aE 2 5])))))).seq ((ac [aE 3 0] (block 1 ((ac [aa 12 3,aa 13 0,bj 14 13,bl 15 .lss 12 14] (cV 15 skip (exit 1))).seq ((block 2 ((ac [aa 18 0,aa 19 3,be 20 2 18 19,bi 21 2 20,aF 22 125 [t 21],iU 23 22] (aQ 23 (aC [aE 2 2]))).seq ((mixS 1 [aa 24 3,aA 25 .gtr 24 0,aa 26 25,ap 27 26 (cM 0),ap 28 26 (cM 3),ap 29 26 (cB .sub (t 28) (cN 1)),ap 30 26 (ixaS 2 (t 27) (t 29)),ap 31 26 (ldn 2 (t 30)),ap 32 26 (cM 0),ap 33 26 (cM 3),ap 34 26 (ixaS 2 (t 32) (t 33)),ap 35 26 (ldn 2 (t 34)),ap 36 26 (call (cF 126) [t 31,t 35]),ap 37 26 (cB .geq (t 36) (cN 0)),dx 38 26 37] [(0,0),(1,0),(2,0),(3,0),(4,0),(5,0),(6,0),(7,0),(8,0),(9,0),(10,0),(11,0),(12,2),(13,0),(14,0)]).seq (aQ 38 (aC [aE 2 14]))))).seq (ops 0 [aa 16 3,aA 17 .add 16 1,aa 3 17]))).loop)).seq (aC [aE 2 0])))))
theorem Qx:Is Tryz.prog 72 b72:=mkI Tryz.func72
def b73:F2:=(F2.mk 43 [RV.t 4] (ac [aE 4 0] ((ac [aE 5 0] (block 0 ((ac [aa 7 5,aa 8 0,bj 9 8,bl 10 .lss 7 9,aa 11 10,ap 12 11 (cM 5),ap 13 11 (cM 1),ap 14 11 (lenS (t 13)),ap 15 11 (cB .lss (t 12) (t 14)),dx 16 11 15] (cV 16 skip (exit 0))).seq ((block 1 ((mixS 1 [aa 19 0,aa 20 5,be 21 2 19 20,bi 22 2 21,aa 23 1,aa 24 5,be 25 2 23 24,bi 26 2 25,aF 27 126 [t 22,t 26],aa 6 27] [(0,0),(1,0),(2,0),(3,0),(4,0),(5,0),(6,0),(7,0),(8,2),(9,0)]).seq (ac [aa 28 6,aA 29 .neq 28 0] (aQ 29 (aC [aa 30 6,aa 4 30]))))).seq (ops 0 [aa 17 5,aA 18 .add 17 1,aa 5 18]))).loop)).seq ((block 2 (ac [aa 32 0,bj 33 32,aa 34 1,bj 35 34,bl 36 .lss 33 35,aa 31 36] (cV 31 (aC [cO 4 (mov (cN ((-1))))]) (ac [aa 38 0,bj 39 38,aa 40 1,bj 41 40,bl 42 .gtr 39 41,aa 37 42] (aQ 37 (aC [aE 4 1])))))).seq (aC [aE 4 0])))))
theorem Qm:Is Tryz.prog 73 b73:=mkI Tryz.func73
def b74:F2:=(F2.mk 19 [RV.t 4] (ac [cz 4] ((ac [aE 5 0] (block 0 ((ac [aa 6 5,aa 7 0,bj 8 7,bl 9 .lss 6 8] (cV 9 skip (exit 0))).seq ((block 1 (ac [aa 12 1,aa 13 0,aa 14 5,be 15 2 13 14,bi 16 2 15,aF 17 127 [t 12,t 16],iU 18 17] (aQ 18 (aC [cz 4])))).seq (ops 0 [aa 10 5,aA 11 .add 10 1,aa 5 11]))).loop)).seq (aC [ln 4]))))
theorem P3:Is Tryz.prog 74 b74:=mkI Tryz.func74
def b75:F2:=(F2.mk 43 [RV.t 2] (ac [aE 2 0] ((ac [aa 6 0,bj 7 6,aA 8 .gtr 7 4096] (aQ 8 (aC [aE 2 5]))).seq ((ac [aa 9 0,bj 10 9,aE 11 0] (block 0 ((dX 12 11 10 0 ((block 1 (ac [aa 13 11,be 14 1 9 11,aG 15 14,aa 3 13,aa 4 15] ((ac [aa 16 4,aF 17 128 [t 16],aa 5 17] (ac [aa 18 5,aA 19 .neq 18 0] (aQ 19 (aC [aa 20 5,aa 2 20])))).seq (block 2 (ac [aa 22 4,bj 23 22,aa 24 0,cO 25 (ixaS 1 (t 24) (cN 0)),aG 26 25,bj 27 26,bl 28 .neq 23 27,aa 21 28] (cV 21 (aC [aE 2 15]) (ac [aa 30 3,aA 31 .gtr 30 0,aa 32 31,ap 33 32 (cM 0),ap 34 32 (cM 3),ap 35 32 (cB .sub (t 34) (cN 1)),ap 36 32 (ixaS 1 (t 33) (t 35)),ap 37 32 (cD 36),ap 38 32 (cM 4),ap 39 32 (call (cF 70) [t 37,t 38]),ap 40 32 (cB .geq (t 39) (cN 0)),dx 41 32 40,aa 29 41] (aQ 29 (aC [aE 2 14]))))))))).seq (dQ 42 11)))).loop)).seq (aC [aE 2 0])))))
theorem P6:Is Tryz.prog 75 b75:=mkI Tryz.func75
def b76:F2:=(F2.mk 9 [RV.t 2,RV.t 3] (ac [bO 2,aE 3 0] ((ac [aa 4 0,bj 5 4,aA 6 .gtr 5 4096] (aQ 6 (aC [bO 2,aE 3 5]))).seq (aC [aa 7 0,aF 8 84 [t 7],aa 2 8,aE 3 0]))))
theorem Qs:Is Tryz.prog 76 b76:=mkI Tryz.func76
def b77:F2:=(F2.mk 52 [RV.t 2] (ac [bO 2] (ac [cO 13 (mkm none),cO 3 (alloc AV.nilm),bz 1 3 13] ((ac [aa 14 0,bj 15 14,aE 16 0] (block 0 ((dX 17 16 15 0 ((block 1 (ac [be 18 1 14 16,aG 19 18,aa 5 19] (ac [aa 20 5,aF 21 129 [t 20]] (block 2 (rangeF (t 21) [22] (ops 0 [aa 6 22]) (block 3 (ac [cO 7 (alloc (AV.agg [bc,bc,bc,bc,bc,bc,bc,bc,bc,bc,bc,bc,bc,bc,bc,bc]))] (ac [cO 23 (slp 8 2 (t 7)),aa 24 6,cO 25 (cpy 2 (t 23) (t 24))] (ac [aG 27 3,bi 28 16 7,cO 29 (Ins.mget (MK.st [int,int,int,int,int,int,int,int,int,int,int,int,int,int,int,int]) AV.esl true (t 27) (t 28)),aa 26 29,aW 30 26 0,aW 31 26 1,aa 8 30,aa 9 31] (ac [aa 32 9] (cV 32 (ops 0 [aG 33 3,bi 34 16 7,Op2.mk none none (mdel (MK.st [int,int,int,int,int,int,int,int,int,int,int,int,int,int,int,int]) (t 33) (t 34))]) (ops 0 [aG 35 3,bi 36 16 7,aa 37 6,Op2.mk none none (mput (MK.st [int,int,int,int,int,int,int,int,int,int,int,int,int,int,int,int]) (t 35) (t 36) (t 37))])))))))))))).seq (dQ 38 16)))).loop)).seq (ac [bO 10] ((ac [aG 39 3,cO 40 (mrng (t 39))] (block 4 (ac [cO 41 (mnxt (t 40)),aW 42 41 0] (JN 42 4 (block 5 (ac [cO 43 (ment (t 40)),aW 44 43 1,aa 12 44] (ops 0 [aa 45 10,aa 46 12,cO 47 (bldS 1 1 [AV.esl] [(0,1,t 46)]),gj 48 1 24 45 47,aa 10 48]))))).loop)).seq (ac [aa 49 10,aF 50 130 ([t 49,c (AV.func 70 [])])] (aC [aa 51 10,aa 2 51]))))))))
theorem Qy:Is Tryz.prog 77 b77:=mkI Tryz.func77
def b78:F2:=(F2.mk 60 [RV.t 2] (ac [dg 1 0,aE 2 0] ((ac [b0 9 0 1,aG 10 9,bj 11 10,aA 12 .gtr 11 4096] (aQ 12 (aC [aE 2 5]))).seq ((ac [b0 13 0 1,aG 14 13,bj 15 14,aE 16 0] (block 0 ((dX 17 16 15 0 ((block 1 (ac [aa 18 16,be 19 1 14 16,aG 20 19,aa 3 18,aa 4 20] ((ac [aa 21 4,aF 22 128 [t 21],aa 5 22] (ac [aa 23 5,aA 24 .neq 23 0] (aQ 24 (aC [aa 25 5,aa 2 25])))).seq (ac [aa 26 3,aA 27 .gtr 26 0,aa 28 27,ap 29 28 (fa 0 (t 1)),ap 30 28 (cD 29),ap 31 28 (cM 3),ap 32 28 (cB .sub (t 31) (cN 1)),ap 33 28 (ixaS 1 (t 30) (t 32)),ap 34 28 (cD 33),ap 35 28 (cM 4),ap 36 28 (call (cF 70) [t 34,t 35]),ap 37 28 (cB .geq (t 36) (cN 0)),dx 38 28 37] (aQ 38 (aC [aE 2 14])))))).seq (dQ 39 16)))).loop)).seq (ac [b0 40 0 1,aG 41 40,aF 42 92 [t 41],aa 6 42] ((ac [b0 43 0 1,aG 44 43,bj 45 44,aE 46 0] (block 2 ((dX 47 46 45 2 ((block 3 (ac [be 48 1 44 46,aG 49 48,aa 8 49] ((mixS 9 [b0 50 0 1,aG 51 50,aa 52 6,aa 53 8,cO 54 (ixaS 2 (t 53) (cN 0)),bi 55 2 54,cO 56 (Ins.mget (MK.st [int,int]) AV.esl false (t 52) (t 55)),aa 57 8,aF 58 131 [t 51,t 56,t 57]] [(0,0),(1,0),(2,0),(3,0),(4,0),(5,0),(7,0),(6,1),(8,2)]).seq (aQ 58 (aC [aE 2 7]))))).seq (dQ 59 46)))).loop)).seq (aC [aE 2 0])))))))
theorem QO:Is Tryz.prog 78 b78:=mkI Tryz.func78
def b79:F2:=(F2.mk 24 [RV.t 4,RV.t 5] (ac [dg 2 0,bO 4,aE 5 0] ((ac [bi 7 1 2,aF 8 78 [t 7],aa 6 8] (ac [aa 9 6,aA 10 .neq 9 0] (aQ 10 (aC [aa 11 6,bO 4,aa 5 11])))).seq ((ac [aa 12 1,aA 13 .lss 12 1,aa 14 13,bA 15 14 (cM 1),bA 16 14 (cB .gtr (t 15) (cN 8)),fS 17 14 16] (aQ 17 (aC [bO 4,aE 5 2]))).seq (aC [b0 18 0 2,aG 19 18,aa 20 1,aF 21 87 [t 19,t 20],aW 22 21 0,aW 23 21 1,aa 4 22,aa 5 23])))))
theorem Qb:Is Tryz.prog 79 b79:=mkI Tryz.func79
def b80:F2:=(F2.mk 11 [RV.t 4,RV.t 5] (ac [aE 4 0,cz 5] (aC [aa 6 0,aa 7 1,aF 8 132 ([t 6,t 7,c (AV.func 70 [])]),aW 9 8 0,aW 10 8 1,aa 4 9,aa 5 10])))
theorem Qw:Is Tryz.prog 80 b80:=mkI Tryz.func80
def b81:F2:=(F2.mk 51 [RV.t 4,RV.t 5] (ac [dg 2 0,cO 4 (mov (c AV.nilp)),aE 5 0] (ac [bi 11 1 2,aa 12 1,aA 13 .add 12 1,aF 14 58 [t 11,t 13],aa 10 14,aW 15 10 0,aW 16 10 1,cO 6 (alloc (AV.agg [bc,AV.esl])),bz 2 6 15,aa 7 16] ((ac [aa 17 7,aA 18 .neq 17 0] (aQ 18 (aC [aa 19 7,cO 4 (mov (c AV.nilp)),aa 5 19]))).seq (ac [bi 21 1 2,aa 22 1,aF 23 98 [t 21,t 22],aa 20 23,aW 24 20 0,aW 25 20 1,aa 8 24,aa 7 25] ((ac [aa 26 7,aA 27 .neq 26 0] (aQ 27 (aC [aa 28 7,cO 4 (mov (c AV.nilp)),aa 5 28]))).seq (ac [bi 30 2 6,aF 31 133 [t 30],aa 29 31,aW 32 29 0,aW 33 29 1,cO 9 (alloc (AV.agg [bc,AV.esl])),bz 2 9 32,aa 7 33] ((ac [aa 34 7,aA 35 .neq 34 0] (aQ 35 (aC [aa 36 7,cO 4 (mov (c AV.nilp)),aa 5 36]))).seq (ac [aa 37 8,b0 38 0 9,bz 1 38 37] (ac [bi 40 2 9,aF 41 134 [t 40],aa 39 41,aW 42 39 0,aW 43 39 1,bz 2 9 42,aa 7 43] (aC [bi 44 2 9,b0 45 1 9,aG 46 45,bj 47 46,cO 48 (bld [bc,AV.esl,bc] [(0,2,t 44),(2,1,t 47)]),dg 49 48,aa 50 7,aa 4 49,aa 5 50])))))))))))
theorem P5:Is Tryz.prog 81 b81:=mkI Tryz.func81
def b82:F2:=(F2.mk 48 [RV.t 4,RV.t 5] (ac [cz 4,aE 5 0] ((mixF [aa 9 0,cO 10 (nilck (t 9)),b0 11 0 10,b0 12 0 11,aG 13 12,aa 14 0,cO 15 (nilck (t 14)),b0 16 0 15,b0 17 1 16,aG 18 17,aF 19 135 [t 18],aa 20 1,cO 21 (bldS 1 1 [AV.esl] [(0,1,t 20)]),gj 22 1 24 19 21,cO 23 (bld [bc,AV.esl] [(0,1,t 13),(1,1,t 22)]),cO 6 (alloc (AV.agg [bc,AV.esl])),bz 2 6 23] (15,1) [(0,0),(1,0),(2,0),(3,0),(4,0),(5,0),(6,0),(7,0),(8,0),(9,0),(11,0),(12,3),(10,1),(13,1),(14,0)] [(16,2)]).seq (ac [bi 25 2 6,aF 26 97 [t 25],aa 24 26,aW 27 24 0,aW 28 24 1,aa 7 27,aa 8 28] ((ac [aa 29 8,aA 30 .neq 29 0,aa 31 30,bA 32 31 (cM 7),bA 33 31 (cM 0),bA 34 31 (nilck (t 33)),bA 35 31 (fa 2 (t 34)),bA 36 31 (cD 35),bA 37 31 (cB .eql (t 32) (t 36)),fS 38 31 37] (aQ 38 (aC [aa 39 8,cz 4,aa 5 39]))).seq (ac [aa 40 0,aa 41 0,bi 42 2 6,aa 43 7,cO 44 (nilck (t 40)),b0 45 0 44,bz 2 45 42,cO 46 (nilck (t 41)),b0 47 2 46,bz 1 47 43] (aC [ln 4,aE 5 0])))))))
theorem QE:Is Tryz.prog 82 b82:=mkI Tryz.func82
def b83:F2:=(F2.mk 14 [RV.t 4,RV.t 5] (ac [dg 2 0,bO 4,aE 5 0] ((ac [aa 6 1,aA 7 .lss 6 0] (aQ 7 (aC [bO 4,aE 5 0]))).seq (aC [bi 8 1 2,aa 9 1,aA 10 .add 9 1,aF 11 79 [t 8,t 10],aW 12 11 0,aW 13 11 1,aa 4 12,aa 5 13]))))
theorem QB:Is Tryz.prog 83 b83:=mkI Tryz.func83
def b84:F2:=(F2.mk 19 [RV.t 2] (ac [bO 2] (ac [bO 3] ((ac [aa 6 0,bj 7 6,aE 8 0] (block 0 ((dX 9 8 7 0 ((block 1 (ac [be 10 1 6 8,aG 11 10,aa 5 11] (ops 0 [aa 12 3,aa 13 5,aF 14 136 [t 13],cO 15 (bldS 1 1 [AV.esl] [(0,1,t 14)]),gj 16 1 24 12 15,aa 3 16]))).seq (dQ 17 8)))).loop)).seq (aC [aa 18 3,aa 2 18])))))
theorem Qh:Is Tryz.prog 84 b84:=mkI Tryz.func84
def b87:F2:=(F2.mk 60 [RV.t 4,RV.t 5] (ac [bO 4,aE 5 0] (ac [cO 14 (mkm none),aa 6 14] (ac [bO 7] ((ac [aa 15 0,bj 16 15,aE 17 0] (block 0 ((dX 18 17 16 0 ((block 1 (ac [be 19 1 15 17,aG 20 19,aa 9 20] ((ac [aa 21 9,bj 22 21,aa 23 1,bl 24 .lss 22 23] (aQ 24 (exit 1))).seq (ac [aa 26 9,aa 27 1,aF 28 137 [t 26,t 27],aa 25 28,aW 29 25 0,aW 30 25 1,aa 10 29,aa 11 30] ((ac [aa 31 11,aA 32 .neq 31 0] (aQ 32 (aC [aa 33 11,bO 4,aa 5 33]))).seq ((ac [aa 34 10,bj 35 34,aE 36 0] (block 2 ((dX 37 36 35 2 ((block 3 (ac [be 38 1 34 36,aG 39 38,aa 13 39] (ac [aa 40 6,aa 41 13,aF 42 138 [t 41],cO 43 (Ins.mget (MK.st [int,int,int,int,int,int,int,int,int,int,int,int,int,int,int,int]) (AV.bool false) false (t 40) (t 42)),iU 44 43] (aQ 44 (ac [aa 45 6,aa 46 13,aF 47 138 [t 46],Op2.mk none none (mput (MK.st [int,int,int,int,int,int,int,int,int,int,int,int,int,int,int,int]) (t 45) (t 47) Jn)] (ops 0 [aa 48 7,aa 49 13,cO 50 (bldS 1 1 [AV.esl] [(0,1,t 49)]),gj 51 1 24 48 50,aa 7 51])))))).seq (dQ 52 36)))).loop)).seq (ac [aa 53 7,bj 54 53,aA 55 .gtr 54 4096] (aQ 55 (aC [bO 4,aE 5 17]))))))))).seq (dQ 56 17)))).loop)).seq (ac [aa 57 7,aF 58 130 ([t 57,c (AV.func 70 [])])] (aC [aa 59 7,aa 4 59,aE 5 0])))))))
theorem Qt:Is Tryz.prog 87 b87:=mkI Tryz.func87
def b88:F2:=(F2.mk 16 [RV.cn 3 2] (ac [dg 2 0,cO 3 (alloc (AV.agg [bc,bc]))] (block 0 (block 1 (ac [aG 7 1,bi 8 2 2,cO 9 (Ins.mget (MK.st [int,int]) (AV.agg [bc,bc]) true (t 7) (t 8)),aa 6 9,aW 10 6 0,aW 11 6 1,cO 4 (alloc (AV.agg [bc,bc])),bz 2 4 10,aa 5 11] ((ac [aa 12 5,iU 13 12] (aQ 13 (aC [bi 14 2 2,bz 2 3 14]))).seq (ops 0 [bi 15 2 4,bz 2 2 15])))).loop)))
theorem Qa:Is Tryz.prog 88 b88:=mkI Tryz.func88
def b89:F2:=(F2.mk 13 [RV.t 4] (ac [dg 2 0,dg 3 1,aE 4 0] ((ac [bi 6 1 2,aF 7 78 [t 6],aa 5 7] (ac [aa 8 5,aA 9 .neq 8 0] (aQ 9 (aC [aa 10 5,aa 4 10])))).seq (aC [bi 11 1 3,aF 12 78 [t 11],aa 4 12]))))
theorem Qv:Is Tryz.prog 89 b89:=mkI Tryz.func89
def b90:F2:=(F2.mk 39 [RV.cn 2 1] (ac [cO 2 (alloc (AV.agg [AV.esl]))] (ac [aa 7 0,aF 8 91 [t 7],aa 0 8] (ac [aa 9 0,aF 10 130 ([t 9,c (AV.func 70 [])])] (ac [aa 11 0,aF 12 139 ([t 11,c (AV.func 140 [])]),aa 0 12] (ac [aa 13 0,aF 14 92 [t 13],aa 3 14] (ac [cO 4 (alloc (AV.agg [AV.esl]))] ((ac [aa 15 0,bj 16 15,aE 17 0] (block 0 ((dX 18 17 16 0 ((block 1 (ac [be 19 1 15 17,aG 20 19,aa 6 20] (ac [aa 21 0,aa 22 3,aa 23 6,cO 24 (ixaS 2 (t 23) (cN 0)),bi 25 2 24,cO 26 (Ins.mget (MK.st [int,int]) AV.esl false (t 22) (t 25)),aa 27 6,aF 28 131 [t 21,t 26,t 27],iU 29 28] (aQ 29 (mixS 1 [b0 30 0 4,aG 31 30,aa 32 6,aF 33 136 [t 32],cO 34 (bldS 1 1 [AV.esl] [(0,1,t 33)]),gj 35 1 24 31 34,b0 36 0 4,bz 1 36 35] [(0,0),(1,0),(2,0),(3,1),(4,1),(5,2),(6,0),(7,2)]))))).seq (dQ 37 17)))).loop)).seq (aC [bi 38 1 4,bz 1 2 38])))))))))
theorem QH:Is Tryz.prog 90 b90:=mkI Tryz.func90
def b91:F2:=(F2.mk 8 [RV.t 2] (ac [bO 2] ((ac [aa 3 0,cO 4 (snil false (t 3))] (aQ 4 (aC [bO 2]))).seq (aC [cO 5 (bldS 1 0 [AV.esl] []),aa 6 0,gj 7 1 24 5 6,aa 2 7]))))
theorem Pf:Is Tryz.prog 91 b91:=mkI Tryz.func91
def b92:F2:=(F2.mk 33 [RV.t 2] (ac [cO 2 (mov (c AV.nilm))] (ac [cO 8 (mkm none),aa 3 8] ((ac [aa 9 0,bj 10 9,aE 11 0] (block 0 ((dX 12 11 10 0 ((block 1 (ac [aa 13 11,be 14 1 9 11,aG 15 14,aa 4 13,aa 5 15] (ac [aa 16 5,bj 17 16,aE 18 0] (block 2 ((dX 19 18 17 2 ((block 3 (ac [be 20 2 16 18,bi 21 2 20,cO 7 (alloc (AV.agg [bc,bc])),bz 2 7 21] (ops 0 [aa 22 3,bi 23 2 7,aa 25 4,cO 26 (bldS 1 1 [bc] [(0,1,t 25)]),cO 27 (mplc (MK.st [int,int]) AV.esl (t 22) (t 23)),aW 24 27 0,gj 28 1 8 24 26,aW 29 27 1,Op2.mk none none (mpst (t 22) (t 29) (t 28))]))).seq (dQ 30 18)))).loop)))).seq (dQ 31 11)))).loop)).seq (aC [aa 32 3,aa 2 32])))))
theorem QL:Is Tryz.prog 92 b92:=mkI Tryz.func92
def b93:F2:=(F2.mk 10 [RV.t 2] (ac [bO 2] (ac [aa 4 0,aF 5 141 [t 4],aa 3 5] (ac [aa 6 3,aF 7 142 ([t 6,c (AV.func 143 [])])] (aC [aa 8 3,aF 9 144 [t 8],aa 2 9])))))
theorem QM:Is Tryz.prog 93 b93:=mkI Tryz.func93
def b94:F2:=(F2.mk 33 [RV.t 2,RV.t 3] (ac [dg 1 0,aE 2 0,cz 3] (ac [aE 4 8,aE 5 0] ((ac [b0 8 0 1,aG 9 8,bj 10 9,aE 11 0] (block 0 ((dX 12 11 10 0 ((block 1 (ac [be 13 1 9 11,aG 14 13,aa 7 14] (ops 0 [aa 15 4,aa 16 7,bj 17 16,cO 18 (mn (t 15) [t 17]),aa 19 5,aa 20 7,bj 21 20,cO 22 (mx (t 19) [t 21]),aa 4 18,aa 5 22]))).seq (dQ 23 11)))).loop)).seq (aC [aa 24 5,aA 25 .sub 24 1,aa 26 5,aA 27 .eql 26 0,aa 28 27,bA 29 28 (cM 4),bA 30 28 (cM 5),bA 31 28 (cB .eql (t 29) (t 30)),fS 32 28 31,aa 2 25,aa 3 32])))))
theorem Qe:Is Tryz.prog 94 b94:=mkI Tryz.func94
def b95:F2:=(F2.mk 19 [RV.t 2] (ac [cz 2] ((ac [aa 4 0,bj 5 4,aA 6 .gtr 5 30] (aQ 6 (aC [cz 2]))).seq ((ac [aE 3 0] (block 0 ((ac [aa 7 3,aa 8 0,bj 9 8,bl 10 .lss 7 9] (cV 10 skip (exit 0))).seq ((block 1 (ac [aa 13 0,aa 14 3,be 15 1 13 14,aG 16 15,aF 17 145 [t 16],iU 18 17] (aQ 18 (aC [cz 2])))).seq (ops 0 [aa 11 3,aA 12 .add 11 1,aa 3 12]))).loop)).seq (aC [ln 2])))))
theorem QT:Is Tryz.prog 95 b95:=mkI Tryz.func95
def b96:F2:=(F2.mk 20 [RV.t 2,RV.t 3,RV.t 4] (ac [dg 1 0,aE 2 0,cz 3,aE 4 0] ((ac [bi 8 1 1,aF 9 78 [t 8],aa 5 9] (ac [aa 10 5,aA 11 .neq 10 0] (aQ 11 (aC [aa 12 5,aE 2 0,cz 3,aa 4 12])))).seq (ac [bi 14 1 1,aF 15 94 [t 14],aa 13 15,aW 16 13 0,aW 17 13 1,aa 6 16,aa 7 17] (aC [aa 18 6,aa 19 7,aa 2 18,aa 3 19,aE 4 0])))))
theorem QA:Is Tryz.prog 96 b96:=mkI Tryz.func96
def b97:F2:=(F2.mk 15 [RV.t 2,RV.t 3] (ac [dg 1 0,aE 2 0,aE 3 0] (ac [bi 7 2 1,aF 8 134 [t 7],aa 6 8,aW 9 6 0,aW 10 6 1,cO 4 (alloc (AV.agg [bc,AV.esl])),bz 2 4 9,aa 5 10] (aC [b0 11 1 4,aG 12 11,bj 13 12,aa 14 5,aa 2 13,aa 3 14]))))
theorem Qp:Is Tryz.prog 97 b97:=mkI Tryz.func97
def b98:F2:=(F2.mk 24 [RV.t 4,RV.t 5] (ac [dg 2 0,aE 4 0,aE 5 0] ((ac [aa 8 1,aA 9 .lss 8 0,aa 10 9,bA 11 10 (cM 1),bA 12 10 (cB .geq (t 11) (cN 8)),fS 13 10 12] (aQ 13 (aC [aE 4 0,aE 5 0]))).seq (ac [bi 15 1 2,aa 16 1,aA 17 .add 16 1,aF 18 79 [t 15,t 17],aa 14 18,aW 19 14 0,aW 20 14 1,aa 6 19,aa 7 20] (aC [aa 21 6,bj 22 21,aa 23 7,aa 4 22,aa 5 23])))))
theorem QS:Is Tryz.prog 98 b98:=mkI Tryz.func98
def OC:F2:=(F2.mk 19 [RV.t 4] (ac [aE 4 0] ((ac [aa 6 0,bj 7 6,aE 8 0] (block 0 ((dX 9 8 7 0 ((block 1 (ac [aa 10 8,aa 5 10] (ac [aa 11 1,aa 12 0,aa 13 5,be 14 1 12 13,aG 15 14,cO 16 (call (t 11) [t 15])] (aQ 16 (aC [aa 17 5,aa 4 17]))))).seq (dQ 18 8)))).loop)).seq (aC [cO 4 (mov (cN ((-1))))]))))
theorem Oj:Is Tryz.prog 101 OC:=mkI Tryz.func101
def O1:F2:=(F2.mk 64 [] (ac [bi 13 1 1,aG 14 2,aF 15 81 [t 13,t 14],aa 12 15,aW 16 12 0,aW 17 12 1,aa 4 16,aa 5 17] (ac [cO 6 (alloc (AV.agg [bc,AV.esl]))] ((ac [aa 18 5,aA 19 .eql 18 0] (aQ 19 (ac [cO 7 (alloc (AV.agg [bc,AV.esl]))] (ac [bi 21 1 1,aG 22 2,aF 23 58 [t 21,t 22],aa 20 23,aW 24 20 0,aW 25 20 1,bz 2 7 24,aa 5 25] (ac [aa 26 5,aA 27 .eql 26 0] (aQ 27 (ops 0 [bi 29 2 7,aF 30 103 [t 29],aa 28 30,aW 31 28 0,aW 32 28 1,bz 2 6 31,aa 5 32]))))))).seq ((ac [aa 33 5,aA 34 .neq 33 0] (aQ 34 (aC [aa 35 0,aa 36 5,cO 37 (call (t 35) [c AV.esl,t 36])]))).seq (ac [b0 38 1 6,aG 39 38,bj 40 39,aE 41 0] (block 0 ((dX 42 41 40 0 ((block 1 (ac [be 43 1 39 41,aG 44 43,aa 9 44] (ac [aa 46 4,aa 47 9,aF 48 82 [t 46,t 47],aa 45 48,aW 49 45 0,aW 50 45 1,aa 10 49,aa 11 50] (ac [aa 51 10,aa 52 51,bA 53 52 (cM 11),bA 54 52 (cB .neq (t 53) (cN 0)),fS 55 52 54,aa 56 55,ap 57 56 (cM 0),ap 58 56 (cM 9),ap 59 56 (cM 11),ap 60 56 (call (t 57) [t 58,t 59]),ap 61 56 (un UnOp.not (t 60)),dx 62 56 61] (cV 62 ret skip))))).seq (dQ 63 41)))).loop)))))))
theorem Pc:Is Tryz.prog 102 O1:=mkI Tryz.func102
def NV:F2:=(F2.mk 76 [RV.cn 2 2,RV.t 3] (ac [dg 1 0,cO 2 (alloc (AV.agg [bc,AV.esl])),aE 3 0] (ac [bi 15 2 1,aF 16 134 [t 15],aa 14 16,aW 17 14 0,aW 18 14 1,cO 4 (alloc (AV.agg [bc,AV.esl])),bz 2 4 17,aa 5 18] ((ac [aa 19 5,aA 20 .neq 19 0] (aQ 20 (aC [cO 21 (bld [bc,AV.esl] []),aa 22 5,bz 2 2 21,aa 3 22]))).seq (ac [b0 23 0 1,aG 24 23,cO 25 (bld [bc,AV.esl] [(0,1,t 24)]),cO 6 (alloc (AV.agg [bc,AV.esl])),bz 2 6 25] (ac [cO 26 (mkm none),aa 7 26] ((ac [b0 27 1 4,aG 28 27,bj 29 28,aE 30 0] (block 0 ((dX 31 30 29 0 ((block 1 (ac [be 32 1 28 30,aG 33 32,aa 9 33] (ops 0 [aa 34 7,aa 35 9,cO 36 (ixaS 1 (t 35) (cN 0)),aG 37 36,Op2.mk none none (mput (one int) (t 34) (t 37) Jn)]))).seq (dQ 38 30)))).loop)).seq ((ac [b0 39 0 1,aG 40 39,aE 41 0] (block 2 ((dX 42 41 40 2 ((block 3 (ac [aa 43 41,aa 10 43] ((ac [aa 44 7,aa 45 10,cO 46 (Ins.mget (one int) (AV.bool false) false (t 44) (t 45))] (aQ 46 (exit 3))).seq (ac [aa 47 10,cO 48 (bldS 1 1 [bc] [(0,1,t 47)]),aa 11 48] ((ac [b0 49 1 4,aG 50 49,bj 51 50,aE 52 0] (block 4 ((dX 53 52 51 4 ((block 5 (ac [be 54 1 50 52,aG 55 54,aa 13 55] (ac [aa 56 13,aa 57 10,aF 58 146 [t 56,t 57]] (aQ 58 (ops 0 [aa 59 11,aa 60 13,cO 61 (ixaS 1 (t 60) (cN 0)),aG 62 61,cO 63 (bldS 1 1 [bc] [(0,1,t 62)]),gj 64 1 8 59 63,aa 11 64]))))).seq (dQ 65 52)))).loop)).seq (ac [aa 66 11,aF 67 147 [t 66]] (ops 0 [b0 68 1 6,aG 69 68,aa 70 11,cO 71 (bldS 1 1 [AV.esl] [(0,1,t 70)]),gj 72 1 24 69 71,b0 73 1 6,bz 1 73 72]))))))).seq (dQ 74 41)))).loop)).seq (aC [bi 75 2 6,bz 2 2 75,aE 3 0])))))))))
theorem Ns:Is Tryz.prog 103 NV:=mkI Tryz.func103
def N4:F2:=(F2.mk 87 [RV.cn 4 2,RV.t 5] (ac [dg 2 0,cO 4 (alloc (AV.agg [bc,AV.esl])),aE 5 0] ((ac [bi 16 1 2,aF 17 78 [t 16],aa 6 17] (ac [aa 18 6,aA 19 .neq 18 0] (aQ 19 (aC [cO 20 (bld [bc,AV.esl] []),aa 21 6,bz 2 4 20,aa 5 21])))).seq ((ac [aa 22 1,aA 23 .lss 22 0,aa 24 23,bA 25 24 (cM 1),bA 26 24 (cB .geq (t 25) (cN 8)),fS 27 24 26] (aQ 27 (aC [cO 28 (bld [bc,AV.esl] []),bz 2 4 28,aE 5 2]))).seq (ac [bi 30 1 2,aa 31 1,aF 32 83 [t 30,t 31],aa 29 32,aW 33 29 0,aW 34 29 1,aa 7 33,aa 8 34] ((ac [aa 35 8,aA 36 .neq 35 0] (aQ 36 (aC [cO 37 (bld [bc,AV.esl] []),aa 38 8,bz 2 4 37,aa 5 38]))).seq (ac [bi 40 1 2,aa 41 1,aA 42 .sub 41 1,aF 43 83 [t 40,t 42],aa 39 43,aW 44 39 0,aW 45 39 1,cO 9 (alloc AV.esl),bz 1 9 44,aa 8 45] ((ac [aa 46 8,aA 47 .neq 46 0] (aQ 47 (aC [cO 48 (bld [bc,AV.esl] []),aa 49 8,bz 2 4 48,aa 5 49]))).seq (ac [aa 50 7,bj 51 50,aG 52 9,bj 53 52,cO 54 (mks 1 24 [AV.esl] (t 53) (t 53)),cO 55 (bld [bc,AV.esl] [(0,1,t 51),(1,1,t 54)]),cO 10 (alloc (AV.agg [bc,AV.esl])),bz 2 10 55] ((ac [aa 56 7,bj 57 56,aE 58 0] (block 0 ((dX 59 58 57 0 ((block 1 (ac [aa 60 58,be 61 1 56 58,aG 62 61,cO 11 (alloc (bc)),bz 1 11 60,aa 12 62] (ac [aa 63 12,aF 64 129 [t 63]] (block 2 (rangeF (t 64) [65] (ops 0 [aa 13 65]) (block 3 (ac [aG 67 9,aa 68 13,aF 69 80 [t 67,t 68],aa 66 69,aW 70 66 0,aW 71 66 1,aa 14 70,aa 15 71] (ac [aa 72 15] (aQ 72 (mixS 2 [b0 73 1 10,aG 74 73,aa 75 14,b0 76 1 10,aG 77 76,aa 78 14,be 79 1 77 78,aG 80 79,aG 81 11,cO 82 (bldS 1 1 [bc] [(0,1,t 81)]),gj 83 1 8 80 82,be 84 1 74 75,bz 1 84 83] [(0,0),(1,0),(2,0),(3,0),(4,0),(5,0),(6,0),(7,0),(8,0),(9,1),(10,1),(11,0),(12,2)])))))))))).seq (dQ 85 58)))).loop)).seq (aC [bi 86 2 10,bz 2 4 86,aE 5 0])))))))))))
theorem Oi:Is Tryz.prog 112 N4:=mkI Tryz.func112
def Nx:F2:=(F2.mk 35 [RV.t 2] (ac [dg 1 0,aE 2 0] ((block 0 (ac [b0 7 0 1,aG 8 7,aA 9 .lss 8 0,aa 10 9,bA 11 10 (fa 0 (t 1)),bA 12 10 (cD 11),bA 13 10 (cB .gtr (t 12) (cN 4096)),fS 14 10 13,aa 6 14] (cV 6 (aC [aE 2 2]) (ac [b0 16 1 1,aG 17 16,bj 18 17,aA 19 .gtr 18 4096,aa 15 19] (aQ 15 (aC [aE 2 5])))))).seq ((ac [b0 20 1 1,aG 21 20,bj 22 21,aE 23 0] (block 1 ((dX 24 23 22 1 ((block 2 (ac [be 25 1 21 23,aG 26 25,aa 4 26] (ac [aa 27 4,b0 28 0 1,aG 29 28,aF 30 114 [t 27,t 29],aa 5 30] (ac [aa 31 5,aA 32 .neq 31 0] (aQ 32 (aC [aa 33 5,aa 2 33])))))).seq (dQ 34 23)))).loop)).seq (aC [aE 2 0])))))
theorem PO:Is Tryz.prog 113 Nx:=mkI Tryz.func113
def O4:F2:=(F2.mk 35 [RV.t 4] (ac [aE 4 0] ((ac [aa 7 0,bj 8 7,aE 9 0] (block 0 ((dX 10 9 8 0 ((block 1 (ac [aa 11 9,be 12 1 7 9,aG 13 12,aa 5 11,aa 6 13] (block 2 (ac [aa 15 6,aA 16 .lss 15 0,aa 17 16,bA 18 17 (cM 6),bA 19 17 (cM 1),bA 20 17 (cB .geq (t 18) (t 19)),fS 21 17 20,aa 14 21] (cV 14 (aC [aE 4 2]) (ac [aa 23 5,aA 24 .gtr 23 0,aa 25 24,ap 26 25 (cM 0),ap 27 25 (cM 5),ap 28 25 (cB .sub (t 27) (cN 1)),ap 29 25 (ixaS 1 (t 26) (t 28)),ap 30 25 (cD 29),ap 31 25 (cM 6),ap 32 25 (cB .geq (t 30) (t 31)),dx 33 25 32,aa 22 33] (aQ 22 (aC [aE 4 14])))))))).seq (dQ 34 9)))).loop)).seq (aC [aE 4 0]))))
theorem Pu:Is Tryz.prog 114 O4:=mkI Tryz.func114
def OD:F2:=(F2.mk 95 [RV.t 2,RV.t 3] (ac [dg 1 0,bO 2,bO 3] (ac [cO 16 (mkm none),cO 4 (alloc AV.nilm),bz 1 4 16] (ac [cO 17 (mkfn 149 [t 4]),aa 5 17] (ac [bO 6] ((ac [b0 18 1 1,aG 19 18,bj 20 19,aE 21 0] (block 0 ((dX 22 21 20 0 ((block 1 (ac [aa 23 21,be 24 1 19 21,aG 25 24,aa 7 23,aa 8 25] (ac [aa 26 5,aa 27 8,aF 28 150 [t 27],aa 29 7,cO 30 (bldS 1 1 [bc] [(0,1,t 29)]),cO 31 (bld [AV.esl,AV.esl] [(0,1,t 28),(1,1,t 30)]),cO 32 (call (t 26) [t 31]),cO 9 (alloc (AV.agg [AV.esl,AV.esl])),bz 2 9 32] ((ac [b0 33 0 9,aG 34 33,bj 35 34,aA 36 .eql 35 0] (aQ 36 (ac [aa 37 6,b0 38 1 9,aG 39 38,cO 40 (bldS 1 1 [AV.esl] [(0,1,t 39)]),gj 41 1 24 37 40,aa 6 41] (exit 1)))).seq ((ac [aG 42 4,cO 43 (mrng (t 42))] (block 2 (ac [cO 44 (mnxt (t 43)),aW 45 44 0] (JN 45 2 (block 3 (ac [cO 46 (ment (t 43)),aW 47 46 0,aW 48 46 1,cO 11 (alloc (AV.agg [AV.esl,AV.esl])),aa 10 47,bz 2 11 48] ((mixS 1 [b0 49 0 11,aG 50 49,b0 51 0 9,aG 52 51,cO 53 (ixaS 1 (t 52) (cN 0)),aG 54 53,aF 55 146 [t 50,t 54]] [(0,0),(1,0),(2,0),(3,0),(4,0),(5,0),(6,2)]).seq (aQ 55 (mixS 9 [aG 56 4,aa 57 10,b0 58 0 11,aG 59 58,b0 60 0 9,aG 61 60,aF 62 124 [t 59,t 61],b0 63 1 11,aG 64 63,b0 65 1 9,aG 66 65,aF 67 124 [t 64,t 66],cO 68 (bld [AV.esl,AV.esl] [(0,1,t 62),(1,1,t 67)]),Op2.mk none none (mput (one int) (t 56) (t 57) (t 68))] [(0,0),(1,0),(2,0),(3,0),(4,0),(5,0),(7,0),(8,0),(9,0),(10,0),(6,1),(11,1),(12,0),(13,2)]))))))).loop)).seq (mixS 9 [aG 69 4,b0 70 0 9,aG 71 70,cO 72 (ixaS 1 (t 71) (cN 0)),aG 73 72,bi 74 2 9,Op2.mk none none (mput (one int) (t 69) (t 73) (t 74))] [(0,0),(1,0),(2,0),(3,0),(4,0),(5,0),(6,2)])))))).seq (dQ 75 21)))).loop)).seq (ac [bO 12] ((ac [b0 76 0 1,aG 77 76,aE 78 0] (block 4 ((dX 79 78 77 4 ((block 5 (ac [aa 80 78,aa 13 80] (ac [aG 82 4,aa 83 13,cO 84 (Ins.mget (one int) (AV.agg [AV.esl,AV.esl]) true (t 82) (t 83)),aa 81 84,aW 85 81 0,aW 86 81 1,cO 14 (alloc (AV.agg [AV.esl,AV.esl])),bz 2 14 85,aa 15 86] (ac [aa 87 15] (aQ 87 (ops 0 [aa 88 12,bi 89 2 14,cO 90 (bldS 2 1 [AV.esl,AV.esl] [(0,2,t 89)]),gj 91 2 48 88 90,aa 12 91])))))).seq (dQ 92 78)))).loop)).seq (aC [aa 93 12,aa 94 6,aa 2 93,aa 3 94])))))))))
theorem Oh:Is Tryz.prog 115 OD:=mkI Tryz.func115
def N0:F2:=(F2.mk 18 [RV.t 4] (ac [cz 4] (aC [aa 5 0,bj 6 5,aa 7 1,bj 8 7,bl 9 .add 6 8,aa 10 0,aa 11 1,aF 12 124 [t 10,t 11],bj 13 12,bl 14 .sub 9 13,aA 15 .quo 14 2,aA 16 .rem 15 2,aA 17 .eql 16 1,aa 4 17])))
theorem O7:Is Tryz.prog 116 N0:=mkI Tryz.func116
def ND:F2:=(F2.mk 39 [RV.t 6] (ac [aE 6 0] ((ac [aa 11 0,bj 12 11,aE 13 0] (block 0 ((dX 14 13 12 0 ((block 1 (ac [aa 15 13,be 16 2 11 13,bi 17 2 16,cO 8 (alloc (AV.agg [bc,bc])),aa 7 15,bz 2 8 17] ((ac [aa 18 7,aa 19 1,bj 20 19,bl 21 .geq 18 20] (aQ 21 (aC [aE 6 1]))).seq (ac [aa 22 1,aa 23 7,be 24 2 22 23,bi 25 2 24,cO 9 (alloc (AV.agg [bc,bc])),bz 2 9 25] (ac [aa 26 2,bi 27 2 8,bi 28 2 9,cO 29 (call (t 26) [t 27,t 28]),aa 10 29] (ac [aa 30 10,aA 31 .neq 30 0] (aQ 31 (aC [aa 32 10,aa 6 32])))))))).seq (dQ 33 13)))).loop)).seq ((ac [aa 34 0,bj 35 34,aa 36 1,bj 37 36,bl 38 .lss 35 37] (aQ 38 (aC [cO 6 (mov (cN ((-1))))]))).seq (aC [aE 6 0])))))
theorem O3:Is Tryz.prog 122 ND:=mkI Tryz.func122
def PV:F2:=(F2.mk 17 [RV.t 4] (ac [dg 2 0,dg 3 1,aE 4 0] ((mixS 1 [b0 5 0 2,aG 6 5,b0 7 0 3,aG 8 7,aF 9 152 [t 6,t 8],b0 10 1 2,aG 11 10,b0 12 1 3,aG 13 12,aF 14 152 [t 11,t 13],cO 15 (bldS 1 2 [bc] [(0,1,t 9),(1,1,t 14)]),aF 16 151 [t 15],aa 4 16] [(0,0),(1,0),(2,0),(3,0),(5,0),(6,0),(7,0),(8,0),(4,1),(9,2),(10,2),(11,2),(12,0)]).seq ret)))
theorem N1:Is Tryz.prog 123 PV:=mkI Tryz.func123
def Ov:F2:=(F2.mk 61 [RV.t 4] (ac [bO 4] (ac [aa 6 0,bj 7 6,aa 8 1,bj 9 8,bl 10 .add 7 9,cO 11 (mks 1 8 [bc] (cN 0) (t 10)),aa 5 11] ((block 0 ((ac [aa 12 0,bj 13 12,aA 14 .gtr 13 0,aa 15 14,ap 16 15 (cM 1),ap 17 15 (lenS (t 16)),ap 18 15 (cB .gtr (t 17) (cN 0)),dx 19 15 18] (cV 19 skip (exit 0))).seq (block 1 (block 2 ((ops 1 [aa 25 0,cO 26 (ixaS 1 (t 25) (cN 0)),aG 27 26,aa 28 1,cO 29 (ixaS 1 (t 28) (cN 0)),aG 30 29,bl 31 .lss 27 30,aa 24 31]).seq (cV 24 (ops 1 [aa 32 5,aa 33 0,cO 34 (ixaS 1 (t 33) (cN 0)),aG 35 34,cO 36 (bldS 1 1 [bc] [(0,1,t 35)]),gj 37 1 8 32 36,aa 38 0,cO 39 (sls 1 (t 38) (some (cN 1)) none none),aa 5 37,aa 0 39]) ((ops 1 [aa 41 0,cO 42 (ixaS 1 (t 41) (cN 0)),aG 43 42,aa 44 1,cO 45 (ixaS 1 (t 44) (cN 0)),aG 46 45,bl 47 .gtr 43 46,aa 40 47]).seq (cV 40 (ops 1 [aa 48 5,aa 49 1,cO 50 (ixaS 1 (t 49) (cN 0)),aG 51 50,cO 52 (bldS 1 1 [bc] [(0,1,t 51)]),gj 53 1 8 48 52,aa 54 1,cO 55 (sls 1 (t 54) (some (cN 1)) none none),aa 5 53,aa 1 55]) (ops 1 [aa 20 0,cO 21 (sls 1 (t 20) (some (cN 1)) none none),aa 22 1,cO 23 (sls 1 (t 22) (some (cN 1)) none none),aa 0 21,aa 1 23])))))))).loop).seq (aC [aa 56 5,aa 57 0,gj 58 1 8 56 57,aa 59 1,gj 60 1 8 58 59,aa 4 60])))))
theorem M6:Is Tryz.prog 124 Ov:=mkI Tryz.func124
def Om:F2:=(F2.mk 21 [RV.t 2] (ac [dg 1 0,cz 2] (aC [b0 3 0 1,aG 4 3,aA 5 .geq 4 0,aa 6 5,ap 7 6 (fa 0 (t 1)),ap 8 6 (cD 7),ap 9 6 (cB .lss (t 8) (cN 8)),dx 10 6 9,aa 11 10,ap 12 11 (fa 1 (t 1)),ap 13 11 (cD 12),ap 14 11 (cB .geq (t 13) (cN 0)),dx 15 11 14,aa 16 15,ap 17 16 (fa 1 (t 1)),ap 18 16 (cD 17),ap 19 16 (cB .leq (t 18) (cN 1048576)),dx 20 16 19,aa 2 20])))
theorem Nh:Is Tryz.prog 125 Om:=mkI Tryz.func125
def Nm:F2:=(F2.mk 29 [RV.t 4] (ac [dg 2 0,dg 3 1,aE 4 0] ((block 0 (ac [b0 6 0 2,aG 7 6,b0 8 0 3,aG 9 8,bl 10 .lss 7 9,aa 5 10] (cV 5 (aC [cO 4 (mov (cN ((-1))))]) (ac [b0 12 0 2,aG 13 12,b0 14 0 3,aG 15 14,bl 16 .gtr 13 15,aa 11 16] (cV 11 (aC [aE 4 1]) (ac [b0 18 1 2,aG 19 18,b0 20 1 3,aG 21 20,bl 22 .lss 19 21,aa 17 22] (cV 17 (aC [cO 4 (mov (cN ((-1))))]) (ac [b0 24 1 2,aG 25 24,b0 26 1 3,aG 27 26,bl 28 .gtr 25 27,aa 23 28] (aQ 23 (aC [aE 4 1])))))))))).seq (aC [aE 4 0]))))
theorem MC:Is Tryz.prog 126 Nm:=mkI Tryz.func126
def O9:F2:=(F2.mk 18 [RV.t 4] (ac [dg 3 1,cz 4] ((ac [aE 5 0] (block 0 ((ac [aa 6 5,aa 7 0,bj 8 7,bl 9 .lss 6 8] (cV 9 skip (exit 0))).seq ((block 1 ((ops 1 [aa 12 0,aa 13 5,be 14 2 12 13,bi 15 2 14,bi 16 2 3,cO 17 (binS BinOp.eql [int,int] (t 15) (t 16))]).seq (aQ 17 (aC [ln 4])))).seq (ops 0 [aa 10 5,aA 11 .add 10 1,aa 5 11]))).loop)).seq (aC [cz 4]))))
theorem MM:Is Tryz.prog 127 O9:=mkI Tryz.func127
def PC:F2:=(F2.mk 36 [RV.t 2] (ac [aE 2 0] ((block 0 (ac [aa 6 0,bj 7 6,aA 8 .eql 7 0,aa 5 8] (cV 5 (aC [aE 2 16]) (ac [aa 10 0,bj 11 10,aA 12 .gtr 11 8,aa 9 12] (aQ 9 (aC [aE 2 5])))))).seq ((ac [aa 13 0,bj 14 13,aE 15 0] (block 1 ((dX 16 15 14 1 ((block 2 (ac [aa 17 15,be 18 2 13 15,bi 19 2 18,cO 4 (alloc (AV.agg [bc,bc])),aa 3 17,bz 2 4 19] ((ac [bi 20 2 4,aF 21 153 [t 20],iU 22 21] (aQ 22 (aC [aE 2 2]))).seq ((mixS 1 [aa 23 3,aA 24 .gtr 23 0,aa 25 24,ap 26 25 (cM 0),ap 27 25 (cM 3),ap 28 25 (cB .sub (t 27) (cN 1)),ap 29 25 (ixaS 2 (t 26) (t 28)),ap 30 25 (ldn 2 (t 29)),ap 31 25 (ldn 2 (t 4)),ap 32 25 (call (cF 123) [t 30,t 31]),ap 33 25 (cB .geq (t 32) (cN 0)),dx 34 25 33] [(0,0),(1,0),(2,0),(3,0),(4,0),(5,0),(6,0),(7,0),(8,0),(9,2),(10,0),(11,0)]).seq (aQ 34 (aC [aE 2 14])))))).seq (dQ 35 15)))).loop)).seq (aC [aE 2 0])))))
theorem NQ:Is Tryz.prog 128 PC:=mkI Tryz.func128
def OJ:F2:=(F2.mk 4 [RV.t 2] (ac [dg 1 0,cO 2 (mov (c AV.nilf))] (aC [cO 3 (mkfn 154 [t 1]),aa 2 3])))
theorem MP:Is Tryz.prog 129 OJ:=mkI Tryz.func129
def LI:F2:=(F2.mk 14 [] (ac [aa 5 0,bj 6 5,aa 4 6] (ops 0 [aa 7 0,aa 8 4,aa 9 4,cO 10 (conv IntKind.u64 (t 9)),aF 11 156 [t 10],aa 12 1,aF 13 155 ([t 7,cN ((0)),t 8,t 11,t 12])])))
theorem KV:Is Tryz.prog 130 LI:=mkI Tryz.func130
def OE:F2:=(F2.mk 10 [RV.t 6] (ac [dg 3 0,dg 5 2,cz 6] (aC [aa 7 1,cO 8 (mkfn 157 [t 3,t 5]),aF 9 48 [t 7,t 8],aa 6 9])))
theorem Ps:Is Tryz.prog 131 OE:=mkI Tryz.func131
def Po:F2:=(F2.mk 49 [RV.t 6,RV.t 7] (ac [aE 6 0,cz 7] (ac [aa 12 0,bj 13 12,aa 8 13] (ac [aa 14 8,aE 9 0,aa 10 14] ((block 0 ((ac [aa 15 9,aa 16 10,bl 17 .lss 15 16] (cV 17 skip (exit 0))).seq (block 1 (ac [aa 18 9,aa 19 10,bl 20 .add 18 19,cO 21 (conv IntKind.u64 (t 20)),cO 22 (cB .shr (t 21) (c (AV.int IntKind.u64 (1)))),cO 23 (conv IntKind.i64 (t 22)),aa 11 23] (ac [aa 24 2,aa 25 0,aa 26 11,be 27 1 25 26,aG 28 27,aa 29 1,cO 30 (call (t 24) [t 28,t 29]),aA 31 .lss 30 0] (cV 31 (ops 0 [aa 32 11,aA 33 .add 32 1,aa 9 33]) (ops 0 [aa 34 11,aa 10 34])))))).loop).seq (aC [aa 35 9,aa 36 9,aa 37 8,bl 38 .lss 36 37,aa 39 38,ap 40 39 (cM 2),ap 41 39 (cM 0),ap 42 39 (cM 9),ap 43 39 (ixaS 1 (t 41) (t 42)),ap 44 39 (cD 43),ap 45 39 (cM 1),ap 46 39 (call (t 40) [t 44,t 45]),ap 47 39 (cB .eql (t 46) (cN 0)),dx 48 39 47,aa 6 35,aa 7 48]))))))
theorem Pb:Is Tryz.prog 132 Po:=mkI Tryz.func132
def Ph:F2:=(F2.mk 52 [RV.cn 2 2,RV.t 3] (ac [dg 1 0,cO 2 (alloc (AV.agg [bc,AV.esl])),aE 3 0] ((ac [bi 10 2 1,aF 11 113 [t 10],aa 4 11] (ac [aa 12 4,aA 13 .neq 12 0] (aQ 13 (aC [cO 14 (bld [bc,AV.esl] []),aa 15 4,bz 2 2 14,aa 3 15])))).seq ((ops 1 [b0 16 1 1,aG 17 16,bj 18 17,b0 19 0 1,aG 20 19,cO 21 (mks 1 24 [AV.esl] (t 20) (t 20)),cO 22 (bld [bc,AV.esl] [(0,1,t 18),(1,1,t 21)]),cO 5 (alloc (AV.agg [bc,AV.esl])),bz 2 5 22]).seq ((ac [b0 23 1 1,aG 24 23,bj 25 24,aE 26 0] (block 0 ((dX 27 26 25 0 ((block 1 (ac [aa 28 26,be 29 1 24 26,aG 30 29,aa 6 28,aa 7 30] (ac [aa 31 7,bj 32 31,aE 33 0] (block 2 ((dX 34 33 32 2 ((block 3 (ac [be 35 1 31 33,aG 36 35,aa 9 36] (mixS 2 [b0 37 1 5,aG 38 37,aa 39 9,b0 40 1 5,aG 41 40,aa 42 9,be 43 1 41 42,aG 44 43,aa 45 6,cO 46 (bldS 1 1 [bc] [(0,1,t 45)]),gj 47 1 8 44 46,be 48 1 38 39,bz 1 48 47] [(0,0),(1,0),(2,0),(3,0),(4,0),(5,0),(6,0),(7,0),(8,0),(9,1),(10,1),(11,0),(12,2)]))).seq (dQ 49 33)))).loop)))).seq (dQ 50 26)))).loop)).seq (aC [bi 51 2 5,bz 2 2 51,aE 3 0]))))))
theorem Ow:Is Tryz.prog 133 Ph:=mkI Tryz.func133
def Oc:F2:=(F2.mk 39 [RV.cn 2 2,RV.t 3] (ac [dg 1 0,cO 2 (alloc (AV.agg [bc,AV.esl])),aE 3 0] ((ac [bi 10 2 1,aF 11 113 [t 10],aa 4 11] (ac [aa 12 4,aA 13 .neq 12 0] (aQ 13 (aC [cO 14 (bld [bc,AV.esl] []),aa 15 4,bz 2 2 14,aa 3 15])))).seq (ac [b0 16 0 1,aG 17 16,cO 18 (bld [bc,AV.esl] [(0,1,t 17)]),cO 5 (alloc (AV.agg [bc,AV.esl])),bz 2 5 18] (ac [bi 20 2 1,aF 21 115 [t 20],aa 19 21,aW 22 19 0,aW 23 19 1,aa 6 22,aa 7 23] ((ac [aa 24 6,bj 25 24,aE 26 0] (block 0 ((dX 27 26 25 0 ((block 1 (ac [be 28 2 24 26,bi 29 2 28,cO 9 (alloc (AV.agg [AV.esl,AV.esl])),bz 2 9 29] (ops 0 [b0 30 1 5,aG 31 30,b0 32 0 9,aG 33 32,cO 34 (bldS 1 1 [AV.esl] [(0,1,t 33)]),gj 35 1 24 31 34,b0 36 1 5,bz 1 36 35]))).seq (dQ 37 26)))).loop)).seq (aC [bi 38 2 5,bz 2 2 38,aE 3 0])))))))
theorem Pv:Is Tryz.prog 134 Oc:=mkI Tryz.func134
def NR:F2:=(F2.mk 8 [RV.t 2] (ac [bO 2] ((ac [aa 3 0,cO 4 (snil false (t 3))] (aQ 4 (aC [bO 2]))).seq (aC [cO 5 (bldS 1 0 [AV.esl] []),aa 6 0,gj 7 1 24 5 6,aa 2 7]))))
theorem Py:Is Tryz.prog 135 NR:=mkI Tryz.func135
def Ma:F2:=(F2.mk 8 [RV.t 2] (ac [bO 2] ((ac [aa 3 0,cO 4 (snil false (t 3))] (aQ 4 (aC [bO 2]))).seq (aC [cO 5 (bldS 2 0 [bc,bc] []),aa 6 0,gj 7 2 16 5 6,aa 2 7]))))
theorem KU:Is Tryz.prog 136 Ma:=mkI Tryz.func136
def Ng:F2:=(F2.mk 24 [RV.t 4,RV.t 5] (ac [bO 4,aE 5 0] ((ac [aa 7 0,aF 8 128 [t 7],aa 6 8] (ac [aa 9 6,aA 10 .neq 9 0] (aQ 10 (aC [aa 11 6,bO 4,aa 5 11])))).seq ((ac [aa 12 1,aA 13 .lss 12 1,aa 14 13,bA 15 14 (cM 1),bA 16 14 (cM 0),bA 17 14 (lenS (t 16)),bA 18 14 (cB .gtr (t 15) (t 17)),fS 19 14 18] (aQ 19 (aC [bO 4,aE 5 2]))).seq (aC [aa 20 0,aa 21 1,aF 22 160 [t 20,t 21],aF 23 159 [t 22],aa 4 23,aE 5 0])))))
theorem Oe:Is Tryz.prog 137 Ng:=mkI Tryz.func137
def OB:F2:=(F2.mk 16 [RV.cn 2 16] (ac [cO 2 (alloc (AV.agg [bc,bc,bc,bc,bc,bc,bc,bc,bc,bc,bc,bc,bc,bc,bc,bc]))] (ac [cO 3 (alloc (AV.agg [bc,bc,bc,bc,bc,bc,bc,bc,bc,bc,bc,bc,bc,bc,bc,bc]))] ((ac [aE 5 0] (block 0 (ac [aA 6 .lss 5 8] (JN 6 0 ((block 1 (ac [aa 7 5,aa 4 7] (ops 0 [aa 8 4,cO 9 (ixaA 8 2 (t 3) (t 8)),b0 10 0 9,Op2.mk none none (Ins.st 1 (t 10) (cN ((-1))))]))).seq (dQ 11 5)))).loop)).seq (ac [cO 12 (slp 8 2 (t 3)),aa 13 0,cO 14 (cpy 2 (t 12) (t 13))] (aC [bi 15 16 3,bz 16 2 15]))))))
theorem N2:Is Tryz.prog 138 OB:=mkI Tryz.func138
def L6:F2:=(F2.mk 66 [RV.t 4] (ac [bO 4] ((ac [aa 8 0,bj 9 8,aA 10 .lss 9 2] (aQ 10 (aC [aa 11 0,aa 4 11]))).seq ((ac [aE 5 1] (block 0 ((ac [aa 12 5,aa 13 0,bj 14 13,bl 15 .lss 12 14] (cV 15 skip (exit 0))).seq ((block 1 ((mixS 1 [aa 18 1,aa 19 0,aa 20 5,be 21 1 19 20,aG 22 21,aa 23 0,aa 24 5,aA 25 .sub 24 1,be 26 1 23 25,aG 27 26,cO 28 (call (t 18) [t 22,t 27])] [(0,0),(1,0),(2,0),(3,0),(4,0),(5,0),(6,0),(7,0),(8,0),(9,0),(10,2)]).seq (aQ 28 (ac [aa 29 0,aa 30 5,cO 31 (sls 1 (t 29) (some (t 30)) none none),aa 6 31] ((ac [aE 7 1] (block 2 ((ac [aa 32 7,aa 33 6,bj 34 33,bl 35 .lss 32 34] (cV 35 skip (exit 2))).seq ((block 3 ((mixS 1 [aa 38 1,aa 39 6,aa 40 7,be 41 1 39 40,aG 42 41,aa 43 6,aa 44 7,aA 45 .sub 44 1,be 46 1 43 45,aG 47 46,cO 48 (call (t 38) [t 42,t 47]),iU 49 48] [(0,0),(1,0),(2,0),(3,0),(4,0),(5,0),(6,0),(7,0),(8,0),(9,0),(10,2),(11,0)]).seq (aQ 49 (ac [aa 50 0,aa 51 5,aa 52 6,aa 53 7,be 54 1 52 53,aG 55 54,be 56 1 50 51,bz 1 56 55] (ops 0 [aa 57 5,aA 58 .add 57 1,aa 5 58]))))).seq (ops 0 [aa 36 7,aA 37 .add 36 1,aa 7 37]))).loop)).seq (ac [aa 59 0,aa 60 5,cO 61 (sls 1 (t 59) (some (t 60)) none none),Op2.mk none none (clr 1 AV.esl (t 61))] (aC [aa 62 0,aa 63 5,cO 64 (sls 1 (t 62) none (some (t 63)) none),aa 4 64]))))))).seq (ops 0 [aa 16 5,aA 17 .add 16 1,aa 5 17]))).loop)).seq (aC [aa 65 0,aa 4 65])))))
theorem KD:Is Tryz.prog 139 L6:=mkI Tryz.func139
def Oa:F2:=(F2.mk 26 [RV.t 4] (ac [cz 4] ((ac [aa 6 0,bj 7 6,aa 8 1,bj 9 8,bl 10 .neq 7 9] (aQ 10 (aC [cz 4]))).seq ((ac [aa 11 0,bj 12 11,aE 13 0] (block 0 ((dX 14 13 12 0 ((block 1 (ac [aa 15 13,aa 5 15] ((ops 1 [aa 16 0,aa 17 5,be 18 2 16 17,bi 19 2 18,aa 20 1,aa 21 5,be 22 2 20 21,bi 23 2 22,cO 24 (binS BinOp.neq [int,int] (t 19) (t 23))]).seq (aQ 24 (aC [cz 4]))))).seq (dQ 25 13)))).loop)).seq (aC [ln 4])))))
theorem OW:Is Tryz.prog 140 Oa:=mkI Tryz.func140
def Mu:F2:=(F2.mk 36 [RV.t 2] (ac [bO 2] (ac [aE 3 0] ((ac [aa 9 0,bj 10 9,aE 11 0] (block 0 ((dX 12 11 10 0 ((block 1 (ac [be 13 1 9 11,aG 14 13,aa 5 14] (ac [aa 15 3,aa 16 5,bj 17 16,bl 18 .add 15 17,aa 3 18] (ac [aa 19 3,aA 20 .lss 19 0] (aQ 20 (ops 0 [cO 21 dead,Op2.mk none none dead])))))).seq (dQ 22 11)))).loop)).seq (ac [aa 23 3,aF 24 161 [c AV.esl,t 23],aa 6 24] ((ac [aa 25 0,bj 26 25,aE 27 0] (block 2 ((dX 28 27 26 2 ((block 3 (ac [be 29 1 25 27,aG 30 29,aa 8 30] (ops 0 [aa 31 6,aa 32 8,gj 33 2 16 31 32,aa 6 33]))).seq (dQ 34 27)))).loop)).seq (aC [aa 35 6,aa 2 35])))))))
theorem KJ:Is Tryz.prog 141 Mu:=mkI Tryz.func141
def NF:F2:=(F2.mk 14 [] (ac [aa 5 0,bj 6 5,aa 4 6] (ops 0 [aa 7 0,aa 8 4,aa 9 4,cO 10 (conv IntKind.u64 (t 9)),aF 11 156 [t 10],aa 12 1,aF 13 162 ([t 7,cN ((0)),t 8,t 11,t 12])])))
theorem MR:Is Tryz.prog 142 NF:=mkI Tryz.func142
def M9:F2:=(F2.mk 10 [RV.t 4] (ac [dg 2 0,dg 3 1,aE 4 0] (aC [bi 5 2 2,cO 6 (bldS 2 1 [bc,bc] [(0,2,t 5)]),bi 7 2 3,cO 8 (bldS 2 1 [bc,bc] [(0,2,t 7)]),aF 9 70 [t 6,t 8],aa 4 9])))
theorem Pp:Is Tryz.prog 143 M9:=mkI Tryz.func143
def O0:F2:=(F2.mk 61 [RV.t 2] (ac [bO 2] ((ac [aa 6 0,bj 7 6,aA 8 .lss 7 2] (aQ 8 (aC [aa 9 0,aa 2 9]))).seq ((ac [aE 3 1] (block 0 ((ac [aa 10 3,aa 11 0,bj 12 11,bl 13 .lss 10 12] (cV 13 skip (exit 0))).seq ((block 1 ((ops 1 [aa 16 0,aa 17 3,be 18 2 16 17,bi 19 2 18,aa 20 0,aa 21 3,aA 22 .sub 21 1,be 23 2 20 22,bi 24 2 23,cO 25 (binS BinOp.eql [int,int] (t 19) (t 24))]).seq (aQ 25 (ac [aa 26 0,aa 27 3,cO 28 (sls 2 (t 26) (some (t 27)) none none),aa 4 28] ((ac [aE 5 1] (block 2 ((ac [aa 29 5,aa 30 4,bj 31 30,bl 32 .lss 29 31] (cV 32 skip (exit 2))).seq ((block 3 ((ops 1 [aa 35 4,aa 36 5,be 37 2 35 36,bi 38 2 37,aa 39 4,aa 40 5,aA 41 .sub 40 1,be 42 2 39 41,bi 43 2 42,cO 44 (binS BinOp.neq [int,int] (t 38) (t 43))]).seq (aQ 44 (ac [aa 45 0,aa 46 3,aa 47 4,aa 48 5,be 49 2 47 48,bi 50 2 49,be 51 2 45 46,bz 2 51 50] (ops 0 [aa 52 3,aA 53 .add 52 1,aa 3 53]))))).seq (ops 0 [aa 33 5,aA 34 .add 33 1,aa 5 34]))).loop)).seq (ac [aa 54 0,aa 55 3,cO 56 (sls 2 (t 54) (some (t 55)) none none),Op2.mk none none (clr 2 (AV.agg [bc,bc]) (t 56))] (aC [aa 57 0,aa 58 3,cO 59 (sls 2 (t 57) none (some (t 58)) none),aa 2 59]))))))).seq (ops 0 [aa 14 3,aA 15 .add 14 1,aa 3 15]))).loop)).seq (aC [aa 60 0,aa 2 60])))))
theorem MI:Is Tryz.prog 144 O0:=mkI Tryz.func144
def PU:F2:=(F2.mk 6 [RV.t 2] (ac [cz 2] (aC [aa 3 0,bj 4 3,aA 5 .leq 4 10,aa 2 5])))
theorem Ni:Is Tryz.prog 145 PU:=mkI Tryz.func145
def Pn:F2:=(F2.mk 14 [RV.t 4] (ac [cz 4] (ac [aa 8 0,aa 9 1,aF 10 163 [t 8,t 9],aa 7 10,aW 11 7 0,aW 12 7 1,aa 5 11,aa 6 12] (aC [aa 13 6,aa 4 13]))))
theorem PA:Is Tryz.prog 146 Pn:=mkI Tryz.func146
def Ol:F2:=(F2.mk 11 [] (ac [aa 3 0,bj 4 3,aa 2 4] (ops 0 [aa 5 0,aa 6 2,aa 7 2,cO 8 (conv IntKind.u64 (t 7)),aF 9 156 [t 8],aF 10 164 ([t 5,cN ((0)),t 6,t 9])])))
theorem M7:Is Tryz.prog 147 Ol:=mkI Tryz.func147
def NU:F2:=(F2.mk 38 [RV.cn 3 2] (ac [dg 2 0,cO 3 (alloc (AV.agg [AV.esl,AV.esl]))] ((ac [aE 4 0] (block 0 ((ac [aa 7 4,b0 8 0 2,aG 9 8,bj 10 9,bl 11 .lss 7 10] (cV 11 skip (exit 0))).seq (block 1 ((mixS 9 [aG 13 1,b0 14 0 2,aG 15 14,aa 16 4,be 17 1 15 16,aG 18 17,cO 19 (Ins.mget (one int) (AV.agg [AV.esl,AV.esl]) true (t 13) (t 18)),aa 12 19,aW 20 12 0,aW 21 12 1,cO 5 (alloc (AV.agg [AV.esl,AV.esl])),bz 2 5 20,aa 6 21] [(0,0),(1,0),(2,0),(3,0),(4,0),(5,0),(6,4),(7,0),(8,0),(9,0),(10,1),(11,2),(12,0)]).seq ((ac [aa 22 6,iU 23 22] (aQ 23 (ac [aa 24 4,aA 25 .add 24 1,aa 4 25] (exit 1)))).seq (mixS 1 [b0 26 0 2,aG 27 26,b0 28 0 5,aG 29 28,aF 30 124 [t 27,t 29],b0 31 1 2,aG 32 31,b0 33 1 5,aG 34 33,aF 35 124 [t 32,t 34],cO 36 (bld [AV.esl,AV.esl] [(0,1,t 30),(1,1,t 35)]),bz 2 2 36] [(0,0),(1,0),(2,0),(3,0),(5,0),(6,0),(7,0),(8,0),(4,1),(9,2),(10,0),(11,2)]))))).loop)).seq (aC [bi 37 2 2,bz 2 3 37]))))
theorem MZ:Is Tryz.prog 149 NU:=mkI Tryz.func149
def O8:F2:=(F2.mk 8 [RV.t 2] (ac [bO 2] ((ac [aa 3 0,cO 4 (snil false (t 3))] (aQ 4 (aC [bO 2]))).seq (aC [cO 5 (bldS 1 0 [bc] []),aa 6 0,gj 7 1 8 5 6,aa 2 7]))))
theorem OI:Is Tryz.prog 150 O8:=mkI Tryz.func150
def OA:F2:=(F2.mk 18 [RV.t 2] (ac [aE 2 0] (ac [aE 3 0] ((ac [aa 6 0,bj 7 6,aE 8 0] (block 0 ((dX 9 8 7 0 ((block 1 (ac [be 10 1 6 8,aG 11 10,aa 5 11] (ac [aa 12 5,aa 13 3,bl 14 .neq 12 13] (aQ 14 (aC [aa 15 5,aa 2 15]))))).seq (dQ 16 8)))).loop)).seq (aC [aa 17 3,aa 2 17])))))
theorem M3:Is Tryz.prog 151 OA:=mkI Tryz.func151
def Nb:F2:=(F2.mk 20 [RV.t 4] (ac [aE 4 0] (ac [aa 7 0,aF 8 165 [t 7],aa 5 8] (ac [aa 9 1,aF 10 165 [t 9],aa 6 10] ((ac [aa 11 5] (aQ 11 ((ac [aa 12 6] (aQ 12 (aC [aE 4 0]))).seq (aC [cO 4 (mov (cN ((-1))))])))).seq ((ac [aa 13 6] (aQ 13 (aC [aE 4 1]))).seq ((ac [aa 14 0,aa 15 1,bl 16 .lss 14 15] (aQ 16 (aC [cO 4 (mov (cN ((-1))))]))).seq ((ac [aa 17 0,aa 18 1,bl 19 .gtr 17 18] (aQ 19 (aC [aE 4 1]))).seq (aC [aE 4 0])))))))))
theorem NI:Is Tryz.prog 152 Nb:=mkI Tryz.func152
def Pe:F2:=(F2.mk 21 [RV.t 2] (ac [dg 1 0,cz 2] (aC [b0 3 0 1,aG 4 3,aA 5 .geq 4 0,aa 6 5,ap 7 6 (fa 0 (t 1)),ap 8 6 (cD 7),ap 9 6 (cB .lss (t 8) (cN 8)),dx 10 6 9,aa 11 10,ap 12 11 (fa 1 (t 1)),ap 13 11 (cD 12),ap 14 11 (cB .geq (t 13) (cN 0)),dx 15 11 14,aa 16 15,ap 17 16 (fa 1 (t 1)),ap 18 16 (cD 17),ap 19 16 (cB .leq (t 18) (cN 1048576)),dx 20 16 19,aa 2 20])))
theorem Pz:Is Tryz.prog 153 Pe:=mkI Tryz.func153
def Nf:F2:=(F2.mk 27 [] (ac [aG 4 1,bj 5 4,aE 6 0] (block 0 ((dX 7 6 5 0 ((block 1 (ac [aa 8 6,aa 3 8] ((mixS 1 [aG 9 1,bj 10 9,aA 11 .gtr 10 1,aa 12 11,ap 13 12 (cM 0),ap 14 12 (cD 1),ap 15 12 (cM 3),ap 16 12 (sls 2 (t 14) none (some (t 15)) none),ap 17 12 (cD 1),ap 18 12 (cM 3),ap 19 12 (cB .add (t 18) (cN 1)),ap 20 12 (sls 2 (t 17) (some (t 19)) none none),ap 21 12 (bldS 1 2 [AV.esl] [(0,1,t 16),(1,1,t 20)]),ap 22 12 (call (cF 141) [t 21]),ap 23 12 (call (t 13) [t 22]),ap 24 12 (un UnOp.not (t 23)),dx 25 12 24] [(0,0),(1,0),(2,0),(3,0),(4,0),(5,0),(6,0),(7,0),(8,0),(9,0),(10,0),(11,0),(12,2),(13,2),(14,2),(15,0),(16,0)]).seq (cV 25 ret skip)))).seq (dQ 26 6)))).loop)))
theorem M4:Is Tryz.prog 154 Nf:=mkI Tryz.func154
def LS:F2:=(F2.mk 148 [] (ac [ln 10] (ac [ln 11] (block 0 (block 1 (ac [aa 21 2,aa 22 1,bl 23 .sub 21 22,aa 12 23] ((ac [aa 24 12,aA 25 .leq 24 12] (aQ 25 (aC [aa 26 0,aa 27 1,aa 28 2,aa 29 4,aF 30 166 [t 26,t 27,t 28,t 29]]))).seq ((ac [aa 31 3,aA 32 .eql 31 0] (aQ 32 (aC [aa 33 0,aa 34 1,aa 35 2,aa 36 4,aF 37 167 [t 33,t 34,t 35,t 36]]))).seq ((ac [aa 38 10,iU 39 38] (aQ 39 (ac [aa 40 0,aa 41 1,aa 42 2,aa 43 4,aF 44 168 [t 40,t 41,t 42,t 43]] (ops 0 [aa 45 3,aA 46 .sub 45 1,aa 3 46])))).seq (ac [aa 48 0,aa 49 1,aa 50 2,aa 51 4,aF 52 169 [t 48,t 49,t 50,t 51],aa 47 52,aW 53 47 0,aW 54 47 1,aa 13 53,aa 14 54] ((ac [aa 55 14,aA 56 .eql 55 2] (aQ 56 (ac [aa 57 0,aa 58 1,aa 59 2,aa 60 4,aF 61 170 [t 57,t 58,t 59,t 60]] (ac [aa 62 2,aA 63 .sub 62 1,aa 64 13,aa 65 1,bl 66 .sub 64 65,bl 67 .sub 63 66,aa 13 67] (ops 0 [aE 14 1]))))).seq ((ac [aa 68 10,aa 69 68,ap 70 69 (cM 11),dx 71 69 70,aa 72 71,ap 73 72 (cM 14),ap 74 72 (cB .eql (t 73) (cN 1)),dx 75 72 74] (aQ 75 (ac [aa 76 0,aa 77 1,aa 78 2,aa 79 4,aF 80 171 [t 76,t 77,t 78,t 79]] (cV 80 ret skip)))).seq (((mixS 1 [aa 81 1,aA 82 .gtr 81 0,aa 83 82,ap 84 83 (cM 4),ap 85 83 (cM 0),ap 86 83 (cM 1),ap 87 83 (cB .sub (t 86) (cN 1)),ap 88 83 (ixaS 1 (t 85) (t 87)),ap 89 83 (cD 88),ap 90 83 (cM 0),ap 91 83 (cM 13),ap 92 83 (ixaS 1 (t 90) (t 91)),ap 93 83 (cD 92),ap 94 83 (call (t 84) [t 89,t 93]),ap 95 83 (cB .lss (t 94) (cN 0)),ap 96 83 (un UnOp.not (t 95)),dx 97 83 96] [(0,0),(1,0),(2,0),(3,0),(4,0),(5,0),(6,0),(7,0),(8,0),(9,0),(10,0),(11,0),(12,0),(13,2),(14,0),(15,0),(16,0)]).seq (aQ 97 (ac [aa 98 0,aa 99 1,aa 100 2,aa 101 13,aa 102 4,aF 103 172 [t 98,t 99,t 100,t 101,t 102],aa 15 103] (ac [aa 104 15,aa 1 104] (exit 1))))).seq (ac [aa 106 0,aa 107 1,aa 108 2,aa 109 13,aa 110 4,aF 111 173 [t 106,t 107,t 108,t 109,t 110],aa 105 111,aW 112 105 0,aW 113 105 1,aa 16 112,aa 17 113] (ac [aa 114 17,aa 11 114] (ac [aa 115 16,aa 116 1,bl 117 .sub 115 116,aa 118 2,aa 119 16,bl 120 .sub 118 119,aa 18 117,aa 19 120] (ac [aa 121 12,aA 122 .quo 121 8,aa 20 122] (ac [aa 123 18,aa 124 19,bl 125 .lss 123 124] (cV 125 (ac [aa 126 18,aa 127 20,bl 128 .geq 126 127,aa 10 128] (ac [aa 129 0,aa 130 1,aa 131 16,aa 132 3,aa 133 4,aF 134 155 [t 129,t 130,t 131,t 132,t 133]] (ops 0 [aa 135 16,aA 136 .add 135 1,aa 1 136]))) (ac [aa 137 19,aa 138 20,bl 139 .geq 137 138,aa 10 139] (ac [aa 140 0,aa 141 16,aA 142 .add 141 1,aa 143 2,aa 144 3,aa 145 4,aF 146 155 [t 140,t 142,t 143,t 144,t 145]] (ops 0 [aa 147 16,aa 2 147])))))))))))))))))).loop))))
theorem K3:Is Tryz.prog 155 LS:=mkI Tryz.func155
def Lp:F2:=(F2.mk 8 [RV.t 2] (ac [aE 2 0] ((C2.cond Ia (aC [aa 3 0,cO 4 (conv IntKind.u32 (t 3)),aF 5 174 [t 4],aa 2 5]) skip).seq (aC [aa 6 0,aF 7 175 [t 6],aa 2 7]))))
theorem KL:Is Tryz.prog 156 Lp:=mkI Tryz.func156
def Px:F2:=(F2.mk 21 [RV.t 4] (ac [cz 4] ((mixS 1 [aG 5 1,aa 6 0,be 7 1 5 6,aG 8 7,bj 9 8,aG 10 2,bj 11 10,bl 12 .gtr 9 11,aa 13 12,ap 14 13 (cD 2),ap 15 13 (cD 1),ap 16 13 (cM 0),ap 17 13 (ixaS 1 (t 15) (t 16)),ap 18 13 (cD 17),ap 19 13 (call (cF 158) [t 14,t 18]),dx 20 13 19,aa 4 20] [(0,0),(1,0),(2,0),(3,0),(4,0),(5,0),(6,0),(7,0),(8,0),(9,0),(10,0),(11,0),(12,0),(13,0),(14,2),(15,0),(16,0)]).seq ret)))
theorem Pj:Is Tryz.prog 157 Px:=mkI Tryz.func157
def Pw:F2:=(F2.mk 29 [RV.t 4] (ac [cz 4] ((ac [aa 7 0,bj 8 7,aE 9 0] (block 0 ((dX 10 9 8 0 ((block 1 (ac [be 11 2 7 9,bi 12 2 11,cO 6 (alloc (AV.agg [bc,bc])),bz 2 6 12] ((block 2 (((ops 1 [aa 13 1,bj 14 13,aA 15 .gtr 14 0,aa 16 15,ap 17 16 (cM 1),ap 18 16 (ixaS 2 (t 17) (cN 0)),ap 19 16 (ldn 2 (t 18)),ap 20 16 (ldn 2 (t 6)),ap 21 16 (binS BinOp.neq [int,int] (t 19) (t 20)),dx 22 16 21]).seq (cV 22 skip (exit 2))).seq (block 3 (ops 0 [aa 23 1,cO 24 (sls 2 (t 23) (some (cN 1)) none none),aa 1 24]))).loop).seq (ac [aa 25 1,bj 26 25,aA 27 .eql 26 0] (aQ 27 (aC [cz 4])))))).seq (dQ 28 9)))).loop)).seq (aC [ln 4]))))
theorem Oy:Is Tryz.prog 158 Pw:=mkI Tryz.func158
def N8:F2:=(F2.mk 5 [RV.t 2] (ac [bO 2] (aC [aa 3 0,aF 4 176 [c AV.esl,t 3],aa 2 4])))
theorem Pr:Is Tryz.prog 159 N8:=mkI Tryz.func159
def PN:F2:=(F2.mk 6 [RV.t 4] (ac [dg 2 0,dg 3 1,cO 4 (mov (c AV.nilf))] (aC [cO 5 (mkfn 177 [t 3,t 2]),aa 4 5])))
theorem OU:Is Tryz.prog 160 PN:=mkI Tryz.func160
def Pa:F2:=(F2.mk 27 [RV.t 4] (ac [bO 4] ((ac [aa 5 1,aA 6 .lss 5 0] (aQ 6 (ops 0 [cO 7 dead,Op2.mk none none dead]))).seq ((ac [aa 8 1,aa 9 0,cO 10 (capE (t 9)),aa 11 0,bj 12 11,bl 13 .sub 10 12,bl 14 .sub 8 13,aa 1 14] (ac [aa 15 1,aA 16 .gtr 15 0] (aQ 16 (ops 0 [aa 17 0,aa 18 0,cO 19 (capE (t 18)),cO 20 (sls 2 (t 17) none (some (t 19)) none),aa 21 1,cO 22 (apz 2 16 [bc,bc] (t 20) (t 21)),aa 23 0,bj 24 23,cO 25 (sls 2 (t 22) none (some (t 24)) none),aa 0 25])))).seq (aC [aa 26 0,aa 4 26])))))
theorem OT:Is Tryz.prog 161 Pa:=mkI Tryz.func161
def NC:F2:=(F2.mk 148 [] (ac [ln 10] (ac [ln 11] (block 0 (block 1 (ac [aa 21 2,aa 22 1,bl 23 .sub 21 22,aa 12 23] ((ac [aa 24 12,aA 25 .leq 24 12] (aQ 25 (aC [aa 26 0,aa 27 1,aa 28 2,aa 29 4,aF 30 179 [t 26,t 27,t 28,t 29]]))).seq ((ac [aa 31 3,aA 32 .eql 31 0] (aQ 32 (aC [aa 33 0,aa 34 1,aa 35 2,aa 36 4,aF 37 180 [t 33,t 34,t 35,t 36]]))).seq ((ac [aa 38 10,iU 39 38] (aQ 39 (ac [aa 40 0,aa 41 1,aa 42 2,aa 43 4,aF 44 181 [t 40,t 41,t 42,t 43]] (ops 0 [aa 45 3,aA 46 .sub 45 1,aa 3 46])))).seq (ac [aa 48 0,aa 49 1,aa 50 2,aa 51 4,aF 52 182 [t 48,t 49,t 50,t 51],aa 47 52,aW 53 47 0,aW 54 47 1,aa 13 53,aa 14 54] ((ac [aa 55 14,aA 56 .eql 55 2] (aQ 56 (ac [aa 57 0,aa 58 1,aa 59 2,aa 60 4,aF 61 183 [t 57,t 58,t 59,t 60]] (ac [aa 62 2,aA 63 .sub 62 1,aa 64 13,aa 65 1,bl 66 .sub 64 65,bl 67 .sub 63 66,aa 13 67] (ops 0 [aE 14 1]))))).seq ((ac [aa 68 10,aa 69 68,ap 70 69 (cM 11),dx 71 69 70,aa 72 71,ap 73 72 (cM 14),ap 74 72 (cB .eql (t 73) (cN 1)),dx 75 72 74] (aQ 75 (ac [aa 76 0,aa 77 1,aa 78 2,aa 79 4,aF 80 184 [t 76,t 77,t 78,t 79]] (cV 80 ret skip)))).seq (((mixS 1 [aa 81 1,aA 82 .gtr 81 0,aa 83 82,ap 84 83 (cM 4),ap 85 83 (cM 0),ap 86 83 (cM 1),ap 87 83 (cB .sub (t 86) (cN 1)),ap 88 83 (ixaS 2 (t 85) (t 87)),ap 89 83 (ldn 2 (t 88)),ap 90 83 (cM 0),ap 91 83 (cM 13),ap 92 83 (ixaS 2 (t 90) (t 91)),ap 93 83 (ldn 2 (t 92)),ap 94 83 (call (t 84) [t 89,t 93]),ap 95 83 (cB .lss (t 94) (cN 0)),ap 96 83 (un UnOp.not (t 95)),dx 97 83 96] [(0,0),(1,0),(2,0),(3,0),(4,0),(5,0),(6,0),(7,0),(8,0),(9,0),(10,0),(11,0),(12,0),(13,2),(14,0),(15,0),(16,0)]).seq (aQ 97 (ac [aa 98 0,aa 99 1,aa 100 2,aa 101 13,aa 102 4,aF 103 185 [t 98,t 99,t 100,t 101,t 102],aa 15 103] (ac [aa 104 15,aa 1 104] (exit 1))))).seq (ac [aa 106 0,aa 107 1,aa 108 2,aa 109 13,aa 110 4,aF 111 186 [t 106,t 107,t 108,t 109,t 110],aa 105 111,aW 112 105 0,aW 113 105 1,aa 16 112,aa 17 113] (ac [aa 114 17,aa 11 114] (ac [aa 115 16,aa 116 1,bl 117 .sub 115 116,aa 118 2,aa 119 16,bl 120 .sub 118 119,aa 18 117,aa 19 120] (ac [aa 121 12,aA 122 .quo 121 8,aa 20 122] (ac [aa 123 18,aa 124 19,bl 125 .lss 123 124] (cV 125 (ac [aa 126 18,aa 127 20,bl 128 .geq 126 127,aa 10 128] (ac [aa 129 0,aa 130 1,aa 131 16,aa 132 3,aa 133 4,aF 134 162 [t 129,t 130,t 131,t 132,t 133]] (ops 0 [aa 135 16,aA 136 .add 135 1,aa 1 136]))) (ac [aa 137 19,aa 138 20,bl 139 .geq 137 138,aa 10 139] (ac [aa 140 0,aa 141 16,aA 142 .add 141 1,aa 143 2,aa 144 3,aa 145 4,aF 146 162 [t 140,t 142,t 143,t 144,t 145]] (ops 0 [aa 147 16,aa 2 147])))))))))))))))))).loop))))
theorem Pk:Is Tryz.prog 162 NC:=mkI Tryz.func162
def Oz:F2:=(F2.mk 54 [RV.t 4,RV.t 5] (ac [aE 4 0,cz 5] (ac [aa 10 0,bj 11 10,aa 6 11] (ac [aa 12 6,aE 7 0,aa 8 12] ((block 0 ((ac [aa 13 7,aa 14 8,bl 15 .lss 13 14] (cV 15 skip (exit 0))).seq (block 1 (ac [aa 16 7,aa 17 8,bl 18 .add 16 17,cO 19 (conv IntKind.u64 (t 18)),cO 20 (cB .shr (t 19) (c (AV.int IntKind.u64 (1)))),cO 21 (conv IntKind.i64 (t 20)),aa 9 21] (ac [aa 22 0,aa 23 9,be 24 1 22 23,aG 25 24,aa 26 1,aF 27 187 [t 25,t 26]] (cV 27 (ops 0 [aa 28 9,aA 29 .add 28 1,aa 7 29]) (ops 0 [aa 30 9,aa 8 30])))))).loop).seq (aC [aa 31 7,aa 32 7,aa 33 6,bl 34 .lss 32 33,aa 35 34,ap 36 35 (cM 0),ap 37 35 (cM 7),ap 38 35 (ixaS 1 (t 36) (t 37)),ap 39 35 (cD 38),ap 40 35 (cM 1),ap 41 35 (cB .eql (t 39) (t 40)),ap 42 35 (cM 41),bA 43 42 (cM 0),bA 44 42 (cM 7),bA 45 42 (ixaS 1 (t 43) (t 44)),bA 46 42 (cD 45),bA 47 42 (call (cF 188) [t 46]),bA 48 42 (cM 47),ap 49 48 (cM 1),ap 50 48 (call (cF 188) [t 49]),bA 51 42 (pick (t 48) (t 50) Ia),ap 52 35 (pick (t 42) Jn (t 51)),dx 53 35 52,aa 4 31,aa 5 53]))))))
theorem NJ:Is Tryz.prog 163 Oz:=mkI Tryz.func163
def Pd:F2:=(F2.mk 134 [] (ac [ln 8] (ac [ln 9] (block 0 (block 1 (ac [aa 19 2,aa 20 1,bl 21 .sub 19 20,aa 10 21] ((ac [aa 22 10,aA 23 .leq 22 12] (aQ 23 (aC [aa 24 0,aa 25 1,aa 26 2,aF 27 189 [t 24,t 25,t 26]]))).seq ((ac [aa 28 3,aA 29 .eql 28 0] (aQ 29 (aC [aa 30 0,aa 31 1,aa 32 2,aF 33 190 [t 30,t 31,t 32]]))).seq ((ac [aa 34 8,iU 35 34] (aQ 35 (ac [aa 36 0,aa 37 1,aa 38 2,aF 39 191 [t 36,t 37,t 38]] (ops 0 [aa 40 3,aA 41 .sub 40 1,aa 3 41])))).seq (ac [aa 43 0,aa 44 1,aa 45 2,aF 46 192 [t 43,t 44,t 45],aa 42 46,aW 47 42 0,aW 48 42 1,aa 11 47,aa 12 48] ((ac [aa 49 12,aA 50 .eql 49 2] (aQ 50 (ac [aa 51 0,aa 52 1,aa 53 2,aF 54 193 [t 51,t 52,t 53]] (ac [aa 55 2,aA 56 .sub 55 1,aa 57 11,aa 58 1,bl 59 .sub 57 58,bl 60 .sub 56 59,aa 11 60] (ops 0 [aE 12 1]))))).seq ((ac [aa 61 8,aa 62 61,ap 63 62 (cM 9),dx 64 62 63,aa 65 64,ap 66 65 (cM 12),ap 67 65 (cB .eql (t 66) (cN 1)),dx 68 65 67] (aQ 68 (ac [aa 69 0,aa 70 1,aa 71 2,aF 72 194 [t 69,t 70,t 71]] (cV 72 ret skip)))).seq (((mixS 1 [aa 73 1,aA 74 .gtr 73 0,aa 75 74,ap 76 75 (cM 0),ap 77 75 (cM 1),ap 78 75 (cB .sub (t 77) (cN 1)),ap 79 75 (ixaS 1 (t 76) (t 78)),ap 80 75 (cD 79),ap 81 75 (cM 0),ap 82 75 (cM 11),ap 83 75 (ixaS 1 (t 81) (t 82)),ap 84 75 (cD 83),ap 85 75 (call (cF 187) [t 80,t 84]),ap 86 75 (un UnOp.not (t 85)),dx 87 75 86] [(0,0),(1,0),(2,0),(3,0),(4,0),(5,0),(6,0),(7,0),(8,0),(9,0),(10,0),(11,0),(12,2),(13,0),(14,0)]).seq (aQ 87 (ac [aa 88 0,aa 89 1,aa 90 2,aa 91 11,aF 92 195 [t 88,t 89,t 90,t 91],aa 13 92] (ac [aa 93 13,aa 1 93] (exit 1))))).seq (ac [aa 95 0,aa 96 1,aa 97 2,aa 98 11,aF 99 196 [t 95,t 96,t 97,t 98],aa 94 99,aW 100 94 0,aW 101 94 1,aa 14 100,aa 15 101] (ac [aa 102 15,aa 9 102] (ac [aa 103 14,aa 104 1,bl 105 .sub 103 104,aa 106 2,aa 107 14,bl 108 .sub 106 107,aa 16 105,aa 17 108] (ac [aa 109 10,aA 110 .quo 109 8,aa 18 110] (ac [aa 111 16,aa 112 17,bl 113 .lss 111 112] (cV 113 (ac [aa 114 16,aa 115 18,bl 116 .geq 114 115,aa 8 116] (ac [aa 117 0,aa 118 1,aa 119 14,aa 120 3,aF 121 164 [t 117,t 118,t 119,t 120]] (ops 0 [aa 122 14,aA 123 .add 122 1,aa 1 123]))) (ac [aa 124 17,aa 125 18,bl 126 .geq 124 125,aa 8 126] (ac [aa 127 0,aa 128 14,aA 129 .add 128 1,aa 130 2,aa 131 3,aF 132 164 [t 127,t 129,t 130,t 131]] (ops 0 [aa 133 14,aa 2 133])))))))))))))))))).loop))))
theorem O2:Is Tryz.prog 164 Pd:=mkI Tryz.func164
def PH:F2:=(F2.mk 6 [RV.t 2] (ac [cz 2] (aC [aa 3 0,aa 4 0,bl 5 .neq 3 4,aa 2 5])))
theorem Nl:Is Tryz.prog 165 PH:=mkI Tryz.func165
def Lb:F2:=(F2.mk 53 [] (ac [aa 10 1,aA 11 .add 10 1,aa 8 11] (block 0 ((ac [aa 12 8,aa 13 2,bl 14 .lss 12 13] (cV 14 skip (exit 0))).seq ((block 1 (ac [aa 17 8,aa 9 17] (block 2 (((mixS 1 [aa 18 9,aa 19 1,bl 20 .gtr 18 19,aa 21 20,ap 22 21 (cM 3),ap 23 21 (cM 0),ap 24 21 (cM 9),ap 25 21 (ixaS 1 (t 23) (t 24)),ap 26 21 (cD 25),ap 27 21 (cM 0),ap 28 21 (cM 9),ap 29 21 (cB .sub (t 28) (cN 1)),ap 30 21 (ixaS 1 (t 27) (t 29)),ap 31 21 (cD 30),ap 32 21 (call (t 22) [t 26,t 31]),ap 33 21 (cB .lss (t 32) (cN 0)),dx 34 21 33] [(0,0),(1,0),(2,0),(3,0),(4,0),(5,0),(6,0),(7,0),(8,0),(9,0),(10,0),(11,0),(12,0),(13,0),(14,2),(15,0),(16,0)]).seq (cV 34 skip (exit 2))).seq ((block 3 (ops 1 [aa 37 0,aa 38 9,aa 39 0,aa 40 9,aA 41 .sub 40 1,aa 42 0,aa 43 9,aA 44 .sub 43 1,be 45 1 42 44,aG 46 45,aa 47 0,aa 48 9,be 49 1 47 48,aG 50 49,be 51 1 37 38,bz 1 51 46,be 52 1 39 41,bz 1 52 50])).seq (ops 0 [aa 35 9,aA 36 .sub 35 1,aa 9 36]))).loop))).seq (ops 0 [aa 15 8,aA 16 .add 15 1,aa 8 16]))).loop)))
theorem KF:Is Tryz.prog 166 Lb:=mkI Tryz.func166
def MS:F2:=(F2.mk 60 [] (ac [aa 13 1,aa 8 13] (ac [aE 9 0] (ac [aa 14 2,aa 15 1,bl 16 .sub 14 15,aa 10 16] ((ac [aa 17 10,aA 18 .sub 17 1,aA 19 .quo 18 2,aa 11 19] (block 0 ((ac [aa 20 11,aA 21 .geq 20 0] (cV 21 skip (exit 0))).seq ((block 1 (ops 0 [aa 24 0,aa 25 11,aa 26 10,aa 27 8,aa 28 3,aF 29 197 [t 24,t 25,t 26,t 27,t 28]])).seq (ops 0 [aa 22 11,aA 23 .sub 22 1,aa 11 23]))).loop)).seq (ac [aa 30 10,aA 31 .sub 30 1,aa 12 31] (block 2 ((ac [aa 32 12,aA 33 .geq 32 0] (cV 33 skip (exit 2))).seq ((block 3 ((ops 1 [aa 36 0,aa 37 8,aa 38 0,aa 39 8,aa 40 12,bl 41 .add 39 40,aa 42 0,aa 43 8,aa 44 12,bl 45 .add 43 44,be 46 1 42 45,aG 47 46,aa 48 0,aa 49 8,be 50 1 48 49,aG 51 50,be 52 1 36 37,bz 1 52 47,be 53 1 38 41,bz 1 53 51]).seq (ops 0 [aa 54 0,aa 55 9,aa 56 12,aa 57 8,aa 58 3,aF 59 197 [t 54,t 55,t 56,t 57,t 58]]))).seq (ops 0 [aa 34 12,aA 35 .sub 34 1,aa 12 35]))).loop)))))))
theorem N5:Is Tryz.prog 167 MS:=mkI Tryz.func167
def PD:F2:=(F2.mk 67 [] (ac [aa 13 2,aa 14 1,bl 15 .sub 13 14,aa 8 15] (ac [aa 16 8,aA 17 .geq 16 8] (aQ 17 (ac [aa 18 8,cO 19 (conv IntKind.u64 (t 18)),cO 9 (alloc (AV.int IntKind.u64 (0))),bz 1 9 19] (ac [aa 20 8,aF 21 198 [t 20],aa 10 21] (ac [aa 22 1,aa 23 8,aA 24 .quo 23 4,aA 25 .mul 24 2,bl 26 .add 22 25,aA 27 .sub 26 1,aa 11 27] (block 0 ((ac [aa 28 11,aa 29 1,aa 30 8,aA 31 .quo 30 4,aA 32 .mul 31 2,bl 33 .add 29 32,aA 34 .add 33 1,bl 35 .leq 28 34] (cV 35 skip (exit 0))).seq ((block 1 (ac [aF 38 199 [t 9],aa 39 10,cO 40 (cB .sub (t 39) (c (AV.int IntKind.u64 (1)))),bl 41 .and 38 40,cO 42 (conv IntKind.i64 (t 41)),aa 12 42] ((ac [aa 43 12,aa 44 8,bl 45 .geq 43 44] (aQ 45 (ops 0 [aa 46 12,aa 47 8,bl 48 .sub 46 47,aa 12 48]))).seq (ops 1 [aa 49 0,aa 50 11,aa 51 0,aa 52 1,aa 53 12,bl 54 .add 52 53,aa 55 0,aa 56 1,aa 57 12,bl 58 .add 56 57,be 59 1 55 58,aG 60 59,aa 61 0,aa 62 11,be 63 1 61 62,aG 64 63,be 65 1 49 50,bz 1 65 60,be 66 1 51 54,bz 1 66 64])))).seq (ops 0 [aa 36 11,aA 37 .add 36 1,aa 11 37]))).loop))))))))
theorem Nk:Is Tryz.prog 168 PD:=mkI Tryz.func168
def NA:F2:=(F2.mk 63 [RV.t 8,RV.t 9] (ac [aE 8 0,aE 9 0] (ac [aa 15 2,aa 16 1,bl 17 .sub 15 16,aa 10 17] (ac [cO 11 (alloc (bc))] (ac [aa 18 1,aa 19 10,aA 20 .quo 19 4,aA 21 .mul 20 1,bl 22 .add 18 21,aa 12 22] (ac [aa 23 1,aa 24 10,aA 25 .quo 24 4,aA 26 .mul 25 2,bl 27 .add 23 26,aa 13 27] (ac [aa 28 1,aa 29 10,aA 30 .quo 29 4,aA 31 .mul 30 3,bl 32 .add 28 31,aa 14 32] ((ac [aa 33 10,aA 34 .geq 33 8] (aQ 34 ((ac [aa 35 10,aA 36 .geq 35 50] (aQ 36 (ac [aa 37 0,aa 38 12,aa 39 3,aF 40 200 [t 37,t 38,t 11,t 39],aa 12 40] (ac [aa 41 0,aa 42 13,aa 43 3,aF 44 200 [t 41,t 42,t 11,t 43],aa 13 44] (ops 0 [aa 45 0,aa 46 14,aa 47 3,aF 48 200 [t 45,t 46,t 11,t 47],aa 14 48]))))).seq (ops 0 [aa 49 0,aa 50 12,aa 51 13,aa 52 14,aa 53 3,aF 54 201 [t 49,t 50,t 51,t 52,t 11,t 53],aa 13 54])))).seq (ac [aG 55 11] (block 0 (ac [aA 58 .eql 55 0,aa 57 58] (cV 57 (aC [aa 59 13,aa 8 59,aE 9 1]) (ac [aA 61 .eql 55 12,aa 60 61] (cV 60 (aC [aa 62 13,aa 8 62,aE 9 2]) (aC [aa 56 13,aa 8 56,aE 9 0])))))))))))))))
theorem NY:Is Tryz.prog 169 NA:=mkI Tryz.func169
def OG:F2:=(F2.mk 34 [] (ac [aa 10 1,aa 8 10] (ac [aa 11 2,aA 12 .sub 11 1,aa 9 12] (block 0 ((ac [aa 13 8,aa 14 9,bl 15 .lss 13 14] (cV 15 skip (exit 0))).seq (block 1 ((ops 1 [aa 16 0,aa 17 8,aa 18 0,aa 19 9,aa 20 0,aa 21 9,be 22 1 20 21,aG 23 22,aa 24 0,aa 25 8,be 26 1 24 25,aG 27 26,be 28 1 16 17,bz 1 28 23,be 29 1 18 19,bz 1 29 27]).seq (ac [aa 30 8,aA 31 .add 30 1,aa 8 31] (ops 0 [aa 32 9,aA 33 .sub 32 1,aa 9 33]))))).loop))))
theorem OX:Is Tryz.prog 170 OG:=mkI Tryz.func170
def OQ:F2:=(F2.mk 141 [RV.t 8] (ac [cz 8] (ac [aa 13 1,aA 14 .add 13 1,aa 9 14] ((ac [aE 10 0] (block 0 ((ac [aa 15 10,aA 16 .lss 15 5] (cV 16 skip (exit 0))).seq ((block 1 ((block 2 (((mixS 1 [aa 19 9,aa 20 2,bl 21 .lss 19 20,aa 22 21,ap 23 22 (cM 3),ap 24 22 (cM 0),ap 25 22 (cM 9),ap 26 22 (ixaS 1 (t 24) (t 25)),ap 27 22 (cD 26),ap 28 22 (cM 0),ap 29 22 (cM 9),ap 30 22 (cB .sub (t 29) (cN 1)),ap 31 22 (ixaS 1 (t 28) (t 30)),ap 32 22 (cD 31),ap 33 22 (call (t 23) [t 27,t 32]),ap 34 22 (cB .lss (t 33) (cN 0)),ap 35 22 (un UnOp.not (t 34)),dx 36 22 35] [(0,0),(1,0),(2,0),(3,0),(4,0),(5,0),(6,0),(7,0),(8,0),(9,0),(10,0),(11,0),(12,0),(13,0),(14,2),(15,0),(16,0),(17,0)]).seq (cV 36 skip (exit 2))).seq (block 3 (ops 0 [aa 37 9,aA 38 .add 37 1,aa 9 38]))).loop).seq ((ac [aa 39 9,aa 40 2,bl 41 .eql 39 40] (aQ 41 (aC [ln 8]))).seq ((ac [aa 42 2,aa 43 1,bl 44 .sub 42 43,aA 45 .lss 44 50] (aQ 45 (aC [cz 8]))).seq ((ops 1 [aa 46 0,aa 47 9,aa 48 0,aa 49 9,aA 50 .sub 49 1,aa 51 0,aa 52 9,aA 53 .sub 52 1,be 54 1 51 53,aG 55 54,aa 56 0,aa 57 9,be 58 1 56 57,aG 59 58,be 60 1 46 47,bz 1 60 55,be 61 1 48 50,bz 1 61 59]).seq ((ac [aa 62 9,aa 63 1,bl 64 .sub 62 63,aA 65 .geq 64 2] (aQ 65 (ac [aa 66 9,aA 67 .sub 66 1,aa 11 67] (block 4 ((ac [aa 68 11,aA 69 .geq 68 1] (cV 69 skip (exit 4))).seq ((block 5 (((mixS 1 [aa 72 3,aa 73 0,aa 74 11,be 75 1 73 74,aG 76 75,aa 77 0,aa 78 11,aA 79 .sub 78 1,be 80 1 77 79,aG 81 80,cO 82 (call (t 72) [t 76,t 81]),aA 83 .lss 82 0,iU 84 83] [(0,0),(1,0),(2,0),(3,0),(4,0),(5,0),(6,0),(7,0),(8,0),(9,0),(10,2),(11,0),(12,0)]).seq (aQ 84 (exit 4))).seq (ops 1 [aa 85 0,aa 86 11,aa 87 0,aa 88 11,aA 89 .sub 88 1,aa 90 0,aa 91 11,aA 92 .sub 91 1,be 93 1 90 92,aG 94 93,aa 95 0,aa 96 11,be 97 1 95 96,aG 98 97,be 99 1 85 86,bz 1 99 94,be 100 1 87 89,bz 1 100 98]))).seq (ops 0 [aa 70 11,aA 71 .sub 70 1,aa 11 71]))).loop)))).seq (ac [aa 101 2,aa 102 9,bl 103 .sub 101 102,aA 104 .geq 103 2] (aQ 104 (ac [aa 105 9,aA 106 .add 105 1,aa 12 106] (block 6 ((ac [aa 107 12,aa 108 2,bl 109 .lss 107 108] (cV 109 skip (exit 6))).seq ((block 7 (((mixS 1 [aa 112 3,aa 113 0,aa 114 12,be 115 1 113 114,aG 116 115,aa 117 0,aa 118 12,aA 119 .sub 118 1,be 120 1 117 119,aG 121 120,cO 122 (call (t 112) [t 116,t 121]),aA 123 .lss 122 0,iU 124 123] [(0,0),(1,0),(2,0),(3,0),(4,0),(5,0),(6,0),(7,0),(8,0),(9,0),(10,2),(11,0),(12,0)]).seq (aQ 124 (exit 6))).seq (ops 1 [aa 125 0,aa 126 12,aa 127 0,aa 128 12,aA 129 .sub 128 1,aa 130 0,aa 131 12,aA 132 .sub 131 1,be 133 1 130 132,aG 134 133,aa 135 0,aa 136 12,be 137 1 135 136,aG 138 137,be 139 1 125 126,bz 1 139 134,be 140 1 127 129,bz 1 140 138]))).seq (ops 0 [aa 110 12,aA 111 .add 110 1,aa 12 111]))).loop)))))))))).seq (ops 0 [aa 17 10,aA 18 .add 17 1,aa 10 18]))).loop)).seq (aC [cz 8])))))
theorem PM:Is Tryz.prog 171 OQ:=mkI Tryz.func171
def MN:F2:=(F2.mk 90 [RV.t 10] (ac [aE 10 0] ((ops 1 [aa 13 0,aa 14 1,aa 15 0,aa 16 3,aa 17 0,aa 18 3,be 19 1 17 18,aG 20 19,aa 21 0,aa 22 1,be 23 1 21 22,aG 24 23,be 25 1 13 14,bz 1 25 20,be 26 1 15 16,bz 1 26 24]).seq (ac [aa 27 1,aA 28 .add 27 1,aa 29 2,aA 30 .sub 29 1,aa 11 28,aa 12 30] ((block 0 (block 1 ((block 2 (((mixS 1 [aa 31 11,aa 32 12,bl 33 .leq 31 32,aa 34 33,ap 35 34 (cM 4),ap 36 34 (cM 0),ap 37 34 (cM 1),ap 38 34 (ixaS 1 (t 36) (t 37)),ap 39 34 (cD 38),ap 40 34 (cM 0),ap 41 34 (cM 11),ap 42 34 (ixaS 1 (t 40) (t 41)),ap 43 34 (cD 42),ap 44 34 (call (t 35) [t 39,t 43]),ap 45 34 (cB .lss (t 44) (cN 0)),ap 46 34 (un UnOp.not (t 45)),dx 47 34 46] [(0,0),(1,0),(2,0),(3,0),(4,0),(5,0),(6,0),(7,0),(8,0),(9,0),(10,0),(11,0),(12,0),(13,2),(14,0),(15,0),(16,0)]).seq (cV 47 skip (exit 2))).seq (block 3 (ops 0 [aa 48 11,aA 49 .add 48 1,aa 11 49]))).loop).seq ((block 4 (((mixS 1 [aa 50 11,aa 51 12,bl 52 .leq 50 51,aa 53 52,ap 54 53 (cM 4),ap 55 53 (cM 0),ap 56 53 (cM 1),ap 57 53 (ixaS 1 (t 55) (t 56)),ap 58 53 (cD 57),ap 59 53 (cM 0),ap 60 53 (cM 12),ap 61 53 (ixaS 1 (t 59) (t 60)),ap 62 53 (cD 61),ap 63 53 (call (t 54) [t 58,t 62]),ap 64 53 (cB .lss (t 63) (cN 0)),dx 65 53 64] [(0,0),(1,0),(2,0),(3,0),(4,0),(5,0),(6,0),(7,0),(8,0),(9,0),(10,0),(11,0),(12,0),(13,2),(14,0),(15,0)]).seq (cV 65 skip (exit 4))).seq (block 5 (ops 0 [aa 66 12,aA 67 .sub 66 1,aa 12 67]))).loop).seq ((ac [aa 68 11,aa 69 12,bl 70 .gtr 68 69] (aQ 70 (exit 0))).seq ((ops 1 [aa 71 0,aa 72 11,aa 73 0,aa 74 12,aa 75 0,aa 76 12,be 77 1 75 76,aG 78 77,aa 79 0,aa 80 11,be 81 1 79 80,aG 82 81,be 83 1 71 72,bz 1 83 78,be 84 1 73 74,bz 1 84 82]).seq (ac [aa 85 11,aA 86 .add 85 1,aa 11 86] (ops 0 [aa 87 12,aA 88 .sub 87 1,aa 12 88]))))))).loop).seq (aC [aa 89 11,aa 10 89]))))))
theorem Nt:Is Tryz.prog 172 MN:=mkI Tryz.func172
def MH:F2:=(F2.mk 178 [RV.t 10,RV.t 11] (ac [aE 10 0,cz 11] ((ops 1 [aa 14 0,aa 15 1,aa 16 0,aa 17 3,aa 18 0,aa 19 3,be 20 1 18 19,aG 21 20,aa 22 0,aa 23 1,be 24 1 22 23,aG 25 24,be 26 1 14 15,bz 1 26 21,be 27 1 16 17,bz 1 27 25]).seq (ac [aa 28 1,aA 29 .add 28 1,aa 30 2,aA 31 .sub 30 1,aa 12 29,aa 13 31] ((block 0 (((mixS 1 [aa 32 12,aa 33 13,bl 34 .leq 32 33,aa 35 34,ap 36 35 (cM 4),ap 37 35 (cM 0),ap 38 35 (cM 12),ap 39 35 (ixaS 1 (t 37) (t 38)),ap 40 35 (cD 39),ap 41 35 (cM 0),ap 42 35 (cM 1),ap 43 35 (ixaS 1 (t 41) (t 42)),ap 44 35 (cD 43),ap 45 35 (call (t 36) [t 40,t 44]),ap 46 35 (cB .lss (t 45) (cN 0)),dx 47 35 46] [(0,0),(1,0),(2,0),(3,0),(4,0),(5,0),(6,0),(7,0),(8,0),(9,0),(10,0),(11,0),(12,0),(13,2),(14,0),(15,0)]).seq (cV 47 skip (exit 0))).seq (block 1 (ops 0 [aa 48 12,aA 49 .add 48 1,aa 12 49]))).loop).seq ((block 2 (((mixS 1 [aa 50 12,aa 51 13,bl 52 .leq 50 51,aa 53 52,ap 54 53 (cM 4),ap 55 53 (cM 0),ap 56 53 (cM 13),ap 57 53 (ixaS 1 (t 55) (t 56)),ap 58 53 (cD 57),ap 59 53 (cM 0),ap 60 53 (cM 1),ap 61 53 (ixaS 1 (t 59) (t 60)),ap 62 53 (cD 61),ap 63 53 (call (t 54) [t 58,t 62]),ap 64 53 (cB .lss (t 63) (cN 0)),ap 65 53 (un UnOp.not (t 64)),dx 66 53 65] [(0,0),(1,0),(2,0),(3,0),(4,0),(5,0),(6,0),(7,0),(8,0),(9,0),(10,0),(11,0),(12,0),(13,2),(14,0),(15,0),(16,0)]).seq (cV 66 skip (exit 2))).seq (block 3 (ops 0 [aa 67 13,aA 68 .sub 67 1,aa 13 68]))).loop).seq ((ac [aa 69 12,aa 70 13,bl 71 .gtr 69 70] (aQ 71 ((ops 1 [aa 72 0,aa 73 13,aa 74 0,aa 75 1,aa 76 0,aa 77 1,be 78 1 76 77,aG 79 78,aa 80 0,aa 81 13,be 82 1 80 81,aG 83 82,be 84 1 72 73,bz 1 84 79,be 85 1 74 75,bz 1 85 83]).seq (aC [aa 86 13,aa 10 86,ln 11])))).seq ((ops 1 [aa 87 0,aa 88 12,aa 89 0,aa 90 13,aa 91 0,aa 92 13,be 93 1 91 92,aG 94 93,aa 95 0,aa 96 12,be 97 1 95 96,aG 98 97,be 99 1 87 88,bz 1 99 94,be 100 1 89 90,bz 1 100 98]).seq (ac [aa 101 12,aA 102 .add 101 1,aa 12 102] (ac [aa 103 13,aA 104 .sub 103 1,aa 13 104] ((block 4 (block 5 ((block 6 (((mixS 1 [aa 105 12,aa 106 13,bl 107 .leq 105 106,aa 108 107,ap 109 108 (cM 4),ap 110 108 (cM 0),ap 111 108 (cM 12),ap 112 108 (ixaS 1 (t 110) (t 111)),ap 113 108 (cD 112),ap 114 108 (cM 0),ap 115 108 (cM 1),ap 116 108 (ixaS 1 (t 114) (t 115)),ap 117 108 (cD 116),ap 118 108 (call (t 109) [t 113,t 117]),ap 119 108 (cB .lss (t 118) (cN 0)),dx 120 108 119] [(0,0),(1,0),(2,0),(3,0),(4,0),(5,0),(6,0),(7,0),(8,0),(9,0),(10,0),(11,0),(12,0),(13,2),(14,0),(15,0)]).seq (cV 120 skip (exit 6))).seq (block 7 (ops 0 [aa 121 12,aA 122 .add 121 1,aa 12 122]))).loop).seq ((block 8 (((mixS 1 [aa 123 12,aa 124 13,bl 125 .leq 123 124,aa 126 125,ap 127 126 (cM 4),ap 128 126 (cM 0),ap 129 126 (cM 13),ap 130 126 (ixaS 1 (t 128) (t 129)),ap 131 126 (cD 130),ap 132 126 (cM 0),ap 133 126 (cM 1),ap 134 126 (ixaS 1 (t 132) (t 133)),ap 135 126 (cD 134),ap 136 126 (call (t 127) [t 131,t 135]),ap 137 126 (cB .lss (t 136) (cN 0)),ap 138 126 (un UnOp.not (t 137)),dx 139 126 138] [(0,0),(1,0),(2,0),(3,0),(4,0),(5,0),(6,0),(7,0),(8,0),(9,0),(10,0),(11,0),(12,0),(13,2),(14,0),(15,0),(16,0)]).seq (cV 139 skip (exit 8))).seq (block 9 (ops 0 [aa 140 13,aA 141 .sub 140 1,aa 13 141]))).loop).seq ((ac [aa 142 12,aa 143 13,bl 144 .gtr 142 143] (aQ 144 (exit 4))).seq ((ops 1 [aa 145 0,aa 146 12,aa 147 0,aa 148 13,aa 149 0,aa 150 13,be 151 1 149 150,aG 152 151,aa 153 0,aa 154 12,be 155 1 153 154,aG 156 155,be 157 1 145 146,bz 1 157 152,be 158 1 147 148,bz 1 158 156]).seq (ac [aa 159 12,aA 160 .add 159 1,aa 12 160] (ops 0 [aa 161 13,aA 162 .sub 161 1,aa 13 162]))))))).loop).seq ((ops 1 [aa 163 0,aa 164 13,aa 165 0,aa 166 1,aa 167 0,aa 168 1,be 169 1 167 168,aG 170 169,aa 171 0,aa 172 13,be 173 1 171 172,aG 174 173,be 175 1 163 164,bz 1 175 170,be 176 1 165 166,bz 1 176 174]).seq (aC [aa 177 13,aa 10 177,cz 11])))))))))))))
theorem PK:Is Tryz.prog 173 MH:=mkI Tryz.func173
def K6:F2:=(F2.mk 25 [RV.t 2] (ac [aE 2 0] ((ac [aa 3 0,cO 4 (cB .geq (t 3) (c (AV.int IntKind.u64 (4294967296))))] (aQ 4 (ac [aa 5 0,cO 6 (cB .shr (t 5) (c (AV.int IntKind.u64 (32)))),aa 0 6] (ops 0 [aE 2 32])))).seq ((ac [aa 7 0,cO 8 (cB .geq (t 7) (c (AV.int IntKind.u64 (65536))))] (aQ 8 (ac [aa 9 0,cO 10 (cB .shr (t 9) (c (AV.int IntKind.u64 (16)))),aa 0 10] (ops 0 [aa 11 2,aA 12 .add 11 16,aa 2 12])))).seq ((ac [aa 13 0,cO 14 (cB .geq (t 13) (c (AV.int IntKind.u64 (256))))] (aQ 14 (ac [aa 15 0,cO 16 (cB .shr (t 15) (c (AV.int IntKind.u64 (8)))),aa 0 16] (ops 0 [aa 17 2,aA 18 .add 17 8,aa 2 18])))).seq (aC [aa 19 2,aa 20 0,cO 21 (conv IntKind.u8 (t 20)),cO 22 (ixStr (c (AV.str (ByteArray.mk (Array.mk [0,1,2,2,3,3,3,3,4,4,4,4,4,4,4,4,5,5,5,5,5,5,5,5,5,5,5,5,5,5,5,5,6,6,6,6,6,6,6,6,6,6,6,6,6,6,6,6,6,6,6,6,6,6,6,6,6,6,6,6,6,6,6,6,7,7,7,7,7,7,7,7,7,7,7,7,7,7,7,7,7,7,7,7,7,7,7,7,7,7,7,7,7,7,7,7,7,7,7,7,7,7,7,7,7,7,7,7,7,7,7,7,7,7,7,7,7,7,7,7,7,7,7,7,7,7,7,7,8,8,8,8,8,8,8,8,8,8,8,8,8,8,8,8,8,8,8,8,8,8,8,8,8,8,8,8,8,8,8,8,8,8,8,8,8,8,8,8,8,8,8,8,8,8,8,8,8,8,8,8,8,8,8,8,8,8,8,8,8,8,8,8,8,8,8,8,8,8,8,8,8,8,8,8,8,8,8,8,8,8,8,8,8,8,8,8,8,8,8,8,8,8,8,8,8,8,8,8,8,8,8,8,8,8,8,8,8,8,8,8,8,8,8,8,8,8,8,8,8,8,8,8,8,8,8,8])))) (t 21)),cO 23 (conv IntKind.i64 (t 22)),bl 24 .add 19 23,aa 2 24]))))))
theorem KQ:Is Tryz.prog 175 K6:=mkI Tryz.func175
def Pm:F2:=(F2.mk 13 [RV.t 4] (ac [dg 2 0,bO 4] ((ac [aa 6 1] (block 0 (rangeF (t 6) [7] (ops 0 [aa 5 7]) (block 1 (ops 0 [aG 8 2,aa 9 5,cO 10 (bldS 1 1 [AV.esl] [(0,1,t 9)]),gj 11 1 24 8 10,bz 1 2 11]))))).seq (aC [aG 12 2,aa 4 12]))))
theorem PB:Is Tryz.prog 176 Pm:=mkI Tryz.func176
def NS:F2:=(F2.mk 10 [] (ac [dg 3 0] (ac [cO 4 (alloc AV.nilf)] (ac [cO 5 (mkfn 178 [t 1,t 3,t 2,t 4]),bz 1 4 5] (mixS 1 [aG 6 4,aG 7 1,cO 8 (mks 2 16 [bc,bc] (cN 0) (t 7)),cO 9 (call (t 6) [cN ((0)),t 8])] [(0,0),(1,0),(2,1),(3,2)])))))
theorem OO:Is Tryz.prog 177 NS:=mkI Tryz.func177
def Mw:F2:=(F2.mk 37 [RV.t 8] (ac [cz 8] ((ac [aa 10 1,bj 11 10,aG 12 2,bl 13 .eql 11 12] (aQ 13 ((mixS 1 [aG 14 3,aa 15 1,aF 16 136 [t 15],cO 17 (call (t 14) [t 16]),aa 8 17] [(0,0),(1,0),(2,1),(3,2),(4,0)]).seq ret))).seq ((ac [aa 18 0,aa 9 18] (block 0 ((ac [aa 19 9,aG 20 4,bj 21 20,bl 22 .lss 19 21] (cV 22 skip (exit 0))).seq ((block 1 ((mixS 2 [aG 25 5,aa 26 9,aA 27 .add 26 1,aa 28 1,aG 29 4,aa 30 9,be 31 2 29 30,bi 32 2 31,cO 33 (bldS 2 1 [bc,bc] [(0,2,t 32)]),gj 34 2 16 28 33,cO 35 (call (t 25) [t 27,t 34]),iU 36 35] [(0,0),(1,0),(2,0),(3,0),(4,0),(5,0),(6,0),(7,0),(8,1),(9,1),(10,2),(11,0)]).seq (aQ 36 (aC [cz 8])))).seq (ops 0 [aa 23 9,aA 24 .add 23 1,aa 9 24]))).loop)).seq (aC [ln 8])))))
theorem Kx:Is Tryz.prog 178 Mw:=mkI Tryz.func178
def Ny:F2:=(F2.mk 53 [] (ac [aa 10 1,aA 11 .add 10 1,aa 8 11] (block 0 ((ac [aa 12 8,aa 13 2,bl 14 .lss 12 13] (cV 14 skip (exit 0))).seq ((block 1 (ac [aa 17 8,aa 9 17] (block 2 (((mixS 1 [aa 18 9,aa 19 1,bl 20 .gtr 18 19,aa 21 20,ap 22 21 (cM 3),ap 23 21 (cM 0),ap 24 21 (cM 9),ap 25 21 (ixaS 2 (t 23) (t 24)),ap 26 21 (ldn 2 (t 25)),ap 27 21 (cM 0),ap 28 21 (cM 9),ap 29 21 (cB .sub (t 28) (cN 1)),ap 30 21 (ixaS 2 (t 27) (t 29)),ap 31 21 (ldn 2 (t 30)),ap 32 21 (call (t 22) [t 26,t 31]),ap 33 21 (cB .lss (t 32) (cN 0)),dx 34 21 33] [(0,0),(1,0),(2,0),(3,0),(4,0),(5,0),(6,0),(7,0),(8,0),(9,0),(10,0),(11,0),(12,0),(13,0),(14,2),(15,0),(16,0)]).seq (cV 34 skip (exit 2))).seq ((block 3 (ops 1 [aa 37 0,aa 38 9,aa 39 0,aa 40 9,aA 41 .sub 40 1,aa 42 0,aa 43 9,aA 44 .sub 43 1,be 45 2 42 44,bi 46 2 45,aa 47 0,aa 48 9,be 49 2 47 48,bi 50 2 49,be 51 2 37 38,bz 2 51 46,be 52 2 39 41,bz 2 52 50])).seq (ops 0 [aa 35 9,aA 36 .sub 35 1,aa 9 36]))).loop))).seq (ops 0 [aa 15 8,aA 16 .add 15 1,aa 8 16]))).loop)))
theorem N3:Is Tryz.prog 179 Ny:=mkI Tryz.func179
def L7:F2:=(F2.mk 17 [RV.t 4] (ac [cz 4] (aC [aa 5 0,aF 6 165 [t 5],aa 7 6,ap 8 7 (cM 1),ap 9 7 (call (cF 165) [t 8]),ap 10 7 (un UnOp.not (t 9)),dx 11 7 10,aa 12 11,bA 13 12 (cM 0),bA 14 12 (cM 1),bA 15 12 (cB .lss (t 13) (t 14)),fS 16 12 15,aa 4 16])))
theorem KG:Is Tryz.prog 187 L7:=mkI Tryz.func187
def Oq:F2:=(F2.mk 6 [RV.t 2] (ac [cz 2] (aC [aa 3 0,aa 4 0,bl 5 .neq 3 4,aa 2 5])))
theorem Nj:Is Tryz.prog 188 Oq:=mkI Tryz.func188
def Ob:F2:=(F2.mk 49 [] (ac [aa 8 1,aA 9 .add 8 1,aa 6 9] (block 0 ((ac [aa 10 6,aa 11 2,bl 12 .lss 10 11] (cV 12 skip (exit 0))).seq ((block 1 (ac [aa 15 6,aa 7 15] (block 2 (((mixS 1 [aa 16 7,aa 17 1,bl 18 .gtr 16 17,aa 19 18,ap 20 19 (cM 0),ap 21 19 (cM 7),ap 22 19 (ixaS 1 (t 20) (t 21)),ap 23 19 (cD 22),ap 24 19 (cM 0),ap 25 19 (cM 7),ap 26 19 (cB .sub (t 25) (cN 1)),ap 27 19 (ixaS 1 (t 24) (t 26)),ap 28 19 (cD 27),ap 29 19 (call (cF 187) [t 23,t 28]),dx 30 19 29] [(0,0),(1,0),(2,0),(3,0),(4,0),(5,0),(6,0),(7,0),(8,0),(9,0),(10,0),(11,0),(12,0),(13,2),(14,0)]).seq (cV 30 skip (exit 2))).seq ((block 3 (ops 1 [aa 33 0,aa 34 7,aa 35 0,aa 36 7,aA 37 .sub 36 1,aa 38 0,aa 39 7,aA 40 .sub 39 1,be 41 1 38 40,aG 42 41,aa 43 0,aa 44 7,be 45 1 43 44,aG 46 45,be 47 1 33 34,bz 1 47 42,be 48 1 35 37,bz 1 48 46])).seq (ops 0 [aa 31 7,aA 32 .sub 31 1,aa 7 32]))).loop))).seq (ops 0 [aa 13 6,aA 14 .add 13 1,aa 6 14]))).loop)))
theorem PW:Is Tryz.prog 189 Ob:=mkI Tryz.func189
def MW:F2:=(F2.mk 82 [] (ac [aa 12 1,aa 10 12] (block 0 (block 1 (ac [aa 13 10,cO 14 (cB .mul (cN 2) (t 13)),aA 15 .add 14 1,aa 11 15] ((ac [aa 16 11,aa 17 2,bl 18 .geq 16 17] (aQ 18 (exit 0))).seq (((mixS 1 [aa 19 11,aA 20 .add 19 1,aa 21 2,bl 22 .lss 20 21,aa 23 22,ap 24 23 (cM 4),ap 25 23 (cM 0),ap 26 23 (cM 3),ap 27 23 (cM 11),ap 28 23 (cB .add (t 26) (t 27)),ap 29 23 (ixaS 1 (t 25) (t 28)),ap 30 23 (cD 29),ap 31 23 (cM 0),ap 32 23 (cM 3),ap 33 23 (cM 11),ap 34 23 (cB .add (t 32) (t 33)),ap 35 23 (cB .add (t 34) (cN 1)),ap 36 23 (ixaS 1 (t 31) (t 35)),ap 37 23 (cD 36),ap 38 23 (call (t 24) [t 30,t 37]),ap 39 23 (cB .lss (t 38) (cN 0)),dx 40 23 39] [(0,0),(1,0),(2,0),(3,0),(4,0),(5,0),(6,0),(7,0),(8,0),(9,0),(10,0),(11,0),(12,0),(13,0),(14,0),(15,0),(16,0),(17,0),(18,0),(19,2),(20,0),(21,0)]).seq (aQ 40 (ops 0 [aa 41 11,aA 42 .add 41 1,aa 11 42]))).seq (((mixS 1 [aa 43 4,aa 44 0,aa 45 3,aa 46 10,bl 47 .add 45 46,be 48 1 44 47,aG 49 48,aa 50 0,aa 51 3,aa 52 11,bl 53 .add 51 52,be 54 1 50 53,aG 55 54,cO 56 (call (t 43) [t 49,t 55]),aA 57 .lss 56 0,iU 58 57] [(0,0),(1,0),(2,0),(3,0),(4,0),(5,0),(6,0),(7,0),(8,0),(9,0),(10,0),(11,0),(12,0),(13,2),(14,0),(15,0)]).seq (cV 58 ret skip)).seq ((ops 1 [aa 59 0,aa 60 3,aa 61 10,bl 62 .add 60 61,aa 63 0,aa 64 3,aa 65 11,bl 66 .add 64 65,aa 67 0,aa 68 3,aa 69 11,bl 70 .add 68 69,be 71 1 67 70,aG 72 71,aa 73 0,aa 74 3,aa 75 10,bl 76 .add 74 75,be 77 1 73 76,aG 78 77,be 79 1 59 62,bz 1 79 72,be 80 1 63 66,bz 1 80 78]).seq (ops 0 [aa 81 11,aa 10 81]))))))).loop)))
theorem Nq:Is Tryz.prog 197 MW:=mkI Tryz.func197
def Og:F2:=(F2.mk 7 [RV.t 2] (ac [cO 2 (mov (c (AV.int IntKind.u64 (0))))] (aC [aa 3 0,cO 4 (conv IntKind.u64 (t 3)),aF 5 156 [t 4],cO 6 (cB .shl (c (AV.int IntKind.u64 (1))) (t 5)),aa 2 6])))
theorem PE:Is Tryz.prog 198 Og:=mkI Tryz.func198
def N6:F2:=(F2.mk 33 [RV.t 2] (ac [cO 2 (mov (c (AV.int IntKind.u64 (0))))] ((ops 1 [aa 3 0,cO 4 (nilck (t 3)),aG 5 4,aa 6 0,cO 7 (nilck (t 6)),aG 8 7,cO 9 (cB .shl (t 8) (c (AV.int IntKind.u64 (13)))),bl 10 .xor 5 9,cO 11 (nilck (t 3)),bz 1 11 10]).seq ((ops 1 [aa 12 0,cO 13 (nilck (t 12)),aG 14 13,aa 15 0,cO 16 (nilck (t 15)),aG 17 16,cO 18 (cB .shr (t 17) (c (AV.int IntKind.u64 (7)))),bl 19 .xor 14 18,cO 20 (nilck (t 12)),bz 1 20 19]).seq ((ops 1 [aa 21 0,cO 22 (nilck (t 21)),aG 23 22,aa 24 0,cO 25 (nilck (t 24)),aG 26 25,cO 27 (cB .shl (t 26) (c (AV.int IntKind.u64 (17)))),bl 28 .xor 23 27,cO 29 (nilck (t 21)),bz 1 29 28]).seq (aC [aa 30 0,cO 31 (nilck (t 30)),aG 32 31,aa 2 32]))))))
theorem NN:Is Tryz.prog 199 N6:=mkI Tryz.func199
def M8:F2:=(F2.mk 18 [RV.t 8] (ac [aE 8 0] (aC [aa 9 0,aa 10 1,aA 11 .sub 10 1,aa 12 1,aa 13 1,aA 14 .add 13 1,aa 15 2,aa 16 3,aF 17 201 [t 9,t 11,t 12,t 14,t 15,t 16],aa 8 17])))
theorem MU:Is Tryz.prog 200 M8:=mkI Tryz.func200
def NG:F2:=(F2.mk 41 [RV.t 12] (ac [aE 12 0] (ac [aa 14 0,aa 15 1,aa 16 2,aa 17 4,aa 18 5,aF 19 208 [t 14,t 15,t 16,t 17,t 18],aa 13 19,aW 20 13 0,aW 21 13 1,aa 1 20,aa 2 21] (ac [aa 23 0,aa 24 2,aa 25 3,aa 26 4,aa 27 5,aF 28 208 [t 23,t 24,t 25,t 26,t 27],aa 22 28,aW 29 22 0,aW 30 22 1,aa 2 29,aa 3 30] (ac [aa 32 0,aa 33 1,aa 34 2,aa 35 4,aa 36 5,aF 37 208 [t 32,t 33,t 34,t 35,t 36],aa 31 37,aW 38 31 0,aW 39 31 1,aa 1 38,aa 2 39] (aC [aa 40 2,aa 12 40]))))))
theorem OV:Is Tryz.prog 201 NG:=mkI Tryz.func201
def NM:F2:=(F2.mk 32 [RV.t 10,RV.t 11] (ac [aE 10 0,aE 11 0] (((mixS 1 [aa 12 4,aa 13 0,aa 14 2,be 15 1 13 14,aG 16 15,aa 17 0,aa 18 1,be 19 1 17 18,aG 20 19,cO 21 (call (t 12) [t 16,t 20]),aA 22 .lss 21 0] [(0,0),(1,0),(2,0),(3,0),(4,0),(5,0),(6,0),(7,0),(8,0),(9,2),(10,0)]).seq (aQ 22 (ac [aa 23 3,cO 24 (nilck (t 23)),aG 25 24,aA 26 .add 25 1,cO 27 (nilck (t 23)),bz 1 27 26] (aC [aa 28 2,aa 29 1,aa 10 28,aa 11 29])))).seq (aC [aa 30 1,aa 31 2,aa 10 30,aa 11 31]))))
theorem Nd:Is Tryz.prog 208 NM:=mkI Tryz.func208
end Go.Proofs.YtekdaafnjdlenaaGreat
namespace Go.Proofs.YtekdaafnjdlenaaGreat
open Go Go.Abs
open Nat (reduceEqDiff reduceAdd reduceLeDiff)
def swp{α:Type}[Inhabited α](L:List α)(i j:Nat):List α:=(L.set i (L.getD j default)).set j (L.getD i default)
structure PermR{α:Type}[Inhabited α](a b:Nat)(L L':List α):Prop where
 len:L'.length=L.length
 out:∀i,i<a\/b<=i->L'.getD i default=L.getD i default
 perm:L'.Perm L
section
variable{α:Type}[Inhabited α]{a b a' b':Nat}{L L' L'':List α}
theorem d4{l:List α}{i j:Nat}{x:α}(h:i<l.length):(l.set i x).getD j default=if i=j then x else l.getD j default:=by
 simp only[List.getD,List.getElem?_set];split
 ·rename_i e;subst e;simp[h]
 ·rfl
theorem D9(i j:Nat):(swp L i j).length=L.length:=by simp[swp]
theorem fR{i j:Nat}(hi:i<L.length)(hj:j<L.length)(k:Nat):(swp L i j).getD k default=if k=j then L.getD i default else if k=i then L.getD j default else L.getD k default:=by
 unfold swp;rw[d4 (by simpa using hj),d4 hi];by_cases e:k=j
 ·subst e;simp
 ·rw[if_neg (λh=>e h.symm),if_neg e];by_cases e2:k=i
  ·subst e2;simp
  ·rw[if_neg (λh=>e2 h.symm),if_neg e2]
theorem HU{i j:Nat}(hi:i<L.length)(hj:j<L.length):(swp L i j).Perm L:=by
 unfold swp;have e1:L.getD i default=L[i]:=by simp[List.getD,hi]
 have e2:L.getD j default=L[j]:=by simp[List.getD,hj]
 rw[e1,e2];exact List.set_set_perm hi hj
theorem PermR.refl:PermR a b L L:=⟨rfl,λ_ _=>rfl,List.Perm.refl _⟩
theorem PermR.trans(h:PermR a b L L')(k:PermR a b L' L''):PermR a b L L'':=⟨k.len.trans h.len,λi hi=>(k.out i hi).trans (h.out i hi),k.perm.trans h.perm⟩
theorem PermR.mono(h:PermR a' b' L L')(h1:a<=a')(h2:b'<=b):PermR a b L L':=⟨h.len,λi hi=>h.out i (by omega),h.perm⟩
theorem PermR.swap{i j:Nat}(h1:a<=i/\i<b)(h2:a<=j/\j<b)(hb:b<=L.length):PermR a b L (swp L i j):=
 ⟨D9 i j,λk hk=>by rw[fR (by omega) (by omega),if_neg (by omega),if_neg (by omega)],HU (by omega) (by omega)⟩
theorem AF{l m:List α}(hl:l.length=m.length)(h:∀i,i<l.length->l.getD i default=m.getD i default):l=m:=
 List.ext_getElem hl (fun i h1 h2=>by
  have:=h i h1;simpa[List.getD,h1,h2] using this)
theorem PermR.mid(h:PermR a b L L')(hab:a<=b)(hb:b<=L.length):((L'.drop a).take (b-a)).Perm ((L.drop a).take (b-a)):=by
 have e1:∀M:List α,b<=M.length->M=M.take a++((M.drop a).take (b-a)++M.drop b):=λM hM=>by
  have:M.drop b=(M.drop a).drop (b-a):=by rw[List.drop_drop];congr 1;omega
  rw[this,Cf,Cf]
 have t:L'.take a=L.take a:=AF (by simp [h.len]) (fun i hi=>by
  have hi':i<a:=by simp at hi;omega
  rw[rP hi',rP hi'];exact h.out i (.inl hi'))
 have d:L'.drop b=L.drop b:=AF (by simp [h.len]) (fun i hi=>by
  have e:∀M:List α,(M.drop b).getD i default=M.getD (b+i) default:=λM=>by simp[List.getD,nW]
  rw[e,e];exact h.out (b+i) (.inr (by omega)))
 have p:=h.perm;rw[e1 L' (by rw[h.len];exact hb),e1 L hb,t,d] at p;exact(List.perm_append_right_iff _).1 ((List.perm_append_left_iff _).1 p)
theorem DA{M:List α}{x:α}(hab:a<=b)(hb:b<=M.length):x∈(M.drop a).take (b-a)↔ ∃i,a<=i/\i<b/\M.getD i default=x:=by
 constructor
 ·intro h;obtain⟨j,hj,e⟩:=lm h;have hj':j<b-a:=by simp at hj;omega
  refine⟨a+j,by omega,by omega,?_⟩;rw[<-e];simp[List.getD,List.getElem_take,List.getElem_drop,show a+j<M.length by omega]
 ·rintro⟨i,h1,h2,rfl⟩;rw[List.mem_iff_getElem?];refine⟨i-a,?_⟩;rw[iQ,if_pos (by omega),nW,show a+(i-a)=i by omega];simp[List.getD,show i<M.length by omega]
theorem PermR.all{p:α->Prop}(h:PermR a b L L')(hab:a<=b)(hb:b<=L.length)(hp:∀i,a<=i->i<b->p (L.getD i default)):∀i,a<=i->i<b->p (L'.getD i default):=by
 intro i h1 h2;have hm:L'.getD i default∈(L'.drop a).take (b-a):=(DA hab (by rw[h.len];exact hb)).2 ⟨i,h1,h2,rfl⟩;obtain⟨j,k1,k2,e⟩:=(DA hab hb).1 ((h.mid hab hb).mem_iff.1 hm);rw[<-e];exact hp j k1 k2
end
structure Ord{α:Type}(K:α->α->Int):Prop where
 irr:∀x,¬K x x<0
 asym:∀x y,K x y<0->¬K y x<0
 negtr:∀x y z,¬K y x<0->¬K z y<0->¬K z x<0
def br{α:Type}[Inhabited α](K:α->α->Int)(a b:Nat)(L:List α):Prop:=∀i j,a<=i->i<j->j<b->¬K (L.getD j default) (L.getD i default)<0
theorem br.one{α:Type}[Inhabited α]{K:α->α->Int}{a b:Nat}{L:List α}(h:b<=a+1):br K a b L:=λi j h1 h2 h3=>by omega
structure LinK{α:Type}(K:α->α->Int):Prop where
 ord:Ord K
 eq:∀x y,¬K x y<0->¬K y x<0->x=y
def bM{α:Type}(K:α->α->Int)(l:List α):Prop:=l.Pairwise λx y=>K x y<0
def yN{α:Type}(K:α->α->Int):List α->α->List α
 |[],v=>[v]
 |a::l,v=>if K v a<0 then v::a::l else a::yN K l v
section
variable{α:Type}[DecidableEq α]{K:α->α->Int}
def ws(K:α->α->Int)(acc:List α)(v:α):List α:=if v∈acc then acc else yN K acc v
def wC(K:α->α->Int)(acc l:List α):List α:=l.foldl (ws K) acc
def iJ(K:α->α->Int)(l:List α):List α:=wC K [] l
omit [DecidableEq α] in
theorem bM.nil:bM K ([]:List α):=lS
omit [DecidableEq α] in
theorem bM.nodup{l:List α}(hK:LinK K)(h:bM K l):l.Nodup:=yO (λ{a b} h e=>by subst e;exact hK.ord.irr a h) h
omit [DecidableEq α] in
theorem LinK.tri(hK:LinK K)(x y:α):K x y<0\/x=y\/K y x<0:=by
 by_cases h1:K x y<0
 ·exact .inl h1
 ·by_cases h2:K y x<0
  ·exact .inr (.inr h2)
  ·exact .inr (.inl (hK.eq x y h1 h2))
omit [DecidableEq α] in
theorem LinK.trans(hK:LinK K){x y z:α}(h1:K x y<0)(h2:K y z<0):K x z<0:=by
 refine Decidable.byContradiction λhn=>?_;exact hK.ord.negtr z x y hn (hK.ord.asym _ _ h1) h2
omit [DecidableEq α] in
theorem l8{a b:List α}(hK:LinK K)(ha:bM K a)(hb:bM K b)(h:∀x,x∈a↔x∈b):a=b:=by
 classical
 have hp:a.Perm b:=(List.perm_ext_iff_of_nodup (ha.nodup hK) (hb.nodup hK)).2 h;exact List.Perm.eq_of_pairwise (λx y _ _ h1 h2=>absurd h2 (hK.ord.asym _ _ h1)) ha hb hp
omit [DecidableEq α] in
theorem BR{l:List α}{v x:α}:x∈yN K l v↔x∈l\/x=v:=by
 induction l with
 |nil=>simp[yN]
 |cons a l ih=>
  unfold yN;split
  ·simp only[cU];exact⟨λh=>h.elim .inr .inl,λh=>h.elim .inr .inl⟩
  ·rw[cU,ih,cU,or_assoc]
omit [DecidableEq α] in
theorem GH{l:List α}{v:α}(hK:LinK K)(h:bM K l)(hv:v∉l):bM K (yN K l v):=by
 induction l with
 |nil=>exact List.pairwise_singleton _ _
 |cons a l ih=>
  unfold bM at h;rw[iz] at h;unfold yN;split
  ·rename_i hlt
   exact iz.2 ⟨fun y hy=>by
    rcases cU.1 hy with rfl|hy
    ·exact hlt
    ·exact hK.trans hlt (h.1 y hy),iz.2 h⟩
  ·rename_i hlt;refine iz.2 ⟨λy hy=>?_,ih h.2 λhm=>hv (dS _ hm)⟩;rcases BR.1 hy with hy|rfl
   ·exact h.1 y hy
   ·rcases hK.tri y a with k|k|k
    ·exact absurd k hlt
    ·exact absurd (k▸cW) hv
    ·exact k
omit [DecidableEq α] in
theorem HL{l:List α}{v:α}:(yN K l v).length=l.length+1:=by
 induction l with
 |nil=>rfl
 |cons a l ih=>unfold yN;split<;>simp[ih]
theorem Iv{acc:List α}{v x:α}:x∈ws K acc v↔x∈acc\/x=v:=by
 unfold ws;split
 ·rename_i h;exact⟨.inl,λh2=>h2.elim id (λe=>e▸h)⟩
 ·exact BR
theorem IY{acc:List α}{v:α}(hK:LinK K)(h:bM K acc):bM K (ws K acc v):=by
 unfold ws;split
 ·exact h
 ·rename_i hn;exact GH hK h hn
theorem GB{acc:List α}{v:α}:(ws K acc v).length<=acc.length+1:=by
 unfold ws;split
 ·omega
 ·rw[HL];exact aJ _
theorem Be:∀{l acc:List α}{x:α},x∈wC K acc l↔x∈acc\/x∈l
 |[],acc,x=>by simp[wC]
 |v::l,acc,x=>by
  rw[show wC K acc (v::l)=wC K (ws K acc v) l from rfl,Be,Iv,cU,or_assoc]
theorem Br(hK:LinK K):∀{l acc:List α},bM K acc->bM K (wC K acc l)
 |[],_,h=>h
 |v::l,acc,h=>Br hK (l:=l) (IY hK (v:=v) h)
theorem A3:∀{l acc:List α},(wC K acc l).length<=acc.length+l.length
 |[],acc=>by simp[wC]
 |v::l,acc=>by
  rw[show wC K acc (v::l)=wC K (ws K acc v) l from rfl];have:=A3 (l:=l) (acc:=ws K acc v);have:=GB (K:=K) (acc:=acc) (v:=v);rw[bL];omega
theorem jn(hK:LinK K)(l:List α):bM K (iJ K l):=Br hK lS
theorem f9{l:List α}{x:α}:x∈iJ K l↔x∈l:=by
 unfold iJ;rw[Be];simp
theorem qA{l:List α}:(iJ K l).length<=l.length:=by
 have:=A3 (K:=K) (l:=l) (acc:=[]);unfold iJ;rw[eW] at this;omega
theorem Jt(hK:LinK K){l:List α}(h:bM K l):iJ K l=l:=l8 hK (jn hK l) h λ_=>f9
theorem AM{l:List α}:iJ K l=[]↔l=[]:=by
 constructor
 ·intro h;cases l with
  |nil=>rfl
  |cons a l=>
   have:a∈iJ K (a::l):=f9.2 (cW ..);rw[h] at this;exact absurd this (by simp)
 ·rintro rfl;rfl
end
section
variable{α:Type}[Inhabited α][DecidableEq α]
def cH(l:List α):Nat->Nat
 |0=>0
 |k+1=>cH l k+if k=0\/l.getD k default≠l.getD (k-1) default then 1 else 0
theorem Bf(l:List α)(k:Nat):cH l k<=k:=by
 induction k with
 |zero=>exact aJ _
 |succ k ih=>unfold cH;split<;>omega
theorem fW{l:List α}{k:Nat}(hk:k≠0)(h:l.getD k default=l.getD (k-1) default):cH l (k+1)=cH l k:=by
 rw[cH,if_neg (by rintro(h'|h');exact hk h';exact h' h)];rfl
theorem mz{l:List α}{k:Nat}(h:l.getD k default≠l.getD (k-1) default):cH l (k+1)=cH l k+1:=by
 rw[cH,if_pos (.inr h)]
def fx(l:List α):Nat->List α
 |0=>[]
 |k+1=>fx l k++if k=0\/l.getD k default≠l.getD (k-1) default then [l.getD k default] else []
theorem xL(l:List α)(k:Nat):(fx l k).length=cH l k:=by
 induction k with
 |zero=>rfl
 |succ k ih=>rw[fx,cH,cA,ih];split<;>rfl
theorem mF{l:List α}{k:Nat}(hk:k≠0)(h:l.getD k default=l.getD (k-1) default):fx l (k+1)=fx l k:=by
 rw[fx,if_neg (by rintro(h'|h');exact hk h';exact h' h),gJ]
theorem mX{l:List α}{k:Nat}(h:l.getD k default≠l.getD (k-1) default):fx l (k+1)=fx l k++[l.getD k default]:=by
 rw[fx,if_pos (.inr h)]
theorem sd{l:List α}:∀{k:Nat},k<=l.length->∀x,x∈fx l k↔ ∃j,j<k/\l.getD j default=x
 |0,_,x=>by simp[fx]
 |k+1,hk,x=>by
  have ih:=sd (l:=l) (k:=k) (by omega) x;rw[fx,dZ,ih];constructor
  ·rintro(⟨j,h1,h2⟩|h)
   ·exact⟨j,by omega,h2⟩
   ·split at h
    ·rw[bT] at h;exact⟨k,by omega,h.symm⟩
    ·simp at h
  ·rintro⟨j,h1,h2⟩;by_cases e:j=k
   ·subst e;by_cases c:j=0\/l.getD j default≠l.getD (j-1) default
    ·right;rw[if_pos c,bT];exact h2.symm
    ·left;have c1:j≠0:=λh=>c (.inl h);have c2:l.getD j default=l.getD (j-1) default:=tt λh=>c (.inr h);exact⟨j-1,by omega,by rw[<-c2];exact h2⟩
   ·left;exact⟨j,by omega,h2⟩
theorem xO{K:α->α->Int}(hK:LinK K){l:List α}(hs:∀i j,i<j->j<l.length->¬K (l.getD j default) (l.getD i default)<0):∀{k:Nat},k<=l.length->bM K (fx l k)
 |0,_=>lS
 |k+1,hk=>by
  have ih:=xO hK hs (k:=k) (by omega);unfold bM;rw[fx,List.pairwise_append];refine⟨ih,by split<;>simp,λx hx y hy=>?_⟩;split at hy
  ·rename_i c;rw[bT] at hy;subst hy;obtain⟨j,h1,rfl⟩:=(sd (by omega) x).1 hx;rcases c with c|c
   ·omega
   ·refine Decidable.byContradiction λhn=>?_;have a2:=hs (k-1) k (by omega) (by omega);have hne:K (l.getD (k-1) default) (l.getD k default)<0:=Decidable.byContradiction λh3=>c (hK.eq _ _ a2 h3);by_cases e:j=k-1
    ·rw[e] at hn;exact hn hne
    ·have a1:=hs j (k-1) (by omega) (by omega);exact hK.ord.negtr _ _ _ hn a1 hne
  ·simp at hy
omit [DecidableEq α] in
theorem Iw{M:List α}{x:α}:(∃j,j<M.length/\M.getD j default=x)↔x∈M:=by
 constructor
 ·rintro⟨j,h1,rfl⟩;simp[List.getD,h1]
 ·intro h;obtain⟨j,hj,rfl⟩:=lm h;exact⟨j,hj,by simp[List.getD,hj]⟩
theorem x8{K:α->α->Int}(hK:LinK K){l M:List α}(hp:M.Perm l)(hs:br K 0 M.length M):fx M M.length=iJ K l:=by
 refine l8 hK (xO hK (λi j h1 h2=>hs i j (bW _) h1 h2) (aJ _)) (jn hK l) λx=>?_;rw[sd (aJ _),Iw,hp.mem_iff,f9]
end
abbrev Shn{α:Type}(l:List α):Prop:=l.length<=17592186044416
structure Vtx where
 color:Int
 label:Int
 deriving Inhabited,DecidableEq
abbrev Spx:=List Vtx
def sq(v:Vtx):List AV:=[.int .i64 v.color,.int .i64 v.label]
abbrev bP(v:Vtx):AV:=.agg [.int .i64 v.color,.int .i64 v.label]
def ar(l:Spx):AV:=iO 2 bP l
def ak(l:List Spx):AV:=iO 1 ar l
def cX(l:Spx):List AV:=l.flatMap sq
theorem Bz(v:Vtx):Dat (bP v):=Dat.agg (DatL.cons .int (DatL.cons .int DatL.nil))
theorem c8 (l:Spx):Dat (ar l):=uf (fun x _ c hc=>by
 simp only[bP,AV.cells,cU,List.not_mem_nil,or_false] at hc;rcases hc with rfl|rfl<;>exact .int)
theorem bJ (l:List Spx):Dat (ak l):=uf (fun x _ c hc=>by
 simp only[ar,iO,AV.cells,bT] at hc;subst hc;exact c8 x)
instance datI_encX{v:Vtx}:DatI (bP v):=⟨Bz v⟩
instance datI_encXs{l:Spx}:DatI (ar l):=⟨c8 l⟩
instance datI_encXss{l:List Spx}:DatI (ak l):=⟨bJ l⟩
theorem aR{l:Spx}:(ar l).cells=[ar l]:=rfl
theorem bf{l:Spx}:(ar l).one=true:=rfl
theorem af{l:List Spx}:(ak l).cells=[ak l]:=rfl
theorem ai{l:List Spx}:(ak l).one=true:=rfl
theorem Dc{l:Spx}{k:IntKind}{n:Int}:eP 2 (ar l) (.int k n)=if 0<=n/\n<l.length then some (.iptr [.int .i64 (l.getD n.toNat default).color,.int .i64 (l.getD n.toNat default).label] 0) else none:=oE
theorem au{l:Spx}:dH (ar l)=some (.int .i64 l.length):=mH
theorem sW{l:List Spx}{k:IntKind}{n:Int}:eP 1 (ak l) (.int k n)=if 0<=n/\n<l.length then some (.iptr [ar (l.getD n.toNat default)] 0) else none:=oE
theorem ah{l:List Spx}:dH (ak l)=some (.int .i64 l.length):=mH
theorem ix2{l:Spx}{k:Nat}(h:k<l.length):eP 2 (ar l) (.int .i64 (k:Int))=some (.iptr [.int .i64 (l.getD k default).color,.int .i64 (l.getD k default).label] 0):=by
 rw[Dc,if_pos ⟨by omega,by omega⟩,cC]
theorem eO{l:List Spx}{k:Nat}(h:k<l.length):eP 1 (ak l) (.int .i64 (k:Int))=some (.iptr [ar (l.getD k default)] 0):=by
 rw[sW,if_pos ⟨by omega,by omega⟩,cC]
theorem gB(l:Spx):(cX l).length=l.length*2:=by
 induction l with
 |nil=>rfl
 |cons a l ih=>rw[cX,sZ,cA,bL,show(l.flatMap sq).length=l.length*2 from ih];show 2+_=_;omega
theorem lB(l m:Spx):cX (l++m)=cX l++cX m:=List.flatMap_append
theorem Lo(v:Vtx):cX [v]=[.int .i64 v.color,.int .i64 v.label]:=rfl
theorem Df(l:Spx):(l.map bP).flatMap AV.cells=cX l:=by
 induction l with
 |nil=>rfl
 |cons a l ih=>rw[ff,sZ,ih];rfl
theorem zN{H:Hp}{s:AV}{l:Spx}(h:Row H 2 s (cX l)):Snap H s (ar l):=by
 refine Row.snap (elems:=l.map bP) (by rw[Df];exact h) (λy hy=>?_) (by omega) (λy hy c hx=>?_)
 ·obtain⟨n,_,rfl⟩:=bu.1 hy;rfl
 ·obtain⟨n,_,rfl⟩:=bu.1 hy;simp only[bP,AV.cells,cU,List.not_mem_nil,or_false] at hx;rcases hx with rfl|rfl<;>exact .int
theorem iu{H:Hp}{s:AV}{l:List Spx}(h:Row H 1 s (l.map ar)):Snap H s (ak l):=h.snapL' (λ_=>rfl) (λx _=>c8 x)
theorem xw{H:Hp}{l:Spx}:gC 2 H (ar l)=some (l.length,cX l):=by
 unfold ar iO;rw[kL,Df];simp
theorem yo{H:Hp}{l:List Spx}:gC 1 H (ak l)=some (l.length,l.map ar):=ER (λ_=>rfl)
theorem mg(l:Spx):AV.ones (cX l)=true:=by
 unfold AV.ones;rw[eA];intro x hx;obtain⟨v,_,hv⟩:=List.mem_flatMap.1 hx;simp only[sq,cU,List.not_mem_nil,or_false] at hv;rcases hv with rfl|rfl<;>rfl
def cl(v w:Vtx):Int:=if v.color<w.color then-1 else if v.color>w.color then 1 else if v.label<w.label then-1 else if v.label>w.label then 1 else 0
def bK:Spx->Spx->Int
 |[],[]=>0
 |[],_::_=>-1
 |_::_,[]=>1
 |a::l,b::m=>if cl a b≠0 then cl a b else bK l m
theorem qi{v w:Vtx}:cl v w<0↔v.color<w.color\/(v.color=w.color/\v.label<w.label):=by
 unfold cl;(repeat' split)<;>constructor<;>intro h<;>omega
theorem p9{v w:Vtx}:v=w↔v.color=w.color/\v.label=w.label:=by
 obtain⟨a,b⟩:=v;obtain⟨c,d⟩:=w;simp
theorem kg{v w:Vtx}:cl v w=0↔v=w:=by
 rw[p9];unfold cl;(repeat' split)<;>constructor<;>intro h<;>omega
theorem xl(v w:Vtx):cl w v=- cl v w:=by
 unfold cl;(repeat' split)<;>omega
theorem oz:LinK cl where
 ord:={irr:=λx=>by rw[qi];omega,asym:=λx y h=>by rw[qi] at *;omega,negtr:=λx y z h1 h2=>by rw[qi] at *;omega}
 eq:=λx y h1 h2=>by rw[qi] at *;rw[p9];omega
theorem fC:∀l:Spx,bK l l=0
 |[]=>rfl
 |a::l=>by rw[bK,kg.2 rfl,if_neg (by simp)];exact fC l
theorem qP:∀{l m:Spx},bK l m=0->l=m
 |[],[],_=>rfl
 |[],_::_,h=>by simp[bK] at h
 |_::_,[],h=>by simp[bK] at h
 |a::l,b::m,h=>by
  rw[bK] at h;by_cases e:cl a b=0
  ·rw[if_neg (λh=>h e)] at h;rw[kg.1 e,qP h]
  ·rw[if_pos e] at h;exact absurd h e
theorem FO{l m:Spx}:bK l m=0↔l=m:=⟨qP,λh=>by rw[h];exact fC _⟩
theorem rI:∀l m:Spx,bK m l=- bK l m
 |[],[]=>rfl
 |[],_::_=>rfl
 |_::_,[]=>rfl
 |a::l,b::m=>by
  rw[bK,bK,xl a b];by_cases e:cl a b=0
  ·rw[e,if_neg (by simp),if_neg (by simp)];exact rI l m
  ·rw[if_pos (by omega),if_pos e]
theorem ui:∀(x y z:Spx),¬bK y x<0->¬bK z y<0->¬bK z x<0
 |[],_,[],_,_=>by simp[bK]
 |[],_,_::_,_,_=>by simp[bK]
 |_::_,[],_,h,_=>by simp[bK] at h
 |_::_,_::_,[],_,h=>by simp[bK] at h
 |a::x,b::y,c::z,h1,h2=>by
  rw[bK] at h1 h2 |-;have n:=oz.ord.negtr a b c;by_cases e1:cl b a=0
  ·have e1':=kg.1 e1;subst e1';rw[if_neg (λh=>h e1)] at h1;by_cases e2:cl c b=0
   ·rw[if_neg (λh=>h e2)] at h2 |-;exact ui x y z h1 h2
   ·rw[if_pos e2] at h2 |-;exact h2
  ·rw[if_pos e1] at h1;by_cases e2:cl c b=0
   ·have e2':=kg.1 e2;subst e2';rw[if_pos e1];exact h1
   ·rw[if_pos e2] at h2;have h3:=n h1 h2;by_cases e3:cl c a=0
    ·exfalso;have e3':=kg.1 e3;subst e3';have:=xl b c;omega
    ·rw[if_pos e3];exact h3
theorem jc:LinK bK where
 ord:={irr:=λx=>by rw[fC];omega,asym:=λx y h=>by rw[rI];omega,negtr:=ui}
 eq:=λx y h1 h2=>by
  have:=rI x y;exact qP (by omega)
theorem xV{l m:Spx}{k:Nat}(h1:k<l.length)(h2:k<m.length):bK (l.drop k) (m.drop k)=if cl (l.getD k default) (m.getD k default)≠0 then cl (l.getD k default) (m.getD k default) else bK (l.drop (k+1)) (m.drop (k+1)):=by
 rw[kf h1,kf h2,bK]
theorem vG{l m:Spx}{k:Nat}(h:l.length<=k\/m.length<=k)(hk:k<=l.length/\k<=m.length):bK (l.drop k) (m.drop k)=if l.length<m.length then-1 else if m.length<l.length then 1 else 0:=by
 by_cases e1:l.length=k
 ·rw[CF (show l.length<=k by omega)];by_cases e2:m.length=k
  ·rw[CF (by omega),if_neg (by omega),if_neg (by omega)];rfl
  ·rw[kf (l:=m) (k:=k) (by omega),if_pos (by omega)];rfl
 ·have e2:m.length=k:=by omega
  rw[kf (l:=l) (k:=k) (by omega),CF (show m.length<=k by omega),if_neg (by omega),if_pos (by omega)];rfl
def d9(f:Nat->Int):Nat->Int
 |0=>0
 |n+1=>if d9 f n≠0 then d9 f n else f n
theorem dU{f:Nat->Int}:∀{n:Nat},(∀i,i<n->f i=0)->d9 f n=0
 |0,_=>rfl
 |n+1,h=>by
  have:=dU (f:=f) (n:=n) (λi hi=>h i (by omega));rw[d9,this,if_neg (by simp)];exact h n (by omega)
theorem dM{f:Nat->Int}:∀{n k:Nat},k<n->(∀i,i<k->f i=0)->f k≠0->d9 f n=f k
 |0,k,h,_,_=>absurd h (by omega)
 |n+1,k,h,h0,hk=>by
  rw[d9];by_cases e:k=n
  ·subst e;rw[dU h0,if_neg (by simp)]
  ·rw[dM (n:=n) (by omega) h0 hk,if_pos hk]
theorem kj{f:Nat->Int}:∀{n:Nat},d9 f n=0->∀i,i<n->f i=0
 |0,_,i,h=>absurd h (by omega)
 |n+1,h,i,hi=>by
  rw[d9] at h;by_cases e:d9 f n=0
  ·rw[e,if_neg (by simp)] at h;by_cases ei:i=n
   ·subst ei;exact h
   ·exact kj e i (by omega)
  ·rw[if_pos e] at h;exact absurd h e
def gU(v:Vtx):Bool:=decide (0<=v.color)&&decide (v.color<8)&&(decide (0<=v.label)&&decide (v.label<=1048576))
def sM(l:Spx)(k:Nat):Int:=if gU (l.getD k default)=false then 2 else if 0<k/\0<=cl (l.getD (k-1) default) (l.getD k default) then 14 else 0
def ce(l:Spx):Int:=if l.length=0 then 16 else if 8<l.length then 5 else d9 (sM l) l.length
theorem bQ{l:Spx}(h:ce l=0):1<=l.length/\l.length<=8/\bM cl l/\∀v∈l,gU v=true:=by
 unfold ce at h;split at h
 ·exact absurd h (by decide)
 split at h
 ·exact absurd h (by decide)
 rename_i h1 h2;have hz:=kj h
 have h3:∀k,k<l.length->gU (l.getD k default)=true/\(0<k->cl (l.getD (k-1) default) (l.getD k default)<0):=λk hk=>by
  have:=hz k hk;unfold sM at this;split at this
  ·exact absurd this (by decide)
  rename_i g1;split at this
  ·exact absurd this (by decide)
  rename_i g2;exact⟨by simpa using g1,λh0=>by omega⟩
 refine⟨by omega,by omega,?_,λv hv=>?_⟩
 ·have step:∀j i,i<j->j<l.length->cl (l.getD i default) (l.getD j default)<0:=by
    intro j
    induction j with
    |zero=>intro i h;omega
    |succ j ih=>
     intro i hi hj;have hs:=(h3 (j+1) hj).2 (by omega);rw[rM] at hs;by_cases e:i=j
     ·subst e;exact hs
     ·exact oz.trans (ih i (by omega) (by omega)) hs
  unfold bM;rw[my];intro i j hi hj hij;have:=step j i hij hj;simpa[List.getD,hi,hj] using this
 ·obtain⟨i,hi,rfl⟩:=lm hv;have:=(h3 i hi).1;simpa[List.getD,hi] using this
theorem eo{α:Type}[Inhabited α]{K:α->α->Int}{l:List α}(h:bM K l){i j:Nat}(hij:i<j)(hj:j<l.length):K (l.getD i default) (l.getD j default)<0:=by
 have:=my.1 h i j (by omega) hj hij;simpa[List.getD,hj,show i<l.length by omega] using this
theorem uN{l:Spx}(h1:1<=l.length/\l.length<=8)(h2:bM cl l)(h3:∀v∈l,gU v=true):ce l=0:=by
 unfold ce;rw[if_neg (by omega),if_neg (by omega)];refine dU λk hk=>?_;unfold sM;rw[h3 _ (bg hk),if_neg (by simp),if_neg];rintro⟨h0,h4⟩;have:=eo h2 (i:=k-1) (j:=k) (by omega) hk;omega
def c3i(a b:Int):Int:=if a<b then-1 else if a>b then 1 else 0
theorem JA(v w:Vtx):(if c3i v.color w.color≠0 then c3i v.color w.color else c3i v.label w.label)=cl v w:=by
 unfold c3i cl;by_cases h1:v.color<w.color
 ·rw[if_pos h1,if_pos h1,if_pos (by simp)]
 ·rw[if_neg h1,if_neg h1];by_cases h2:v.color>w.color
  ·rw[if_pos h2,if_pos h2,if_pos (by simp)]
  ·rw[if_neg h2,if_neg h2,if_neg (by simp)]
theorem Di(a b c d:Int):d5 [.int,.int] [.int .i64 a,.int .i64 b] [.int .i64 c,.int .i64 d]=some (decide (a=c/\b=d)):=by
 have e:∀x y:Int,(x==y)=decide (x=y):=λx y=>rfl;by_cases h1:a=c
 ·by_cases h2:b=d
  ·subst h1 h2;simp[d5,kq]
  ·subst h1;simp only[d5,kq,if_true,e,bh h2,decide_true,h2,and_false,decide_false]
 ·simp only[d5,kq,if_true,e,bh h1,h1,false_and,decide_false]
theorem acq(a b c d:Int):pi .eql [.int,.int] [.int .i64 a,.int .i64 b] [.int .i64 c,.int .i64 d]=some (.bool (decide (a=c/\b=d))):=by
 unfold pi;rw[Di]
theorem acn(a b c d:Int):pi .neq [.int,.int] [.int .i64 a,.int .i64 b] [.int .i64 c,.int .i64 d]=some (.bool (!decide (a=c/\b=d))):=by
 unfold pi;rw[Di]
theorem pb(v w:Vtx):decide (v.color=w.color/\v.label=w.label)=decide (v=w):=decide_eq_decide.2 p9.symm
theorem r6{H:Hp}{d:Nat}{x y:AV}:gC 2 (ao H d [x,y]) (.msl d 2 2 0 1)=some (1,[x,y]):=gK (n:=2) (len:=1) (off:=0) (cs:=[x,y]) ae rfl (by simp)
theorem bD{α:Type}[Inhabited α]{l:List α}{k:Nat}(h:k<l.length):l.take (k+1)=l.take k++[l.getD k default]:=by
 rw[List.take_add_one];simp[List.getD,h]
def fQ(a b:Spx):Bool:=a.all λv=>decide (v∈b)
section
attribute [local irreducible] aM am bn aZ aS aV aD aX ba bw Go.Abs.Fn aY Go.Abs.Pure aq aO Yl
theorem kp(n:Int):pU 165 [.int .i64 n] (.bool false):=by
 refine pO Nl ?_;simp only[PH,aK];refine wnZ and_self ?_;exact cQ (bh (λh=>h rfl))
theorem G8(a b:Int):pU 152 [.int .i64 a,.int .i64 b] (.int .i64 (c3i a b)):=by
 refine pO NI ?_;simp only[Nb,aK];have h1:=kp a;have h2:=kp b;unfold c3i
 repeat' (first|refine zW ?_|apply a_n|apply a_r|refine zO ?_|refine vZ ?_|refine cZ ?_ (hp:=by first|exact h1|exact h2)|refine cFZ ?_|(refine zGZ ?_ ?_<;>(intro _hg;try (exfalso;omega)))|refine bC rfl ?_|refine r1Z ?_|fail)
 all_goals (refine eV ?_)
 ·rw[if_pos (by omega)]
 ·rw[if_neg (by omega),if_pos (by omega)]
 ·rw[if_neg (by omega),if_neg (by omega)]
theorem OL(a b:Int):pU 151 [aH [a,b]] (.int .i64 (if a≠0 then a else b)):=by
 refine pO M3 ?_;simp only[OA,aK];refine wnZ and_self ?_;refine BQ (λk=>[(3,.int .i64 0),(6,aH [a,b]),(7,.int .i64 2),(8,.int .i64 k)]) 2 (λk=>[a,b].getD k default=0) (by(iterate 4 refine And.intro rfl ?_);trivial) ?_;intro k hk hz;rcases(by omega:k=0\/k=1\/k=2) with rfl|rfl|rfl
 ·have e:[a,b].getD 0 default=a:=rfl;have ix:eP 1 (aH [a,b]) (.int .i64 ((0:Nat):Int))=some (.iptr [.int .i64 a] 0):=rfl;by_cases h0:a=0
  ·have z:decide (a≠0)=false:=bh (λh=>h h0);refine wnZ (aI @ix @z) ?_;exact⟨by omega,h0,by(iterate 4 refine And.intro rfl ?_);trivial,rfl,rfl⟩
  ·have z:decide (a≠0)=true:=bd h0;refine wnZ (aI @ix @z) ?_;rw[if_pos h0];exact .int _ _
 ·have h0:a=0:=hz 0 (by omega);have ix:eP 1 (aH [a,b]) (.int .i64 ((1:Nat):Int))=some (.iptr [.int .i64 b] 0):=rfl;rw[if_neg (λh=>h h0)];by_cases h1:b=0
  ·have z:decide (b≠0)=false:=bh (λh=>h h1);refine wnZ (aI @ix @z) ?_;exact⟨by omega,h1,by(iterate 4 refine And.intro rfl ?_);trivial,rfl,rfl⟩
  ·have z:decide (b≠0)=true:=bd h1;refine wnZ (aI @ix @z) ?_;exact .int _ _
 ·have h0:a=0:=hz 0 (by omega);have h1:b=0:=hz 1 (by omega);rw[if_neg (λh=>h h0),h1];refine wnZ and_self ?_;exact .int _ _
theorem Dz(v w:Vtx):pU 123 [bP v,bP w] (.int .i64 (cl v w)):=by
 refine pO N1 ?_;simp only[PV,aK];have h1:=G8 v.color w.color;have h2:=G8 v.label w.label;have h3:=OL (c3i v.color w.color) (c3i v.label w.label);rw[JA] at h3;refine wkZ and_self ?_;refine ey ev0 (by((try simp only[ct,ZA,reduceEqDiff,↓reduceIte,reduceAdd,reduceLeDiff]);(try with_reducible rfl));rfl) h3 (aB (ag (eN ae rfl rfl) aj) rfl) ?_;refine wnZ and_self ?_;exact .int _ _
theorem v5(v w:Vtx):pU 126 [bP v,bP w] (.int .i64 (cl v w)):=by
 refine pO MC ?_;simp only[Nm,aK];unfold cl
 repeat' (first|refine zW ?_|apply a_n|apply a_r|refine zO ?_|refine vZ ?_|refine bxZ ?_|(refine zGZ ?_ ?_<;>(intro _hg;try (exfalso;omega)))|refine bC rfl ?_|refine r1Z ?_|fail)
 all_goals (refine eV ?_;(repeat' split)<;>omega)
theorem CR(v:Vtx):pU 153 [bP v] (.bool (gU v)):=by
 refine pO Pz ?_;simp only[Pe,aK];unfold gU
 repeat' (first|refine zW ?_|apply a_n|refine zO ?_|refine vZ ?_|refine bxZ ?_|refine gTZ ?_|refine gFZ ?_|(refine zGZ ?_ ?_<;>(intro _hg;try (exfalso;omega)))|refine bC rfl ?_|refine r1Z ?_|fail)
 all_goals (refine cQ ?_;rw[Bool.eq_iff_iff];simp only[eh,wK,kJ,false_iff];omega)
theorem F8(v:Vtx):pU 125 [bP v] (.bool (gU v)):=by
 refine pO Nh ?_;simp only[Om,aK];unfold gU
 repeat' (first|refine zW ?_|apply a_n|refine zO ?_|refine vZ ?_|refine bxZ ?_|refine gTZ ?_|refine gFZ ?_|(refine zGZ ?_ ?_<;>(intro _hg;try (exfalso;omega)))|refine bC rfl ?_|refine r1Z ?_|fail)
 all_goals (refine cQ ?_;rw[Bool.eq_iff_iff];simp only[eh,wK,kJ,false_iff];omega)
theorem BA(l m:Spx)(hl:Shn l)(hm:Shn m):pU 122 [ar l,ar m,.func 123 []] (.int .i64 (bK l m)):=by
 refine pO O3 ?_;simp only[ND,aK];have hl':l.length<=17592186044416:=hl;have hm':m.length<=17592186044416:=hm;refine wnZ @au ?_;refine ca (X:=Nat) (λk=>[(0,ar l),(1,ar m),(2,.func 123 []),(11,ar l),(12,.int .i64 l.length),(13,.int .i64 k)]) (λk H nx=>k<=l.length/\k<=m.length/\bK l m=bK (l.drop k) (m.drop k)) (λk=>l.length-k) 0 ⟨bW _,bW _,rfl⟩ ag0 ?_;rintro k H nx ⟨h1,h2,h3⟩;by_cases hk:k<l.length
 rotate_left
 ·rw[h3,vG (by omega) ⟨h1,h2⟩];have zz:=@au;repeat' (first|refine zW ?_|apply a_n|apply a_x|apply a_r|refine zO ?_|refine vY ?_|(refine zGY ?_ ?_<;>(intro _hg;try (exfalso;omega)))|refine bC rfl ?_|refine r1Y ?_|fail)
  all_goals (refine eV ?_)
  ·rw[if_pos (by omega)]
  ·rw[if_neg (by omega),if_neg (by omega)]
 have ix:=ix2 hk;by_cases hk2:k<m.length
 rotate_left
 ·rw[h3,vG (by omega) ⟨h1,h2⟩,if_neg (by omega),if_pos (by omega)];refine wnY (aI @au @ix) ?_
  all_goals exact eV rfl
 have iy:=ix2 hk2;have hc:=Dz (l.getD k default) (m.getD k default);have hd:=xV hk hk2;by_cases he:cl (l.getD k default) (m.getD k default)=0
 ·rw[if_neg (λh=>h he)] at hd;rw[he] at hc;have z:decide ((0:Int)≠0)=false:=rfl;refine wnY (zI4 @au @ix @iy @z) ?_;exact⟨k+1,by omega,⟨by omega,by omega,h3.trans hd⟩,ag0⟩
 ·rw[if_pos he] at hd;have z:decide (cl (l.getD k default) (m.getD k default)≠0)=true:=bd he;rw[h3,hd];refine wnY (zI4 @au @ix @iy @z) ?_;exact .int _ _
theorem im(l m:Spx)(hl:Shn l)(hm:Shn m):pU 70 [ar l,ar m] (.int .i64 (bK l m)):=by
 refine pO QY ?_;simp only[b70,aK];have h:=BA l m hl hm;refine wnZ and_self ?_;exact .int _ _
theorem pX(l m:Spx)(hl:Shn l)(hm:Shn m):pU 73 [ar l,ar m] (.int .i64 (bK l m)):=by
 refine pO Qm ?_;simp only[b73,aK];have hl':l.length<=17592186044416:=hl;have hm':m.length<=17592186044416:=hm;refine wnZ and_self ?_;refine ca (X:=Nat) (λk=>[(0,ar l),(1,ar m),(5,.int .i64 k)]) (λk H nx=>k<=l.length/\k<=m.length/\bK l m=bK (l.drop k) (m.drop k)) (λk=>l.length-k) 0 ⟨bW _,bW _,rfl⟩ ag0 ?_;rintro k H nx ⟨h1,h2,h3⟩;by_cases hk:k<l.length/\k<m.length
 rotate_left
 ·rw[h3,vG (by omega) ⟨h1,h2⟩];have zz:=@au;repeat' (first|refine zW ?_|apply a_n|apply a_x|apply a_r|refine zO ?_|refine vY ?_|refine gTY ?_|refine gFY ?_|refine cFY ?_|(refine zGY ?_ ?_<;>(intro _hg;try (exfalso;omega)))|refine bC rfl ?_|refine r1Y ?_|fail)
  all_goals (refine eV ?_;(repeat' split)<;>omega)
 have ix:=ix2 hk.1;have iy:=ix2 hk.2;have hc:=v5 (l.getD k default) (m.getD k default);have hd:=xV hk.1 hk.2;by_cases he:cl (l.getD k default) (m.getD k default)=0
 ·rw[if_neg (λh=>h he)] at hd;rw[he] at hc;have z:decide ((0:Int)≠0)=false:=rfl;refine wkY (zI4 @au @ix @iy @z) ?_;exact⟨k+1,by omega,⟨by omega,by omega,h3.trans hd⟩,ag0⟩
 ·rw[if_pos he] at hd;have z:decide (cl (l.getD k default) (m.getD k default)≠0)=true:=bd he;rw[h3,hd];refine wkY (zI4 @au @ix @iy @z) ?_;exact .int _ _
theorem Jw(l m:Spx)(hl:Shn l)(hm:Shn m):pU 63 [ar l,ar m] (.bool (decide (l=m))):=by
 refine pO Qi ?_;simp only[b63,aK];have h:=pX l m hl hm;refine wnZ and_self ?_;exact cQ (decide_eq_decide.2 FO)
theorem sU{l:Spx}{k:Nat}:sM l k=if gU (l.getD k default)=false then 2 else if 0<k/\0<=cl (l.getD (k-1) default) (l.getD k default) then 14 else 0:=rfl
theorem qW(l:Spx)(hl:Shn l):pU 128 [ar l] (.int .i64 (ce l)):=by
 refine pO NQ ?_;simp only[PC,aK];have hl':l.length<=17592186044416:=hl;by_cases h0:l.length=0
 ·rw[show ce l=16 by unfold ce;rw[if_pos h0]];refine wnZ @au ?_
  all_goals exact eV rfl
 by_cases h8:8<l.length
 ·rw[show ce l=5 by unfold ce;rw[if_neg h0,if_pos h8]];refine wnZ @au ?_
  all_goals exact eV rfl
 rw[show ce l=d9 (sM l) l.length by unfold ce;rw[if_neg h0,if_neg h8]];refine wnZ @au ?_;refine ca (X:=Nat) (λk=>[(0,ar l),(13,ar l),(14,.int .i64 l.length),(15,.int .i64 k)]) (λk H nx=>k<=l.length/\∀i,i<k->sM l i=0) (λk=>l.length-k) 0 ⟨bW _,λi h=>absurd h (by omega)⟩ ag0 ?_;rintro k H nx ⟨h1,h2⟩;by_cases hk:k<l.length
 rotate_left
 ·rw[dU λi hi=>h2 i (by omega)];refine wnY @au ?_;exact .int _ _
 have ix:=ix2 hk;have hp:=CR (l.getD k default);have hs:=sU (l:=l) (k:=k);cases hr:gU (l.getD k default)
 ·rw[hr] at hp;rw[hr,if_pos rfl] at hs;rw[dM hk h2 (by rw[hs];decide),hs];refine wnY (aI @au @ix) ?_;exact .int _ _
 rw[hr] at hp;rw[hr,if_neg (by decide)] at hs;by_cases hk0:0<k
 rotate_left
 ·rw[if_neg (λh=>hk0 h.1)] at hs;have zk:decide (0<(k:Int))=false:=bh (by omega);refine wkY (zI3 @au @ix @zk) ?_
  exact ⟨k + 1,by omega,⟨by omega,fun i hi=>by
   rcases kH.1 hi with h|rfl
   ·exact h2 i h
   ·exact hs⟩,ag0⟩
 have zk:decide (0<(k:Int))=true:=bd (by omega)
 have iy:eP 2 (ar l) (.int .i64 ((k:Int)-1))=some (.iptr [.int .i64 (l.getD (k-1) default).color,.int .i64 (l.getD (k-1) default).label] 0):=by
  have:=ix2 (l:=l) (k:=k-1) (by omega)
  rwa [show((k-1:Nat):Int)=(k:Int)-1 by omega] at this
 have hc:=Dz (l.getD (k-1) default) (l.getD k default);by_cases hv:0<=cl (l.getD (k-1) default) (l.getD k default)
 ·have z:decide (0<=cl (l.getD (k-1) default) (l.getD k default))=true:=bd hv;rw[if_pos ⟨hk0,hv⟩] at hs;rw[dM hk h2 (by rw[hs];decide),hs];refine wkY (zI5 @au @ix @iy @zk @z) ?_;exact .int _ _
 ·have z:decide (0<=cl (l.getD (k-1) default) (l.getD k default))=false:=bh hv;rw[if_neg (λh=>hv h.2)] at hs;refine wkY (zI5 @au @ix @iy @zk @z) ?_
  exact ⟨k + 1,by omega,⟨by omega,fun i hi=>by
   rcases kH.1 hi with h|rfl
   ·exact h2 i h
   ·exact hs⟩,ag0⟩
theorem Ds(l:Spx)(hl:Shn l):pU 72 [ar l] (.int .i64 (ce l)):=by
 refine pO Qx ?_;simp only[b72,aK];have hl':l.length<=17592186044416:=hl;by_cases h0:l.length=0
 ·rw[show ce l=16 by unfold ce;rw[if_pos h0]];refine wnZ @au ?_
  all_goals exact eV rfl
 by_cases h8:8<l.length
 ·rw[show ce l=5 by unfold ce;rw[if_neg h0,if_pos h8]];refine wnZ @au ?_
  all_goals exact eV rfl
 rw[show ce l=d9 (sM l) l.length by unfold ce;rw[if_neg h0,if_neg h8]];refine wnZ @au ?_;refine ca (X:=Nat) (λk=>[(0,ar l),(3,.int .i64 k)]) (λk H nx=>k<=l.length/\∀i,i<k->sM l i=0) (λk=>l.length-k) 0 ⟨bW _,λi h=>absurd h (by omega)⟩ ag0 ?_;rintro k H nx ⟨h1,h2⟩;by_cases hk:k<l.length
 rotate_left
 ·rw[dU λi hi=>h2 i (by omega)];refine wnY @au ?_;exact .int _ _
 have ix:=ix2 hk;have hp:=F8 (l.getD k default);have hs:=sU (l:=l) (k:=k);cases hr:gU (l.getD k default)
 ·rw[hr] at hp;rw[hr,if_pos rfl] at hs;rw[dM hk h2 (by rw[hs];decide),hs];refine wnY (aI @au @ix) ?_;exact .int _ _
 rw[hr] at hp;rw[hr,if_neg (by decide)] at hs;by_cases hk0:0<k
 rotate_left
 ·rw[if_neg (λh=>hk0 h.1)] at hs;have zk:decide (0<(k:Int))=false:=bh (by omega);refine wkY (zI3 @au @ix @zk) ?_
  exact ⟨k + 1,by omega,⟨by omega,fun i hi=>by
   rcases kH.1 hi with h|rfl
   ·exact h2 i h
   ·exact hs⟩,ag0⟩
 have zk:decide (0<(k:Int))=true:=bd (by omega)
 have iy:eP 2 (ar l) (.int .i64 ((k:Int)-1))=some (.iptr [.int .i64 (l.getD (k-1) default).color,.int .i64 (l.getD (k-1) default).label] 0):=by
  have:=ix2 (l:=l) (k:=k-1) (by omega)
  rwa [show((k-1:Nat):Int)=(k:Int)-1 by omega] at this
 have hc:=v5 (l.getD (k-1) default) (l.getD k default);by_cases hv:0<=cl (l.getD (k-1) default) (l.getD k default)
 ·have z:decide (0<=cl (l.getD (k-1) default) (l.getD k default))=true:=bd hv;rw[if_pos ⟨hk0,hv⟩] at hs;rw[dM hk h2 (by rw[hs];decide),hs];refine wkY (zI5 @au @ix @iy @zk @z) ?_;exact .int _ _
 ·have z:decide (0<=cl (l.getD (k-1) default) (l.getD k default))=false:=bh hv;rw[if_neg (λh=>hv h.2)] at hs;refine wkY (zI5 @au @ix @iy @zk @z) ?_
  exact ⟨k + 1,by omega,⟨by omega,fun i hi=>by
   rcases kH.1 hi with h|rfl
   ·exact h2 i h
   ·exact hs⟩,ag0⟩
theorem PG(l:Spx)(v:Vtx)(hl:Shn l):pU 127 [ar l,bP v] (.bool (decide (v∈l))):=by
 refine pO MM ?_;simp only[O9,aK];have hl':l.length<=17592186044416:=hl;refine wnZ @au ?_;refine BQ (λk=>[(0,ar l),(3,.ptr 0 2 0),(5,.int .i64 k)]) l.length (λk=>l.getD k default≠v) (by simp (disch:=omega) only[agr,ZG,reduceEqDiff,↓reduceIte,bL,eW,cE,reduceAdd]) ?_;intro k hk hz;by_cases hk2:k<l.length
 rotate_left
 ·refine wnZ @au ?_;exact cQ (FG λi hi=>hz i (by omega)).symm
 have ix:=ix2 hk2;have hd:=pb (l.getD k default) v;by_cases he:l.getD k default=v
 ·rw[bd he] at hd;rw[Hy hk2 he];refine wnZ (zI4 @au @ix @acq @hd) ?_;exact .bool _
 ·rw[bh he] at hd;refine wnZ (zI4 @au @ix @acq @hd) ?_;exact⟨hk2,he,ag0,rfl,rfl⟩
theorem Gv(a b:Spx)(ha:Shn a)(hb:Shn b):pU 74 [ar a,ar b] (.bool (fQ a b)):=by
 refine pO P3 ?_;simp only[b74,aK];have ha':a.length<=17592186044416:=ha;refine wnZ @au ?_;refine BQ (λk=>[(0,ar a),(1,ar b),(5,.int .i64 k)]) a.length (λk=>decide (a.getD k default∈b)=true) ag0 ?_;intro k hk hz;by_cases hk2:k<a.length
 rotate_left
 ·refine wnZ @au ?_;exact cQ (lN λi hi=>hz i (by omega)).symm
 have ix:=ix2 hk2;have hh:=PG b (a.getD k default) hb;cases hm:decide (a.getD k default∈b)
 ·rw[hm] at hh;rw[show fQ a b=false from ke hk2 hm];refine wnZ (aI @au @ix) ?_;exact .bool _
 ·rw[hm] at hh;refine wnZ (aI @au @ix) ?_;exact⟨hk2,rfl,ag0,rfl,rfl⟩
theorem EY(x y:List Spx)(hx:Shn x)(hy:Shn y)(hxs:∀v∈x,Shn v)(hys:∀v∈y,Shn v):pU 23 [ak x,ak y] (.bool (decide (x=y))):=by
 refine pO QG ?_;simp only[b23,aK];have hx':x.length<=17592186044416:=hx;have hy':y.length<=17592186044416:=hy;by_cases hlen:x.length=y.length
 rotate_left
 ·have z:decide ((x.length:Int)≠y.length)=true:=bd (by omega);rw[bh (λe=>hlen (by rw[e]))];refine wnZ (aI @ah @z) ?_;exact .bool _
 have z:decide ((x.length:Int)≠y.length)=false:=bh (by omega);refine wnZ (aI @ah @z) ?_;refine ca (X:=Nat) (λk=>[(0,ak x),(1,ak y),(5,.int .i64 k)]) (λk H nx=>k<=x.length/\∀i,i<k->x.getD i default=y.getD i default) (λk=>x.length-k) 0 ⟨bW _,λi h=>absurd h (by omega)⟩ ag0 ?_;rintro k H nx ⟨hk,hz⟩;by_cases hk2:k<x.length
 rotate_left
 ·refine wnY @ah ?_;refine cQ ?_
  symm;rw[wK]
  refine List.ext_getElem hlen λi h3 h4=>?_;have:=hz i (by omega);simpa[List.getD,h3,h4] using this
 have ix:=eO hk2;have iy:=eO (l:=y) (k:=k) (by omega);have hc:=Jw (x.getD k default) (y.getD k default) (hxs _ (bg hk2)) (hys _ (bg (by omega)));by_cases he:x.getD k default=y.getD k default
 ·rw[bd he] at hc;refine wkY (zI3 @ah @ix @iy) ?_
  exact ⟨k + 1,by omega,⟨by omega,fun i hi=>by
   rcases kH.1 hi with h|rfl
   ·exact hz i h
   ·exact he⟩,ag0⟩
 ·rw[bh he] at hc;rw[bh (p:=x=y) (λe=>he (by rw[e]))];refine wkY (zI3 @ah @ix @iy) ?_;exact .bool _
def mw(c:List Spx):Bool:=decide (c.length<=30)&&c.all λs=>decide (s.length<=10)
theorem J8(l:Spx)(hl:Shn l):pU 145 [ar l] (.bool (decide (l.length<=10))):=by
 refine pO Ni ?_;simp only[PU,aK];refine wnZ @au ?_;exact cQ (decide_eq_decide.2 (by omega))
theorem HZ(c:List Spx)(hc:Shn c)(hs:∀s∈c,Shn s):pU 95 [ak c] (.bool (mw c)):=by
 refine pO QT ?_;simp only[b95,aK];have hc':c.length<=17592186044416:=hc;unfold mw;by_cases h:c.length<=30
 rotate_left
 ·have z:decide (30<(c.length:Int))=true:=bd (by omega);rw[bh h,Bool.false_and];refine wnZ (aI @ah @z) ?_;exact .bool _
 have z:decide (30<(c.length:Int))=false:=bh (by omega);rw[bd h,Bool.true_and];refine wnZ (aI @ah @z) ?_;refine BQ (λk=>[(0,ak c),(3,.int .i64 k)]) c.length (λk=>decide ((c.getD k default).length<=10)=true) ag0 ?_;intro k hk hz;by_cases hk2:k<c.length
 rotate_left
 ·refine wnZ @ah ?_;exact cQ (lN λi hi=>hz i (by omega)).symm
 have ix:=eO hk2;have hf:=J8 (c.getD k default) (hs _ (bg hk2));cases hm:decide ((c.getD k default).length<=10)
 ·rw[hm] at hf;rw[ke hk2 hm];refine wnZ (aI @ah @ix) ?_;exact .bool _
 ·rw[hm] at hf;refine wnZ (aI @ah @ix) ?_;exact⟨hk2,rfl,ag0,rfl,rfl⟩
abbrev b7(c:List Spx):AV:=.agg [ak c]
theorem bI(c:List Spx):Dat (b7 c):=Dat.agg (DatL.cons (bJ c) DatL.nil)
instance datI_encCx{c:List Spx}:DatI (b7 c):=⟨bI c⟩
theorem Ji(c:List Spx)(hc:Shn c)(hs:∀s∈c,Shn s):pU 41 [b7 c] (.bool (mw c)):=by
 refine pO QI ?_;simp only[b41,aK];have h:=HZ c hc hs;refine wnZ (aI @ai @af) ?_;exact .bool _
end
theorem Ae{α:Type}[Inhabited α]{l:List α}{p:α->Bool}{k:Nat}(hk:k<l.length)(h:∀i,i<k->p (l.getD i default)=false)(hv:p (l.getD k default)=true):l.any p=true/\l.findIdx p=k:=by
 have e:l.getD k default=l[k]:=by simp[List.getD,hk]
 refine⟨pQ.2 ⟨l[k],pe hk,by rw[<-e];exact hv⟩,(List.findIdx_eq hk).2 ⟨by rw[<-e];exact hv,λj hj=>by have:=h j hj;rwa [show l.getD j default=l[j] by simp[List.getD,show j<l.length by omega]] at this⟩⟩
theorem EO{l:Spx}{j:Nat}(h:j<l.length):(l.drop j).getD 0 default=l.getD j default:=by simp[List.getD,nW]
theorem Cy{l:Spx}{v:Vtx}(h:∀i,i<l.length->l.getD i default≠v):v∉l:=λhm=>by
 obtain⟨i,hi,e⟩:=lm hm;exact h i hi (by simp[List.getD,hi,e])
theorem az{α:Type}[Inhabited α]{l:List α}{i:Nat}(h:i<l.length):l.getD i default∈l:=bg h
section
attribute [local irreducible] aM am bn aZ aS aV aD aX ba bw Go.Abs.Fn aY Go.Abs.Pure aq aO Yl
section
theorem Bb(x y:Spx)(hx:Shn x)(hy:Shn y):pU 140 [ar x,ar y] (.bool (decide (x=y))):=by
 refine pO OW ?_;simp only[Oa,aK];have hx':x.length<=17592186044416:=hx;have hy':y.length<=17592186044416:=hy;by_cases hlen:x.length=y.length
 rotate_left
 ·have z:decide ((x.length:Int)≠y.length)=true:=bd (by omega);rw[bh (λe=>hlen (by rw[e]))];refine wnZ (aI @au @z) ?_;exact .bool _
 have z:decide ((x.length:Int)≠y.length)=false:=bh (by omega);refine wnZ (aI @au @z) ?_;refine BQ (λk=>[(0,ar x),(1,ar y),(11,ar x),(12,.int .i64 x.length),(13,.int .i64 k)]) x.length (λk=>x.getD k default=y.getD k default) ag0 ?_;intro k hk hz;by_cases hk2:k<x.length
 rotate_left
 ·refine wnZ and_self ?_;refine cQ ?_
  symm;rw[wK]
  refine List.ext_getElem hlen λi h3 h4=>?_;have:=hz i (by omega);simpa[List.getD,h3,h4] using this
 have ix:=ix2 hk2;have iy:=ix2 (l:=y) (k:=k) (by omega);have hd:=pb (x.getD k default) (y.getD k default);by_cases he:x.getD k default=y.getD k default
 ·rw[bd he] at hd;refine wnZ (zI4 @ix @iy @acn @hd) ?_;exact⟨hk2,he,ag0,rfl,rfl⟩
 ·rw[bh he] at hd;rw[bh (p:=x=y) (λe=>he (by rw[e]))];refine wnZ (zI4 @ix @iy @acn @hd) ?_;exact .bool _
end
theorem Mg(a b:Spx)(ha:bM cl a)(hb:bM cl b)(la:a.length<=1000000)(lb:b.length<=1000000):pU 158 [ar a,ar b] (.bool (fQ a b)):=by
 refine pO Oy ?_;simp only[Pw,aK];refine wnZ @au ?_;refine ca (X:=Nat×Nat) (λx=>[(1,ar (b.drop x.2)),(7,ar a),(8,.int .i64 a.length),(9,.int .i64 x.1)]) (λx H nx=>x.1<=a.length/\x.2<=b.length/\(∀i,i<x.1->decide (a.getD i default∈b)=true)/\∀i m,i<x.2->x.1<=m->m<a.length->b.getD i default≠a.getD m default) (λx=>a.length-x.1) (0,0) ⟨bW _,bW _,λi h=>absurd h (by omega),λi m h=>absurd h (by omega)⟩ (by simp (disch:=omega) only[agr,ZG,reduceEqDiff,↓reduceIte,List.drop_zero]) ?_;rintro⟨k,j⟩ H nx ⟨h1,h2,h3,h4⟩;dsimp only at h1 h2 h3 h4 |-;by_cases hk:k<a.length
 rotate_left
 ·refine wnY and_self ?_;exact cQ (lN λi hi=>h3 i (by omega)).symm
 have ix:=ix2 hk;have hlt:∀m,k<m->m<a.length->cl (a.getD k default) (a.getD m default)<0:=λm h5 h6=>eo ha h5 h6;have hkm:∀j',(∀i,i<j'->b.getD i default≠a.getD k default)->b.length<=j'->decide (a.getD k default∈b)=false:=λj' h5 h6=>bh (Cy λi hi=>h5 i (by omega));have hall:decide (a.getD k default∈b)=false->fQ a b=false:=λh=>ke hk h;have hdec:=λi=>pb (b.getD i default) (a.getD k default);have h40:=λi hi=>h4 i k hi (aJ _) hk;generalize hv:a.getD k default=v at *;refine wnY @ix ?_;refine ca (X:=Nat) (λj'=>[(1,ar (b.drop j')),(6,.ptr nx 2 0),(7,ar a),(8,.int .i64 a.length),(9,.int .i64 k)]) (λj' H' nx'=>j'<=b.length/\H' nx=some [.int .i64 v.color,.int .i64 v.label]/\nx<nx'/\∀i,i<j'->b.getD i default≠v) (λj'=>b.length-j') j ⟨h2,by rw[ae];rfl,by omega,h40⟩ (by simp (disch:=omega) only[agr,ZG,reduceEqDiff,↓reduceIte,bL,eW,cE,reduceAdd]) ?_;rintro j' H' nx' ⟨k1,g0,hnx,k2⟩;have hlen:(b.drop j').length=b.length-j':=AL ..;by_cases hj:j'<b.length
 rotate_left
 ·have z1:decide (0<((b.drop j').length:Int))=false:=bh (by omega);have z2:decide (((b.drop j').length:Int)=0)=true:=bd (by omega);rw[hall (hkm j' k2 (by omega))];refine wnY (zI3 @au @z1 @z2) ?_;exact .bool _
 have z1:decide (0<((b.drop j').length:Int))=true:=bd (by omega);have z2:decide (((b.drop j').length:Int)=0)=false:=bh (by omega);have iy:=ix2 (l:=b.drop j') (k:=0) (by omega);rw[EO hj,show((0:Nat):Int)=0 from rfl] at iy;have hd:=hdec j';by_cases he:b.getD j' default=v
 ·rw[bd he] at hd;refine wnY (zI7 @au @z1 @z2 @iy @g0 @acn @hd) ?_;refine⟨(k+1,j'),by dsimp only;omega,⟨by dsimp only;omega,by dsimp only;omega,λi hi=>?_,λi m h5 h6 h7 e=>?_⟩,ag0⟩
  ·rcases kH.1 hi with h'|rfl
   ·exact h3 i h'
   ·rw[hv,<-he];exact bd (az hj)
  ·have q1:=eo hb h5 hj;have q2:=hlt m (by dsimp only at h6;omega) h7;rw[e,he] at q1;exact oz.ord.asym _ _ q1 q2
 ·rw[bh he] at hd
  have hs:jC 2 (ar (b.drop j')) (some (.int .i64 1)) none none=some (ar (b.drop (j'+1))):=by
   have:=jT (sz:=2) (f:=bP) (l:=b.drop j') (k:=1) (by omega);rw[List.drop_drop] at this;exact this
  refine wnY (zI8 @au @z1 @z2 @iy @g0 @acn @hd @hs) ?_
  exact ⟨j' + 1,by omega,⟨by omega,g0,hnx,fun i hi=>by
   rcases kH.1 hi with h'|rfl
   ·exact k2 i h'
   ·exact he⟩,ag0⟩
end
end Go.Proofs.YtekdaafnjdlenaaGreat
