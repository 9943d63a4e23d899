/- Contracts of functions and plain laws, for all inputs that the theorems name. -/
import Derived.Test.YtbmjaojeplmhnaaGreatXG2
import Derived.IntWalk
import Derived.ChangeArms
import Derived.Carry
import Derived.Deep.Slices
import Derived.Lib.SmallJoins
import Derived.Test.YtbmjaojeplmhnaaGreatProg
import Derived.KernelRfl

set_option linter.unusedSimpArgs false
set_option linter.unusedVariables false
set_option maxHeartbeats 4000000
namespace Go.Abs
open Go.RowKit
theorem Ie{i:Ins}{T:Tm}{H:Hp}{nx:Nat}{K K':AV->Hp->Nat->Prop}(h:isp i T H nx K)(hK:∀r H nx,K r H nx->K' r H nx):isp i T H nx K':=by
 cases i<;>first|exact h|skip
 ·exact⟨h.1,hK _ _ _ h.2⟩
 ·obtain⟨b,ks,vs,r,h1,h2,h3,h4,h5⟩:=h;exact⟨b,ks,vs,r,h1,h2,h3,h4,hK _ _ _ h5⟩
 ·obtain⟨b,ks,vs,r,h1,h2,h3,h4,h5⟩:=h;exact⟨b,ks,vs,r,h1,h2,h3,h4,hK _ _ _ h5⟩
 ·obtain⟨b,ks,vs,h1,h2,h3⟩:=h;exact⟨b,ks,vs,h1,h2,hK _ _ _ h3⟩
 ·obtain⟨n,H',h1,h2⟩:=h;exact⟨n,H',h1,hK _ _ _ h2⟩
 ·obtain⟨H',h1,h2⟩:=h;exact⟨H',h1,hK _ _ _ h2⟩
 ·obtain⟨b,n,off,cs,h1,h2,h3,h4,h5⟩:=h;exact⟨b,n,off,cs,h1,h2,h3,h4,hK _ _ _ h5⟩
 ·obtain⟨k,h1,h2⟩:=h;exact⟨k,h1,λh=>hK _ _ _ (h2.1 h),λh=>⟨hK _ _ _ (h2.2 h).1,hK _ _ _ (h2.2 h).2⟩⟩
 ·obtain⟨bs,h1,h2,h3⟩:=h;exact⟨bs,h1,λh=>hK _ _ _ (h2 h),λh=>hK _ _ _ (h3 h)⟩
 ·obtain⟨n,bs,h1,h2⟩:=h;exact⟨n,bs,h1,hK _ _ _ h2⟩
 ·obtain⟨b,ks,vs,r,h1,h2,h3,h4,h5⟩:=h;exact⟨b,ks,vs,r,h1,h2,h3,h4,hK _ _ _ h5⟩
 ·obtain⟨b,ks,vs,i,h1,h2,h3,h4,h5⟩:=h;exact⟨b,ks,vs,i,h1,h2,h3,h4,hK _ _ _ h5⟩
theorem EF{i:Ins}{T:Tm}{H:Hp}{nx:Nat}{K K':AV->Hp->Nat->Prop}(h:Cs i T H nx K)(hK:∀r H nx,K r H nx->K' r H nx):Cs i T H nx K':=by
 unfold Cs at h |-;split at h
 ·obtain⟨b,n,off,len,k,cs,new,h1,h2,h3,h4,h5,h6,h7,h8,h9,k1,k2⟩:=h;exact⟨b,n,off,len,k,cs,new,h1,h2,h3,h4,h5,h6,h7,h8,h9,hK _ _ _ k1,hK _ _ _ k2⟩
 ·exact h
theorem ph{P:Program}{dm:DM}{i:Ins}{T:Tm}{H:Hp}{nx:Nat}{K K':AV->Hp->Nat->Prop}(h:bj P dm i T H nx K)(hK:∀r H nx,K r H nx->K' r H nx):bj P dm i T H nx K':=by
 unfold bj at h |-;split at h
 ·exact⟨h.1,pT (λa=>hK _ _ _) h.2⟩
 ·exact h.imp (λh=>⟨h.1,pT (λa=>hK _ _ _) h.2⟩) (λh=>⟨h.1,EF h.2 hK⟩)
 ·split at h
  ·rcases h with h|⟨h1,⟨b,h2,h3⟩|⟨g,fs,h2,h3⟩⟩
   ·left;refine pT (λb=>?_) h;intro h;cases hd:dm.isText with
    |false=>rw[hd] at h;obtain⟨r,h1,h3⟩:=h;exact⟨r,h1,hK _ _ _ h3⟩
    |true=>rw[hd] at h;exact Fn.mono h hK
   ·exact .inr ⟨h1,.inl ⟨b,h2,h3.mono hK⟩⟩
   ·exact .inr ⟨h1,.inr ⟨g,fs,h2,h3.mono hK⟩⟩
  ·exact h
 ·exact⟨h.1,Ie h.2 hK⟩
theorem jC{P:Program}{dm:DM}{K K':SP}(hK:∀T H nx,K T H nx->K' T H nx):∀(l:List Op2){T:Tm}{H:Hp}{nx:Nat},ai P dm l T H nx K->ai P dm l T H nx K'
 |[],_,_,_,h=>hK _ _ _ h
 |o::l,T,H,nx,h=>by
  have h:aS (g2 T o.g) (bj P dm o.i T H nx λr H nx=>ai P dm l (aO T o.d r) H nx K) (ai P dm l (aO T o.d (.tup [])) H nx K):=h;show aS (g2 T o.g) (bj P dm o.i T H nx λr H nx=>ai P dm l (aO T o.d r) H nx K') (ai P dm l (aO T o.d (.tup [])) H nx K');cases hg:g2 T o.g with
  |none=>rw[hg] at h;exact h.elim
  |some b=>
   rw[hg] at h;cases b with
   |true=>
    have h:bj P dm o.i T H nx λr H nx=>ai P dm l (aO T o.d r) H nx K:=h;exact ph h (λ_ _ _ hh=>jC hK l hh)
   |false=>exact jC hK l h
theorem gL{P:Program}{S:Hp}{K K':SP}(hK:∀T H nx,K T H nx->K' T H nx):∀(l:List (Op2×Nat)){T:Tm}{H:Hp}{nx:Nat},bn P S l T H nx K->bn P S l T H nx K'
 |[],_,_,_,h=>hK _ _ _ h
 |(o,0)::l,T,H,nx,h=>by
  simp only[bn] at h |-;cases hg:g2 T o.g with
  |none=>rw[hg] at h;exact h.elim
  |some b=>
   rw[hg] at h;cases b with
   |true=>
    have h:ax (bv T S o.i) λr=>bn P S l (aO T o.d r) H nx K:=h;show ax (bv T S o.i) λr=>bn P S l (aO T o.d r) H nx K';obtain⟨r,hr,hh⟩:=dJ h;rw[hr];exact gL hK l hh
   |false=>exact gL hK l h
 |(o,k+1)::l,T,H,nx,h=>by
  simp only[bn] at h |-;cases hg:g2 T o.g with
  |none=>rw[hg] at h;exact h.elim
  |some b=>
   rw[hg] at h;cases b with
   |true=>
    have h:if k=2 then ax (sr T o.i) λr=>bn P S l (aO T o.d r) H nx K else if k=3 then ax (ilk T S o.i) λr=>bn P S l (aO T o.d r) H nx K else bj P .text o.i T H nx λr H' nx'=>(k=0->Sub S H')/\bn P S l (aO T o.d r) H' nx' K:=h
    show if k=2 then ax (sr T o.i) λr=>bn P S l (aO T o.d r) H nx K' else if k=3 then ax (ilk T S o.i) λr=>bn P S l (aO T o.d r) H nx K' else bj P .text o.i T H nx λr H' nx'=>(k=0->Sub S H')/\bn P S l (aO T o.d r) H' nx' K'
    split
    ·rename_i hk;rw[if_pos hk] at h;obtain⟨r,hr,hh⟩:=dJ h;rw[hr];exact gL hK l hh
    ·rename_i hk;rw[if_neg hk] at h;split
     ·rename_i hk;rw[if_pos hk] at h;obtain⟨r,hr,hh⟩:=dJ h;rw[hr];exact gL hK l hh
     rename_i hk;rw[if_neg hk] at h;exact ph h (λ_ _ _ hh=>⟨hh.1,gL hK l hh.2⟩)
   |false=>exact gL hK l h
theorem eO{P:Program}:∀(c:C2){T:Tm}{H:Hp}{nx:Nat}{K K':CP},aF P c T H nx K->(∀e T H nx,K e T H nx->K' e T H nx)->aF P c T H nx K'
 |.skip,_,_,_,_,_,h,hK=>hK _ _ _ _ h
 |.exit _,_,_,_,_,_,h,hK=>hK _ _ _ _ h
 |.ret,_,_,_,_,_,h,hK=>hK _ _ _ _ h
 |.ops m l,_,_,_,_,_,h,hK=>let ⟨T,H,nx,Hf,hg,h⟩:=h;⟨T,H,nx,Hf,hg,jC (hK .normal) l h⟩
 |.mix m l C,_,_,_,_,_,h,hK=>h.imp (λ⟨h9,T,H,nx,Hf,hg,h⟩=>⟨h9,T,H,nx,Hf,hg,jC (hK .normal) l h⟩) (λ⟨T,H,nx,Hf,hg,h⟩=>⟨T,H,nx,Hf,hg,jC (hK .normal) _ h⟩)
 |.mixS m l C,_,_,_,_,_,h,hK=>h.imp (λ⟨h9,T,H,nx,Hf,hg,h⟩=>⟨h9,T,H,nx,Hf,hg,jC (hK .normal) l h⟩) (λ⟨T,H,nx,Hf,S,hg,hs,h⟩=>⟨T,H,nx,Hf,S,hg,hs,gL (hK .normal) _ h⟩)
 |.anyI l B,_,_,_,_,_,h,hK=>let ⟨T,H,nx,Hf,I,hg,h0,h1,h2⟩:=h;⟨T,H,nx,Hf,I,hg,h0,h1,λL T H nx ha hi=>hK _ _ _ _ (h2 L T H nx ha hi)⟩
 |.seq x y,_,_,_,K,K',h,hK=>by
  refine eO x h (λe T H nx h=>?_);cases e with
  |normal=>exact eO y h hK
  |exit i=>exact hK _ _ _ _ h
  |ret=>exact hK _ _ _ _ h
 |.cond c x y,T,H,nx,K,K',h,hK=>by
  simp only[aF] at h |-;unfold a8 at h |-;split at h
  ·exact⟨λhb=>eO x (h.1 hb) hK,λhb=>eO y (h.2 hb) hK⟩
  ·exact h
 |.block id b,_,_,_,_,_,h,hK=>eO b h (λe T H nx h=>hK _ _ _ _ h)
 |.loop b,T,H,nx,K,K',h,hK=>by
  obtain⟨n,h⟩:=h;refine⟨n,?_⟩
  induction n generalizing T H nx with
  |zero=>exact h
  |succ n ih=>
   obtain⟨T',H',nx',Hf,hw,h⟩:=h;refine⟨T',H',nx',Hf,hw,eO b h (λe T H nx h=>?_)⟩;cases e with
   |normal=>exact ih _ _ _ h
   |exit i=>exact hK _ _ _ _ h
   |ret=>exact hK _ _ _ _ h
 |.rangeF g ps a b,T,H,nx,K,K',h,hK=>by
  obtain⟨f,caps,h1,h2⟩:=h;refine⟨f,caps,h1,λc0 cj hy=>Fn.mono (h2 c0 cj hy) ?_⟩;rintro r H' nx' (⟨k1,k2⟩|⟨e,k1,k2,k3⟩)
  ·exact .inl ⟨k1,hK _ _ _ _ k2⟩
  ·exact .inr ⟨e,k1,k2,hK _ _ _ _ k3⟩
theorem GH{P:Program}{b:C2}{T:Tm}{H:Hp}{nx:Nat}{K:CP}{X:Type}(TT:X->Tm)(HH:X->Hp)(NX:X->Nat)(φ:X->Prop)(μ:X->Nat)
    (start:∃x,φ x/\∃Hf,Gh T H nx (TT x) (HH x) (NX x) Hf)
    (step:∀x,φ x->aF P b (TT x) (HH x) (NX x) λe T H nx=>aN e (∃y,φ y/\μ y<μ x/\∃Hf,Gh T H nx (TT y) (HH y) (NX y) Hf) (K e T H nx)):aY (aF P b) T H nx K:=by
 have key:∀n x T H nx,μ x<n->φ x->(∃Hf,Gh T H nx (TT x) (HH x) (NX x) Hf)->zn (aF P b) K n T H nx:=by
  intro n
  induction n with
  |zero=>intro x T H nx h;omega
  |succ n ih=>
   intro x T H nx hn hx ⟨Hf,hg⟩;refine⟨_,_,_,Hf,hg,eO b (step x hx) (λe T H nx h=>?_)⟩;cases e with
   |normal=>
    obtain⟨y,h1,h2,h3⟩:=h;exact ih y T H nx (by omega) h1 h3
   |exit i=>exact h
   |ret=>exact h
 obtain⟨x,hx,hg⟩:=start;exact⟨_,key _ x T H nx (Fo _) hx hg⟩
def tl:List (Nat×AV)->Tm
 |[],_=>.undef
 |(d,v)::l,t=>if t=d then v else tl l t
def agr(T:Tm):List (Nat×AV)->Prop
 |[]=>True
 |(d,v)::l=>T d=v/\agr T l
theorem vM{T:Tm}:∀{l:List (Nat×AV)},agr T l->∀t,tl l t=.undef\/tl l t=T t
 |[],_,t=>.inl rfl
 |(d,v)::l,h,t=>by
  simp only[tl];split
  ·rename_i e;subst e;exact .inr h.1.symm
  ·exact vM h.2 t
theorem Gh.weak{T T':Tm}{H:Hp}{nx:Nat}(h:∀t,T' t=.undef\/T' t=T t):Gh T H nx T' H nx aP:=
 ⟨λ_ _ h=>(by cases h),bc _,λb cs h=>.inl ⟨cs,h,rfl,rfl,λi x x' h1 h2=>.inl (by rw[h1] at h2;cases h2;rfl)⟩,λt=>(h t).imp id .inl⟩
theorem iq{P:Program}{b:C2}{T:Tm}{H:Hp}{nx:Nat}{K:CP}{X:Type}(L:X->List (Nat×AV))(φ:X->Prop)(μ:X->Nat)(x0:X)
    (h0:φ x0) (hT:agr T (L x0))
    (step:∀x,φ x->aF P b (tl (L x)) H nx λe T H' nx'=>aN e (∃y,φ y/\μ y<μ x/\agr T (L y)/\H'=H/\nx'=nx) (K e T H' nx')):aY (aF P b) T H nx K:=by
 refine GH (λx=>tl (L x)) (λ_=>H) (λ_=>nx) φ μ ⟨x0,h0,_,Gh.weak (vM hT)⟩ (λx hx=>eO b (step x hx) (λe T H' nx' h=>?_));cases e with
 |normal=>
  obtain⟨y,h1,h2,h3,rfl,rfl⟩:=h;exact⟨y,h1,h2,_,Gh.weak (vM h3)⟩
 |exit i=>exact h
 |ret=>exact h
@[congr] theorem aloop_congr {b:Tm->Hp->Nat->CP->Prop} {T:Tm} {H:Hp} {nx nx':Nat} {K:CP} (h:nx=nx'):aY b T H nx K=aY b T H nx' K:=by rw[h]
@[congr] theorem awp2_congr {P P':Program} {c:C2} {T:Tm} {H:Hp} {nx:Nat} {K:CP} (h:P=P'):aF P c T H nx K=aF P' c T H nx K:=by rw[h]
@[congr] theorem aops2_congr {P P':Program} {dm:DM} {l:List Op2} {T:Tm} {H:Hp} {nx:Nat} {K:SP} (h:P=P'):ai P dm l T H nx K=ai P' dm l T H nx K:=by rw[h]
@[congr] theorem ains_congr {P P':Program} {dm:DM} {i:Ins} {T:Tm} {H:Hp} {nx:Nat} {K:AV->Hp->Nat->Prop} (h:P=P'):bj P dm i T H nx K=bj P' dm i T H nx K:=by rw[h]
theorem Ko{k:IntKind}{a b:Int}{tb tf:Bool}:bt .lss tb tf (.int k a) (.int k b)=some (.bool (decide (a<b))):=by simp[bt,fe]
theorem Kh{k:IntKind}{a b:Int}{tb tf:Bool}:bt .leq tb tf (.int k a) (.int k b)=some (.bool (decide (a<=b))):=by simp[bt,fe]
theorem Jo{k:IntKind}{a b:Int}{tb tf:Bool}:bt .gtr tb tf (.int k a) (.int k b)=some (.bool (decide (a>b))):=by simp[bt,fe]
theorem Ku{k:IntKind}{a b:Int}{tb tf:Bool}:bt .geq tb tf (.int k a) (.int k b)=some (.bool (decide (a≥b))):=by simp[bt,fe]
theorem J5{k:IntKind}{a b:Int}{tb tf:Bool}:bt .eql tb tf (.int k a) (.int k b)=some (.bool (decide (a=b))):=by
 simp only[bt,fe];simp;by_cases h:a=b<;>simp[h]
theorem I3{k:IntKind}{a b:Int}{tb tf:Bool}:bt .neq tb tf (.int k a) (.int k b)=some (.bool (decide (a≠b))):=by
 simp[bt,fe,bne];rfl
theorem JZ{k:IntKind}{a b:Int}{tb tf:Bool}:bt .add tb tf (.int k a) (.int k b)=some (.int k (k.wrap (a+b))):=by simp[bt,fe]
theorem Ke{k:IntKind}{a b:Int}{tb tf:Bool}:bt .sub tb tf (.int k a) (.int k b)=some (.int k (k.wrap (a-b))):=by simp[bt,fe]
theorem Ju{k:IntKind}{a b:Int}{tb tf:Bool}:bt .mul tb tf (.int k a) (.int k b)=some (.int k (k.wrap (a*b))):=by simp[bt,fe]
theorem jy{a:Int}(h1:-9223372036854775808<=a)(h2:a<=9223372036854775807):IntKind.wrap .i64 a=a:=by
 rw[IntKind.wrap_i64];omega
end Go.Abs
namespace Go.Abs
open Go.RowKit
variable{P:Program}{T:Tm}{H:Hp}{nx:Nat}
theorem LU{K:CP}(h:K .normal T H nx):aF P .skip T H nx K:=h
theorem Mj{K:CP}{i:Nat}(h:K (.exit i) T H nx):aF P (.exit i) T H nx K:=h
theorem PN{K:CP}(h:K .ret T H nx):aF P .ret T H nx K:=h
theorem LQ{K:CP}{l:List Op2}(h:ai P .text l T H nx λT H nx=>K .normal T H nx):aF P (.ops 0 l) T H nx K:=⟨T,H,nx,_,Gh.refl _ _ _,h⟩
theorem L0{K:CP}{l:List Op2}{C:List Nat}(h:ai P .draw l T H nx λT H nx=>K .normal T H nx):aF P (.mix 1 l C) T H nx K:=.inl ⟨by decide,T,H,nx,_,Gh.refl _ _ _,h⟩
theorem LB{K:CP}{l:List Op2}{C:List Nat}(h:ai P (.fresh nx) l T H nx λT H nx=>K .normal T H nx):aF P (.mix 2 l C) T H nx K:=.inl ⟨by decide,T,H,nx,_,Gh.refl _ _ _,h⟩
theorem LA{K:CP}{m:Nat}{l alt:List Op2}{C:List Nat}(ha:(C.map λk=>l.getD k ⟨none,none,.dead⟩)=alt)(h:ai P .text alt T H nx λT H nx=>K .normal T H nx):aF P (.mix m l C) T H nx K:=by
 subst ha;exact .inr ⟨T,H,nx,_,Gh.refl _ _ _,h⟩
theorem yw{K:CP}{l alt:List Op2}{C:List Nat}(ha:(C.map λk=>l.getD k ⟨none,none,.dead⟩)=alt)(h:ai P .text alt T H nx λT H nx=>K .normal T H nx):aF P (.mix 9 l C) T H nx K:=LA ha h
theorem JB{K:CP}{l:List Op2}{C:List (Nat×Nat)}(h:ai P .draw l T H nx λT H nx=>K .normal T H nx):aF P (.mixS 1 l C) T H nx K:=.inl ⟨by decide,T,H,nx,_,Gh.refl _ _ _,h⟩
theorem IV{K:CP}{l:List Op2}{C:List (Nat×Nat)}(h:ai P (.fresh nx) l T H nx λT H nx=>K .normal T H nx):aF P (.mixS 2 l C) T H nx K:=.inl ⟨by decide,T,H,nx,_,Gh.refl _ _ _,h⟩
theorem fg(S:Hp){K:CP}{m:Nat}{l:List Op2}{alt:List (Op2×Nat)}{C:List (Nat×Nat)}(ha:(C.map λk=>(l.getD k.1 ⟨none,none,.dead⟩,k.2))=alt)(hs:Sub S H)(h:bn P S alt T H nx λT H nx=>K .normal T H nx):aF P (.mixS m l C) T H nx K:=by
 subst ha;exact .inr ⟨T,H,nx,_,S,Gh.refl _ _ _,hs,h⟩
theorem Nz{S:Hp}{K:SP}(h:K T H nx):bn P S [] T H nx K:=h
theorem La{S:Hp}{K:SP}{l:List (Op2×Nat)}{d:Option Nat}{i:Ins}{r:AV}(h:bv T S i=some r)(k:bn P S l (aO T d r) H nx K):bn P S ((⟨d,none,i⟩,0)::l) T H nx K:=by
 show ax (bv T S i) λr=>bn P S l (aO T d r) H nx K;rw[h];exact k
theorem KZ{S:Hp}{K:SP}{l:List (Op2×Nat)}{d:Option Nat}{len:Nat}{z cs:List AV}{parts:List (Nat×Nat×Opd)}{pv:List (Nat×Nat×AV)}(hp:parts.map (λp=>(p.1,p.2.1,ov T p.2.2))=pv)(hc:fq (bd (.agg z) len) pv=some cs)(hl:len≠0)(hn:cs.length=len)(ho:cs.all AV.one=true)
    (k:bn P S l (aO T d (.sl 1 cs)) H nx K):bn P S ((⟨d,none,.bldS 1 len z parts⟩,3)::l) T H nx K:=by
 show ax (sr T (.bldS 1 len z parts)) _
 have:sr T (.bldS 1 len z parts)=some (.sl 1 cs):=by
  simp only[sr,kW,hl,if_false,hp,hc,rq,av,if_true,hn];rw[if_pos ⟨trivial,hl,ho⟩]
 rw[this];exact k
theorem MR{S:Hp}{K:SP}{l:List (Op2×Nat)}{d:Option Nat}{sz:Nat}{z cs:List AV}{parts:List (Nat×Nat×Opd)}{pv:List (Nat×Nat×AV)}(hp:parts.map (λp=>(p.1,p.2.1,ov T p.2.2))=pv)(hc:fq (bd (.agg z) 1) pv=some cs)(hz:sz≠1)(hn:cs.length=sz)(ho:cs.all AV.one=true)
    (k:bn P S l (aO T d (.sl sz [.agg cs])) H nx K):bn P S ((⟨d,none,.bldS sz 1 z parts⟩,3)::l) T H nx K:=by
 show ax (sr T (.bldS sz 1 z parts)) _
 have:sr T (.bldS sz 1 z parts)=some (.sl sz [.agg cs]):=by
  simp only[sr,kW,Nat.one_ne_zero,if_false,hp,hc,rq,av,if_true];rw[if_neg hz,if_pos ⟨trivial,hn,ho⟩]
 rw[this];exact k
theorem dz{S:Hp}{K:SP}{l:List (Op2×Nat)}{d:Option Nat}{i:Ins}(k:ai P .text [⟨d,none,i⟩] T H nx λT H nx=>Sub S H/\bn P S l T H nx K):bn P S ((⟨d,none,i⟩,1)::l) T H nx K:=by
 have k:bj P .text i T H nx λr H nx=>Sub S H/\bn P S l (aO T d r) H nx K:=k;show bj P .text i T H nx λr H' nx'=>(0=0->Sub S H')/\bn P S l (aO T d r) H' nx' K;exact ph k (λ_ _ _ h=>⟨λ_=>h.1,h.2⟩)
theorem fm{S:Hp}{K:SP}{l:List (Op2×Nat)}{d:Option Nat}{i:Ins}(k:ai P .text [⟨d,none,i⟩] T H nx λT H nx=>bn P S l T H nx K):bn P S ((⟨d,none,i⟩,2)::l) T H nx K:=by
 have k:bj P .text i T H nx λr H nx=>bn P S l (aO T d r) H nx K:=k;show bj P .text i T H nx λr H' nx'=>(1=0->Sub S H')/\bn P S l (aO T d r) H' nx' K;exact ph k (λ_ _ _ h=>⟨λhh=>absurd hh (by decide),h⟩)
theorem MU{K:CP}{l:List Op2}(h:ai P .draw l T H nx λT H nx=>K .normal T H nx):aF P (.ops 1 l) T H nx K:=⟨T,H,nx,_,Gh.refl _ _ _,h⟩
theorem LI{K:CP}{l:List Op2}(h:ai P (.fresh nx) l T H nx λT H nx=>K .normal T H nx):aF P (.ops 2 l) T H nx K:=⟨T,H,nx,_,Gh.refl _ _ _,h⟩
theorem nM{K:CP}{x y:C2}(h:aF P x T H nx λe T H nx=>aN e (aF P y T H nx K) (K e T H nx)):aF P (.seq x y) T H nx K:=h
theorem DI{K:CP}{i:Nat}{b:C2}(h:aF P b T H nx λe T H nx=>K (rS i e) T H nx):aF P (.block i b) T H nx K:=h
theorem BN{K:CP}{c:Opd}{x y:C2}{b:Bool}(hc:ov T c=.bool b)(h1:b=true->aF P x T H nx K)(h2:b=false->aF P y T H nx K):aF P (.cond c x y) T H nx K:=by
 simp only[aF,hc];exact⟨h1,h2⟩
theorem Dr{K:CP}{c:Opd}{x y:C2}(hc:ov T c=.bool true)(h1:aF P x T H nx K):aF P (.cond c x y) T H nx K:=
 BN hc (λ_=>h1) (λh=>by cases h)
theorem DS{K:CP}{c:Opd}{x y:C2}(hc:ov T c=.bool false)(h2:aF P y T H nx K):aF P (.cond c x y) T H nx K:=
 BN hc (λh=>by cases h) (λ_=>h2)
theorem LV{K:CP}{b:C2}(h:aY (aF P b) T H nx K):aF P (.loop b) T H nx K:=h
theorem a_n{A B:Prop}(h:A):aN .normal A B:=h
theorem a_x{A B:Prop}{i:Nat}(h:B):aN (.exit i) A B:=h
theorem a_r{A B:Prop}(h:B):aN .ret A B:=h
theorem iE{dm:DM}{K:SP}(h:K T H nx):ai P dm [] T H nx K:=h
theorem Az{dm:DM}{K:SP}{l:List Op2}{d:Option Nat}{i:Ins}{r:AV}(hi:ic i=.val)(hd:dm2 dm T i=true)(h:bv T H i=some r)(k:ai P dm l (aO T d r) H nx K):ai P dm (⟨d,none,i⟩::l) T H nx K:=by
 show bj P dm i T H nx λr H nx=>ai P dm l (aO T d r) H nx K;unfold bj;rw[hi];exact⟨hd,by rw[h];exact k⟩
theorem qY{dm:DM}{K:SP}{l:List Op2}{d:Option Nat}{i:Ins}{r:AV}{H':Hp}{nx':Nat}(hi:ic i=.eff)(hd:dm2 dm T i=true)(h:kW T H nx i=some (r,H',nx'))(k:ai P dm l (aO T d r) H' nx' K):ai P dm (⟨d,none,i⟩::l) T H nx K:=by
 show bj P dm i T H nx λr H nx=>ai P dm l (aO T d r) H nx K;unfold bj;rw[hi];exact .inl ⟨hd,by rw[h];exact k⟩
theorem Cm{K:SP}{l:List Op2}{d:Option Nat}{f:Opd}{args:List Opd}{g:FuncId}{caps:List AV}(hf:ov T f=.func g caps)(k:Fn P g (args.map (ov T)++caps) H nx λr H nx=>ai P .text l (aO T d r) H nx K):
    ai P .text (⟨d,none,.call f args⟩::l) T H nx K:=by
 left;show ax (qG (ov T f)) _;rw[hf];exact k
theorem DQ{dm:DM}(hdm:dm.isText=false){K:SP}{l:List Op2}{d:Option Nat}{f:Opd}{args:List Opd}{g:FuncId}{caps:List AV}(hf:ov T f=.func g caps)(k:aX P g (args.map (ov T)++caps) H λr=>ai P dm l (aO T d r) H nx K):
    ai P dm (⟨d,none,.call f args⟩::l) T H nx K:=by
 left;show ax (qG (ov T f)) _;rw[hf];show(match dm.isText with|false=>_|true=>_);rw[hdm];exact k
theorem tT{K:SP}{l:List Op2}{d:Option Nat}{f:Opd}{args:List Opd}{b:Nat}{xs:List AV}(hf:ov T f=.yld b)(ha:args.map (ov T)=xs)(k:Yl P b xs H nx λr H nx=>ai P .text l (aO T d r) H nx K):
    ai P .text (⟨d,none,.call f args⟩::l) T H nx K:=by
 right;exact⟨rfl,.inl ⟨b,hf,by rw[ha];exact k⟩⟩
theorem Ka{K:SP}{l:List Op2}{d:Option Nat}{f:Opd}{args:List Opd}{g:FuncId}{fs xs:List AV}(hf:ov T f=.bfn g fs)(ha:fs++args.map (ov T)=xs)(k:Fn P g xs H nx λr H nx=>ai P .text l (aO T d r) H nx K):
    ai P .text (⟨d,none,.call f args⟩::l) T H nx K:=by
 right;exact⟨rfl,.inr ⟨g,fs,hf,by rw[ha];exact k⟩⟩
theorem zx{K:SP}{l:List Op2}{d:Option Nat}{i:Ins}(hi:ic i=.sp)(k:isp i T H nx λr H nx=>ai P .text l (aO T d r) H nx K):ai P .text (⟨d,none,i⟩::l) T H nx K:=by
 show bj P .text i T H nx λr H nx=>ai P .text l (aO T d r) H nx K;unfold bj;rw[hi];exact⟨rfl,k⟩
theorem xn{K:SP}{l:List Op2}{d:Option Nat}(k:ai P .text l (aO T d (.mp nx)) (av H nx [.omap [] []]) (nx+1) K):ai P .text (⟨d,none,.mkm none⟩::l) T H nx K:=zx rfl ⟨.inl rfl,k⟩
theorem nJ{K:SP}{l:List Op2}{d:Option Nat}{kk:MK}{m key x:Opd}{b:Nat}{ks vs:List AV}{kv xv:AV}{r:Option Nat}(hm:ov T m=.mp b)(hb:H b=some [.omap ks vs])(hk:ov T key=kv)(hx:ov T x=xv)(hfit:sw kk kv=true)(hr:ef kk kv ks=some r)
    (k:ai P .text l (aO T d (.tup [])) (av H b [.omap (jc kv r ks) (qX xv r vs)]) nx K):ai P .text (⟨d,none,.mput kk m key x⟩::l) T H nx K:=by
 subst hk hx;exact zx rfl ⟨b,ks,vs,r,hm,hb,hfit,hr,k⟩
theorem mJ{K:SP}{l:List Op2}{d:Option Nat}{kk:MK}{z:AV}{ok:Bool}{m key:Opd}{b:Nat}{ks vs:List AV}{kv:AV}{r:Option Nat}(hm:ov T m=.mp b)(hb:H b=some [.omap ks vs])(hk:ov T key=kv)(hfit:sw kk kv=true)(hr:ef kk kv ks=some r)
    (k:ai P .text l (aO T d (mget z ok r vs)) H nx K):ai P .text (⟨d,none,.mget kk z ok m key⟩::l) T H nx K:=by
 subst hk;exact zx rfl ⟨b,ks,vs,r,hm,hb,hfit,hr,k⟩
theorem Me{K:SP}{l:List Op2}{d:Option Nat}{m:Opd}{b:Nat}{ks vs:List AV}(hm:ov T m=.mp b)(hb:H b=some [.omap ks vs])(k:ai P .text l (aO T d (.int .i64 ks.length)) H nx K):ai P .text (⟨d,none,.mlen m⟩::l) T H nx K:=zx rfl ⟨b,ks,vs,hm,hb,k⟩
theorem Hi{K:SP}{l:List Op2}{d:Option Nat}{sz n:Nat}{x y:Opd}{H':Hp}(h:uR sz (ov T x) (ov T y) H=some (n,H'))(k:ai P .text l (aO T d (.int .i64 n)) H' nx K):ai P .text (⟨d,none,.cpy sz x y⟩::l) T H nx K:=zx rfl ⟨n,H',h,k⟩
theorem O8{K:SP}{l:List Op2}{d:Option Nat}{sz:Nat}{z:AV}{x:Opd}{H':Hp}(h:wq sz z (ov T x) H=some H')(k:ai P .text l (aO T d (.tup [])) H' nx K):ai P .text (⟨d,none,.clr sz z x⟩::l) T H nx K:=zx rfl ⟨H',h,k⟩
theorem pR{K:SP}{l:List Op2}{d:Option Nat}{neg:Bool}{x:Opd}{k:Nat}(hx:jL (ov T x)=some k)(h1:0<k->ai P .text l (aO T d (.bool neg)) H nx K)(h2:k=0->ai P .text l (aO T d (.bool true)) H nx K)(h3:k=0->ai P .text l (aO T d (.bool false)) H nx K):ai P .text (⟨d,none,.snil neg x⟩::l) T H nx K:=zx rfl ⟨k,hx,h1,λh=>⟨h2 h,h3 h⟩⟩
theorem N3{K:SP}{l:List Op2}{d:Option Nat}{x:Opd}{n:Nat}{bs:List UInt8}(hx:ee 1 H (ov T x)=some (n,bs.map lN))(k:ai P .text l (aO T d (.str ⟨bs.toArray⟩)) H nx K):ai P .text (⟨d,none,.b2s x⟩::l) T H nx K:=zx rfl ⟨n,bs,hx,k⟩
theorem Iu{K:CP}{g:Opd}{ps:List Nat}{a b:C2}{f:FuncId}{caps:List AV}(hg:ov T g=.func f caps)
    (h:∀ (c0:AV) (cj:AEx→AV),(∀ (args:List AV) (H':Hp) (nx':Nat) (K':AV→Hp→Nat→Prop),H' nx=some [c0]→args.length=ps.length →
        aF P a (mE T ps args) H' nx' (λe T2 H2 nx2=>aN e (H2 nx=some [c0]/\aF P b T2 (dv H2 nx) nx2 λe T3 H3 nx3=>aN e (K' (.bool true) (av H3 nx [c0]) nx3) (K' (.bool false) (av H3 nx [cj e]) nx3)) False)->
        Yl P nx args H' nx' K')->
     Fn P f (.yld nx::caps) (av H nx [c0]) (nx+1) λ_ H' nx'=>(H' nx=some [c0]/\K .normal T (dv H' nx) nx')\/ ∃e,e≠.normal/\H' nx=some [cj e]/\K e T (dv H' nx) nx'):aF P (.rangeF g ps a b) T H nx K:=⟨f,caps,hg,h⟩
theorem My{dm:DM}{K:SP}{l:List Op2}{d:Option Nat}{i:Ins}{t:Nat}{w:Bool}(h:T t=.bool w)(k:ai P dm (⟨d,none,i⟩::l) T H nx K):ai P dm (⟨d,some (t,w),i⟩::l) T H nx K:=by
 show aS (g2 T (some (t,w))) _ _;have:g2 T (some (t,w))=some true:=by simp[g2,h]
 rw[this];exact k
theorem Nb{dm:DM}{K:SP}{l:List Op2}{d:Option Nat}{i:Ins}{t:Nat}{w:Bool}(h:T t=.bool (!w)\/T t=.tup [])(k:ai P dm l (aO T d (.tup [])) H nx K):ai P dm (⟨d,some (t,w),i⟩::l) T H nx K:=by
 show aS (g2 T (some (t,w))) _ _
 have:g2 T (some (t,w))=some false:=by
  rcases h with h|h
  ·cases w<;>simp[g2,h]
  ·simp[g2,h]
 rw[this];exact k
theorem au{e:AEx}{A:Prop}(he:e.ends=true)(h:A):aM e.ends A:=⟨he,h⟩
theorem r_1{K:AV->Prop}{a:RV}{x:AV}(ha:rv T H a=some x)(h:K x):bm T H K [a]:=by
 show ax (rv T H a) K;rw[ha];exact h
theorem r_2{K:AV->Prop}{a b:RV}{x y:AV}(ha:rv T H a=some x)(hb:rv T H b=some y)(h:K (.tup [x,y])):bm T H K [a,b]:=by
 show ax (rv T H a) _;rw[ha];show ax (rv T H b) _;rw[hb];exact h
theorem r_5{K:AV->Prop}{a b c d e:RV}{x y z u v:AV}(ha:rv T H a=some x)(hb:rv T H b=some y)(hc:rv T H c=some z)(hd:rv T H d=some u)(he:rv T H e=some v)(h:K (.tup [x,y,z,u,v])):bm T H K [a,b,c,d,e]:=by
 show A9 T H [a,b,c,d,e] λxs=>K (.tup xs);simp only[A9,ha,hb,hc,hd,he];exact h
theorem r_3{K:AV->Prop}{a b c:RV}{x y z:AV}(ha:rv T H a=some x)(hb:rv T H b=some y)(hc:rv T H c=some z)(h:K (.tup [x,y,z])):bm T H K [a,b,c]:=by
 show ax (rv T H a) _;rw[ha];show ax (rv T H b) _;rw[hb];show ax (rv T H c) _;rw[hc];exact h
theorem Bu{T:Tm}{t:Nat}{v:AV}(h:T t=v):upd T t v=T:=by
 funext x;simp only[upd];split
 ·rename_i e;rw[e,h]
 ·rfl
theorem PM{dm:DM}{K:SP}{l:List Op2}{d:Option Nat}{i:Ins}{t:Nat}{w b:Bool}(h:T t=.bool b)(k1:b=w->ai P dm (⟨d,none,i⟩::l) (upd T t (.bool w)) H nx K)
    (k2:b=!w->ai P dm l (aO (upd T t (.bool (!w))) d (.tup [])) H nx K):ai P dm (⟨d,some (t,w),i⟩::l) T H nx K:=by
 by_cases hb:b=w
 ·subst hb;have:=k1 rfl;rw[Bu h] at this;exact My h this
 ·have hb':b=!w:=by cases b<;>cases w<;>simp_all
  subst hb';have:=k2 rfl;rw[Bu h] at this;exact Nb (.inl h) this
theorem AJ{α:Type}{f:α->AV}{l:List α}{k:Nat}{u:AV}(d:α)(h:k<l.length):(l.map f).getD k u=f (l.getD k d):=by
 simp[List.getD,h]
theorem Dn{c:Prop}[Decidable c]{x:Option AV}{r:AV}(hc:c)(h:x=some r):(if c then x else none)=some r:=by rw[if_pos hc];exact h
theorem FG{k:IntKind}{n:Int}:AV.cells (.int k n)=[.int k n]:=rfl
end Go.Abs
namespace Go.Abs
open Go.RowKit
def Dat(x:AV):Prop:=∀H,Snap H x x
theorem Dat.int{k:IntKind}{n:Int}:Dat (.int k n):=λ_=>.int _ _
theorem Dat.bool{b:Bool}:Dat (.bool b):=λ_=>.bool _
theorem Dat.str{s:ByteArray}:Dat (.str s):=λ_=>.str _
theorem Dat.esl:Dat .esl:=λ_=>.esl
theorem Dat.nilp:Dat .nilp:=λ_=>.nilp
theorem Dat.nilf:Dat .nilf:=λ_=>.nilf
theorem Dat.sl{sz:Nat}{l:List AV}(h:∀x∈l,∀c∈x.cells,Dat c):Dat (.sl sz l):=λH=>
 .sl sz l l rfl (fun i x y hx hy=>by rw [hx] at hy; cases hy; rfl) (fun i j x y a b hx hy ha hb=>by
  rw[hx] at hy;cases hy;rw[ha] at hb;cases hb;exact h x (ir hx) a (ir ha) H)
theorem Dat.agg{l:List AV}(h:∀x∈l,Dat x):Dat (.agg l):=λH=>
 .agg l l rfl (λi a c ha hc=>by rw[ha] at hc;cases hc;exact h a (ir ha) H)
theorem Dat.tup{l:List AV}(h:∀x∈l,Dat x):Dat (.tup l):=λH=>
 .tup l l rfl (λi a c ha hc=>by rw[ha] at hc;cases hc;exact h a (ir ha) H)
theorem Dat.func{f:FuncId}{l:List AV}(h:∀x∈l,Dat x):Dat (.func f l):=λH=>
 .func f l l rfl (λi a c ha hc=>by rw[ha] at hc;cases hc;exact h a (ir ha) H)
def aq(l:List Int):AV:=.sl 1 (l.map (AV.int .i64))
def ay(l:List (List Int)):AV:=.sl 1 (l.map aq)
theorem bP (l:List Int):Dat (aq l):=Dat.sl (fun x hx c hc=>by
 obtain⟨n,_,rfl⟩:=cE.1 hx;simp only[AV.cells,gH] at hc;subst hc;exact .int)
theorem bS (l:List (List Int)):Dat (ay l):=Dat.sl (fun x hx c hc=>by
 obtain⟨n,_,rfl⟩:=cE.1 hx;simp only[aq,AV.cells,gH] at hc;subst hc;exact bP n)
theorem Cn{l:List Int}:(aq l).cells=[aq l]:=rfl
theorem al{H:Hp}:aK H [] []:=aK.nil
theorem cU{H:Hp}{x:AV}{xs ys:List AV}(h:Dat x)(hs:aK H xs ys):aK H (x::xs) (x::ys):=aK.cons (h H) hs
class DatI(x:AV):Prop where
 d:Dat x
instance datI_int{k:IntKind}{n:Int}:DatI (.int k n):=⟨.int⟩
instance datI_bool{b:Bool}:DatI (.bool b):=⟨.bool⟩
instance datI_str{s:ByteArray}:DatI (.str s):=⟨.str⟩
instance datI_esl:DatI .esl:=⟨.esl⟩
instance datI_nilf:DatI .nilf:=⟨.nilf⟩
instance datI_encV{l:List Int}:DatI (aq l):=⟨bP l⟩
instance datI_encVV{l:List (List Int)}:DatI (ay l):=⟨bS l⟩
theorem fj{H:Hp}{x:AV}{xs ys:List AV}[h:DatI x](hs:aK H xs ys):aK H (x::xs) (x::ys):=cU h.d hs
variable{P:Program}{T:Tm}{H:Hp}{nx:Nat}
theorem eJ{dm:DM}{K:SP}{l:List Op2}{d:Option Nat}{f:Opd}{args:List Opd}{g:FuncId}{caps xs ys:List AV}{r:AV}(hf:ov T f=.func g caps)(ha:args.map (ov T)++caps=xs)
    (hp:Pure P g ys r) (hs:ap H xs ys r) (k:ai P dm l (aO T d r) H nx K):ai P dm (⟨d,none,.call f args⟩::l) T H nx K:=by
 subst ha;cases hd:dm.isText with
 |false=>exact DQ hd hf (aX.of_pure hp hs k)
 |true=>
  cases dm with
  |text=>exact Cm hf (Fn.of_pure hp hs k)
  |draw=>cases hd
  |fresh m=>cases hd
theorem pt{dm:DM}{K:SP}{l:List Op2}{d:Option Nat}{f:Opd}{args:List Opd}{g:FuncId}{caps xs ys:List AV}{r:AV}(hf:ov T f=.func g caps)(ha:args.map (ov T)++caps=xs)
    (hp:PureF P g ys r) (hs:aK H xs ys) (k:ai P dm l (aO T d r) H nx K):ai P dm (⟨d,none,.call f args⟩::l) T H nx K:=by
 subst ha;have hc:=hp.callOk hs;cases hd:dm.isText with
 |false=>exact DQ hd hf (aX.of_callOk hc k)
 |true=>
  cases dm with
  |text=>exact Cm hf (Fn.of_callOk hc k)
  |draw=>cases hd
  |fresh m=>cases hd
theorem DR{dm:DM}{K:SP}{l:List Op2}{d:Option Nat}{f:Opd}{args:List Opd}{g:FuncId}{caps xs:List AV}{r:AV}(hf:ov T f=.func g caps)(ha:args.map (ov T)++caps=xs)
    (hp:Pure P g xs r) (hs:ap H xs xs r) (k:ai P dm l (aO T d r) H nx K):ai P dm (⟨d,none,.call f args⟩::l) T H nx K:=eJ hf ha hp hs k
theorem bC{xs ys:List AV}{r:AV}{H:Hp}(h:aK aP xs ys):ap H xs ys r:=.inl h
theorem bK{xs ys:List AV}{r:AV}{H:Hp}(h:aK H xs ys)(hr:r.sca=true):ap H xs ys r:=.inr ⟨h,hr⟩
theorem uo{α:Type}[Inhabited α]{f:α->AV}{l:List α}{sz:Nat}{k:IntKind}{n:Int}:eo sz (.sl sz (l.map f)) (.int k n)=if 0<=n/\n<l.length then some (.iptr (f (l.getD n.toNat default)).cells 0) else none:=by
 simp only[eo,true_and,bi];split
 ·rename_i h;rw[AJ default (by omega)]
 ·rfl
theorem rW{α:Type}{f:α->AV}{l:List α}{sz:Nat}:eW (.sl sz (l.map f))=some (.int .i64 l.length):=by simp[eW]
theorem rp{l:List Int}{k:IntKind}{n:Int}:eo 1 (aq l) (.int k n)=if 0<=n/\n<l.length then some (.iptr [.int .i64 (l.getD n.toNat default)] 0) else none:=uo
theorem vU{l:List (List Int)}{k:IntKind}{n:Int}:eo 1 (ay l) (.int k n)=if 0<=n/\n<l.length then some (.iptr [aq (l.getD n.toNat default)] 0) else none:=uo
theorem CD{l:List Int}:eW (aq l)=some (.int .i64 l.length):=rW
theorem Ap{l:List (List Int)}:eW (ay l)=some (.int .i64 l.length):=rW
end Go.Abs
namespace Go.Abs
theorem SA:(∀(T:Tm)(n:Nat),ov T (.t n)=T n)/\(∀(T:Tm)(v:AV),ov T (.c v)=v)/\(∀(T:Tm)(d t:Nat)(v:AV),upd T d v t=if t=d then v else T t)/\(∀(T:Tm)(d:Nat)(v:AV),aO T (some d) v=upd T d v)/\
    (∀(T:Tm)(v:AV),aO T none v=T)/\(∀(x:AV)(l:List AV),T0 (x::l) 0=x)/\(∀(x:AV)(l:List AV)(n:Nat),T0 (x::l) (n+1)=T0 l n)/\(∀n:Nat,T0 [] n=.undef)/\
    (∀(d t:Nat)(v:AV)(l:List (Nat×AV)),tl ((d,v)::l) t=if t=d then v else tl l t)/\(∀t:Nat,tl [] t=.undef)/\
    (∀(T:Tm)(t:Nat)(ts:List Nat)(x:AV)(xs:List AV),mE T (t::ts) (x::xs)=mE (upd T t x) ts xs)/\(∀(T:Tm)(xs:List AV),mE T [] xs=T):=
 ⟨λ_ _=>rfl,λ_ _=>rfl,λ_ _ _ _=>rfl,λ_ _ _=>rfl,λ_ _=>rfl,λ_ _=>rfl,λ_ _ _=>rfl,λ_=>rfl,λ_ _ _ _=>rfl,λ_=>rfl,λ_ _ _ _ _=>rfl,λ_ xs=>by cases xs<;>rfl⟩
theorem CW{H:Hp}{b n off:Nat}{cs:List AV}(h:H b=some cs)(hn:cs.length=n):rd1 H (.ptr b n off)=cs[off]?:=by
 simp only[rd1,h,hn,if_true]
theorem Ms{H:Hp}{b n off k:Nat}{cs:List AV}(h:H b=some cs)(hn:cs.length=n)(hk:off+k<=n):rd H k (.ptr b n off)=some ((cs.drop off).take k):=by
 simp only[rd,h,hn,true_and,hk,if_true]
theorem SV:(∀(T:Tm)(H:Hp)(x:Opd),bv T H (.mov x)=some (ov T x))/\
    (∀(T:Tm)(H:Hp)(c a b:Opd),bv T H (.pick c a b)=match ov T c with|.bool t=>some (if t=true then ov T a else ov T b)|_=>none)/\
    (∀(T:Tm)(H:Hp)(a:Opd),bv T H (.ld1 a)=rd1 H (ov T a))/\(∀(T:Tm)(H:Hp)(k:Nat)(a:Opd),bv T H (.ldn k a)=(rd H k (ov T a)).map .agg)/\
    (∀(T:Tm)(H:Hp)(op:BinOp)(tb tf:Bool)(x y:Opd),bv T H (.bin op tb tf x y)=bt op tb tf (ov T x) (ov T y))/\
    (∀(T:Tm)(H:Hp)(op:UnOp)(x:Opd),bv T H (.un op x)=aun op (ov T x))/\
    (∀(T:Tm)(H:Hp)(f:FuncId)(caps:List Opd),bv T H (.mkfn f caps)=some (.func f (caps.map (ov T))))/\
    (∀(T:Tm)(H:Hp)(k:Nat)(p:Opd),bv T H (.fa k p)=jm k (ov T p))/\
    (∀(T:Tm)(H:Hp)(sz:Nat)(x i:Opd),bv T H (.ixaS sz x i)=eo sz (ov T x) (ov T i))/\
    (∀(T:Tm)(H:Hp)(x:Opd)(i:Nat),bv T H (.ext x i)=jW (ov T x) i)/\
    (∀(T:Tm)(H:Hp)(x:Opd),bv T H (.lenS x)=eW (ov T x))/\
    (∀(T:Tm)(H:Hp)(z:List AV)(parts:List (Nat×Nat×Opd)),bv T H (.bld z parts)=(fq z (parts.map λp=>(p.1,p.2.1,ov T p.2.2))).map .agg)/\
    (∀(T:Tm)(H:Hp)(x:Opd)(l:List Opd),bv T H (.mx x l)=jN qQ (ov T x) (l.map (ov T)))/\
    (∀(T:Tm)(H:Hp)(x:Opd)(l:List Opd),bv T H (.mn x l)=jN qK (ov T x) (l.map (ov T)))/\
    (∀(T:Tm)(H:Hp)(k:IntKind)(x:Opd),bv T H (.conv k x)=nz (ov T x) λn=>some (.int k (k.wrap n)))/\
    (∀(T:Tm)(H:Hp)(sz:Nat)(x:Opd)(lo hi mx:Option Opd),bv T H (.sls sz x lo hi mx)=nu sz (ov T x) (lo.map (ov T)) (hi.map (ov T)) (mx.map (ov T)))/\
    (∀(T:Tm)(H:Hp)(off:Nat)(x:Opd),bv T H (.part1 off x)=eD (ov T x) λcs=>cs[off]?)/\
    (∀(T:Tm)(H:Hp)(op:BinOp)(ks:List TK)(x y:Opd),bv T H (.binS op ks x y)=eD (ov T x) λxs=>eD (ov T y) λys=>j8 op ks xs ys):=
 ⟨fun _ _ _=>rfl,fun _ _ _ _ _=>rfl,fun _ _ _=>rfl,fun _ _ _ _=>rfl,fun _ _ _ _ _ _ _=>rfl,fun _ _ _ _=>rfl,fun _ _ _ _=>rfl,fun _ _ _ _=>rfl,fun _ _ _ _ _=>rfl,fun _ _ _ _=>rfl,fun _ _ _=>rfl,
  λ_ _ _ _=>rfl,λ_ _ _ _=>rfl,λ_ _ _ _=>rfl,λ_ _ _ _=>rfl,λ_ _ _ _ _ _ _=>rfl,λ_ _ _ _=>rfl,λ_ _ _ _ _ _=>rfl⟩
def tV:AV->Option AV
 |.str s=>some (.int .i64 s.size)
 |_=>none
def yo:AV->AV->Option AV
 |.str s,.int _ n=>if 0<=n/\n<s.size then some (.int .u8 (s[n.toNat]?.getD 0).toNat) else none
 |_,_=>none
theorem SV2:(∀(T:Tm)(H:Hp)(n:Nat)(x:Opd)(lo hi:Option Opd),bv T H (.slsA n x lo hi)=xL n (ov T x) (lo.map (ov T)) (hi.map (ov T)) none)/\
    (∀(T:Tm)(H:Hp)(f:FuncId)(l:List Opd),bv T H (.mkbf f l)=some (.bfn f (l.map (ov T))))/\
    (∀(T:Tm)(H:Hp)(x:Opd),bv T H (.lenStr x)=tV (ov T x))/\
    (∀(T:Tm)(H:Hp)(x i:Opd),bv T H (.ixStr x i)=yo (ov T x) (ov T i))/\
    (∀(T:Tm)(H:Hp)(x:Opd)(lo hi:Option Opd),bv T H (.slstr x lo hi)=yI (ov T x) (lo.map (ov T)) (hi.map (ov T)))/\
    (∀(T:Tm)(H:Hp)(off k:Nat)(x:Opd),bv T H (.partn off k x)=eD (ov T x) λcs=>if off+k<=cs.length then some (.agg ((cs.drop off).take k)) else none)/\
    (∀(T:Tm)(H:Hp)(n:Nat),bv T H (.lenC n)=some (.int .i64 n))/\
    (∀(s:ByteArray),tV (.str s)=some (.int .i64 s.size))/\
    (∀(s:ByteArray)(k:IntKind)(n:Int),yo (.str s) (.int k n)=if 0<=n/\n<s.size then some (.int .u8 (s[n.toNat]?.getD 0).toNat) else none):=
 ⟨fun _ _ _ _ _ _=>rfl,fun _ _ _ _=>rfl,fun T H x=>by
  simp only[bv];cases ov T x<;>rfl,λT H x i=>by
  simp only[bv];cases ov T x<;>cases ov T i<;>rfl,λ_ _ _ _ _=>rfl,λ_ _ _ _ _=>rfl,λ_ _ _=>rfl,λ_=>rfl,λ_ _ _=>rfl⟩
theorem SN:(∀(k:IntKind)(a b:Int)(tb tf:Bool),bt .lss tb tf (.int k a) (.int k b)=some (.bool (decide (a<b))))/\(∀(k:IntKind)(a b:Int)(tb tf:Bool),bt .leq tb tf (.int k a) (.int k b)=some (.bool (decide (a<=b))))/\
    (∀(k:IntKind)(a b:Int)(tb tf:Bool),bt .gtr tb tf (.int k a) (.int k b)=some (.bool (decide (b<a))))/\(∀(k:IntKind)(a b:Int)(tb tf:Bool),bt .geq tb tf (.int k a) (.int k b)=some (.bool (decide (b<=a))))/\
    (∀(k:IntKind)(a b:Int)(tb tf:Bool),bt .eql tb tf (.int k a) (.int k b)=some (.bool (decide (a=b))))/\(∀(k:IntKind)(a b:Int)(tb tf:Bool),bt .neq tb tf (.int k a) (.int k b)=some (.bool (decide (a≠b))))/\
    (∀(k:IntKind)(a b:Int)(tb tf:Bool),bt .add tb tf (.int k a) (.int k b)=some (.int k (k.wrap (a+b))))/\(∀(k:IntKind)(a b:Int)(tb tf:Bool),bt .sub tb tf (.int k a) (.int k b)=some (.int k (k.wrap (a-b))))/\
    (∀(k:IntKind)(a b:Int)(tb tf:Bool),bt .mul tb tf (.int k a) (.int k b)=some (.int k (k.wrap (a*b))))/\
    (∀(a b:Bool)(tf:Bool),bt .eql true tf (.bool a) (.bool b)=some (.bool (a==b)))/\(∀(a b:Bool)(tf:Bool),bt .neq true tf (.bool a) (.bool b)=some (.bool (!(a==b))))/\
    (∀tb:Bool,bt .eql tb true .nilf .nilf=some (.bool true))/\(∀tb:Bool,bt .neq tb true .nilf .nilf=some (.bool false))/\
    (∀(tb:Bool)(f:FuncId)(c:List AV),bt .eql tb true (.func f c) .nilf=some (.bool false))/\(∀(tb:Bool)(f:FuncId)(c:List AV),bt .neq tb true (.func f c) .nilf=some (.bool true))/\
    (∀b:Bool,aun .not (.bool b)=some (.bool (!b)))/\
    (∀(k:IntKind)(a b:Int),qQ (.int k a) (.int k b)=some (.int k (max a b)))/\(∀(k:IntKind)(a b:Int),qK (.int k a) (.int k b)=some (.int k (min a b)))/\
    (∀(f:AV->AV->Option AV)(x:AV),jN f x []=some x)/\(∀(f:AV->AV->Option AV)(x y:AV)(l:List AV),jN f x (y::l)=match f x y with|some z=>jN f z l|none=>none)/\
    (∀(k:Nat)(b n off:Nat),jm k (.ptr b n off)=some (.ptr b n (off+k)))/\(∀(k:Nat)(cs:List AV)(off:Nat),jm k (.iptr cs off)=some (.iptr cs (off+k)))/\
    (∀(cs:List AV)(off:Nat),rd1 aP (.iptr cs off)=cs[off]?):=
 ⟨fun _ _ _ _ _=>Ko,fun _ _ _ _ _=>Kh,fun _ _ _ _ _=>Jo,fun _ _ _ _ _=>Ku,fun _ _ _ _ _=>J5,fun _ _ _ _ _=>I3,fun _ _ _ _ _=>JZ,fun _ _ _ _ _=>Ke,fun _ _ _ _ _=>Ju,
  λ_ _ _=>rfl,λ_ _ _=>rfl,λ_=>rfl,λ_=>rfl,λ_ _ _=>rfl,λ_ _ _=>rfl,λ_=>rfl,
  λk a b=>by simp only[qQ,Int.max_def];split<;>split<;>simp <;>omega,λk a b=>by simp only[qK,Int.min_def];split<;>split<;>simp <;>omega,λ_ _=>rfl,λ_ _ _ _=>rfl,λ_ _ _ _=>rfl,λ_ _ _=>rfl,λ_ _=>rfl⟩
theorem SL:(∀(a:AV)(l:List AV),(a::l)[0]?=some a)/\(∀(a:AV)(l:List AV)(n:Nat),(a::l)[n+1]?=l[n]?)/\(∀(l:List AV),l.drop 0=l)/\(∀(a:AV)(l:List AV)(n:Nat),(a::l).drop (n+1)=l.drop n)/\(∀n:Nat,([]:List AV).drop n=[])/\
    (∀(l:List AV),l.take 0=[])/\(∀(a:AV)(l:List AV)(n:Nat),(a::l).take (n+1)=a::l.take n)/\(∀n:Nat,([]:List AV).take n=[])/\(∀(l:List AV),[]++l=l)/\(∀(l:List AV),l++[]=l)/\(∀(a:AV)(l m:List AV),(a::l)++m=a::(l++m))/\
    (∀(cs:List AV)(off:Nat)(new:List AV),cI cs off new=cs.take off++new++cs.drop (off+new.length))/\(([]:List AV).length=0)/\(∀(a:AV)(l:List AV),(a::l).length=l.length+1)/\
    (∀(k:IntKind)(n:Int),(AV.int k n).cells=[.int k n])/\(∀b:Bool,(AV.bool b).cells=[.bool b])/\(∀s:ByteArray,(AV.str s).cells=[.str s])/\(∀(k:Nat)(l:List AV),(AV.sl k l).cells=[.sl k l])/\(∀l:List AV,(AV.agg l).cells=l)/\(AV.esl.cells=[.esl])/\(AV.nilf.cells=[.nilf])/\
    (∀(f:FuncId)(c:List AV),(AV.func f c).cells=[.func f c])/\(∀(b n off:Nat),(AV.ptr b n off).cells=[.ptr b n off])/\(∀(c:List AV)(off:Nat),(AV.iptr c off).cells=[.iptr c off])/\(∀(b n sz off len:Nat),(AV.msl b n sz off len).cells=[.msl b n sz off len])/\(∀b:Nat,(AV.yld b).cells=[.yld b])/\(∀b:Nat,(AV.mp b).cells=[.mp b])/\(AV.nilp.cells=[.nilp])/\(∀(f:FuncId)(c:List AV),(AV.bfn f c).cells=[.bfn f c]):=
 ⟨fun _ _=>rfl,fun _ _ _=>rfl,fun _=>rfl,fun _ _ _=>rfl,fun n=>by cases n <;> rfl,fun _=>rfl,fun _ _ _=>rfl,fun n=>by cases n <;> rfl,fun _=>rfl,fun l=>jd l,fun _ _ _=>rfl,fun _ _ _=>rfl,rfl,fun _ _=>rfl,
  λ_ _=>rfl,λ_=>rfl,λ_=>rfl,λ_ _=>rfl,λ_=>rfl,rfl,rfl,λ_ _=>rfl,λ_ _ _=>rfl,λ_ _=>rfl,λ_ _ _ _ _=>rfl,λ_=>rfl,λ_=>rfl,rfl,λ_ _=>rfl⟩
def AV.ones(l:List AV):Bool:=l.all AV.one
theorem SO:(AV.ones []=true)/\(∀(a:AV)(l:List AV),AV.ones (a::l)=(a.one&&AV.ones l))/\(∀(k:IntKind)(n:Int),(AV.int k n).one=true)/\(∀b:Bool,(AV.bool b).one=true)/\(∀s:ByteArray,(AV.str s).one=true)/\(∀(k:Nat)(l:List AV),(AV.sl k l).one=true)/\(AV.esl.one=true)/\(AV.nilf.one=true)/\
    (∀(f:FuncId)(c:List AV),(AV.func f c).one=true)/\(∀(b n off:Nat),(AV.ptr b n off).one=true)/\(∀(c:List AV)(off:Nat),(AV.iptr c off).one=true)/\(∀(b n sz off len:Nat),(AV.msl b n sz off len).one=true)/\(∀b:Nat,(AV.yld b).one=true)/\(∀b:Nat,(AV.mp b).one=true)/\(AV.nilp.one=true)/\(∀l:List AV,l.all AV.one=AV.ones l):=
 ⟨rfl,λ_ _=>by simp[AV.ones],λ_ _=>rfl,λ_=>rfl,λ_=>rfl,λ_ _=>rfl,rfl,rfl,λ_ _=>rfl,λ_ _ _=>rfl,λ_ _=>rfl,λ_ _ _ _ _=>rfl,λ_=>rfl,λ_=>rfl,rfl,λ_=>rfl⟩
variable{P:Program}{T:Tm}{H:Hp}{nx:Nat}
theorem yr{dm:DM}{K:SP}{l:List Op2}{d:Option Nat}{z:AV}{cs:List AV}(hd:dm2 dm T (.alloc z)=true)(hc:z.cells=cs)(ho:AV.ones cs=true)(k:ai P dm l (aO T d (.ptr nx cs.length 0)) (av H nx cs) (nx+1) K):ai P dm (⟨d,none,.alloc z⟩::l) T H nx K:=by
 subst hc;refine qY rfl hd ?_ k;simp only[kW,wH];rw[if_pos (show z.flat=true from ho)]
theorem K8{dm:DM}{K:SP}{l:List Op2}{d:Option Nat}{x:Opd}{v:AV}{cs:List AV}(hd:dm2 dm T (.box x)=true)(hx:ov T x=v)(hc:v.cells=cs)(ho:AV.ones cs=true)(k:ai P dm l (aO T d (.ptr nx cs.length 0)) (av H nx cs) (nx+1) K):ai P dm (⟨d,none,.box x⟩::l) T H nx K:=by
 subst hc hx;refine qY rfl hd ?_ k;simp only[kW,wH];rw[if_pos (show(ov T x).flat=true from ho)]
theorem vD{dm:DM}{K:SP}{l:List Op2}{d:Option Nat}{sz:Nat}{p x:Opd}{b n off:Nat}{v:AV}{cs vs:List AV}(hd:dm2 dm T (.st sz p x)=true)(hp:ov T p=.ptr b n off)(hx:ov T x=v)(hb:H b=some cs)(hc:v.cells=vs)(ho:AV.ones vs=true)(hn:cs.length=n)(hl:vs.length=sz)(hf:off+sz<=n)
    (k:ai P dm l (aO T d (.tup [])) (av H b (cI cs off vs)) nx K):ai P dm (⟨d,none,.st sz p x⟩::l) T H nx K:=by
 subst hc hx;refine qY rfl hd ?_ k;simp only[kW,hp,hb];rw[if_pos ⟨hn,ho,hl,hf⟩]
theorem nj{dm:DM}{K:SP}{l:List Op2}{d:Option Nat}{sz bytes:Nat}{z:List AV}{x y:Opd}{k1 k2:IntKind}{n m:Int}(hd:dm2 dm T (.mks sz bytes z x y)=true)(hx:ov T x=.int k1 n)(hy:ov T y=.int k2 m)(h0:0<=n)(h1:n<=m)(h2:m<=9223372036854775807)(h3:bytes*m<=281474976710656)
    (k:ai P dm l (aO T d (.msl nx (m.toNat*sz) sz 0 n.toNat)) (av H nx (bd (.agg z) m.toNat)) (nx+1) K):ai P dm (⟨d,none,.mks sz bytes z x y⟩::l) T H nx K:=by
 refine qY rfl hd ?_ k;simp only[kW,hx,hy];rw[if_pos ⟨h0,h1,h2,h3⟩]
theorem KX{dm:DM}{K:SP}{l:List Op2}{d:Option Nat}{sz len:Nat}{z:List AV}{parts:List (Nat×Nat×Opd)}{pv:List (Nat×Nat×AV)}{cs:List AV}(hd:dm2 dm T (.bldS sz len z parts)=true)(hl:len≠0)(hp:parts.map (λp=>(p.1,p.2.1,ov T p.2.2))=pv)(hc:fq (bd (.agg z) len) pv=some cs)
    (k:ai P dm l (aO T d (.msl nx cs.length sz 0 len)) (av H nx cs) (nx+1) K):ai P dm (⟨d,none,.bldS sz len z parts⟩::l) T H nx K:=by
 refine qY rfl hd ?_ k;simp only[kW,hl,if_false,hp,hc]
theorem GI{dm:DM}{K:SP}{l:List Op2}{d:Option Nat}{sz:Nat}{z:List AV}(hd:dm2 dm T (.bldS sz 0 z [])=true)(k:ai P dm l (aO T d .esl) H nx K):ai P dm (⟨d,none,.bldS sz 0 z []⟩::l) T H nx K:=by
 refine qY rfl hd ?_ k;simp[kW]
theorem mO{dm:DM}{K:SP}{l:List Op2}{d:Option Nat}{sz bytes n:Nat}{s x:Opd}{v:AV}{new:List AV}(hd:dm2 dm T (.app sz bytes s x)=true)(hs:ov T s=.esl)(hx:ov T x=v)(hsrc:ee sz H v=some (n,new))(ho:AV.ones new=true)(h1:n*bytes<=140737488355328)(h2:n<=9223372036854775807)
    (k:ai P dm l (aO T d (.msl nx (n*sz) sz 0 n)) (av H nx new) (nx+1) K):ai P dm (⟨d,none,.app sz bytes s x⟩::l) T H nx K:=by
 subst hx;refine qY rfl hd ?_ k;simp only[kW,Kd,hs,hsrc];rw[if_pos (show new.all AV.one=true from ho),if_pos ⟨h1,h2⟩]
theorem H8{dm:DM}{K:SP}{l:List Op2}{d:Option Nat}{sz bytes n:Nat}{s x:Opd}{v:AV}{new cs:List AV}{b m len:Nat}(hd:dm2 dm T (.app sz bytes s x)=true)(hs:ov T s=.msl b m sz 0 len)(hb:H b=some cs)(hx:ov T x=v)(hsrc:ee sz H v=some (n,new))(ho:AV.ones new=true)(hm:cs.length=m)(hl:m=len*sz)
    (h1:(len+n)*bytes<=140737488355328) (h2:len+n<=9223372036854775807)
    (k:ai P dm l (aO T d (.msl b ((len+n)*sz) sz 0 (len+n))) (av H b (cs++new)) nx K):ai P dm (⟨d,none,.app sz bytes s x⟩::l) T H nx K:=by
 subst hx;refine qY rfl hd ?_ k;simp only[kW,Kd,hs,hsrc,hb];rw[if_pos (show new.all AV.one=true from ho),if_pos ⟨hm,trivial⟩,if_pos ⟨trivial,hl,h1,h2⟩]
theorem Hm{dm:DM}{K:SP}{l:List Op2}{d:Option Nat}{sz bytes n:Nat}{s x:Opd}{v:AV}{new cs:List AV}{b m off len:Nat}(hd:dm2 dm T (.app sz bytes s x)=true)(hs:ov T s=.msl b m sz off len)(hb:H b=some cs)(hx:ov T x=v)(hsrc:ee sz H v=some (n,new))(ho:AV.ones new=true)(hm:cs.length=m)(hl:off=0->m≠len*sz)(h0:0<m)(h1:off+(len+n)*sz<=m)
    (k:ai P dm l (aO T d (.msl b m sz off (len+n))) (av H b (cI cs (off+len*sz) new)) nx K):ai P dm (⟨d,none,.app sz bytes s x⟩::l) T H nx K:=by
 subst hx;refine qY rfl hd ?_ k;simp only[kW,Kd,hs,hsrc,hb];rw[if_pos (show new.all AV.one=true from ho),if_pos ⟨hm,trivial⟩,if_neg (λh=>hl h.1 h.2.1),if_pos ⟨h1,h0⟩]
theorem ki{sz:Nat}{l:List AV}:ee sz H (.sl sz l)=some (l.length,l.flatMap AV.cells):=by simp[ee]
theorem qD{sz:Nat}:ee sz H .esl=some (0,[]):=rfl
theorem fZ{sz b n off len:Nat}{cs:List AV}(h:H b=some cs)(hn:cs.length=n)(hf:off+len*sz<=n):ee sz H (.msl b n sz off len)=some (len,(cs.drop off).take (len*sz)):=by
 simp only[ee];split
 ·rename_i h0;subst h0;simp
 ·simp only[h,hn,true_and,hf,if_true]
theorem SR:(∀(H:Hp)(b n off:Nat),rd1 H (.ptr b n off)=match H b with|some cs=>if cs.length=n then cs[off]? else none|none=>none)/\
    (∀(H:Hp)(k b n off:Nat),rd H k (.ptr b n off)=match H b with|some cs=>if cs.length=n/\off+k<=n then some ((cs.drop off).take k) else none|none=>none)/\
    (∀(H:Hp)(cs:List AV)(off:Nat),rd1 H (.iptr cs off)=cs[off]?)/\(∀(H:Hp)(cs:List AV)(off k:Nat),rd H k (.iptr cs off)=if off+k<=cs.length then some ((cs.drop off).take k) else none)/\
    (∀(l:List AV)(i:Nat),jW (.tup l) i=l[i]?)/\(∀(l:List AV)(f:List AV->Option AV),eD (.agg l) f=f l)/\(∀(k:IntKind)(n:Int)(f:Int->Option AV),nz (.int k n) f=f n)/\
    (∀(cs:List AV),fq cs []=some cs)/\
    (∀(cs:List AV)(off sz:Nat)(x:AV)(r:List (Nat×Nat×AV)),fq cs ((off,sz,x)::r)=if AV.ones x.cells=true/\x.cells.length=sz/\off+sz<=cs.length then fq (cI cs off x.cells) r else none)/\
    (∀(b n sz off len:Nat),eW (.msl b n sz off len)=some (.int .i64 len))/\(eW .esl=some (.int .i64 0))/\(∀(sz:Nat)(l:List AV),eW (.sl sz l)=some (.int .i64 l.length))/\
    (∀(z:AV),bd z 0=[])/\(∀(z:AV)(n:Nat),bd z (n+1)=z.cells++bd z n):=
 ⟨λ_ _ _ _=>rfl,λ_ _ _ _ _=>rfl,λ_ _ _=>rfl,λ_ _ _ _=>rfl,λl i=>by cases l<;>rfl,λ_ _=>rfl,λ_ _ _=>rfl,λ_=>rfl,λ_ _ _ _ _=>rfl,λ_ _ _ _ _=>rfl,rfl,λ_ _=>rfl,λ_=>rfl,λz n=>by simp[bd,List.replicate_succ]⟩
end Go.Abs
namespace Go.Abs
theorem dE{H:Hp}{a b:Bool}(h:a=b):Snap H (.bool a) (.bool b):=by subst h;exact .bool _
theorem aC{H:Hp}{k:IntKind}{a b:Int}(h:a=b):Snap H (.int k a) (.int k b):=by subst h;exact .int _ _
theorem bE{H:Hp}{l m:List AV}(h:aK H l m):Snap H (.tup l) (.tup m):=.tup l m h.1 h.2
theorem eh{H:Hp}{l m:List AV}(h:aK H l m):Snap H (.agg l) (.agg m):=.agg l m h.1 h.2
theorem ac{H:Hp}{x y:AV}{xs ys:List AV}(h:Snap H x y)(hs:aK H xs ys):aK H (x::xs) (y::ys):=aK.cons h hs
theorem Dat.snap{H:Hp}{x:AV}(h:Dat x):Snap H x x:=h H
theorem bq{P:Program}{b:C2}{T:Tm}{H:Hp}{nx:Nat}{K:CP}{X:Type}(L:X->List (Nat×AV))(I:X->Hp->Nat->Prop)(μ:X->Nat)(x0:X)(h0:I x0 H nx)(hT:agr T (L x0))
    (step:∀x H nx,I x H nx->aF P b (tl (L x)) H nx λe T H' nx'=>aN e (∃y,μ y<μ x/\I y H' nx'/\agr T (L y)) (K e T H' nx')):aY (aF P b) T H nx K:=by
 refine GH (X:=X×Hp×Nat) (λx=>tl (L x.1)) (λx=>x.2.1) (λx=>x.2.2) (λx=>I x.1 x.2.1 x.2.2) (λx=>μ x.1) ⟨(x0,H,nx),h0,_,Gh.weak (vM hT)⟩ (λx hx=>eO b (step x.1 x.2.1 x.2.2 hx) (λe T H' nx' h=>?_));cases e with
 |normal=>
  obtain⟨y,h1,h2,h3⟩:=h;exact⟨(y,H',nx'),h2,h1,_,Gh.weak (vM h3)⟩
 |exit i=>exact h
 |ret=>exact h
def d6(Hf:Hp)(cs cs':List AV):Prop:=cs'.length=cs.length/\∀(i:Nat)(x x':AV),cs[i]?=some x->cs'[i]?=some x'->x'=x\/Snap Hf x x'
theorem d6.refl(Hf:Hp)(cs:List AV):d6 Hf cs cs:=⟨rfl,λi x x' h1 h2=>.inl (by rw[h1] at h2;cases h2;rfl)⟩
theorem d6.snoc{Hf:Hp}{cs:List AV}{x x':AV}(h:Snap Hf x x'):d6 Hf (cs++[x]) (cs++[x']):=by
 refine⟨by simp,λi y y' h1 h2=>?_⟩;by_cases hi:i<cs.length
 ·rw[gG hi] at h1 h2;rw[h1] at h2;cases h2;exact .inl rfl
 ·rw[iA (by omega)] at h1 h2;cases hj:i-cs.length with
  |zero=>rw[hj] at h1 h2;simp at h1 h2;subst h1 h2;exact .inr h
  |succ j=>rw[hj] at h1;simp at h1
structure Fz(Hf H H':Hp):Prop where
 sub:∀b cs,Hf b=some cs->H b=some cs
 to:∀b cs',H' b=some cs'->∃cs,H b=some cs/\Hf b=none/\d6 Hf cs cs'
def Aa(Hf:Hp)(T:Tm):List (Nat×AV)->Prop
 |[]=>True
 |(d,v)::l=>(T d=v\/Snap Hf (T d) v)/\Aa Hf T l
theorem Dq{Hf:Hp}{T:Tm}:∀{l:List (Nat×AV)},Aa Hf T l->∀t,tl l t=.undef\/tl l t=T t\/Snap Hf (T t) (tl l t)
 |[],_,t=>.inl rfl
 |(d,v)::l,h,t=>by
  simp only[tl];split
  ·rename_i e;subst e;rcases h.1 with h1|h1
   ·exact .inr (.inl h1.symm)
   ·exact .inr (.inr h1)
  ·exact Dq h.2 t
theorem Fz.gh{Hf H H':Hp}{T:Tm}{l:List (Nat×AV)}{nx:Nat}(h:Fz Hf H H')(ha:Aa Hf T l):Gh T H nx (tl l) H' nx Hf:=
 ⟨h.sub,bc _,fun b cs' hb=>by
  obtain⟨cs,h1,h2,h3,h4⟩:=h.to b cs' hb;exact .inl ⟨cs,h1,h2,h3,λi x x' hx hx'=>(h4 i x x' hx hx').imp id .inl⟩,λt=>by
  rcases Dq ha t with h1|h1|h1
  ·exact .inl h1
  ·exact .inr (.inl h1)
  ·exact .inr (.inr (.inl h1))⟩
def only(b:Nat)(cs:List AV):Hp:=λx=>if x=b then some cs else none
theorem ez{b:Nat}{cs:List AV}:only b cs b=some cs:=by simp[only]
theorem rh{P:Program}{T:Tm}{H:Hp}{nx:Nat}{K:CP}{l:List Op2}(Hf H':Hp)(L:List (Nat×AV))(hf:Fz Hf H H')(ha:Aa Hf T L)(h:ai P .text l (tl L) H' nx λT H nx=>K .normal T H nx):aF P (.ops 0 l) T H nx K:=⟨_,H',nx,Hf,hf.gh ha,h⟩
theorem Fz.one{H:Hp}{b:Nat}{cs:List AV}(hb:H b=some cs):Fz (only b cs) H (dv H b):=
 ⟨fun x c h=>by unfold only at h; split at h <;> cases h; subst_vars; exact hb,fun x c h=>by
  have:=jx h;exact⟨c,this.2,by simp[only,this.1],d6.refl _ _⟩⟩
theorem Fz.all{H:Hp}:Fz H H aP:=⟨λ_ _ h=>h,λ_ _ h=>(by cases h)⟩
theorem eT{T:Tm}{Hf:Hp}:∀{l:List (Nat×AV)},agr T l->Aa Hf T l
 |[],_=>trivial
 |(_,_)::_,h=>⟨.inl h.1,eT h.2⟩
theorem pM{P:Program}{b:C2}{T:Tm}{H:Hp}{nx:Nat}{K:CP}{X:Type}(L:X->List (Nat×AV))(I:X->Hp->Nat->Prop)(μ:X->Nat)(x0:X)(h0:∃Hf H',Fz Hf H H'/\I x0 H' nx/\Aa Hf T (L x0))
    (step:∀x H nx,I x H nx->aF P b (tl (L x)) H nx λe T H' nx'=>aN e (∃y,μ y<μ x/\∃Hf H'',Fz Hf H' H''/\I y H'' nx'/\Aa Hf T (L y)) (K e T H' nx')):aY (aF P b) T H nx K:=by
 obtain⟨Hf,H0,hf,hI,ha⟩:=h0;refine GH (X:=X×Hp×Nat) (λx=>tl (L x.1)) (λx=>x.2.1) (λx=>x.2.2) (λx=>I x.1 x.2.1 x.2.2) (λx=>μ x.1) ⟨(x0,H0,nx),hI,_,hf.gh ha⟩ (λx hx=>eO b (step x.1 x.2.1 x.2.2 hx) (λe T H' nx' h=>?_));cases e with
 |normal=>
  obtain⟨y,h1,Hf,H'',h2,h3,h4⟩:=h;exact⟨(y,H'',nx'),h3,h1,_,h2.gh h4⟩
 |exit i=>exact h
 |ret=>exact h
theorem Fz.none{H:Hp}:Fz aP H H:=⟨λ_ _ h=>(by cases h),λb cs h=>⟨cs,h,rfl,d6.refl _ _⟩⟩
theorem ie{α:Type}[DecidableEq α](k:MK)(enc:α->AV)(h:∀a b,jV k (enc a) (enc b)=some (decide (a=b)))(v:α):∀ks:List α,ef k (enc v) (ks.map enc)=some (if v∈ks then some (ks.idxOf v) else none)
 |[]=>rfl
 |x::l=>by
  simp only[f9,ef,h];by_cases e:v=x
  ·subst e;simp
  ·have e':x≠v:=λh=>e h.symm;simp only[e,decide_false,ie k enc h v l,ny,gR,false_or];by_cases hm:v∈l
   ·simp only[hm,if_true,ny];simp[List.idxOf_cons,beq_eq_false_iff_ne.2 e']
   ·simp[hm]
theorem EB(k:IntKind)(a b:Int):jV (.one .int) (.int k a) (.int k b)=some (decide (a=b)):=by
 simp only[jV,lw,if_true]
 congr 1
theorem Ef(v:Int)(ks:List Int):ef (.one .int) (.int .i64 v) (ks.map (AV.int .i64))=some (if v∈ks then some (ks.idxOf v) else none):=ie _ (AV.int .i64) (EB .i64) v ks
theorem xG{α:Type}{l:List α}{n k:Nat}{d:α}(h:k<n):(l.take n).getD k d=l.getD k d:=by
 simp only[List.getD,jl,if_pos h]
theorem gZ{α:Type}[Inhabited α]{l:List α}{k:Nat}(h:k<l.length):l.take (k+1)=l.take k++[l.getD k default]:=by
 rw[List.take_add_one];simp[List.getD,h]
theorem fv{α:Type}[Inhabited α]{l:List α}{k:Nat}(h:k<l.length):l.drop k=l.getD k default::l.drop (k+1):=by
 rw[List.drop_eq_getElem_cons h];simp[List.getD,h]
theorem ae{H:Hp}{b:Nat}{cs:List AV}:av H b cs b=some cs:=if_pos rfl
theorem iT{H:Hp}{f:FuncId}{l m:List AV}(h:aK H l m):Snap H (.func f l) (.func f m):=.func f l m h.1 h.2
theorem fU{H:Hp}{b n off:Nat}{cs cs':List AV}(hb:H b=some cs)(hn:cs.length=n)(h:aK H cs cs'):Snap H (.ptr b n off) (.iptr cs' off):=.ptr b n off cs cs' hb hn (by rw[h.1,hn]) h.2
theorem ru{H:Hp}{cs cs':List AV}{off:Nat}(h:aK H cs cs'):Snap H (.iptr cs off) (.iptr cs' off):=.iptr cs cs' off h.1 h.2
theorem Dat.iptr{cs:List AV}{off:Nat}(h:∀x∈cs,Dat x):Dat (.iptr cs off):=λH=>.iptr cs cs off rfl (λi a c ha hc=>by rw[ha] at hc;cases hc;exact h a (ir ha) H)
theorem DatL.nil:∀x∈([]:List AV),Dat x:=by simp
theorem DatL.cons{x:AV}{l:List AV}(h:Dat x)(hl:∀y∈l,Dat y):∀y∈x::l,Dat y:=λy hy=>(gR.1 hy).elim (λe=>e▸h) (hl y)
theorem oq{H:Hp}{b n off len:Nat}{cs:List AV}{l:List AV}(hb:H b=some cs)(hn:cs.length=n)(hf:off+len<=n)(hl:l.length=len)(hc:∀y∈l,y.cells=[y])(h:∀(i:Nat)(a c:AV),cs[off+i]?=some a->l[i]?=some c->Snap H a c):Snap H (.msl b n 1 off len) (.sl 1 l):=by
 refine .msl b n 1 off len cs l hb hn (by omega) hl (λy hy=>by rw[hc y hy];rfl) (λi j y a c hy hc' ha=>?_);rw[hc y (ir hy)] at hc';cases j with
 |zero=>simp at hc';subst hc';exact h i a y (by simpa using ha) hy
 |succ j=>simp at hc'
theorem oU{H:Hp}{b n len:Nat}{l:List Int}(hb:H b=some (l.map (AV.int .i64)))(hn:n=len)(hl:l.length=len):Snap H (.msl b n 1 0 len) (aq l):=by
 subst hn;refine oq hb (by simp[hl]) (by omega) (by simp[hl]) (λy hy=>by simp at hy;obtain⟨n,_,rfl⟩:=hy;rfl) (λi a c ha hc=>?_);rw[dt] at ha;rw[ha] at hc;cases hc;simp at ha;obtain⟨n,_,rfl⟩:=ha;exact .int _ _
theorem di{H:Hp}:∀{l:List AV},(∀x∈l,Dat x)->aK H l l
 |[],_=>aK.nil
 |x::l,h=>aK.cons (h x (by simp) H) (di (λy hy=>h y (by simp[hy])))
theorem ao{α:Type}[Inhabited α]{l:List α}{k:Nat}(h:k<l.length):l.getD k default∈l:=by
 have:l.getD k default=l[k]:=by simp[List.getD,h]
 rw[this];exact mq h
theorem jz{H:Hp}{l:List Int}:ee 1 H (aq l)=some (l.length,l.map (AV.int .i64)):=by
 unfold aq;rw[ki]
 congr 2
 ·simp
 ·induction l with
  |nil=>rfl
  |cons a l ih=>simp only[f9,lj,ih];rfl
theorem jS{l:List Int}:AV.ones (l.map (AV.int .i64))=true:=by
 simp[AV.ones,AV.one]
theorem lW{l:List (List Int)}:AV.ones (l.map aq)=true:=by
 simp[AV.ones,aq,AV.one]
theorem mQ{H:Hp}{l:List (List Int)}:ee 1 H (ay l)=some (l.length,l.map aq):=by
 unfold ay;rw[ki]
 congr 2
 ·simp
 ·induction l with
  |nil=>rfl
  |cons a l ih=>simp only[f9,lj,ih];rfl
theorem mR{l:List Int}:jL (aq l)=some l.length:=by simp[jL,aq]
theorem fA{l:List Int}:(aq l).one=true:=rfl
theorem eB{l:List (List Int)}:(ay l).one=true:=rfl
theorem Ep{H:Hp}{b n len:Nat}{l:List AV}(hb:H b=some l)(hn:n=len)(hl:l.length=len)(hc:∀y∈l,y.cells=[y]/\Dat y):Snap H (.msl b n 1 0 len) (.sl 1 l):=by
 subst hn;refine oq hb hl (by omega) hl (λy hy=>(hc y hy).1) (λi a c ha hc'=>?_);rw[dt] at ha;rw[ha] at hc';cases hc';exact(hc a (ir ha)).2 H
theorem Eo{H:Hp}{b n len:Nat}{l:List (List Int)}(hb:H b=some (l.map aq))(hn:n=len)(hl:l.length=len):Snap H (.msl b n 1 0 len) (ay l):=
 Ep hb hn (by simp[hl]) (λy hy=>by simp at hy;obtain⟨n,_,rfl⟩:=hy;exact⟨rfl,bP n⟩)
theorem r_0{T:Tm}{H:Hp}{K:AV->Prop}(h:K (.tup [])):bm T H K []:=h
theorem getElem?_map_lt{α:Type}[Inhabited α]{f:α->AV}{l:List α}{k:Nat}(h:k<l.length):(l.map f)[k]?=some (f (l.getD k default)):=by
 simp[List.getD,h]
theorem lh{sz b m off len:Nat}{k:IntKind}{n:Int}:eo sz (.msl b m sz off len) (.int k n)=if 0<=n/\n<len then some (.ptr b m (off+n.toNat*sz)) else none:=by simp[eo]
theorem kF{P:Program}{T:Tm}{H:Hp}{nx:Nat}{K:CP}{g:Opd}{ps:List Nat}{a b:C2}{f:FuncId}{caps:List AV}(y y1:Nat)(hy:nx=y)(hy1:y+1=y1)(hg:ov T g=.func f caps)
    (h:∀ (c0:AV) (cj:AEx→AV),(∀ (args:List AV) (H':Hp) (nx':Nat) (K':AV→Hp→Nat→Prop),H' y=some [c0]→args.length=ps.length →
        aF P a (mE T ps args) H' nx' (λe T2 H2 nx2=>aN e (H2 y=some [c0]/\aF P b T2 (dv H2 y) nx2 λe T3 H3 nx3=>aN e (K' (.bool true) (av H3 y [c0]) nx3) (K' (.bool false) (av H3 y [cj e]) nx3)) False)->
        Yl P y args H' nx' K')->
     Fn P f (.yld y::caps) (av H y [c0]) y1 λ_ H' nx'=>(H' y=some [c0]/\K .normal T (dv H' y) nx')\/ ∃e,e≠.normal/\H' y=some [cj e]/\K e T (dv H' y) nx'):aF P (.rangeF g ps a b) T H nx K:=by
 subst hy hy1;exact Iu hg h
theorem sA{H:Hp}{b n len:Nat}{l:List Int}(hb:H b=some (l.map (AV.int .i64)))(hn:n=len)(hl:l.length=len):SnapF H (.msl b n 1 0 len) (aq l):=by
 subst hn;refine .msl b n 1 0 n _ _ hb (by simp[hl]) (by omega) (by simp[hl]) (λy hy=>by simp at hy;obtain⟨n,_,rfl⟩:=hy;rfl) (λi j y a c hy hc ha=>?_);rw[ko] at hy;cases hi:l[i]? with
 |none=>rw[hi] at hy;cases hy
 |some q=>
  rw[hi] at hy;cases hy;cases j with
  |zero=>
   simp only[AV.cells,tG,mF] at hc;subst hc;simp[hi] at ha;subst ha;exact .int _ _
  |succ j=>simp[AV.cells] at hc
theorem Ex{H:Hp}{l:List Int}(h:l.length=0):SnapF H .esl (aq l):=by
 have:l=[]:=fP.1 h;subst this;exact .eslsl 1
end Go.Abs
namespace Go.Abs
inductive Row(H:Hp)(sz:Nat):AV->List AV->Prop
 |nil:Row H sz .esl []
 |box (b len:Nat) (cs:List AV) (hb:H b=some cs) (hl:cs.length=len*sz):Row H sz (.msl b (len*sz) sz 0 len) cs
def bk:AV->Option Nat
 |.msl b _ _ _ _=>some b
 |_=>none
theorem Row.len{H:Hp}{sz:Nat}{s:AV}{cs:List AV}(h:Row H sz s cs):∃n:Nat,eW s=some (.int .i64 n)/\cs.length=n*sz:=by
 cases h with
 |nil=>exact⟨0,rfl,by simp⟩
 |box b len cs hb hl=>exact⟨len,rfl,hl⟩
theorem Row.lenS{H:Hp}{sz n:Nat}{s:AV}{cs:List AV}(h:Row H sz s cs)(hl:cs.length=n*sz)(hz:0<sz):eW s=some (.int .i64 n):=by
 obtain⟨m,h1,h2⟩:=h.len;have:m=n:=Nat.eq_of_mul_eq_mul_right hz (by omega);subst this;exact h1
theorem Row.same{H H':Hp}{sz:Nat}{s:AV}{cs:List AV}(h:Row H sz s cs)(hs:∀b,bk s=some b->H' b=H b):Row H' sz s cs:=by
 cases h with
 |nil=>exact .nil
 |box b len cs hb hl=>exact .box b len cs ((hs b rfl).trans hb) hl
theorem Row.one{H:Hp}{sz:Nat}{s:AV}{cs:List AV}(h:Row H sz s cs):s.one=true/\s.cells=[s]:=by
 cases h<;>exact⟨rfl,rfl⟩
theorem ab{H:Hp}{b x:Nat}{cs:List AV}(h:x≠b):av H b cs x=H x:=if_neg h
theorem bQ{H:Hp}{b x:Nat}(h:x≠b):dv H b x=H x:=if_neg h
variable{P:Program}{T:Tm}{H:Hp}{nx:Nat}
theorem dY{dm:DM}{K:SP}{l:List Op2}{d:Option Nat}{sz bytes k:Nat}{s x:Opd}{sv xv:AV}{cs new:List AV}(hd:dm2 dm T (.app sz bytes s x)=true)(hs:ov T s=sv)(hrow:Row H sz sv cs)(hx:ov T x=xv)(hsrc:ee sz H xv=some (k,new))(ho:AV.ones new=true)(hk:new.length=k*sz)
    (hz:0<sz) (h1:(cs.length+k)*bytes<=140737488355328) (h2:cs.length+k<=9223372036854775807)
    (next:∀(sv':AV)(H':Hp)(nx':Nat),Row H' sz sv' (cs++new)->nx<=nx'->nx'<=nx+1->(∀i,i<nx->bk sv≠some i->H' i=H i)->(∀b,bk sv'=some b->bk sv=some b\/b=nx/\nx'=nx+1)->ai P dm l (aO T d sv') H' nx' K):
    ai P dm (⟨d,none,.app sz bytes s x⟩::l) T H nx K:=by
 cases hrow with
 |nil=>
  refine mO hd hs hx hsrc ho (by simpa using h1) (by simpa using h2) ?_;exact next _ _ _ (.box nx k new ae hk) (Nat.le_succ _) (bc _) (λi hi _=>ab (by omega)) (λb hb=>by cases hb;exact .inr ⟨rfl,rfl⟩)
 |box b len cs hb hl=>
  have hle:len<=cs.length:=by rw[hl];exact Nat.le_mul_of_pos_right _ hz
  have hb1:(len+k)*bytes<=140737488355328:=eK (jv _ (by omega)) h1;refine H8 hd hs hb hx hsrc ho hl rfl hb1 (by omega) ?_;exact next _ _ _ (.box b (len+k) (cs++new) ae (by rw[cP,hl,hk,d8])) (bc _) (Nat.le_succ _) (λi hi hne=>ab (λe=>hne (by rw[e];rfl))) (λb' hb'=>by cases hb';exact .inl rfl)
theorem Row.snap{H:Hp}{sz:Nat}{s:AV}{elems:List AV}(h:Row H sz s (elems.flatMap AV.cells))(hc:∀y∈elems,y.cells.length=sz)(hz:0<sz)(hd:∀y∈elems,∀c∈y.cells,Dat c):Snap H s (.sl sz elems):=by
 obtain⟨f1,f2⟩:=eV elems hc;generalize he:elems.flatMap AV.cells=cs at h;cases h with
 |nil=>
  have:elems.length*sz=0:=by rw[<-f1,he];rfl
  have:elems=[]:=fP.1 (by
   rcases Nat.mul_eq_zero.1 this with h|h
   ·exact h
   ·omega)
  subst this;exact .eslsl sz
 |box b len cs hb hl=>
  have hlen:elems.length=len:=Nat.eq_of_mul_eq_mul_right hz (by rw[<-f1,he,hl]);refine .msl b (len*sz) sz 0 len cs elems hb hl (by omega) hlen hc (λi j y a c hy hc' ha=>?_);have hj:j<sz:=by rw[<-hc y (ir hy)];exact(bH.1 hc').1
  have key:∀(l:List AV)(i j:Nat)(y c:AV),(∀z∈l,z.cells.length=sz)->l[i]?=some y->y.cells[j]?=some c->j<sz->(l.flatMap AV.cells)[i*sz+j]?=some c:=by
   intro l
   induction l with
   |nil=>intro i j y c _ h;simp at h
   |cons x l ih=>
    intro i j y c hl hy hc hj;rw[lj];cases i with
    |zero=>
     simp at hy;subst hy;rw[nA,dt,gG (by rw[hl x (by simp)];exact hj)];exact hc
    |succ i=>
     rw[iA (by rw[hl x (by simp),d8];omega),hl x (by simp)];have:=ih i j y c (λz hz=>hl z (by simp[hz])) (by simpa using hy) hc hj;rw[<-this];congr 1;rw[d8];omega
  have:=key elems i j y c hc hy hc' hj;rw[he,<-dt (i*sz)] at this;rw[this] at ha;cases ha;exact hd y (ir hy) a (ir hc') H
theorem jF{α:Type}{f:α->AV}(h:∀x,(f x).cells=[f x])(l:List α):(l.map f).flatMap AV.cells=l.map f:=by
 induction l with
 |nil=>rfl
 |cons a l ih=>rw[f9,lj,ih,h];rfl
theorem Row.snapV{H:Hp}{s:AV}{l:List (List Int)}(h:Row H 1 s (l.map aq)):Snap H s (ay l):=by
 refine Row.snap (elems:=l.map aq) (by rw[jF (λ_=>rfl)];exact h) (λy hy=>?_) jf (λy hy c hc=>?_)
 ·simp at hy;obtain⟨n,_,rfl⟩:=hy;rfl
 ·simp at hy;obtain⟨n,_,rfl⟩:=hy;simp only[Cn,gH] at hc;subst hc;exact bP n
theorem Row.snapI{H:Hp}{s:AV}{l:List Int}(h:Row H 1 s (l.map (AV.int .i64))):Snap H s (aq l):=by
 refine Row.snap (elems:=l.map (AV.int .i64)) (by rw[jF (λ_=>rfl)];exact h) (λy hy=>?_) jf (λy hy c hc=>?_)
 ·simp at hy;obtain⟨n,_,rfl⟩:=hy;rfl
 ·simp at hy;obtain⟨n,_,rfl⟩:=hy;simp only[FG,gH] at hc;subst hc;exact .int
theorem eN{K:CP}{x y:C2}(M:SP)(h1:aF P x T H nx λe T H nx=>aN e (M T H nx) (K e T H nx))(h2:∀T H nx,M T H nx->aF P y T H nx K):aF P (.seq x y) T H nx K:=by
 refine nM (eO x h1 (λe T H nx h=>?_));cases e with
 |normal=>exact h2 T H nx h
 |exit i=>exact h
 |ret=>exact h
end Go.Abs
namespace Go.Abs
theorem QF:(∀l:List Int,(aq l).cells=[aq l])/\(∀l:List (List Int),(ay l).cells=[ay l])/\(∀x:Nat,aP x=none)/\
    (∀(α β:Type)(f:α->β)(a:α)(l:List α),(a::l).map f=f a::l.map f)/\(∀(α β:Type)(f:α->β),([]:List α).map f=[])/\(∀(α β:Type)(f:α->β)(a:α),(some a).map f=some (f a))/\(∀(α β:Type)(f:α->β),(none:Option α).map f=none)/\
    (∀n:Nat,0+n=n)/\(∀n:Nat,n+0=n)/\(∀p:Prop,(p/\p)=p)/\(∀p:Prop,(p/\True)=p)/\(∀p:Prop,(True/\p)=p)/\((!true)=false)/\((!false)=true)/\
    (∀(α:Type)(a:α)(l m:List α),(a::l)++m=a::(l++m))/\(∀(α:Type)(l:List α),[]++l=l)/\(∀(α:Type)(l:List α),l++[]=l):=
 ⟨λ_=>rfl,λ_=>rfl,λ_=>rfl,λ_ _ _ _ _=>rfl,λ_ _ _=>rfl,λ_ _ _ _=>rfl,λ_ _ _=>rfl,dt,uM,and_self,and_true,true_and,rfl,rfl,λ_ _ _ _=>rfl,λ_ _=>rfl,λ_ l=>jd l⟩
theorem zz(p:Prop):(p/\p)=p:=and_self p
theorem bg:(∀(H:Hp)(b x:Nat)(cs:List AV),av H b cs x=if x=b then some cs else H x)/\(∀(H:Hp)(b x:Nat),dv H b x=if x=b then none else H x):=⟨λ_ _ _ _=>rfl,λ_ _ _=>rfl⟩
theorem cQ:(∀(H:Hp)(b:Nat)(cs:List AV),av H b cs b=some cs)/\(∀(H:Hp)(b x:Nat)(cs:List AV),x≠b->av H b cs x=H x)/\(∀(H:Hp)(b:Nat),dv H b b=none)/\(∀(H:Hp)(b x:Nat),x≠b->dv H b x=H x)/\(∀a b c:Nat,a+b+c=a+(b+c)):=
 ⟨λ_ _ _=>ae,λ_ _ _ _ h=>ab h,λ_ _=>pq,λ_ _ _ h=>bQ h,kw⟩
theorem ZA:((∀ l:List Int,(aq l).cells=[aq l])∧(∀ l:List (List Int),(ay l).cells=[ay l])∧(∀ x:Nat,aP x=none) ∧
    (∀(α β:Type)(f:α->β)(a:α)(l:List α),(a::l).map f=f a::l.map f)/\(∀(α β:Type)(f:α->β),([]:List α).map f=[])/\(∀(α β:Type)(f:α->β)(a:α),(some a).map f=some (f a))/\(∀(α β:Type)(f:α->β),(none:Option α).map f=none)/\
    (∀n:Nat,0+n=n)/\(∀n:Nat,n+0=n)/\(∀p:Prop,(p/\p)=p)/\(∀p:Prop,(p/\True)=p)/\(∀p:Prop,(True/\p)=p)/\((!true)=false)/\((!false)=true)/\
    (∀(α:Type)(a:α)(l m:List α),(a::l)++m=a::(l++m))/\(∀(α:Type)(l:List α),[]++l=l)/\(∀(α:Type)(l:List α),l++[]=l))/\
    ((∀ (T:Tm) (n:Nat),ov T (.t n)=T n)∧(∀ (T:Tm) (v:AV),ov T (.c v)=v)∧(∀ (T:Tm) (d t:Nat) (v:AV),upd T d v t=if t=d then v else T t)∧(∀ (T:Tm) (d:Nat) (v:AV),aO T (some d) v=upd T d v) ∧
    (∀(T:Tm)(v:AV),aO T none v=T)/\(∀(x:AV)(l:List AV),T0 (x::l) 0=x)/\(∀(x:AV)(l:List AV)(n:Nat),T0 (x::l) (n+1)=T0 l n)/\(∀n:Nat,T0 [] n=.undef)/\
    (∀(d t:Nat)(v:AV)(l:List (Nat×AV)),tl ((d,v)::l) t=if t=d then v else tl l t)/\(∀t:Nat,tl [] t=.undef)/\
    (∀(T:Tm)(t:Nat)(ts:List Nat)(x:AV)(xs:List AV),mE T (t::ts) (x::xs)=mE (upd T t x) ts xs)/\(∀(T:Tm)(xs:List AV),mE T [] xs=T))/\
    ((∀ (T:Tm) (H:Hp) (x:Opd),bv T H (.mov x)=some (ov T x)) ∧
    (∀(T:Tm)(H:Hp)(c a b:Opd),bv T H (.pick c a b)=match ov T c with|.bool t=>some (if t=true then ov T a else ov T b)|_=>none)/\
    (∀(T:Tm)(H:Hp)(a:Opd),bv T H (.ld1 a)=rd1 H (ov T a))/\(∀(T:Tm)(H:Hp)(k:Nat)(a:Opd),bv T H (.ldn k a)=(rd H k (ov T a)).map .agg)/\
    (∀(T:Tm)(H:Hp)(op:BinOp)(tb tf:Bool)(x y:Opd),bv T H (.bin op tb tf x y)=bt op tb tf (ov T x) (ov T y))/\
    (∀(T:Tm)(H:Hp)(op:UnOp)(x:Opd),bv T H (.un op x)=aun op (ov T x))/\
    (∀(T:Tm)(H:Hp)(f:FuncId)(caps:List Opd),bv T H (.mkfn f caps)=some (.func f (caps.map (ov T))))/\
    (∀(T:Tm)(H:Hp)(k:Nat)(p:Opd),bv T H (.fa k p)=jm k (ov T p))/\
    (∀(T:Tm)(H:Hp)(sz:Nat)(x i:Opd),bv T H (.ixaS sz x i)=eo sz (ov T x) (ov T i))/\
    (∀(T:Tm)(H:Hp)(x:Opd)(i:Nat),bv T H (.ext x i)=jW (ov T x) i)/\
    (∀(T:Tm)(H:Hp)(x:Opd),bv T H (.lenS x)=eW (ov T x))/\
    (∀(T:Tm)(H:Hp)(z:List AV)(parts:List (Nat×Nat×Opd)),bv T H (.bld z parts)=(fq z (parts.map λp=>(p.1,p.2.1,ov T p.2.2))).map .agg)/\
    (∀(T:Tm)(H:Hp)(x:Opd)(l:List Opd),bv T H (.mx x l)=jN qQ (ov T x) (l.map (ov T)))/\
    (∀(T:Tm)(H:Hp)(x:Opd)(l:List Opd),bv T H (.mn x l)=jN qK (ov T x) (l.map (ov T)))/\
    (∀(T:Tm)(H:Hp)(k:IntKind)(x:Opd),bv T H (.conv k x)=nz (ov T x) λn=>some (.int k (k.wrap n)))/\
    (∀(T:Tm)(H:Hp)(sz:Nat)(x:Opd)(lo hi mx:Option Opd),bv T H (.sls sz x lo hi mx)=nu sz (ov T x) (lo.map (ov T)) (hi.map (ov T)) (mx.map (ov T)))/\
    (∀(T:Tm)(H:Hp)(off:Nat)(x:Opd),bv T H (.part1 off x)=eD (ov T x) λcs=>cs[off]?)/\
    (∀(T:Tm)(H:Hp)(op:BinOp)(ks:List TK)(x y:Opd),bv T H (.binS op ks x y)=eD (ov T x) λxs=>eD (ov T y) λys=>j8 op ks xs ys))/\
    ((∀ (T:Tm) (H:Hp) (n:Nat) (x:Opd) (lo hi:Option Opd),bv T H (.slsA n x lo hi)=xL n (ov T x) (lo.map (ov T)) (hi.map (ov T)) none) ∧
    (∀(T:Tm)(H:Hp)(f:FuncId)(l:List Opd),bv T H (.mkbf f l)=some (.bfn f (l.map (ov T))))/\
    (∀(T:Tm)(H:Hp)(x:Opd),bv T H (.lenStr x)=tV (ov T x))/\
    (∀(T:Tm)(H:Hp)(x i:Opd),bv T H (.ixStr x i)=yo (ov T x) (ov T i))/\
    (∀(T:Tm)(H:Hp)(x:Opd)(lo hi:Option Opd),bv T H (.slstr x lo hi)=yI (ov T x) (lo.map (ov T)) (hi.map (ov T)))/\
    (∀(T:Tm)(H:Hp)(off k:Nat)(x:Opd),bv T H (.partn off k x)=eD (ov T x) λcs=>if off+k<=cs.length then some (.agg ((cs.drop off).take k)) else none)/\
    (∀(T:Tm)(H:Hp)(n:Nat),bv T H (.lenC n)=some (.int .i64 n))/\
    (∀(s:ByteArray),tV (.str s)=some (.int .i64 s.size))/\
    (∀(s:ByteArray)(k:IntKind)(n:Int),yo (.str s) (.int k n)=if 0<=n/\n<s.size then some (.int .u8 (s[n.toNat]?.getD 0).toNat) else none))/\
    ((∀ (k:IntKind) (a b:Int) (tb tf:Bool),bt .lss tb tf (.int k a) (.int k b)=some (.bool (decide (a < b))))∧(∀ (k:IntKind) (a b:Int) (tb tf:Bool),bt .leq tb tf (.int k a) (.int k b)=some (.bool (decide (a ≤ b)))) ∧
    (∀(k:IntKind)(a b:Int)(tb tf:Bool),bt .gtr tb tf (.int k a) (.int k b)=some (.bool (decide (b<a))))/\(∀(k:IntKind)(a b:Int)(tb tf:Bool),bt .geq tb tf (.int k a) (.int k b)=some (.bool (decide (b<=a))))/\
    (∀(k:IntKind)(a b:Int)(tb tf:Bool),bt .eql tb tf (.int k a) (.int k b)=some (.bool (decide (a=b))))/\(∀(k:IntKind)(a b:Int)(tb tf:Bool),bt .neq tb tf (.int k a) (.int k b)=some (.bool (decide (a≠b))))/\
    (∀(k:IntKind)(a b:Int)(tb tf:Bool),bt .add tb tf (.int k a) (.int k b)=some (.int k (k.wrap (a+b))))/\(∀(k:IntKind)(a b:Int)(tb tf:Bool),bt .sub tb tf (.int k a) (.int k b)=some (.int k (k.wrap (a-b))))/\
    (∀(k:IntKind)(a b:Int)(tb tf:Bool),bt .mul tb tf (.int k a) (.int k b)=some (.int k (k.wrap (a*b))))/\
    (∀(a b:Bool)(tf:Bool),bt .eql true tf (.bool a) (.bool b)=some (.bool (a==b)))/\(∀(a b:Bool)(tf:Bool),bt .neq true tf (.bool a) (.bool b)=some (.bool (!(a==b))))/\
    (∀tb:Bool,bt .eql tb true .nilf .nilf=some (.bool true))/\(∀tb:Bool,bt .neq tb true .nilf .nilf=some (.bool false))/\
    (∀(tb:Bool)(f:FuncId)(c:List AV),bt .eql tb true (.func f c) .nilf=some (.bool false))/\(∀(tb:Bool)(f:FuncId)(c:List AV),bt .neq tb true (.func f c) .nilf=some (.bool true))/\
    (∀b:Bool,aun .not (.bool b)=some (.bool (!b)))/\
    (∀(k:IntKind)(a b:Int),qQ (.int k a) (.int k b)=some (.int k (max a b)))/\(∀(k:IntKind)(a b:Int),qK (.int k a) (.int k b)=some (.int k (min a b)))/\
    (∀(f:AV->AV->Option AV)(x:AV),jN f x []=some x)/\(∀(f:AV->AV->Option AV)(x y:AV)(l:List AV),jN f x (y::l)=match f x y with|some z=>jN f z l|none=>none)/\
    (∀(k:Nat)(b n off:Nat),jm k (.ptr b n off)=some (.ptr b n (off+k)))/\(∀(k:Nat)(cs:List AV)(off:Nat),jm k (.iptr cs off)=some (.iptr cs (off+k)))/\
    (∀(cs:List AV)(off:Nat),rd1 aP (.iptr cs off)=cs[off]?))/\
    ((∀ (H:Hp) (b n off:Nat),rd1 H (.ptr b n off)=match H b with | some cs=>if cs.length=n then cs[off]? else none | none=>none) ∧
    (∀(H:Hp)(k b n off:Nat),rd H k (.ptr b n off)=match H b with|some cs=>if cs.length=n/\off+k<=n then some ((cs.drop off).take k) else none|none=>none)/\
    (∀(H:Hp)(cs:List AV)(off:Nat),rd1 H (.iptr cs off)=cs[off]?)/\(∀(H:Hp)(cs:List AV)(off k:Nat),rd H k (.iptr cs off)=if off+k<=cs.length then some ((cs.drop off).take k) else none)/\
    (∀(l:List AV)(i:Nat),jW (.tup l) i=l[i]?)/\(∀(l:List AV)(f:List AV->Option AV),eD (.agg l) f=f l)/\(∀(k:IntKind)(n:Int)(f:Int->Option AV),nz (.int k n) f=f n)/\
    (∀(cs:List AV),fq cs []=some cs)/\
    (∀(cs:List AV)(off sz:Nat)(x:AV)(r:List (Nat×Nat×AV)),fq cs ((off,sz,x)::r)=if AV.ones x.cells=true/\x.cells.length=sz/\off+sz<=cs.length then fq (cI cs off x.cells) r else none)/\
    (∀(b n sz off len:Nat),eW (.msl b n sz off len)=some (.int .i64 len))/\(eW .esl=some (.int .i64 0))/\(∀(sz:Nat)(l:List AV),eW (.sl sz l)=some (.int .i64 l.length))/\
    (∀(z:AV),bd z 0=[])/\(∀(z:AV)(n:Nat),bd z (n+1)=z.cells++bd z n))/\
    ((∀ (a:AV) (l:List AV),(a :: l)[0]?=some a)∧(∀ (a:AV) (l:List AV) (n:Nat),(a :: l)[n + 1]?=l[n]?)∧(∀ (l:List AV),l.drop 0=l)∧(∀ (a:AV) (l:List AV) (n:Nat),(a :: l).drop (n + 1)=l.drop n)∧(∀ n:Nat,([]:List AV).drop n=[]) ∧
    (∀(l:List AV),l.take 0=[])/\(∀(a:AV)(l:List AV)(n:Nat),(a::l).take (n+1)=a::l.take n)/\(∀n:Nat,([]:List AV).take n=[])/\(∀(l:List AV),[]++l=l)/\(∀(l:List AV),l++[]=l)/\(∀(a:AV)(l m:List AV),(a::l)++m=a::(l++m))/\
    (∀(cs:List AV)(off:Nat)(new:List AV),cI cs off new=cs.take off++new++cs.drop (off+new.length))/\(([]:List AV).length=0)/\(∀(a:AV)(l:List AV),(a::l).length=l.length+1)/\
    (∀(k:IntKind)(n:Int),(AV.int k n).cells=[.int k n])/\(∀b:Bool,(AV.bool b).cells=[.bool b])/\(∀s:ByteArray,(AV.str s).cells=[.str s])/\(∀(k:Nat)(l:List AV),(AV.sl k l).cells=[.sl k l])/\(∀l:List AV,(AV.agg l).cells=l)/\(AV.esl.cells=[.esl])/\(AV.nilf.cells=[.nilf])/\
    (∀(f:FuncId)(c:List AV),(AV.func f c).cells=[.func f c])/\(∀(b n off:Nat),(AV.ptr b n off).cells=[.ptr b n off])/\(∀(c:List AV)(off:Nat),(AV.iptr c off).cells=[.iptr c off])/\(∀(b n sz off len:Nat),(AV.msl b n sz off len).cells=[.msl b n sz off len])/\(∀b:Nat,(AV.yld b).cells=[.yld b])/\(∀b:Nat,(AV.mp b).cells=[.mp b])/\(AV.nilp.cells=[.nilp])/\(∀(f:FuncId)(c:List AV),(AV.bfn f c).cells=[.bfn f c]))/\
    ((∀(b:Bool)(x y:AV),(match (AV.bool b:AV) with|.bool t=>some (if t=true then x else y)|_=>none)=some (if b=true then x else y))):=
 ⟨QF,SA,SV,SV2,SN,SR,SL,λ_ _ _=>rfl⟩
theorem ZV:((AV.ones []=true)∧(∀ (a:AV) (l:List AV),AV.ones (a :: l)=(a.one && AV.ones l))∧(∀ (k:IntKind) (n:Int),(AV.int k n).one=true)∧(∀ b:Bool,(AV.bool b).one=true)∧(∀ s:ByteArray,(AV.str s).one=true)∧(∀ (k:Nat) (l:List AV),(AV.sl k l).one=true)∧(AV.esl.one=true)∧(AV.nilf.one=true) ∧
    (∀(f:FuncId)(c:List AV),(AV.func f c).one=true)/\(∀(b n off:Nat),(AV.ptr b n off).one=true)/\(∀(c:List AV)(off:Nat),(AV.iptr c off).one=true)/\(∀(b n sz off len:Nat),(AV.msl b n sz off len).one=true)/\(∀b:Nat,(AV.yld b).one=true)/\(∀b:Nat,(AV.mp b).one=true)/\(AV.nilp.one=true)/\(∀l:List AV,l.all AV.one=AV.ones l))/\(∀l:List Int,(aq l).one=true)/\(∀l:List (List Int),(ay l).one=true)/\(∀b:Bool,(b&&b)=b)/\((false=true)=False)/\(∀a:Int,-9223372036854775808<=a->a<=9223372036854775807->IntKind.wrap .i64 a=a)/\
    (∀(l:List Int)(k:IntKind)(n:Int),eo 1 (aq l) (.int k n)=if 0<=n/\n<l.length then some (.iptr [.int .i64 (l.getD n.toNat default)] 0) else none)/\(∀(l:List (List Int))(k:IntKind)(n:Int),eo 1 (ay l) (.int k n)=if 0<=n/\n<l.length then some (.iptr [aq (l.getD n.toNat default)] 0) else none)/\
    (∀l:List Int,eW (aq l)=some (.int .i64 l.length))/\(∀l:List (List Int),eW (ay l)=some (.int .i64 l.length))/\(∀n:Nat,(n:Int).toNat=n)/\(∀(α β:Type)(f:α->β)(l:List α),(l.map f).length=l.length)/\
    (∀(sz b m off len:Nat)(k:IntKind)(n:Int),eo sz (.msl b m sz off len) (.int k n)=if 0<=n/\n<len then some (.ptr b m (off+n.toNat*sz)) else none)/\(∀(α:Type)(_:Inhabited α)(f:α->AV)(l:List α)(k:Nat),k<l.length->(l.map f)[k]?=some (f (l.getD k default)))/\(∀n:Nat,n*1=n):=
 ⟨SO,λ_=>rfl,λ_=>rfl,Bool.and_self,dX,λ_=>jy,λ_ _ _=>rp,λ_ _ _=>vU,λ_=>CD,λ_=>Ap,c9,λ_ _ _ _=>bi _,λ_ _ _ _ _ _ _=>lh,λ_ _ _ _ _ h=>getElem?_map_lt h,Nat.mul_one⟩
theorem ZG:((∀ (T:Tm) (n:Nat),ov T (.t n)=T n)∧(∀ (T:Tm) (v:AV),ov T (.c v)=v)∧(∀ (T:Tm) (d t:Nat) (v:AV),upd T d v t=if t=d then v else T t)∧(∀ (T:Tm) (d:Nat) (v:AV),aO T (some d) v=upd T d v) ∧
    (∀(T:Tm)(v:AV),aO T none v=T)/\(∀(x:AV)(l:List AV),T0 (x::l) 0=x)/\(∀(x:AV)(l:List AV)(n:Nat),T0 (x::l) (n+1)=T0 l n)/\(∀n:Nat,T0 [] n=.undef)/\
    (∀(d t:Nat)(v:AV)(l:List (Nat×AV)),tl ((d,v)::l) t=if t=d then v else tl l t)/\(∀t:Nat,tl [] t=.undef)/\
    (∀(T:Tm)(t:Nat)(ts:List Nat)(x:AV)(xs:List AV),mE T (t::ts) (x::xs)=mE (upd T t x) ts xs)/\(∀(T:Tm)(xs:List AV),mE T [] xs=T))/\(∀a:Int,-9223372036854775808<=a->a<=9223372036854775807->IntKind.wrap .i64 a=a)/\(∀a b:Nat,((a+b:Nat):Int)=(a:Int)+(b:Int))/\(((1:Nat):Int)=1)/\(((0:Nat):Int)=0)/\(∀p:Prop,(p/\True)=p)/\(∀p:Prop,(p/\p)=p):=
 ⟨SA,λ_=>jy,Int.natCast_add,rfl,rfl,and_true,and_self⟩
theorem ta{P:Program}{b:C2}{T:Tm}{H:Hp}{nx:Nat}{K:CP}(L:Nat->List (Nat×AV))(n:Nat)(p:Nat->Prop)(hT:agr T (L 0))
    (step:∀k,k<=n->(∀i,i<k->p i)->aF P b (tl (L k)) H nx λe T H' nx'=>aN e (k<n/\p k/\agr T (L (k+1))/\H'=H/\nx'=nx) (K e T H' nx')):aY (aF P b) T H nx K:=by
 refine iq (X:=Nat) L (λk=>k<=n/\∀i,i<k->p i) (λk=>n-k) 0 ⟨bo _,λi h=>(by omega)⟩ hT ?_;rintro k ⟨h1,h2⟩;refine eO b (step k h1 h2) (λe T H' nx' h=>?_);cases e with
 |normal=>
  obtain⟨g1,g2,g3,g4,g5⟩:=h;refine⟨k+1,⟨by omega,λi hi=>?_⟩,by omega,g3,g4,g5⟩;rcases lL.1 hi with h|rfl
  ·exact h2 i h
  ·exact g2
 |exit i=>exact h
 |ret=>exact h
theorem ol{α:Type}[Inhabited α]{l:List α}{p:α->Bool}(h:∀i,i<l.length->p (l.getD i default)=true):l.all p=true:=by
 rw[dQ];intro x hx;obtain⟨i,hi,e⟩:=fW hx;have:=h i hi
 rwa [show l.getD i default=x by simp[List.getD,hi,e]] at this
theorem kC{α:Type}[Inhabited α]{l:List α}{p:α->Bool}{k:Nat}(hk:k<l.length)(h:p (l.getD k default)=false):l.all p=false:=by
 rw[Bool.eq_false_iff,ne_eq,dQ];intro hh;have:=hh _ (ao hk);rw[h] at this;cases this
theorem G6{α:Type}[Inhabited α]{l:List α}{p:α->Bool}{k:Nat}(hk:k<l.length)(h:p (l.getD k default)=true):l.any p=true:=qS.2 ⟨_,ao hk,h⟩
theorem FH{α:Type}[Inhabited α]{l:List α}{p:α->Bool}(h:∀i,i<l.length->p (l.getD i default)=false):l.any p=false:=by
 rw[List.any_eq_false];intro x hx;obtain⟨i,hi,e⟩:=fW hx;have:=h i hi;rw[show l.getD i default=x by simp[List.getD,hi,e]] at this;simp[this]
theorem vQ{n:Nat}{p:Nat->Bool}(h:∀i,i<n->p i=true):(List.range n).all p=true:=dQ.2 λi hi=>h i (eM.1 hi)
theorem tH{n k:Nat}{p:Nat->Bool}(hk:k<n)(h:p k=false):(List.range n).all p=false:=by
 rw[Bool.eq_false_iff,ne_eq,dQ];intro hh;have:=hh _ (eM.2 hk);rw[h] at this;cases this
def lf{α:Type}(sz:Nat)(f:α->AV)(l:List α):AV:=.sl sz (l.map f)
section
variable{α:Type}{sz:Nat}{f:α->AV}{l:List α}
theorem nH (h:∀ x ∈ l,∀ c ∈ (f x).cells,Dat c):Dat (lf sz f l):=Dat.sl (fun x hx c hc=>by
 obtain⟨y,hy,rfl⟩:=cE.1 hx;exact h y hy c hc)
theorem xV (hc:∀ x,(f x).cells=[f x]) (h:∀ x,Dat (f x)):Dat (lf sz f l):=nH (fun x _ c hx=>by
 rw[hc,gH] at hx;subst hx;exact h x)
theorem jn[Inhabited α]{k:IntKind}{n:Int}:eo sz (lf sz f l) (.int k n)=if 0<=n/\n<l.length then some (.iptr (f (l.getD n.toNat default)).cells 0) else none:=uo
theorem jw:eW (lf sz f l)=some (.int .i64 l.length):=rW
theorem Cg:jL (lf sz f l)=some l.length:=by simp[jL,lf]
theorem yg{k:Nat}(h:k<=l.length):nu sz (lf sz f l) (some (.int .i64 k)) none none=some (lf sz f (l.drop k)):=by
 simp[nu,bF,lf,h];rw[ju (by simp)]
theorem Ig(h:∀x,(f x).one=true):AV.ones (l.map f)=true:=by
 simp[AV.ones,h]
theorem Ei{H:Hp}(hc:∀x,(f x).cells=[f x]):ee 1 H (lf 1 f l)=some (l.length,l.map f):=by
 unfold lf;rw[ki,jF hc];simp
theorem Row.snapL'{H:Hp}{s:AV}(h:Row H 1 s (l.map f))(hc:∀x,(f x).cells=[f x])(hd:∀x∈l,Dat (f x)):Snap H s (lf 1 f l):=by
 refine Row.snap (elems:=l.map f) (by rw[jF hc];exact h) (λy hy=>?_) jf (λy hy c hx=>?_)
 ·obtain⟨n,_,rfl⟩:=cE.1 hy;rw[hc];rfl
 ·obtain⟨n,hn,rfl⟩:=cE.1 hy;rw[hc,gH] at hx;subst hx;exact hd n hn
end
theorem yd{a:Int}(h1:0<=a)(h2:a<18446744073709551616):IntKind.wrap .u64 a=a:=by
 simp only[IntKind.wrap,IntKind.bits,IntKind.signed];simp;omega
theorem qs{k:IntKind}{a:Nat}(h:a<2^k.bits):(BitVec.ofInt k.bits (a:Int)).toNat=a:=by
 rw[BitVec.toNat_ofInt];have:((2^k.bits:Nat):Int)=(2:Int)^k.bits:=by simp
 rw[Int.emod_eq_of_lt (by omega) (by omega)];simp
theorem J9{k:IntKind}{a b:Nat}{tb tf:Bool}(ha:a<2^(k.bits-1))(hb:b<2^(k.bits-1)):bt .and tb tf (.int k a) (.int k b)=some (.int k ((a &&& b:Nat):Int)):=by
 have h1:2^(k.bits-1)<=2^k.bits:=Nat.pow_le_pow_right (by omega) (by omega)
 have h2:(BitVec.ofInt k.bits (a:Int) &&& BitVec.ofInt k.bits (b:Int)).toNat=a &&& b:=by
  rw[BitVec.toNat_and,qs (by omega),qs (by omega)]
 show(if (k=k) then fe .and k a b else none)=_;rw[if_pos rfl];simp only[fe,h2];have h3:a &&& b<2^(k.bits-1):=Nat.lt_of_le_of_lt Nat.and_le_left ha
 congr 2
 generalize a &&& b=c at h3;cases k<;>(simp only[IntKind.bits,IntKind.wrap,IntKind.signed] at h3 |-;simp at h3 |-;omega)
theorem or_nat{k:IntKind}{a b:Nat}{tb tf:Bool}(ha:a<2^(k.bits-1))(hb:b<2^(k.bits-1)):bt .or tb tf (.int k a) (.int k b)=some (.int k ((a ||| b:Nat):Int)):=by
 have h1:2^(k.bits-1)<=2^k.bits:=Nat.pow_le_pow_right (by omega) (by omega)
 have h2:(BitVec.ofInt k.bits (a:Int) ||| BitVec.ofInt k.bits (b:Int)).toNat=a ||| b:=by
  rw[BitVec.toNat_or,qs (by omega),qs (by omega)]
 show(if (k=k) then fe .or k a b else none)=_;rw[if_pos rfl];simp only[fe,h2];have h3:a ||| b<2^(k.bits-1):=Nat.or_lt_two_pow ha hb
 congr 2
 generalize a ||| b=c at h3;cases k<;>(simp only[IntKind.bits,IntKind.wrap,IntKind.signed] at h3 |-;simp at h3 |-;omega)
theorem Jb{k:IntKind}{a b:Nat}{tb tf:Bool}{k':IntKind}(hb:b<=k.bits):bt .shr tb tf (.int k a) (.int k' b)=some (.int k ((a/2^b:Nat):Int)):=by
 have h:¬((b:Int)<0):=by omega
 simp only[bt,ou,h,if_false,or_true,if_true,c9,Nat.min_eq_left hb]
 congr 2
 rw[Int.fdiv_eq_ediv_of_nonneg _ (Int.le_of_lt (Int.pow_pos (by omega)))];simp
theorem Ho{n k:Nat}:n &&& (2^k-1)=n%2^k:=Nat.and_two_pow_sub_one_eq_mod n k
theorem Da{k:IntKind}{a b:Int}{tb tf:Bool}(ha:0<=a)(hb:0<b):bt .rem tb tf (.int k a) (.int k b)=some (.int k (a%b)):=by
 show(if (k=k) then fe .rem k a b else none)=_;rw[if_pos rfl];simp only[fe,if_neg (show ¬b=0 by omega),Int.tmod_eq_emod_of_nonneg ha]
theorem Dk{a b:Int}{tb tf:Bool}(ha:0<=a)(h2:a<=9223372036854775807)(hb:0<b):bt .quo tb tf (.int .i64 a) (.int .i64 b)=some (.int .i64 (a/b)):=by
 show(if (IntKind.i64=IntKind.i64) then fe .quo .i64 a b else none)=_;rw[if_pos rfl];have h3:0<=a/b:=Int.ediv_nonneg ha (by omega);have h4:a/b<=a:=Int.ediv_le_self _ ha;simp only[fe,if_neg (show ¬b=0 by omega),Int.tdiv_eq_ediv_of_nonneg ha];rw[jy (by omega) (by omega)]
theorem ce{P:Program}{T:Tm}{H:Hp}{nx:Nat}{K:SP}{l:List Op2}{d:Option Nat}{f:Opd}{args:List Opd}{g:FuncId}{caps xs:List AV}{R:AV->Hp->Nat->Prop}(hf:ov T f=.func g caps)(ha:args.map (ov T)++caps=xs)(hc:Fn P g xs H nx R)
    (k:∀r H' nx',R r H' nx'->ai P .text l (aO T d r) H' nx' K):ai P .text (⟨d,none,.call f args⟩::l) T H nx K:=by
 subst ha;exact Cm hf (Fn.mono hc k)
def fE(l:List UInt8):AV:=.str ⟨l.toArray⟩
theorem gU(l:List UInt8):Dat (fE l):=.str
instance datI_encS{l:List UInt8}:DatI (fE l):=⟨gU l⟩
theorem Cd{H:Hp}{b n:Nat}{l:List UInt8}(hb:H b=some (l.map lN))(hn:n=l.length):ee 1 H (.msl b n 1 0 n)=some (n,l.map lN):=by
 subst hn;rw[fZ hb (by simp) (by omega)]
 congr 2
 rw[List.drop_zero,ju (by simp)]
theorem sD{H:Hp}{b n sz off ld ls m k:Nat}{s:AV}{cs new:List AV}(hd:jL s=some ls)(hm:min ls ld=m)(h0:m≠0)(hb:H b=some cs)(hn:cs.length=n)(hs:ee sz H (Ai m s)=some (k,new))(hf:off+m*sz<=n)(ho:AV.ones new=true):
    uR sz (.msl b n sz off ld) s H=some (m,av H b (cI cs off new)):=by
 simp only[uR,jL] at hd |-;rw[hd];simp only[hm,h0,if_false,hb,hs];rw[if_pos ⟨hn,trivial,hf,ho⟩]
end Go.Abs
namespace Go.Abs
open Go.RowKit
variable{P:Program}{T:Tm}{H:Hp}{nx:Nat}
theorem aI{a b:Prop}(x:a)(y:b):a/\b:=⟨x,y⟩
theorem ev0{α:Type}{a b:α}(h:a=b:=by(try simp only[bg,ZA,Nat.reduceEqDiff,↓reduceIte,Nat.reduceAdd,Nat.reduceLeDiff]);(try with_reducible rfl);first|done|fail):a=b:=h
theorem evZ{α:Type}{a b:α}(h:a=b:=by(try simp only[bg,ZA,Nat.reduceEqDiff,↓reduceIte,Nat.reduceAdd,Nat.reduceLeDiff,zz]);(try with_reducible rfl);first|done|fail):a=b:=h
theorem evY{α:Type}{a b:α}(h:a=b:=by(try simp (disch:=omega) only[cQ,ZA,Nat.reduceEqDiff,↓reduceIte,Nat.reduceAdd,Nat.reduceLeDiff,zz]);(try with_reducible rfl);first|done|fail):a=b:=h
theorem ag0{T:Tm}{l:List (Nat×AV)}(h:agr T l:=by simp (disch:=omega) only[agr,ZG,Nat.reduceEqDiff,↓reduceIte];first|done|fail):agr T l:=h
theorem agZ{T:Tm}{l:List (Nat×AV)}(h:agr T l:=by simp (disch:=omega) only[agr,ZG,Nat.reduceEqDiff,↓reduceIte,zz];first|done|fail):agr T l:=h
theorem vZ{dm:DM}{K:SP}{l:List Op2}{d:Option Nat}{i:Ins}{r:AV}(k:ai P dm l (aO T d r) H nx K)(hi:ic i=.val:=by rfl)(hd:dm2 dm T i=true:=by rfl)(h:bv T H i=some r:=by(try simp (disch:=omega) only[bg,ZA,Nat.reduceEqDiff,↓reduceIte,Nat.reduceAdd,Nat.reduceLeDiff,ZV,reduceCtorEq,zz]);first|with_reducible rfl|(apply Dn;(focus omega);with_reducible rfl)):ai P dm (⟨d,none,i⟩::l) T H nx K:=Az hi hd h k
theorem nvZ{S:Hp}{K:SP}{l:List (Op2×Nat)}{d:Option Nat}{i:Ins}{r:AV}(k:bn P S l (aO T d r) H nx K)(h:bv T S i=some r:=by(try simp (disch:=omega) only[bg,ZA,Nat.reduceEqDiff,↓reduceIte,Nat.reduceAdd,Nat.reduceLeDiff,ZV,reduceCtorEq,zz]);first|with_reducible rfl|(apply Dn;(focus omega);with_reducible rfl)):bn P S ((⟨d,none,i⟩,0)::l) T H nx K:=La h k
theorem cZ{dm:DM}{K:SP}{l:List Op2}{d:Option Nat}{f:Opd}{args:List Opd}{g:FuncId}{caps xs:List AV}{r:AV}(k:ai P dm l (aO T d r) H nx K)(hf:ov T f=.func g caps:=by(try simp only[bg,ZA,Nat.reduceEqDiff,↓reduceIte,Nat.reduceAdd,Nat.reduceLeDiff,zz]);(try with_reducible rfl);first|done|fail)(ha:args.map (ov T)++caps=xs:=by(try simp only[bg,ZA,Nat.reduceEqDiff,↓reduceIte,Nat.reduceAdd,Nat.reduceLeDiff,zz]);(try with_reducible rfl);first|done|fail)(hp:Pure P g xs r)(hs:ap H xs xs r:=by(first|refine bK ?_ rfl|apply bC);(repeat' (first|exact al|apply fj|(apply cU;(focus with_reducible assumption))));first|done|fail):ai P dm (⟨d,none,.call f args⟩::l) T H nx K:=DR hf ha hp hs k
theorem alZ{dm:DM}{K:SP}{l:List Op2}{d:Option Nat}{z:AV}{cs:List AV}(k:ai P dm l (aO T d (.ptr nx cs.length 0)) (av H nx cs) (nx+1) K)(hd:dm2 dm T (.alloc z)=true:=by rfl)(hc:z.cells=cs:=by(try simp only[bg,ZA,Nat.reduceEqDiff,↓reduceIte,Nat.reduceAdd,Nat.reduceLeDiff,zz]);(try with_reducible rfl);first|done|fail)(ho:AV.ones cs=true:=by simp only[SO,Bool.and_self,fA,eB,zz];first|done|fail):ai P dm (⟨d,none,.alloc z⟩::l) T H nx K:=yr hd hc ho k
theorem bxZ{dm:DM}{K:SP}{l:List Op2}{d:Option Nat}{x:Opd}{v:AV}{cs:List AV}(k:ai P dm l (aO T d (.ptr nx cs.length 0)) (av H nx cs) (nx+1) K)(hd:dm2 dm T (.box x)=true:=by rfl)(hx:ov T x=v:=by(try simp only[bg,ZA,Nat.reduceEqDiff,↓reduceIte,Nat.reduceAdd,Nat.reduceLeDiff,zz]);(try with_reducible rfl);first|done|fail)(hc:v.cells=cs:=by(try simp only[bg,ZA,Nat.reduceEqDiff,↓reduceIte,Nat.reduceAdd,Nat.reduceLeDiff,zz]);(try with_reducible rfl);first|done|fail)(ho:AV.ones cs=true:=by simp only[SO,Bool.and_self,fA,eB,zz];first|done|fail):ai P dm (⟨d,none,.box x⟩::l) T H nx K:=K8 hd hx hc ho k
theorem stZ{dm:DM}{K:SP}{l:List Op2}{d:Option Nat}{sz:Nat}{p x:Opd}{b n off:Nat}{v:AV}{cs vs:List AV}(k:ai P dm l (aO T d (.tup [])) (av H b (cI cs off vs)) nx K)(hd:dm2 dm T (.st sz p x)=true:=by rfl)(hp:ov T p=.ptr b n off:=by(try simp only[bg,ZA,Nat.reduceEqDiff,↓reduceIte,Nat.reduceAdd,Nat.reduceLeDiff,zz]);(try with_reducible rfl);first|done|fail)(hx:ov T x=v:=by(try simp only[bg,ZA,Nat.reduceEqDiff,↓reduceIte,Nat.reduceAdd,Nat.reduceLeDiff,zz]);(try with_reducible rfl);first|done|fail)(hb:H b=some cs:=by(try simp only[bg,ZA,Nat.reduceEqDiff,↓reduceIte,Nat.reduceAdd,Nat.reduceLeDiff,zz]);(try with_reducible rfl);first|done|fail)(hc:v.cells=vs:=by(try simp only[bg,ZA,Nat.reduceEqDiff,↓reduceIte,Nat.reduceAdd,Nat.reduceLeDiff,zz]);(try with_reducible rfl);first|done|fail)(ho:AV.ones vs=true:=by simp only[SO,Bool.and_self,fA,eB,zz];first|done|fail)(hn:cs.length=n:=by(try simp only[SL,Nat.reduceAdd,Nat.reduceMul,bi]);first|done|omega)(hl:vs.length=sz:=by(try simp only[SL,Nat.reduceAdd,Nat.reduceMul,bi]);first|done|omega)(hf:off+sz<=n:=by(try simp only[SL,Nat.reduceAdd,Nat.reduceMul,bi]);first|done|omega):ai P dm (⟨d,none,.st sz p x⟩::l) T H nx K:=vD hd hp hx hb hc ho hn hl hf k
theorem blZ{dm:DM}{K:SP}{l:List Op2}{d:Option Nat}{sz len:Nat}{z:List AV}{parts:List (Nat×Nat×Opd)}{pv:List (Nat×Nat×AV)}{cs:List AV}(k:ai P dm l (aO T d (.msl nx cs.length sz 0 len)) (av H nx cs) (nx+1) K)(hd:dm2 dm T (.bldS sz len z parts)=true:=by rfl)(hl:len≠0:=by exact Nat.succ_ne_zero _)(hp:parts.map (λp=>(p.1,p.2.1,ov T p.2.2))=pv:=by(try simp only[bg,ZA,Nat.reduceEqDiff,↓reduceIte,Nat.reduceAdd,Nat.reduceLeDiff,zz]);(try with_reducible rfl);first|done|fail)(hc:fq (bd (.agg z) len) pv=some cs:=by(try simp only[bg,ZA,Nat.reduceEqDiff,↓reduceIte,Nat.reduceAdd,Nat.reduceLeDiff,SO,Bool.and_self,fA,eB,zz]);(try with_reducible rfl);first|done|fail):ai P dm (⟨d,none,.bldS sz len z parts⟩::l) T H nx K:=KX hd hl hp hc k
theorem b0Z{dm:DM}{K:SP}{l:List Op2}{d:Option Nat}{sz:Nat}{z:List AV}(k:ai P dm l (aO T d .esl) H nx K)(hd:dm2 dm T (.bldS sz 0 z [])=true:=by rfl):ai P dm (⟨d,none,.bldS sz 0 z []⟩::l) T H nx K:=GI hd k
theorem a0Z{dm:DM}{K:SP}{l:List Op2}{d:Option Nat}{sz bytes n:Nat}{s x:Opd}{v:AV}{new:List AV}(k:ai P dm l (aO T d (.msl nx (n*sz) sz 0 n)) (av H nx new) (nx+1) K)(hd:dm2 dm T (.app sz bytes s x)=true:=by rfl)(hs:ov T s=.esl:=by(try simp only[bg,ZA,Nat.reduceEqDiff,↓reduceIte,Nat.reduceAdd,Nat.reduceLeDiff,zz]);(try with_reducible rfl);first|done|fail)(hx:ov T x=v:=by(try simp only[bg,ZA,Nat.reduceEqDiff,↓reduceIte,Nat.reduceAdd,Nat.reduceLeDiff,zz]);(try with_reducible rfl);first|done|fail)(hsrc:ee sz H v=some (n,new):=by first|exact jz|exact mQ|exact qD|(apply fZ;(focus ((try simp only[bg,ZA,Nat.reduceEqDiff,↓reduceIte,Nat.reduceAdd,Nat.reduceLeDiff,zz]);(try with_reducible rfl);first|done|fail));(iterate 2 (focus ((try simp only[SL,Nat.reduceAdd,Nat.reduceMul,bi]);first|done|omega))))|exact ki)(ho:AV.ones new=true:=by first|exact jS|exact lW|(simp only[SO,Bool.and_self,fA,eB,zz];first|done|fail))(h1:n*bytes<=140737488355328:=by(try simp only[SL,Nat.reduceAdd,Nat.reduceMul,bi]);first|done|omega)(h2:n<=9223372036854775807:=by(try simp only[SL,Nat.reduceAdd,Nat.reduceMul,bi]);first|done|omega):ai P dm (⟨d,none,.app sz bytes s x⟩::l) T H nx K:=mO hd hs hx hsrc ho h1 h2 k
theorem apZ{dm:DM}{K:SP}{l:List Op2}{d:Option Nat}{sz bytes n:Nat}{s x:Opd}{v:AV}{new cs:List AV}{b m len:Nat}(k:ai P dm l (aO T d (.msl b ((len+n)*sz) sz 0 (len+n))) (av H b (cs++new)) nx K)(hd:dm2 dm T (.app sz bytes s x)=true:=by rfl)(hs:ov T s=.msl b m sz 0 len:=by(try simp only[bg,ZA,Nat.reduceEqDiff,↓reduceIte,Nat.reduceAdd,Nat.reduceLeDiff,zz]);(try with_reducible rfl);first|done|fail)(hb:H b=some cs:=by(try simp only[bg,ZA,Nat.reduceEqDiff,↓reduceIte,Nat.reduceAdd,Nat.reduceLeDiff,zz]);(try with_reducible rfl);first|done|fail)(hx:ov T x=v:=by(try simp only[bg,ZA,Nat.reduceEqDiff,↓reduceIte,Nat.reduceAdd,Nat.reduceLeDiff,zz]);(try with_reducible rfl);first|done|fail)(hsrc:ee sz H v=some (n,new):=by first|exact jz|exact mQ|exact qD|(apply fZ;(focus ((try simp only[bg,ZA,Nat.reduceEqDiff,↓reduceIte,Nat.reduceAdd,Nat.reduceLeDiff,zz]);(try with_reducible rfl);first|done|fail));(iterate 2 (focus ((try simp only[SL,Nat.reduceAdd,Nat.reduceMul,bi]);first|done|omega))))|exact ki)(ho:AV.ones new=true:=by first|exact jS|exact lW|(simp only[SO,Bool.and_self,fA,eB,zz];first|done|fail))(hm:cs.length=m:=by(try simp only[SL,Nat.reduceAdd,Nat.reduceMul,bi]);first|done|omega)(hl:m=len*sz:=by(try simp only[SL,Nat.reduceAdd,Nat.reduceMul,bi]);first|done|omega)(h1:(len+n)*bytes<=140737488355328:=by(try simp only[SL,Nat.reduceAdd,Nat.reduceMul,bi]);first|done|omega)(h2:len+n<=9223372036854775807:=by(try simp only[SL,Nat.reduceAdd,Nat.reduceMul,bi]);first|done|omega):ai P dm (⟨d,none,.app sz bytes s x⟩::l) T H nx K:=H8 hd hs hb hx hsrc ho hm hl h1 h2 k
theorem gTZ{dm:DM}{K:SP}{l:List Op2}{d:Option Nat}{i:Ins}{t:Nat}{w:Bool}(k:ai P dm (⟨d,none,i⟩::l) T H nx K)(h:T t=.bool w:=by simp only[bg,ZA,Nat.reduceEqDiff,↓reduceIte,Nat.reduceAdd,Nat.reduceLeDiff,zz];first|done|fail):ai P dm (⟨d,some (t,w),i⟩::l) T H nx K:=My h k
theorem gFZ{dm:DM}{K:SP}{l:List Op2}{d:Option Nat}{i:Ins}{t:Nat}{w:Bool}(k:ai P dm l (aO T d (.tup [])) H nx K)(h:T t=.bool (!w)\/T t=.tup []:=by simp only[bg,ZA,Nat.reduceEqDiff,↓reduceIte,Nat.reduceAdd,Nat.reduceLeDiff,or_true,true_or,zz];first|done|fail):ai P dm (⟨d,some (t,w),i⟩::l) T H nx K:=Nb h k
theorem cTZ{K:CP}{c:Opd}{x y:C2}(h1:aF P x T H nx K)(hc:ov T c=.bool true:=by simp only[bg,ZA,Nat.reduceEqDiff,↓reduceIte,Nat.reduceAdd,Nat.reduceLeDiff,zz];first|done|fail):aF P (.cond c x y) T H nx K:=Dr hc h1
theorem cFZ{K:CP}{c:Opd}{x y:C2}(h2:aF P y T H nx K)(hc:ov T c=.bool false:=by simp only[bg,ZA,Nat.reduceEqDiff,↓reduceIte,Nat.reduceAdd,Nat.reduceLeDiff,zz];first|done|fail):aF P (.cond c x y) T H nx K:=DS hc h2
theorem r1Z{K:AV->Prop}{a:RV}{x:AV}(h:K x)(ha:rv T H a=some x:=by simp only[rv,bg,ZA,Nat.reduceEqDiff,↓reduceIte,Nat.reduceAdd,Nat.reduceLeDiff,zz];with_reducible rfl):bm T H K [a]:=r_1 ha h
theorem r2Z{K:AV->Prop}{a b:RV}{x y:AV}(h:K (.tup [x,y]))(ha:rv T H a=some x:=by simp only[rv,bg,ZA,Nat.reduceEqDiff,↓reduceIte,Nat.reduceAdd,Nat.reduceLeDiff,zz];with_reducible rfl)(hb:rv T H b=some y:=by simp only[rv,bg,ZA,Nat.reduceEqDiff,↓reduceIte,Nat.reduceAdd,Nat.reduceLeDiff,zz];with_reducible rfl):bm T H K [a,b]:=r_2 ha hb h
theorem r3Z{K:AV->Prop}{a b c:RV}{x y z:AV}(h:K (.tup [x,y,z]))(ha:rv T H a=some x:=by simp only[rv,bg,ZA,Nat.reduceEqDiff,↓reduceIte,Nat.reduceAdd,Nat.reduceLeDiff,zz];with_reducible rfl)(hb:rv T H b=some y:=by simp only[rv,bg,ZA,Nat.reduceEqDiff,↓reduceIte,Nat.reduceAdd,Nat.reduceLeDiff,zz];with_reducible rfl)(hc:rv T H c=some z:=by simp only[rv,bg,ZA,Nat.reduceEqDiff,↓reduceIte,Nat.reduceAdd,Nat.reduceLeDiff,zz];with_reducible rfl):bm T H K [a,b,c]:=r_3 ha hb hc h
theorem r5Z{K:AV->Prop}{a b c d e:RV}{x y z u v:AV}(h:K (.tup [x,y,z,u,v]))(ha:rv T H a=some x:=by simp only[rv,bg,ZA,Nat.reduceEqDiff,↓reduceIte,Nat.reduceAdd,Nat.reduceLeDiff,zz];with_reducible rfl)(hb:rv T H b=some y:=by simp only[rv,bg,ZA,Nat.reduceEqDiff,↓reduceIte,Nat.reduceAdd,Nat.reduceLeDiff,zz];with_reducible rfl)(hc:rv T H c=some z:=by simp only[rv,bg,ZA,Nat.reduceEqDiff,↓reduceIte,Nat.reduceAdd,Nat.reduceLeDiff,zz];with_reducible rfl)(hd:rv T H d=some u:=by simp only[rv,bg,ZA,Nat.reduceEqDiff,↓reduceIte,Nat.reduceAdd,Nat.reduceLeDiff,zz];with_reducible rfl)(he:rv T H e=some v:=by simp only[rv,bg,ZA,Nat.reduceEqDiff,↓reduceIte,Nat.reduceAdd,Nat.reduceLeDiff,zz];with_reducible rfl):bm T H K [a,b,c,d,e]:=r_5 ha hb hc hd he h
theorem vY{dm:DM}{K:SP}{l:List Op2}{d:Option Nat}{i:Ins}{r:AV}(k:ai P dm l (aO T d r) H nx K)(hi:ic i=.val:=by rfl)(hd:dm2 dm T i=true:=by first|rfl|(simp (disch:=omega) only[dm2,tv,wG,cQ,ZA,Nat.reduceEqDiff,↓reduceIte,Nat.reduceAdd,Nat.reduceLeDiff,zz,gq];first|done|omega))(h:bv T H i=some r:=by(try simp (disch:=omega) only[cQ,ZA,Nat.reduceEqDiff,↓reduceIte,Nat.reduceAdd,Nat.reduceLeDiff,ZV,reduceCtorEq,zz]);first|with_reducible rfl|(apply Dn;(focus omega);with_reducible rfl)):ai P dm (⟨d,none,i⟩::l) T H nx K:=Az hi hd h k
theorem nvY{S:Hp}{K:SP}{l:List (Op2×Nat)}{d:Option Nat}{i:Ins}{r:AV}(k:bn P S l (aO T d r) H nx K)(h:bv T S i=some r:=by(try simp (disch:=omega) only[cQ,ZA,Nat.reduceEqDiff,↓reduceIte,Nat.reduceAdd,Nat.reduceLeDiff,ZV,reduceCtorEq,zz]);first|with_reducible rfl|(apply Dn;(focus omega);with_reducible rfl)):bn P S ((⟨d,none,i⟩,0)::l) T H nx K:=La h k
theorem cY{dm:DM}{K:SP}{l:List Op2}{d:Option Nat}{f:Opd}{args:List Opd}{g:FuncId}{caps xs:List AV}{r:AV}(k:ai P dm l (aO T d r) H nx K)(hf:ov T f=.func g caps:=by(try simp (disch:=omega) only[cQ,ZA,Nat.reduceEqDiff,↓reduceIte,Nat.reduceAdd,Nat.reduceLeDiff,zz]);(try with_reducible rfl);first|done|fail)(ha:args.map (ov T)++caps=xs:=by(try simp (disch:=omega) only[cQ,ZA,Nat.reduceEqDiff,↓reduceIte,Nat.reduceAdd,Nat.reduceLeDiff,zz]);(try with_reducible rfl);first|done|fail)(hp:Pure P g xs r)(hs:ap H xs xs r:=by(first|refine bK ?_ rfl|apply bC);(repeat' (first|exact al|apply fj|(apply cU;(focus with_reducible assumption))));first|done|fail):ai P dm (⟨d,none,.call f args⟩::l) T H nx K:=DR hf ha hp hs k
theorem alY{dm:DM}{K:SP}{l:List Op2}{d:Option Nat}{z:AV}{cs:List AV}(k:ai P dm l (aO T d (.ptr nx cs.length 0)) (av H nx cs) (nx+1) K)(hd:dm2 dm T (.alloc z)=true:=by first|rfl|(simp (disch:=omega) only[dm2,tv,wG,cQ,ZA,Nat.reduceEqDiff,↓reduceIte,Nat.reduceAdd,Nat.reduceLeDiff,zz,gq];first|done|omega))(hc:z.cells=cs:=by(try simp (disch:=omega) only[cQ,ZA,Nat.reduceEqDiff,↓reduceIte,Nat.reduceAdd,Nat.reduceLeDiff,zz]);(try with_reducible rfl);first|done|fail)(ho:AV.ones cs=true:=by simp (disch:=omega) only[SO,Bool.and_self,fA,eB,zz];first|done|fail):ai P dm (⟨d,none,.alloc z⟩::l) T H nx K:=yr hd hc ho k
theorem bxY{dm:DM}{K:SP}{l:List Op2}{d:Option Nat}{x:Opd}{v:AV}{cs:List AV}(k:ai P dm l (aO T d (.ptr nx cs.length 0)) (av H nx cs) (nx+1) K)(hd:dm2 dm T (.box x)=true:=by first|rfl|(simp (disch:=omega) only[dm2,tv,wG,cQ,ZA,Nat.reduceEqDiff,↓reduceIte,Nat.reduceAdd,Nat.reduceLeDiff,zz,gq];first|done|omega))(hx:ov T x=v:=by(try simp (disch:=omega) only[cQ,ZA,Nat.reduceEqDiff,↓reduceIte,Nat.reduceAdd,Nat.reduceLeDiff,zz]);(try with_reducible rfl);first|done|fail)(hc:v.cells=cs:=by(try simp (disch:=omega) only[cQ,ZA,Nat.reduceEqDiff,↓reduceIte,Nat.reduceAdd,Nat.reduceLeDiff,zz]);(try with_reducible rfl);first|done|fail)(ho:AV.ones cs=true:=by simp (disch:=omega) only[SO,Bool.and_self,fA,eB,zz];first|done|fail):ai P dm (⟨d,none,.box x⟩::l) T H nx K:=K8 hd hx hc ho k
theorem stY{dm:DM}{K:SP}{l:List Op2}{d:Option Nat}{sz:Nat}{p x:Opd}{b n off:Nat}{v:AV}{cs vs:List AV}(k:ai P dm l (aO T d (.tup [])) (av H b (cI cs off vs)) nx K)(hd:dm2 dm T (.st sz p x)=true:=by first|rfl|(simp (disch:=omega) only[dm2,tv,wG,cQ,ZA,Nat.reduceEqDiff,↓reduceIte,Nat.reduceAdd,Nat.reduceLeDiff,zz,gq];first|done|omega))(hp:ov T p=.ptr b n off:=by(try simp (disch:=omega) only[cQ,ZA,Nat.reduceEqDiff,↓reduceIte,Nat.reduceAdd,Nat.reduceLeDiff,zz]);(try with_reducible rfl);first|done|fail)(hx:ov T x=v:=by(try simp (disch:=omega) only[cQ,ZA,Nat.reduceEqDiff,↓reduceIte,Nat.reduceAdd,Nat.reduceLeDiff,zz]);(try with_reducible rfl);first|done|fail)(hb:H b=some cs:=by(try simp (disch:=omega) only[cQ,ZA,Nat.reduceEqDiff,↓reduceIte,Nat.reduceAdd,Nat.reduceLeDiff,zz]);(try with_reducible rfl);first|done|fail)(hc:v.cells=vs:=by(try simp (disch:=omega) only[cQ,ZA,Nat.reduceEqDiff,↓reduceIte,Nat.reduceAdd,Nat.reduceLeDiff,zz]);(try with_reducible rfl);first|done|fail)(ho:AV.ones vs=true:=by simp (disch:=omega) only[SO,Bool.and_self,fA,eB,zz];first|done|fail)(hn:cs.length=n:=by(try simp only[SL,Nat.reduceAdd,Nat.reduceMul,bi]);first|done|omega)(hl:vs.length=sz:=by(try simp only[SL,Nat.reduceAdd,Nat.reduceMul,bi]);first|done|omega)(hf:off+sz<=n:=by(try simp only[SL,Nat.reduceAdd,Nat.reduceMul,bi]);first|done|omega):ai P dm (⟨d,none,.st sz p x⟩::l) T H nx K:=vD hd hp hx hb hc ho hn hl hf k
theorem blY{dm:DM}{K:SP}{l:List Op2}{d:Option Nat}{sz len:Nat}{z:List AV}{parts:List (Nat×Nat×Opd)}{pv:List (Nat×Nat×AV)}{cs:List AV}(k:ai P dm l (aO T d (.msl nx cs.length sz 0 len)) (av H nx cs) (nx+1) K)(hd:dm2 dm T (.bldS sz len z parts)=true:=by first|rfl|(simp (disch:=omega) only[dm2,tv,wG,cQ,ZA,Nat.reduceEqDiff,↓reduceIte,Nat.reduceAdd,Nat.reduceLeDiff,zz,gq];first|done|omega))(hl:len≠0:=by exact Nat.succ_ne_zero _)(hp:parts.map (λp=>(p.1,p.2.1,ov T p.2.2))=pv:=by(try simp (disch:=omega) only[cQ,ZA,Nat.reduceEqDiff,↓reduceIte,Nat.reduceAdd,Nat.reduceLeDiff,zz]);(try with_reducible rfl);first|done|fail)(hc:fq (bd (.agg z) len) pv=some cs:=by(try simp (disch:=omega) only[cQ,ZA,Nat.reduceEqDiff,↓reduceIte,Nat.reduceAdd,Nat.reduceLeDiff,SO,Bool.and_self,fA,eB,zz]);(try with_reducible rfl);first|done|fail):ai P dm (⟨d,none,.bldS sz len z parts⟩::l) T H nx K:=KX hd hl hp hc k
theorem b0Y{dm:DM}{K:SP}{l:List Op2}{d:Option Nat}{sz:Nat}{z:List AV}(k:ai P dm l (aO T d .esl) H nx K)(hd:dm2 dm T (.bldS sz 0 z [])=true:=by first|rfl|(simp (disch:=omega) only[dm2,tv,wG,cQ,ZA,Nat.reduceEqDiff,↓reduceIte,Nat.reduceAdd,Nat.reduceLeDiff,zz,gq];first|done|omega)):ai P dm (⟨d,none,.bldS sz 0 z []⟩::l) T H nx K:=GI hd k
theorem a0Y{dm:DM}{K:SP}{l:List Op2}{d:Option Nat}{sz bytes n:Nat}{s x:Opd}{v:AV}{new:List AV}(k:ai P dm l (aO T d (.msl nx (n*sz) sz 0 n)) (av H nx new) (nx+1) K)(hd:dm2 dm T (.app sz bytes s x)=true:=by first|rfl|(simp (disch:=omega) only[dm2,tv,wG,cQ,ZA,Nat.reduceEqDiff,↓reduceIte,Nat.reduceAdd,Nat.reduceLeDiff,zz,gq];first|done|omega))(hs:ov T s=.esl:=by(try simp (disch:=omega) only[cQ,ZA,Nat.reduceEqDiff,↓reduceIte,Nat.reduceAdd,Nat.reduceLeDiff,zz]);(try with_reducible rfl);first|done|fail)(hx:ov T x=v:=by(try simp (disch:=omega) only[cQ,ZA,Nat.reduceEqDiff,↓reduceIte,Nat.reduceAdd,Nat.reduceLeDiff,zz]);(try with_reducible rfl);first|done|fail)(hsrc:ee sz H v=some (n,new):=by first|exact jz|exact mQ|exact qD|(apply fZ;(focus ((try simp (disch:=omega) only[cQ,ZA,Nat.reduceEqDiff,↓reduceIte,Nat.reduceAdd,Nat.reduceLeDiff,zz]);(try with_reducible rfl);first|done|fail));(iterate 2 (focus ((try simp only[SL,Nat.reduceAdd,Nat.reduceMul,bi]);first|done|omega))))|exact ki)(ho:AV.ones new=true:=by first|exact jS|exact lW|(simp only[SO,Bool.and_self,fA,eB,zz];first|done|fail))(h1:n*bytes<=140737488355328:=by(try simp only[SL,Nat.reduceAdd,Nat.reduceMul,bi]);first|done|omega)(h2:n<=9223372036854775807:=by(try simp only[SL,Nat.reduceAdd,Nat.reduceMul,bi]);first|done|omega):ai P dm (⟨d,none,.app sz bytes s x⟩::l) T H nx K:=mO hd hs hx hsrc ho h1 h2 k
theorem apY{dm:DM}{K:SP}{l:List Op2}{d:Option Nat}{sz bytes n:Nat}{s x:Opd}{v:AV}{new cs:List AV}{b m len:Nat}(k:ai P dm l (aO T d (.msl b ((len+n)*sz) sz 0 (len+n))) (av H b (cs++new)) nx K)(hd:dm2 dm T (.app sz bytes s x)=true:=by first|rfl|(simp (disch:=omega) only[dm2,tv,wG,cQ,ZA,Nat.reduceEqDiff,↓reduceIte,Nat.reduceAdd,Nat.reduceLeDiff,zz,gq];first|done|omega))(hs:ov T s=.msl b m sz 0 len:=by(try simp (disch:=omega) only[cQ,ZA,Nat.reduceEqDiff,↓reduceIte,Nat.reduceAdd,Nat.reduceLeDiff,zz]);(try with_reducible rfl);first|done|fail)(hb:H b=some cs:=by(try simp (disch:=omega) only[cQ,ZA,Nat.reduceEqDiff,↓reduceIte,Nat.reduceAdd,Nat.reduceLeDiff,zz]);(try with_reducible rfl);first|done|fail)(hx:ov T x=v:=by(try simp (disch:=omega) only[cQ,ZA,Nat.reduceEqDiff,↓reduceIte,Nat.reduceAdd,Nat.reduceLeDiff,zz]);(try with_reducible rfl);first|done|fail)(hsrc:ee sz H v=some (n,new):=by first|exact jz|exact mQ|exact qD|(apply fZ;(focus ((try simp (disch:=omega) only[cQ,ZA,Nat.reduceEqDiff,↓reduceIte,Nat.reduceAdd,Nat.reduceLeDiff,zz]);(try with_reducible rfl);first|done|fail));(iterate 2 (focus ((try simp only[SL,Nat.reduceAdd,Nat.reduceMul,bi]);first|done|omega))))|exact ki)(ho:AV.ones new=true:=by first|exact jS|exact lW|(simp only[SO,Bool.and_self,fA,eB,zz];first|done|fail))(hm:cs.length=m:=by(try simp only[SL,Nat.reduceAdd,Nat.reduceMul,bi]);first|done|omega)(hl:m=len*sz:=by(try simp only[SL,Nat.reduceAdd,Nat.reduceMul,bi]);first|done|omega)(h1:(len+n)*bytes<=140737488355328:=by(try simp only[SL,Nat.reduceAdd,Nat.reduceMul,bi]);first|done|omega)(h2:len+n<=9223372036854775807:=by(try simp only[SL,Nat.reduceAdd,Nat.reduceMul,bi]);first|done|omega):ai P dm (⟨d,none,.app sz bytes s x⟩::l) T H nx K:=H8 hd hs hb hx hsrc ho hm hl h1 h2 k
theorem gTY{dm:DM}{K:SP}{l:List Op2}{d:Option Nat}{i:Ins}{t:Nat}{w:Bool}(k:ai P dm (⟨d,none,i⟩::l) T H nx K)(h:T t=.bool w:=by simp (disch:=omega) only[cQ,ZA,Nat.reduceEqDiff,↓reduceIte,Nat.reduceAdd,Nat.reduceLeDiff,zz];first|done|fail):ai P dm (⟨d,some (t,w),i⟩::l) T H nx K:=My h k
theorem gFY{dm:DM}{K:SP}{l:List Op2}{d:Option Nat}{i:Ins}{t:Nat}{w:Bool}(k:ai P dm l (aO T d (.tup [])) H nx K)(h:T t=.bool (!w)\/T t=.tup []:=by simp (disch:=omega) only[cQ,ZA,Nat.reduceEqDiff,↓reduceIte,Nat.reduceAdd,Nat.reduceLeDiff,or_true,true_or,zz];first|done|fail):ai P dm (⟨d,some (t,w),i⟩::l) T H nx K:=Nb h k
theorem cTY{K:CP}{c:Opd}{x y:C2}(h1:aF P x T H nx K)(hc:ov T c=.bool true:=by simp (disch:=omega) only[cQ,ZA,Nat.reduceEqDiff,↓reduceIte,Nat.reduceAdd,Nat.reduceLeDiff,zz];first|done|fail):aF P (.cond c x y) T H nx K:=Dr hc h1
theorem cFY{K:CP}{c:Opd}{x y:C2}(h2:aF P y T H nx K)(hc:ov T c=.bool false:=by simp (disch:=omega) only[cQ,ZA,Nat.reduceEqDiff,↓reduceIte,Nat.reduceAdd,Nat.reduceLeDiff,zz];first|done|fail):aF P (.cond c x y) T H nx K:=DS hc h2
theorem r1Y{K:AV->Prop}{a:RV}{x:AV}(h:K x)(ha:rv T H a=some x:=by simp (disch:=omega) only[rv,cQ,ZA,Nat.reduceEqDiff,↓reduceIte,Nat.reduceAdd,Nat.reduceLeDiff,zz];with_reducible rfl):bm T H K [a]:=r_1 ha h
theorem r2Y{K:AV->Prop}{a b:RV}{x y:AV}(h:K (.tup [x,y]))(ha:rv T H a=some x:=by simp (disch:=omega) only[rv,cQ,ZA,Nat.reduceEqDiff,↓reduceIte,Nat.reduceAdd,Nat.reduceLeDiff,zz];with_reducible rfl)(hb:rv T H b=some y:=by simp (disch:=omega) only[rv,cQ,ZA,Nat.reduceEqDiff,↓reduceIte,Nat.reduceAdd,Nat.reduceLeDiff,zz];with_reducible rfl):bm T H K [a,b]:=r_2 ha hb h
theorem r3Y{K:AV->Prop}{a b c:RV}{x y z:AV}(h:K (.tup [x,y,z]))(ha:rv T H a=some x:=by simp (disch:=omega) only[rv,cQ,ZA,Nat.reduceEqDiff,↓reduceIte,Nat.reduceAdd,Nat.reduceLeDiff,zz];with_reducible rfl)(hb:rv T H b=some y:=by simp (disch:=omega) only[rv,cQ,ZA,Nat.reduceEqDiff,↓reduceIte,Nat.reduceAdd,Nat.reduceLeDiff,zz];with_reducible rfl)(hc:rv T H c=some z:=by simp (disch:=omega) only[rv,cQ,ZA,Nat.reduceEqDiff,↓reduceIte,Nat.reduceAdd,Nat.reduceLeDiff,zz];with_reducible rfl):bm T H K [a,b,c]:=r_3 ha hb hc h
theorem r5Y{K:AV->Prop}{a b c d e:RV}{x y z u v:AV}(h:K (.tup [x,y,z,u,v]))(ha:rv T H a=some x:=by simp (disch:=omega) only[rv,cQ,ZA,Nat.reduceEqDiff,↓reduceIte,Nat.reduceAdd,Nat.reduceLeDiff,zz];with_reducible rfl)(hb:rv T H b=some y:=by simp (disch:=omega) only[rv,cQ,ZA,Nat.reduceEqDiff,↓reduceIte,Nat.reduceAdd,Nat.reduceLeDiff,zz];with_reducible rfl)(hc:rv T H c=some z:=by simp (disch:=omega) only[rv,cQ,ZA,Nat.reduceEqDiff,↓reduceIte,Nat.reduceAdd,Nat.reduceLeDiff,zz];with_reducible rfl)(hd:rv T H d=some u:=by simp (disch:=omega) only[rv,cQ,ZA,Nat.reduceEqDiff,↓reduceIte,Nat.reduceAdd,Nat.reduceLeDiff,zz];with_reducible rfl)(he:rv T H e=some v:=by simp (disch:=omega) only[rv,cQ,ZA,Nat.reduceEqDiff,↓reduceIte,Nat.reduceAdd,Nat.reduceLeDiff,zz];with_reducible rfl):bm T H K [a,b,c,d,e]:=r_5 ha hb hc hd he h
class StW(A:Prop)(B:outParam Prop):Prop where st:B->A
class StO(A:Prop)(B:outParam Prop):Prop where st:B->A
class StM(A:Prop)(B:outParam Prop):Prop where st:B->A
theorem zW{A B:Prop}[i:StW A B](h:B):A:=i.st h
theorem zO{A B:Prop}[i:StO A B](h:B):A:=i.st h
theorem zM{A B:Prop}[i:StM A B](h:B):A:=i.st h
instance{K:CP}{x y:C2}:StW (aF P (.seq x y) T H nx K) (aF P x T H nx λe T H nx=>aN e (aF P y T H nx K) (K e T H nx)):=⟨nM⟩
instance{K:CP}{i:Nat}{b:C2}:StW (aF P (.block i b) T H nx K) (aF P b T H nx λe T H nx=>K (rS i e) T H nx):=⟨DI⟩
instance{K:CP}{b:C2}:StW (aF P (.loop b) T H nx K) (aY (aF P b) T H nx K):=⟨LV⟩
instance{K:CP}:StO (aF P .skip T H nx K) (K .normal T H nx):=⟨LU⟩
instance{K:CP}{i:Nat}:StO (aF P (.exit i) T H nx K) (K (.exit i) T H nx):=⟨Mj⟩
instance{K:CP}:StO (aF P .ret T H nx K) (K .ret T H nx):=⟨PN⟩
instance{K:CP}{l:List Op2}:StO (aF P (.ops 0 l) T H nx K) (ai P .text l T H nx λT H nx=>K .normal T H nx):=⟨LQ⟩
instance{K:CP}{l:List Op2}:StO (aF P (.ops 1 l) T H nx K) (ai P .draw l T H nx λT H nx=>K .normal T H nx):=⟨MU⟩
instance{K:CP}{l:List Op2}:StO (aF P (.ops 2 l) T H nx K) (ai P (.fresh nx) l T H nx λT H nx=>K .normal T H nx):=⟨LI⟩
instance{K:CP}{l:List Op2}{C:List Nat}:StO (aF P (.mix 1 l C) T H nx K) (ai P .draw l T H nx λT H nx=>K .normal T H nx):=⟨L0⟩
instance{K:CP}{l:List Op2}{C:List Nat}:StO (aF P (.mix 2 l C) T H nx K) (ai P (.fresh nx) l T H nx λT H nx=>K .normal T H nx):=⟨LB⟩
instance{dm:DM}{K:SP}:StO (ai P dm [] T H nx K) (K T H nx):=⟨iE⟩
instance{S:Hp}{K:SP}:StO (bn P S [] T H nx K) (K T H nx):=⟨Nz⟩
instance{S:Hp}{K:SP}{l:List (Op2×Nat)}{d:Option Nat}{i:Ins}:StO (bn P S ((⟨d,none,i⟩,2)::l) T H nx K) (ai P .text [⟨d,none,i⟩] T H nx λT H nx=>bn P S l T H nx K):=⟨fm⟩
instance{K:AV->Prop}:StO (bm T H K []) (K (.tup [])):=⟨r_0⟩
instance{K:CP}{l:List Op2}{C:List (Nat×Nat)}:StM (aF P (.mixS 1 l C) T H nx K) (ai P .draw l T H nx λT H nx=>K .normal T H nx):=⟨JB⟩
instance{K:CP}{l:List Op2}{C:List (Nat×Nat)}:StM (aF P (.mixS 2 l C) T H nx K) (ai P (.fresh nx) l T H nx λT H nx=>K .normal T H nx):=⟨IV⟩
class NZ(b w:Bool)(p q:outParam Prop):Prop where
 t:b=w->p
 f:b=!w->q
instance(priority:=10){b:Bool}:NZ b true (b=true) (b=false):=⟨id,id⟩
instance(priority:=10){b:Bool}:NZ b false (b=false) (b=true):=⟨id,id⟩
instance{p:Prop}{i:Decidable p}:NZ (decide p) true p (¬p):=⟨pB,of_decide_eq_false⟩
instance{p:Prop}{i:Decidable p}:NZ (decide p) false (¬p) p:=⟨of_decide_eq_false,pB⟩
instance(priority:=2000):NZ true true True False:=⟨λ_=>trivial,λh=>by cases h⟩
instance(priority:=2000):NZ true false False True:=⟨λh=>(by cases h),λ_=>trivial⟩
instance(priority:=2000):NZ false true False True:=⟨λh=>(by cases h),λ_=>trivial⟩
instance(priority:=2000):NZ false false True False:=⟨λ_=>trivial,λh=>by cases h⟩
instance(priority:=2000){i:Decidable True}:NZ (decide True) true True False:=⟨λ_=>trivial,λh=>of_decide_eq_false h trivial⟩
instance(priority:=2000){i:Decidable True}:NZ (decide True) false False True:=⟨λh=>of_decide_eq_false h trivial,λ_=>trivial⟩
instance(priority:=2000){i:Decidable False}:NZ (decide False) true False True:=⟨pB,λ_=>trivial⟩
instance(priority:=2000){i:Decidable False}:NZ (decide False) false True False:=⟨λ_=>trivial,pB⟩
instance{b w:Bool}{p q:Prop}[i:NZ b w p q]:NZ (!b) w q p:=⟨λh=>i.f (by cases b<;>cases w<;>simp_all),λh=>i.t (by cases b<;>cases w<;>simp_all)⟩
class StG(A:Prop)(v:outParam AV)(w:outParam Bool)(B C:outParam Prop):Prop where
 st:∀b:Bool,v=.bool b->(b=w->B)->(b=!w->C)->A
instance{K:CP}{c:Opd}{x y:C2}:StG (aF P (.cond c x y) T H nx K) (ov T c) true (aF P x T H nx K) (aF P y T H nx K):=⟨λ_ h k1 k2=>BN h k1 k2⟩
instance{dm:DM}{K:SP}{l:List Op2}{d:Option Nat}{i:Ins}{t:Nat}:StG (ai P dm (⟨d,some (t,true),i⟩::l) T H nx K) (T t) true (ai P dm (⟨d,none,i⟩::l) (upd T t (.bool true)) H nx K) (ai P dm l (aO (upd T t (.bool false)) d (.tup [])) H nx K):=⟨λ_ h k1 k2=>PM h k1 k2⟩
instance{dm:DM}{K:SP}{l:List Op2}{d:Option Nat}{i:Ins}{t:Nat}:StG (ai P dm (⟨d,some (t,false),i⟩::l) T H nx K) (T t) false (ai P dm (⟨d,none,i⟩::l) (upd T t (.bool false)) H nx K) (ai P dm l (aO (upd T t (.bool true)) d (.tup [])) H nx K):=⟨λ_ h k1 k2=>PM h k1 k2⟩
theorem zGZ{A:Prop}{v:AV}{w b:Bool}{B C p q:Prop}[i:StG A v w B C][n:NZ b w p q](k1:p->B)(k2:q->C)(h:v=.bool b:=by(try simp only[bg,ZA,Nat.reduceEqDiff,↓reduceIte,Nat.reduceAdd,Nat.reduceLeDiff,zz]);(try with_reducible rfl);first|done|fail):A:=i.st b h (λh=>k1 (n.t h)) (λh=>k2 (n.f h))
theorem zGY{A:Prop}{v:AV}{w b:Bool}{B C p q:Prop}[i:StG A v w B C][n:NZ b w p q](k1:p->B)(k2:q->C)(h:v=.bool b:=by(try simp (disch:=omega) only[cQ,ZA,Nat.reduceEqDiff,↓reduceIte,Nat.reduceAdd,Nat.reduceLeDiff,zz]);(try with_reducible rfl);first|done|fail):A:=i.st b h (λh=>k1 (n.t h)) (λh=>k2 (n.f h))
structure WkQ(B:Prop):Prop where
 q:B
class DatLI(l:List AV):Prop where
 d:∀x∈l,Dat x
instance:DatLI []:=⟨λ_ h=>(by cases h)⟩
instance{x:AV}{l:List AV}[h:DatI x][k:DatLI l]:DatLI (x::l):=⟨DatL.cons h.d k.d⟩
instance{l:List AV}[k:DatLI l]:DatI (.agg l):=⟨Dat.agg k.d⟩
instance{f:FuncId}{l:List AV}[k:DatLI l]:DatI (.func f l):=⟨Dat.func k.d⟩
instance{l:List AV}{n:Nat}[k:DatLI l]:DatI (.iptr l n):=⟨Dat.iptr k.d⟩
theorem wkZ{A B F:Prop}(zz:F)(k:B)(h:F->WkQ B->A:=by intro zz _q;(repeat' (first|refine zW ?_|refine zM ?_|apply a_n|apply a_x|apply a_r|refine zO ?_|refine vZ ?_|refine nvZ ?_|refine cZ ?_ (hp:=by assumption)|refine bxZ ?_|refine alZ ?_|refine blZ ?_|refine b0Z ?_|refine a0Z ?_|refine apZ ?_|refine stZ ?_|refine gTZ ?_|refine gFZ ?_|refine cTZ ?_|refine cFZ ?_|(refine zGZ ?_ ?_<;>(intro _hg;try (exfalso;omega)))|refine au rfl ?_|refine r1Z ?_|refine r2Z ?_|refine r3Z ?_|refine r5Z ?_|refine yw rfl ?_|fail));first|(exact _q.q;done)|fail):A:=h zz ⟨k⟩
theorem wnZ{A B F:Prop}(zz:F)(k:B)(h:F->WkQ B->A:=by intro zz _q;(repeat' (first|refine zW ?_|apply a_n|apply a_x|apply a_r|refine zO ?_|refine vZ ?_|refine nvZ ?_|refine cZ ?_ (hp:=by assumption)|refine bxZ ?_|refine alZ ?_|refine blZ ?_|refine b0Z ?_|refine a0Z ?_|refine apZ ?_|refine stZ ?_|refine gTZ ?_|refine gFZ ?_|refine cTZ ?_|refine cFZ ?_|(refine zGZ ?_ ?_<;>(intro _hg;try (exfalso;omega)))|refine au rfl ?_|refine r1Z ?_|refine r2Z ?_|refine r3Z ?_|refine r5Z ?_|refine yw rfl ?_|fail));first|(exact _q.q;done)|fail):A:=h zz ⟨k⟩
theorem wkY{A B F:Prop}(zz:F)(k:B)(h:F->WkQ B->A:=by intro zz _q;(repeat' (first|refine zW ?_|refine zM ?_|apply a_n|apply a_x|apply a_r|refine zO ?_|refine vY ?_|refine nvY ?_|refine cY ?_ (hp:=by assumption)|refine bxY ?_|refine alY ?_|refine blY ?_|refine b0Y ?_|refine a0Y ?_|refine apY ?_|refine stY ?_|refine gTY ?_|refine gFY ?_|refine cTY ?_|refine cFY ?_|(refine zGY ?_ ?_<;>(intro _hg;try (exfalso;omega)))|refine au rfl ?_|refine r1Y ?_|refine r2Y ?_|refine r3Y ?_|refine r5Y ?_|refine yw rfl ?_|fail));first|(exact _q.q;done)|fail):A:=h zz ⟨k⟩
theorem wnY{A B F:Prop}(zz:F)(k:B)(h:F->WkQ B->A:=by intro zz _q;(repeat' (first|refine zW ?_|apply a_n|apply a_x|apply a_r|refine zO ?_|refine vY ?_|refine nvY ?_|refine cY ?_ (hp:=by assumption)|refine bxY ?_|refine alY ?_|refine blY ?_|refine b0Y ?_|refine a0Y ?_|refine apY ?_|refine stY ?_|refine gTY ?_|refine gFY ?_|refine cTY ?_|refine cFY ?_|(refine zGY ?_ ?_<;>(intro _hg;try (exfalso;omega)))|refine au rfl ?_|refine r1Y ?_|refine r2Y ?_|refine r3Y ?_|refine r5Y ?_|refine yw rfl ?_|fail));first|(exact _q.q;done)|fail):A:=h zz ⟨k⟩
theorem zI3{a b c:Prop}(xa:a)(xb:b)(xc:c):a/\b/\c:=⟨xa,xb,xc⟩
theorem zI4{a b c d:Prop}(xa:a)(xb:b)(xc:c)(xd:d):a/\b/\c/\d:=⟨xa,xb,xc,xd⟩
theorem zI5{a b c d e:Prop}(xa:a)(xb:b)(xc:c)(xd:d)(xe:e):a/\b/\c/\d/\e:=⟨xa,xb,xc,xd,xe⟩
theorem zI6{a b c d e f:Prop}(xa:a)(xb:b)(xc:c)(xd:d)(xe:e)(xf:f):a/\b/\c/\d/\e/\f:=⟨xa,xb,xc,xd,xe,xf⟩
theorem zI7{a b c d e f g:Prop}(xa:a)(xb:b)(xc:c)(xd:d)(xe:e)(xf:f)(xg:g):a/\b/\c/\d/\e/\f/\g:=⟨xa,xb,xc,xd,xe,xf,xg⟩
theorem zI8{a b c d e f g h:Prop}(xa:a)(xb:b)(xc:c)(xd:d)(xe:e)(xf:f)(xg:g)(xh:h):a/\b/\c/\d/\e/\f/\g/\h:=⟨xa,xb,xc,xd,xe,xf,xg,xh⟩
theorem zI9{a b c d e f g h i:Prop}(xa:a)(xb:b)(xc:c)(xd:d)(xe:e)(xf:f)(xg:g)(xh:h)(xi:i):a/\b/\c/\d/\e/\f/\g/\h/\i:=⟨xa,xb,xc,xd,xe,xf,xg,xh,xi⟩
theorem Pk{a b c d e f g h i j:Prop}(xa:a)(xb:b)(xc:c)(xd:d)(xe:e)(xf:f)(xg:g)(xh:h)(xi:i)(xj:j):a/\b/\c/\d/\e/\f/\g/\h/\i/\j:=⟨xa,xb,xc,xd,xe,xf,xg,xh,xi,xj⟩
end Go.Abs
namespace Go.Abs
open Go Go.RowKit
def tB(W:World):Nat->Prop:=λb=>b<W.heap.size
theorem EZ{W:World}{a:Addr}{v:Value}(h:W.cell? a=some v):tB W a.block/\a.spot=none:=by
 unfold World.cell? at h;unfold tB;cases hb:W.heap[a.block]? with
 |none=>simp[hb] at h
 |some o=>
  refine⟨(kT.1 hb).1,?_⟩;cases hs:a.spot with
  |none=>rfl
  |some s=>cases o<;>simp[hb,hs] at h
section
variable{H:Type}{enc:TypeId×Value->H}{P:Program}{W:World}
def eA(enc:TypeId×Value->H)(P:Program)(W:World)(t:TypeId){α:Type}(f:α->AV)(good:α->Prop):Prop:=
 ∀(n:Nat)(cs:List Value)(x:DataW H×List MemPlace),DataW.trod enc P W 0 (λ_=>true) true n t cs=some x->(∀k∈x.1.weights P t,k<=reachBytes)->∃a:α,good a/\dI (E0 (tB W)) W (f a).cells cs
theorem eA.mono{t:TypeId}{α:Type}{f:α->AV}{good good':α->Prop}(h:eA enc P W t f good)(hg:∀a,good a->good' a):eA enc P W t f good':=
 λn cs x hx hw=>let ⟨a,h1,h2⟩:=h n cs x hx hw;⟨a,hg a h1,h2⟩
theorem uh {E:Env} {w:World} {x:AV} {y:Value} (h:Rel E w x y):dI E w [x] [y]:=⟨rfl,fun i a b ha hb=>by
 cases i with
 |zero=>simp at ha hb;subst ha hb;exact h
 |succ i=>simp at ha⟩
theorem dI.app{E:Env}{w:World}{xs xs':List AV}{ys ys':List Value}(h:dI E w xs ys)(h':dI E w xs' ys'):dI E w (xs++xs') (ys++ys'):=by
 have hl:xs.length=ys.length:=h.1.symm;refine⟨by simp[h.1,h'.1],λi a b ha hb=>?_⟩;by_cases hi:i<xs.length
 ·rw[gG hi] at ha;rw[gG (by omega)] at hb;exact h.2 i a b ha hb
 ·rw[iA (by omega)] at ha;rw[iA (by omega)] at hb;rw[hl] at ha;exact h'.2 _ a b ha hb
theorem FF{t:TypeId}{k:IntKind}(ht:P.underlying t=some (.int k)):eA enc P W t (AV.int k) (λn=>(Lit.int k n).wf=true):=λn cs x hx _=>by
 obtain⟨a,rfl,rfl,hw⟩:=DataW.trod_int ht hx;exact⟨a,hw,uh (.int _ _)⟩
theorem oI{e:TypeId}{l:List (DataW H)}{d:DataW H}(h:d∈l){k:Nat}(hk:k∈d.weights P e):k∈DataW.weightsAll P e l:=by
 induction l with
 |nil=>cases h
 |cons a l ih=>
  unfold DataW.weightsAll;rcases gR.1 h with rfl|h
  ·exact rm _ hk
  ·exact wz _ (ih h)
theorem sR{α:Type}{len:Nat}{Q:Nat->α->Prop}(h:∀i,i<len->∃a,Q i a):∃l:List α,l.length=len/\∀i a,l[i]?=some a->Q i a:=by
 induction len with
 |zero=>exact⟨[],rfl,λi a h=>by simp at h⟩
 |succ n ih=>
  obtain⟨l,h1,h2⟩:=ih (λi hi=>h i (by omega));obtain⟨a,ha⟩:=h n (by omega);refine⟨l++[a],by simp[h1],λi b hb=>?_⟩;by_cases hi:i<l.length
  ·rw[gG hi] at hb;exact h2 i b hb
  ·rw[iA (by omega)] at hb
   have:i-l.length=0:=by
    by_cases h0:i-l.length=0
    ·exact h0
    ·rw[List.getElem?_eq_none (by simp;omega)] at hb;cases hb
   rw[this] at hb;simp at hb;subst hb;have:i=n:=by omega
   subst this;exact ha
theorem jU{t e:TypeId}{sz by_:Nat}{α:Type}{f:α->AV}{good:α->Prop}(ht:P.underlying t=some (.slice e))(hsz:P.cellsOf e=sz)(hby:P.bytesOf e=by_)(hpos:0<sz)(hc:∀a,(f a).cells.length=sz)
    (he:eA enc P W e f good):eA enc P W t (lf sz f) (λl=>(∀a∈l,good a)/\l.length<=9223372036854775807/\l.length*by_<=140737488351232):=λn cs x hx hw=>by
 rcases Go.Deep.open_slice ht hx with⟨rfl,rfl⟩|⟨a,len,cap,m,n',D,Pl,rfl,hb,hlc,hcm,hm,hxe,hel⟩
 ·exact⟨[],⟨λ_ h=>(by cases h),by simp,by simp⟩,uh (.slnil _)⟩
 simp only[if_true] at hm;subst hxe;subst hm;have hw':∀k∈((DataW.slice (H:=H) ((List.range len).map D) ((List.range (m-len)).map λj=>D (len+j))).weights P t),k<=reachBytes:=hw;simp only[DataW.weights,ht] at hw';have hlen:(((List.range len).map D).length+((List.range (m-len)).map λj=>D (len+j)).length)*P.bytesOf e<=reachBytes:=hw' _ (gP ..)
 have hbd:len*by_<=140737488351232:=by
  rw[hby] at hlen;simp only[bi,List.length_range] at hlen;have h1:len*by_<=(len+(m-len))*by_:=jv _ (by omega);have h2:reachBytes=140737488351232:=rfl;omega
 have hlm:len<=9223372036854775807:=eK hlc hcm
 have key:∀i,i<len->∃a':α,good a'/\∃cs',W.cells? 0 (a.add (i*sz)) sz=some cs'/\dI (E0 (tB W)) W (f a').cells cs':=λi hi=>by
  obtain⟨cs',h1,h2⟩:=hel i (by omega);rw[hsz] at h1;obtain⟨a',g1,g2⟩:=he n' cs' _ h2 (λk hk=>hw' k (oQ _ (rm _ (oI (cE.2 ⟨i,eM.2 hi,rfl⟩) hk))));exact⟨a',g1,cs',h1,g2⟩
 obtain⟨l,hl,hq⟩:=sR key;refine⟨l,⟨λx hx=>?_,by omega,by rw[hl];exact hbd⟩,uh ?_⟩
 ·obtain⟨i,hi⟩:=rY hx;exact(hq i x hi).1
 by_cases h0:len=0
 ·subst h0;have:l=[]:=fP.1 hl;subst this;exact .slempty _ _ _
 have hcell:∀i j,i<len->j<sz->∃v,W.cell? ((a.add (i*sz)).add j)=some v:=λi j hi hj=>by
  obtain⟨a',_,cs',h1,h2⟩:=key i hi;unfold World.cells? at h1;rw[if_pos (bo _)] at h1;have h3:=mapM_some_get h1 j j (by simp[hj])
  have h4:j<cs'.length:=by
   have:=mapM_some_length h1;simp at this;omega
  exact⟨cs'[j],by rw[h3];simp[h4]⟩
 obtain⟨v0,hv0⟩:=hcell 0 0 (by omega) hpos;have ho:=EZ hv0;simp only[nA,Addr.add,if_true] at ho;obtain⟨blk,off,sp⟩:=a;obtain⟨ho,hsp⟩:=ho;simp only at hsp ho;subst hsp
 have hadd:∀i j,((⟨blk,off,none⟩:Addr).add (i*sz)).add j=⟨blk,off+(i*sz+j),none⟩:=λi j=>by
  rw[ci,ci,kw]
 have hcell':∀k,k<len*sz->∃v,W.cell? ⟨blk,off+k,none⟩=some v:=λk hk=>by
  have h1:k/sz<len:=Nat.div_lt_of_lt_mul (by rw[Nat.mul_comm];exact hk);have h2:k%sz<sz:=Nat.mod_lt _ hpos;obtain⟨v,hv⟩:=hcell (k/sz) (k%sz) h1 h2;rw[hadd,Nat.div_add_mod'] at hv;exact⟨v,hv⟩
 have hlen2:(l.map f).length=len:=by simp[hl]
 have:=Rel.sl (E:=E0 (tB W)) (w:=W) sz (l.map f) blk off m (λk=>(W.cell? ⟨blk,off+k,none⟩).getD Go.undef) ho (by rw[hlen2];exact hlc)
  (λx hx=>by obtain⟨b,_,rfl⟩:=cE.1 hx;exact hc b)
  (fun k hk=>by
   rw[hlen2] at hk;obtain⟨v,hv⟩:=hcell' k hk;simp only[hv,tC])
  (fun i j x y hx hy=>by
   rw[ko,Option.map_eq_some_iff] at hx;obtain⟨a',ha',rfl⟩:=hx;obtain⟨_,cs',h1,h2⟩:=hq i a' ha'
   have hj:j<sz:=by
    have:=(bH.1 hy).1
    rwa [hc] at this
   have hi:i<len:=by
    have:=(bH.1 ha').1;omega
   unfold World.cells? at h1;rw[if_pos (bo _)] at h1;have h3:=mapM_some_get h1 j j (by simp[hj])
   have h4:j<cs'.length:=by
    have:=mapM_some_length h1;simp at this;omega
   rw[hadd] at h3;have h5:cs'[j]?=some cs'[j]:=by simp[h4]
   rw[h5] at h3;simp only[h3,tC];exact h2.2 j y _ hy h5)
 rw[hlen2] at this;exact this
def yA(enc:TypeId×Value->H)(P:Program)(W:World)(fs:List Field)(off:Nat){α:Type}(g:α->List AV)(good:α->Prop):Prop:=
 ∀(n tot:Nat)(cs:List Value)(ys:List (DataW H×List MemPlace)),ys.length=fs.length->(∀(i:Nat)(f:Field),fs[i]?=some f->DataW.trod enc P W 0 (λ_=>true) true n f.type ((cs.drop f.offset).take (P.cellsOf f.type))=ys[i]?)->
  (∀k∈DataW.weightsEach P (fs.map λf:Field=>f.type) (ys.map (·.1)),k<=reachBytes)->cs.length=tot->tot=off+(fs.map λf:Field=>P.cellsOf f.type).sum->∃a:α,good a/\dI (E0 (tB W)) W (g a) (cs.drop off)
theorem iQ{off:Nat}:yA enc P W [] off (λ_:Unit=>[]) (λ_=>True):=λn tot cs ys _ _ _ h1 h2=>by
 refine⟨(),trivial,?_⟩;rw[sk (by simp at h2;omega)];exact⟨rfl,λi a b h=>by simp at h⟩
theorem bW{fd:Field}{fs:List Field}{off off':Nat}{α β:Type}{f:α->AV}{g:β->List AV}{good:α->Prop}{good':β->Prop}(ho:fd.offset=off)(ho':off+P.cellsOf fd.type=off')
    (h:eA enc P W fd.type f good) (h':yA enc P W fs off' g good'):yA enc P W (fd::fs) off (λa:α×β=>(f a.1).cells++g a.2) (λa=>good a.1/\good' a.2):=λn tot cs ys hl hy hw h1 h2=>by
 obtain⟨y,ys,rfl⟩:∃y ys',ys=y::ys':=by
  cases ys with
  |nil=>simp at hl
  |cons y ys=>exact⟨y,ys,rfl⟩
 have hy0:=hy 0 fd rfl;simp only[tG] at hy0;rw[ho] at hy0;simp only[f9,DataW.weightsEach] at hw;obtain⟨a,g1,g2⟩:=h n _ y hy0 (λk hk=>hw k (rm _ hk));simp only[f9,List.sum_cons] at h2
 obtain ⟨b,g3,g4⟩:=h' n tot cs ys (by simpa using hl) (fun i f hf=>by
  have:=hy (i+1) f (by simpa using hf);simpa using this) (λk hk=>hw k (wz _ hk)) h1 (by omega)
 refine⟨(a,b),⟨g1,g3⟩,?_⟩
 have e:cs.drop off=(cs.drop off).take (P.cellsOf fd.type)++cs.drop off':=by
  rw[<-ho',<-List.drop_drop,qI]
 rw[e];exact dI.app g2 g4
theorem fH{t:TypeId}{fs:Array Field}{α:Type}{g:α->List AV}{good:α->Prop}(ht:P.underlying t=some (.struct fs))(hsum:P.cellsOf t=(fs.toList.map λf:Field=>P.cellsOf f.type).sum)
    (h:yA enc P W fs.toList 0 g good):eA enc P W t (λa=>.agg (g a)) good:=λn cs x hx hw=>by
 obtain⟨ys,n',rfl,rfl,hl,hs,hy⟩:=DataW.trod_struct ht hx
 obtain ⟨a,g1,g2⟩:=h n' _ cs ys (by rw [hs]; simp) (fun i f hf=>hy i f (by simpa using hf)) (fun k hk=>hw k (by
  simp only[DataW.weights,ht];exact hk)) hl (by rw[dt,hsum])
 exact⟨a,g1,by rw[List.drop_zero] at g2;exact g2⟩
theorem FE{t e:TypeId}{sz m:Nat}{α:Type}{f:α->AV}{good:α->Prop}(ht:P.underlying t=some (.array m e))(hsz:P.cellsOf e=sz)(htot:P.cellsOf t=m*sz)
    (he:eA enc P W e f good):eA enc P W t (λl:List α=>.agg (l.flatMap λa=>(f a).cells)) (λl=>l.length=m/\∀a∈l,good a):=λn cs x hx hw=>by
 cases n with
 |zero=>simp[DataW.trod] at hx
 |succ n=>
  unfold DataW.trod at hx;rw[ht] at hx
  have hx:(if cs.length=P.cellsOf t then((List.range m).mapM λi=>DataW.trod enc P W 0 (λ_=>true) true n e ((cs.drop (i*P.cellsOf e)).take (P.cellsOf e))).map λxs=>(DataW.agg (xs.map (·.1)),xs.flatMap (·.2)) else none)=some x:=by
   cases cs<;>exact hx
  split at hx
  case isFalse=>cases hx
  case isTrue hl=>
  rw[Option.map_eq_some_iff] at hx;obtain⟨ys,hy,rfl⟩:=hx;rw[hsz] at hy;have hyl:=mapM_some_length hy;simp at hyl
  have hget:∀i,i<m->∃y,ys[i]?=some y/\DataW.trod enc P W 0 (λ_=>true) true n e ((cs.drop (i*sz)).take sz)=some y:=λi hi=>by
   have h1:i<ys.length:=by omega
   exact⟨ys[i],by simp[h1],by rw[mapM_some_get hy i i (by simp[hi])];simp[h1]⟩
  have key:∀i,i<m->∃a,good a/\dI (E0 (tB W)) W (f a).cells ((cs.drop (i*sz)).take sz):=λi hi=>by
   obtain⟨y,h1,h2⟩:=hget i hi
   exact he n _ y h2 (fun k hk=>hw k (by
    simp only[DataW.weights,ht];exact oI (cE.2 ⟨y,ir h1,rfl⟩) hk))
  obtain⟨l,h1,h2⟩:=sR key;refine⟨l,⟨h1,λa ha=>?_⟩,?_⟩
  ·obtain⟨i,hi⟩:=rY ha;exact(h2 i a hi).1
  rw[htot] at hl
  have gen:∀(l:List α)(k:Nat),k+l.length=m->(∀i a,l[i]?=some a->dI (E0 (tB W)) W (f a).cells ((cs.drop ((k+i)*sz)).take sz))->dI (E0 (tB W)) W (l.flatMap λa=>(f a).cells) (cs.drop (k*sz)):=by
   intro l
   induction l with
   |nil=>
    intro k hk _;rw[sk (by simp at hk;subst hk;omega)];exact⟨rfl,λi a b h=>by simp at h⟩
   |cons a l ih=>
    intro k hk hq
    have e:cs.drop (k*sz)=(cs.drop (k*sz)).take sz++cs.drop ((k+1)*sz):=by
     rw[d8,Nat.one_mul,<-List.drop_drop,qI]
    rw[e,lj];refine dI.app (hq 0 a rfl) (ih (k+1) (by simp at hk;omega) (λi b hb=>?_));have:=hq (i+1) b (by simpa using hb)
    rwa [show k+(i+1)=k+1+i by omega] at this
  have:=gen l 0 (by omega) (λi a ha=>by rw[dt];exact(h2 i a ha).2)
  rwa [nA,List.drop_zero] at this
theorem eA.map{t:TypeId}{α β:Type}{f:α->AV}{good:α->Prop}{f':β->AV}{good':β->Prop}(h:eA enc P W t f good)(φ:α->β)(hg:∀a,good a->good' (φ a))(hf:∀a,good a->(f' (φ a)).cells=(f a).cells):eA enc P W t f' good':=λn cs x hx hw=>by
 obtain⟨a,h1,h2⟩:=h n cs x hx hw;exact⟨φ a,hg a h1,by rw[hf a h1];exact h2⟩
theorem eA.at{t u:TypeId}{α:Type}{f:α->AV}{good:α->Prop}(e:t=u)(h:eA enc P W u f good):eA enc P W t f good:=e▸h
theorem eA.argA{t:TypeId}{α:Type}{f:α->AV}{good:α->Prop}(h:eA enc P W t f good){r:Reach}{base:Nat}{v:Value}{d:DataW H}{ps:List MemPlace}(ht:sf P t=true)(hf:∀a,∃cs,f a=.agg cs)
    (hval:Value.okWide P W r base t v) (hd:DataW.Trod enc P W 0 (λ_=>true) true t v d ps) (hw:∀k∈d.weights P t,k<=reachBytes):∃a,good a/\Rel (E0 (tB W)) W (f a) v:=by
 obtain⟨n,hn⟩:=hd;obtain⟨a,h1,h2⟩:=h n _ _ hn hw;refine⟨a,h1,?_⟩
 obtain⟨cs,hcs,_⟩:∃cs,v=.agg cs/\True:=by
  unfold Value.okWide at hval;unfold sf at ht;split at hval
  ·obtain⟨cs,h,_⟩:=hval;exact⟨cs,h,trivial⟩
  ·obtain⟨cs,h,_⟩:=hval;exact⟨cs,h,trivial⟩
  ·rename_i k1 k2;revert ht;cases hu:P.underlying t with
   |none=>simp
   |some u=>
    cases u with
    |struct fs=>exact absurd hu (k1 fs)
    |array m e=>exact absurd hu (k2 m e)
    |_=>simp
 subst hcs;obtain⟨xs,hx⟩:=hf a;rw[hx] at h2 |-;exact .agg xs cs.toList h2.1 h2.2
theorem pN(hl:laidOutB P=true){W':World}(hb:Below W.heap.size W W'){sp:Nat->Bool}:∀{ts:List TypeId}{vs:List Value}{ds:List (DataW H)}{ps:List MemPlace},(∀t∈ts,P.readableRec t=true/\t<P.types.size)->
    DataW.TrodAll enc P W 0 (λ_=>true) true ts vs ds ps->(∀p∈ps,p.block<W.heap.size)->(∀p∈ps,sp p.block=true)->DataW.TrodAll enc P W' 0 sp true ts vs ds ps
 |[],[],[],ps,_,h,_,_=>h
 |t::ts,v::vs,d::ds,ps,hr,⟨p,q,h1,h2,e⟩,hlt,hsp=>by
  subst e
  exact ⟨p,q,WideElems.Trod_stays hl (hr t (gP ..)).1 (hr t (gP ..)).2 h1 (fun x hx=>hb.same (hlt x (rm _ hx))) (fun x hx=>hsp x (rm _ hx)),
   pN hl hb (λt ht=>hr t (oQ _ ht)) h2 (λx hx=>hlt x (wz _ hx)) (λx hx=>hsp x (wz _ hx)),rfl⟩
 |[],_::_,_,_,_,h,_,_=>h.elim
 |[],[],_::_,_,_,h,_,_=>h.elim
 |_::_,[],_,_,_,h,_,_=>h.elim
 |_::_,_::_,[],_,_,h,_,_=>h.elim
theorem oV:∀{ts:List TypeId}{ds:List (DataW H)}{i:Nat}{t:TypeId}{d:DataW H},ts[i]?=some t->ds[i]?=some d->∀k∈d.weights P t,k∈DataW.weightsEach P ts ds
 |t::ts,d::ds,0,_,_,h1,h2,k,hk=>by
  simp at h1 h2;subst h1 h2;unfold DataW.weightsEach;exact rm _ hk
 |t::ts,d::ds,i+1,_,_,h1,h2,k,hk=>by
  unfold DataW.weightsEach;exact wz _ (oV (ts:=ts) (ds:=ds) (by simpa using h1) (by simpa using h2) k hk)
 |[],_,i,_,_,h1,_,_,_=>by simp at h1
 |_::_,[],i,_,_,_,h2,_,_=>by simp at h2
end
end Go.Abs
namespace Go.Abs
open Go.RowKit
end Go.Abs
namespace Go.Proofs.YtbmjaojeplmhnaaGreat
open Go Go.Abs Go.Abs.C2 Go.Abs.Ins Go.Abs.Opd Go.Abs.TK Go.Abs.MK
def cO(d:Nat)(i:Ins):Op2:=Op2.mk (some d) none i
def cG(d g:Nat)(b:Bool)(i:Ins):Op2:=Op2.mk (some d) (some (g,b)) i
def cN(k:Int):Opd:=Opd.c (AV.int IntKind.i64 k)
def cM(n:Nat):Ins:=Ins.mov (Opd.t n)
def cD(n:Nat):Ins:=Ins.ld1 (Opd.t n)
def cF(n:Nat):Opd:=Opd.c (AV.func n [])
def cB(o:BinOp)(x y:Opd):Ins:=Ins.bin o false false x y
def JQ:Opd:=Opd.c (AV.bool false)
def zY:Opd:=Opd.c (AV.bool true)
def aa(d s:Nat):Op2:=Op2.mk (some d) none (Ins.mov (Opd.t s))
def ah(d s:Nat):Op2:=Op2.mk (some d) none (Ins.ld1 (Opd.t s))
def aL(d n s:Nat):Op2:=Op2.mk (some d) none (Ins.ldn n (Opd.t s))
def aV(d s:Nat):Op2:=Op2.mk (some d) none (Ins.lenS (Opd.t s))
def ak(d n s:Nat):Op2:=Op2.mk (some d) none (Ins.fa n (Opd.t s))
def bG(d s n:Nat):Op2:=Op2.mk (some d) none (Ins.ext (Opd.t s) n)
def aH(d f:Nat)(l:List Opd):Op2:=Op2.mk (some d) none (Ins.call (Opd.c (AV.func f [])) l)
def bh(d:Nat)(o:BinOp)(x y:Nat):Op2:=Op2.mk (some d) none (Ins.bin o false false (Opd.t x) (Opd.t y))
def aB(d:Nat)(o:BinOp)(x:Nat)(y:Int):Op2:=Op2.mk (some d) none (Ins.bin o false false (Opd.t x) (Opd.c (AV.int IntKind.i64 y)))
def a7(n p v:Nat):Op2:=Op2.mk none none (Ins.st n (Opd.t p) (Opd.t v))
def ar(d g:Nat)(i:Ins):Op2:=Op2.mk (some d) (some (g,false)) i
def aR(d g:Nat)(i:Ins):Op2:=Op2.mk (some d) (some (g,true)) i
def cS(n:Nat)(x y:C2):C2:=C2.cond (Opd.t n) x y
def af(l:List Op2)(x:C2):C2:=C2.seq (C2.ops 0 l) x
def cV(k b:Nat):C2:=C2.ops 0 [Op2.mk (some k) none (Ins.bin BinOp.add false false (Opd.t b) (Opd.c (AV.int IntKind.i64 1))),Op2.mk (some b) none (Ins.mov (Opd.t k))]
def JG(k n:Nat)(x:C2):C2:=C2.seq (C2.cond (Opd.t k) C2.skip (C2.exit n)) x
def du(k a b n:Nat)(x:C2):C2:=C2.seq (C2.ops 0 [Op2.mk (some k) none (Ins.bin BinOp.lss false false (Opd.t a) (Opd.t b))]) (C2.seq (C2.cond (Opd.t k) C2.skip (C2.exit n)) x)
def am(d:Nat)(k:Int):Op2:=Op2.mk (some d) none (Ins.mov (Opd.c (AV.int IntKind.i64 k)))
def cT(d p a:Nat):Op2:=Op2.mk (some d) none (Ins.pick (Opd.t p) (Opd.c (AV.bool true)) (Opd.t a))
def jk(d p a:Nat):Op2:=Op2.mk (some d) none (Ins.pick (Opd.t p) (Opd.t a) (Opd.c (AV.bool false)))
def br(d s:Nat):Op2:=Op2.mk (some d) none (Ins.box (Opd.t s))
def aW(d n s i:Nat):Op2:=Op2.mk (some d) none (Ins.ixaS n (Opd.t s) (Opd.t i))
def jM(d s:Nat):Op2:=Op2.mk (some d) none (Ins.un UnOp.not (Opd.t s))
def fC(d n b s x:Nat):Op2:=Op2.mk (some d) none (Ins.app n b (Opd.t s) (Opd.t x))
def cw(d:Nat):Op2:=Op2.mk (some d) none (Ins.mov (Opd.c AV.esl))
def bM(d:Nat):Op2:=Op2.mk (some d) none (Ins.mov (Opd.c (AV.bool false)))
def kq(d:Nat):Op2:=Op2.mk (some d) none (Ins.mov (Opd.c (AV.bool true)))
def aj(l:List Op2):C2:=C2.seq (C2.ops 0 l) C2.ret
def az(n:Nat)(x:C2):C2:=C2.cond (Opd.t n) x C2.skip
def ag:AV:=AV.int IntKind.i64 0
theorem aw:(∀(d:Nat)(i:Ins),cO d i=Op2.mk (some d) none i)/\(∀(d g:Nat)(b:Bool)(i:Ins),cG d g b i=Op2.mk (some d) (some (g,b)) i)/\(∀(k:Int),cN k=Opd.c (AV.int IntKind.i64 k))/\(∀(n:Nat),cM n=Ins.mov (Opd.t n))/\(∀(n:Nat),cD n=Ins.ld1 (Opd.t n))/\(∀(n:Nat),cF n=Opd.c (AV.func n []))/\(∀(o:BinOp)(x y:Opd),cB o x y=Ins.bin o false false x y)/\(JQ=Opd.c (AV.bool false))/\(zY=Opd.c (AV.bool true))/\(∀(d s:Nat),aa d s=Op2.mk (some d) none (Ins.mov (Opd.t s)))/\(∀(d s:Nat),ah d s=Op2.mk (some d) none (Ins.ld1 (Opd.t s)))/\(∀(d n s:Nat),aL d n s=Op2.mk (some d) none (Ins.ldn n (Opd.t s)))/\(∀(d s:Nat),aV d s=Op2.mk (some d) none (Ins.lenS (Opd.t s)))/\(∀(d n s:Nat),ak d n s=Op2.mk (some d) none (Ins.fa n (Opd.t s)))/\(∀(d s n:Nat),bG d s n=Op2.mk (some d) none (Ins.ext (Opd.t s) n))/\(∀(d f:Nat)(l:List Opd),aH d f l=Op2.mk (some d) none (Ins.call (Opd.c (AV.func f [])) l))/\(∀(d:Nat)(o:BinOp)(x y:Nat),bh d o x y=Op2.mk (some d) none (Ins.bin o false false (Opd.t x) (Opd.t y)))/\(∀(d:Nat)(o:BinOp)(x:Nat)(y:Int),aB d o x y=Op2.mk (some d) none (Ins.bin o false false (Opd.t x) (Opd.c (AV.int IntKind.i64 y))))/\(∀(n p v:Nat),a7 n p v=Op2.mk none none (Ins.st n (Opd.t p) (Opd.t v)))/\(∀(d g:Nat)(i:Ins),ar d g i=Op2.mk (some d) (some (g,false)) i)/\(∀(d g:Nat)(i:Ins),aR d g i=Op2.mk (some d) (some (g,true)) i)/\(∀(n:Nat)(x y:C2),cS n x y=C2.cond (Opd.t n) x y)/\(∀(l:List Op2)(x:C2),af l x=C2.seq (C2.ops 0 l) x)/\(∀(k b:Nat),cV k b=C2.ops 0 [Op2.mk (some k) none (Ins.bin BinOp.add false false (Opd.t b) (Opd.c (AV.int IntKind.i64 1))),Op2.mk (some b) none (Ins.mov (Opd.t k))])/\(∀(k n:Nat)(x:C2),JG k n x=C2.seq (C2.cond (Opd.t k) C2.skip (C2.exit n)) x)/\(∀(k a b n:Nat)(x:C2),du k a b n x=C2.seq (C2.ops 0 [Op2.mk (some k) none (Ins.bin BinOp.lss false false (Opd.t a) (Opd.t b))]) (C2.seq (C2.cond (Opd.t k) C2.skip (C2.exit n)) x))/\(∀(d:Nat)(k:Int),am d k=Op2.mk (some d) none (Ins.mov (Opd.c (AV.int IntKind.i64 k))))/\(∀(d p a:Nat),cT d p a=Op2.mk (some d) none (Ins.pick (Opd.t p) (Opd.c (AV.bool true)) (Opd.t a)))/\(∀(d p a:Nat),jk d p a=Op2.mk (some d) none (Ins.pick (Opd.t p) (Opd.t a) (Opd.c (AV.bool false))))/\(∀(d s:Nat),br d s=Op2.mk (some d) none (Ins.box (Opd.t s)))/\(∀(d n s i:Nat),aW d n s i=Op2.mk (some d) none (Ins.ixaS n (Opd.t s) (Opd.t i)))/\(∀(d s:Nat),jM d s=Op2.mk (some d) none (Ins.un UnOp.not (Opd.t s)))/\(∀(d n b s x:Nat),fC d n b s x=Op2.mk (some d) none (Ins.app n b (Opd.t s) (Opd.t x)))/\(∀(d:Nat),cw d=Op2.mk (some d) none (Ins.mov (Opd.c AV.esl)))/\(∀(d:Nat),bM d=Op2.mk (some d) none (Ins.mov (Opd.c (AV.bool false))))/\(∀(d:Nat),kq d=Op2.mk (some d) none (Ins.mov (Opd.c (AV.bool true))))/\(∀(l:List Op2),aj l=C2.seq (C2.ops 0 l) C2.ret)/\(∀(n:Nat)(x:C2),az n x=C2.cond (Opd.t n) x C2.skip)/\(ag=AV.int IntKind.i64 0):=⟨λ_ _=>rfl,λ_ _ _ _=>rfl,λ_=>rfl,λ_=>rfl,λ_=>rfl,λ_=>rfl,λ_ _ _=>rfl,rfl,rfl,λ_ _=>rfl,λ_ _=>rfl,λ_ _ _=>rfl,λ_ _=>rfl,λ_ _ _=>rfl,λ_ _ _=>rfl,λ_ _ _=>rfl,λ_ _ _ _=>rfl,λ_ _ _ _=>rfl,λ_ _ _=>rfl,λ_ _ _=>rfl,λ_ _ _=>rfl,λ_ _ _=>rfl,λ_ _=>rfl,λ_ _=>rfl,λ_ _ _=>rfl,λ_ _ _ _ _=>rfl,λ_ _=>rfl,λ_ _ _=>rfl,λ_ _ _=>rfl,λ_ _=>rfl,λ_ _ _ _=>rfl,λ_ _=>rfl,λ_ _ _ _ _=>rfl,λ_=>rfl,λ_=>rfl,λ_=>rfl,λ_=>rfl,λ_ _=>rfl,rfl⟩
theorem mkI{P:Program}{f:FuncId}{F:F2}{fn:Func}(h1:P.funcs[f]?=some fn)(h2:zB P fn=some F:=by kernel_rfl):Is P f F:=Is.mk' h1 h2
theorem follows:Tryz.prog.follows .mixedOrders=true:=by rfl
abbrev pU:=@Go.Abs.Pure Tryz.prog
theorem pO{f:FuncId}{F:F2}{args:List AV}{r:AV}(hf:Is Tryz.prog f F)(hb:aF Tryz.prog F.body (T0 args) aP 0 λe T H nx=>aM e.ends (bm T H (λx=>Snap H x r) F.res))(hl:args.length<=F.n:=by exact B9 rfl):Go.Abs.Pure Tryz.prog f args r:=Go.Abs.Pure.of_c2 follows hf hl hb
theorem fO{f:FuncId}{F:F2}{args:List AV}{H:Hp}{nx:Nat}{K:AV->Hp->Nat->Prop}(hf:Is Tryz.prog f F)(hb:aF Tryz.prog F.body (T0 args) H nx λe T H nx=>aM e.ends (bm T H (λx=>K x H nx) F.res))(hl:args.length<=F.n:=by exact B9 rfl):Go.Abs.Fn Tryz.prog f args H nx K:=Go.Abs.Fn.of_c2 follows hf hl hb
theorem qO{f:FuncId}{F:F2}{args:List AV}{r:AV}(hf:Is Tryz.prog f F)(hb:aF Tryz.prog F.body (T0 args) aP 0 λe T H nx=>aM e.ends (bm T H (λx=>SnapF H x r) F.res))(hl:args.length<=F.n:=by exact B9 rfl):Go.Abs.PureF Tryz.prog f args r:=Go.Abs.PureF.of_c2 follows hf hl hb
def b4:F2:=(F2.mk 143 [RV.t 2] (af [br 1 0,bM 2] ((af [aH 23 5 [],jM 24 23] (az 24 (aj [bM 2]))).seq ((af [aL 25 7 1,aH 26 6 [t 25],jM 27 26] (az 27 (aj [kq 2]))).seq (af [aL 29 7 1,aH 30 7 [t 29],aa 28 30,bG 31 28 0,bG 32 28 1,cO 3 (alloc (AV.agg [ag,ag,ag,AV.esl,ag,AV.esl,ag,ag,AV.esl,AV.esl])),a7 10 3 31,aa 4 32] (af [aL 34 7 1,aH 35 8 [t 34],aa 33 35,bG 36 33 0,bG 37 33 1,aa 5 36,aa 6 37] (af [aL 39 10 3,aa 40 5,aH 41 11 [t 39,t 40],aa 38 41,bG 42 38 0,bG 43 38 1,aa 7 42,aa 8 43] ((af [aa 44 4,aa 45 6,bh 46 .add 44 45,aa 47 8,bh 48 .add 46 47,aB 49 .neq 48 0,aa 50 49,ar 51 50 (cM 5),ar 52 50 (lenS (t 51)),ar 53 50 (cB .eql (t 52) (cN 0)),cT 54 50 53,aa 55 54,ar 56 55 (ldn 10 (t 3)),ar 57 55 (call (cF 9) [t 56]),ar 58 55 (cB .neq (t 57) (cN 0)),cT 59 55 58] (az 59 (aj [bM 2]))).seq (af [cO 60 (mkm none),aa 9 60] ((af [aa 61 7,aV 62 61,am 63 0] (block 0 ((du 64 63 62 0 ((block 1 (af [aW 65 1 61 63,ah 66 65,aa 11 66] (af [aL 68 10 3,aa 69 5,aa 70 11,aH 71 12 [t 68,t 69,t 70],aa 67 71,bG 72 67 0,bG 73 67 1,aa 12 72,aa 13 73] ((af [aa 74 13,aB 75 .neq 74 0] (az 75 (aj [bM 2]))).seq (af [aa 76 12,aV 77 76,am 78 0] (block 2 ((du 79 78 77 2 ((block 3 (af [aW 80 1 76 78,ah 81 80,aa 15 81] ((af [aa 82 15,aB 83 .lss 82 0,aa 84 83,ar 85 84 (cM 15),ar 86 84 (fa 9 (t 3)),ar 87 84 (cD 86),ar 88 84 (lenS (t 87)),ar 89 84 (cB .geq (t 85) (t 88)),cT 90 84 89,aa 91 90,ar 92 91 (cM 9),ar 93 91 (cM 15),ar 94 91 (Ins.mget (one int) (AV.bool false) false (t 92) (t 93)),cT 95 91 94] (az 95 (aj [bM 2]))).seq (ops 0 [aa 96 9,aa 97 15,Op2.mk none none (mput (one int) (t 96) (t 97) zY)])))).seq (cV 98 78)))).loop)))))).seq (cV 99 63)))).loop)).seq (af [am 16 0] ((af [aa 100 5,aV 101 100,am 102 0] (block 4 ((du 103 102 101 4 ((block 5 (af [aW 104 1 100 102,ah 105 104,aa 18 105] (af [aL 107 10 3,aa 108 18,aH 109 10 [t 107,t 108],aa 106 109,bG 110 106 0,bG 111 106 1,aa 19 110,aa 20 111] ((af [aa 112 20,aB 113 .neq 112 0] (az 113 (aj [bM 2]))).seq (af [aa 114 19,aV 115 114,am 116 0] (block 6 ((du 117 116 115 6 ((block 7 (af [aa 118 116,aW 119 1 114 116,ah 120 119,aa 21 118,aa 22 120] (af [aa 121 21,aa 122 22,bh 123 .eql 121 122] (az 123 (ops 0 [aa 124 16,aB 125 .add 124 1,aa 16 125]))))).seq (cV 126 116)))).loop)))))).seq (cV 127 102)))).loop)).seq (aj [aa 128 9,cO 129 (mlen (t 128)),ak 130 9 3,ah 131 130,aV 132 131,bh 133 .eql 129 132,aa 134 133,aR 135 134 (cM 16),aR 136 134 (cM 7),aR 137 134 (lenS (t 136)),aR 138 134 (cM 5),aR 139 134 (lenS (t 138)),aR 140 134 (cB .mul (t 137) (t 139)),aR 141 134 (cB .eql (t 135) (t 140)),jk 142 134 141,aa 2 142])))))))))))))
theorem is4:Is Tryz.prog 4 b4:=mkI Tryz.func4
def b5:F2:=(F2.mk 41 [RV.t 0] (af [bM 0] (af [aH 8 13 ([cN ((1))]),cO 1 (alloc (AV.agg [ag,ag,ag,AV.esl,ag,AV.esl,ag])),a7 7 1 8] (af [aL 10 7 1,aH 11 7 [t 10],aa 9 11,bG 12 9 0,bG 13 9 1,cO 2 (alloc (AV.agg [ag,ag,ag,AV.esl,ag,AV.esl,ag,ag,AV.esl,AV.esl])),a7 10 2 12,aa 3 13] (af [aL 15 7 1,aH 16 8 [t 15],aa 14 16,bG 17 14 0,bG 18 14 1,aa 4 17,aa 5 18] (af [aL 20 10 2,aa 21 4,aH 22 11 [t 20,t 21],aa 19 22,bG 23 19 0,bG 24 19 1,aa 6 23,aa 7 24] (aj [aa 25 3,aa 26 5,bh 27 .add 25 26,aa 28 7,bh 29 .add 27 28,aB 30 .eql 29 0,aa 31 30,aR 32 31 (cM 4),aR 33 31 (lenS (t 32)),aR 34 31 (cB .eql (t 33) (cN 2)),jk 35 31 34,aa 36 35,aR 37 36 (cM 6),aR 38 36 (lenS (t 37)),aR 39 36 (cB .eql (t 38) (cN 7)),jk 40 36 39,aa 0 40])))))))
theorem is5:Is Tryz.prog 5 b5:=mkI Tryz.func5
def b6:F2:=(F2.mk 15 [RV.t 2] (af [br 1 0,bM 2] ((af [aL 5 7 1,aH 6 14 [t 5],jM 7 6] (az 7 (aj [bM 2]))).seq (af [aL 9 7 1,aH 10 15 [t 9],aa 8 10,bG 11 8 0,bG 12 8 1,cO 3 (alloc (AV.agg [ag,ag,ag,AV.esl,ag,AV.esl,ag,ag,AV.esl,AV.esl])),a7 10 3 11,aa 4 12] (aj [aa 13 4,aB 14 .eql 13 0,aa 2 14])))))
theorem is6:Is Tryz.prog 6 b6:=mkI Tryz.func6
def b7:F2:=(F2.mk 86 [RV.cn 2 10,RV.c1 3] (af [br 1 0,cO 2 (alloc (AV.agg [ag,ag,ag,AV.esl,ag,AV.esl,ag,ag,AV.esl,AV.esl])),cO 3 (alloc (ag))] (af [aL 12 7 1,aH 13 16 [t 12],aa 11 13,bG 14 11 0,bG 15 11 1,aa 4 14,aa 5 15] ((af [aa 16 5,aB 17 .neq 16 0] (az 17 (aj [cO 18 (bld [ag,ag,ag,AV.esl,ag,AV.esl,ag,ag,AV.esl,AV.esl] []),aa 19 5,a7 10 2 18,a7 1 3 19]))).seq ((af [aa 20 4,aB 21 .gtr 20 4096] (az 21 (aj [cO 22 (bld [ag,ag,ag,AV.esl,ag,AV.esl,ag,ag,AV.esl,AV.esl] []),a7 10 2 22,Op2.mk none none (Ins.st 1 (t 3) (cN 17))]))).seq (af [ak 24 4 1,aL 25 2 24,ak 26 6 1,ah 27 26,aH 28 17 [t 25,t 27],aa 23 28,bG 29 23 0,bG 30 23 1,aa 6 29,aa 5 30] ((af [aa 31 5,aB 32 .neq 31 0] (az 32 (aj [cO 33 (bld [ag,ag,ag,AV.esl,ag,AV.esl,ag,ag,AV.esl,AV.esl] []),aa 34 5,a7 10 2 33,a7 1 3 34]))).seq (af [aL 35 7 1,aH 36 18 [t 35],cO 37 (bld [ag,ag,ag,AV.esl,ag,AV.esl,ag,ag,AV.esl,AV.esl] [(0,7,t 36)]),cO 7 (alloc (AV.agg [ag,ag,ag,AV.esl,ag,AV.esl,ag,ag,AV.esl,AV.esl])),a7 10 7 37] (af [ak 38 0 1,ak 39 0 38,ah 40 39,cO 41 (mkm none),cO 42 (bld [ag,AV.esl,AV.nilm] [(0,1,t 40),(2,1,t 41)]),br 43 42,cO 8 (alloc AV.nilp),a7 1 8 43] ((af [aL 44 7 1,aa 45 6,aH 46 19 [t 44,t 45]] (block 0 (rangeF (t 46) [47,48] (af [aa 9 47] (ops 0 [aa 10 48])) (block 1 ((mixS 1 [ak 49 9 7,ah 50 49,aa 51 9,aa 52 10,aH 53 20 [t 52],ah 54 8,ak 55 0 1,ak 56 3 55,ah 57 56,aa 58 9,aW 59 3 57 58,ak 60 0 59,ah 61 60,aa 62 10,aH 63 21 [t 54,t 61,t 62],cO 64 (bld [ag,AV.esl,AV.esl] [(0,1,t 51),(1,1,t 53),(2,1,t 63)]),cO 65 (bldS 3 1 [ag,AV.esl,AV.esl] [(0,3,t 64)]),fC 66 3 56 50 65,ak 67 9 7,a7 1 67 66] [(0,0),(1,0),(2,0),(3,0),(5,0),(6,0),(7,0),(8,0),(9,0),(10,0),(11,0),(12,0),(13,0),(4,1),(14,1),(15,0),(16,1),(17,2),(18,0),(19,2)]).seq (af [ah 68 8,cO 69 (nilck (t 68)),ak 70 1 69,ah 71 70,aV 72 71,aB 73 .gtr 72 8192] (az 73 (aj [cO 74 (bld [ag,ag,ag,AV.esl,ag,AV.esl,ag,ag,AV.esl,AV.esl] []),a7 10 2 74,Op2.mk none none (Ins.st 1 (t 3) (cN 17))])))))))).seq ((ops 1 [ah 75 8,cO 76 (nilck (t 75)),ak 77 0 76,ah 78 77,ah 79 8,cO 80 (nilck (t 79)),ak 81 1 80,ah 82 81,cO 83 (bld [ag,AV.esl] [(0,1,t 78),(1,1,t 82)]),ak 84 7 7,a7 2 84 83]).seq (aj [aL 85 10 7,a7 10 2 85,Op2.mk none none (Ins.st 1 (t 3) (cN 0))]))))))))))))
theorem is7:Is Tryz.prog 7 b7:=mkI Tryz.func7
def b8:F2:=(F2.mk 26 [RV.t 2,RV.t 3] (af [br 1 0,cw 2,am 3 0] ((af [aL 7 7 1,aH 8 22 [t 7],aa 4 8] (af [aa 9 4,aB 10 .neq 9 0] (az 10 (aj [aa 11 4,cw 2,aa 3 11])))).seq (af [ak 13 0 1,aL 14 4 13,aH 15 23 [t 14],aa 12 15,bG 16 12 0,bG 17 12 1,aa 5 16,aa 6 17] ((af [aa 18 6,aB 19 .neq 18 0] (az 19 (aj [aa 20 6,cw 2,aa 3 20]))).seq (aj [aa 21 5,cO 22 (mkfn 25 [t 1]),aH 23 24 [t 21,t 22],bG 24 23 0,bG 25 23 1,aa 2 24,aa 3 25]))))))
theorem is8:Is Tryz.prog 8 b8:=mkI Tryz.func8
def b9:F2:=(F2.mk 18 [RV.t 2] (af [br 1 0,am 2 0] (af [ak 6 0 1,aL 7 7 6,aH 8 15 [t 7],aa 5 8,bG 9 5 0,bG 10 5 1,cO 3 (alloc (AV.agg [ag,ag,ag,AV.esl,ag,AV.esl,ag,ag,AV.esl,AV.esl])),a7 10 3 9,aa 4 10] ((af [aa 11 4,aB 12 .neq 11 0] (az 12 (aj [aa 13 4,aa 2 13]))).seq ((af [aL 14 10 1,aL 15 10 3,aH 16 27 [t 14,t 15],jM 17 16] (az 17 (aj [am 2 3]))).seq (aj [am 2 0]))))))
theorem is9:Is Tryz.prog 9 b9:=mkI Tryz.func9
def b10:F2:=(F2.mk 25 [RV.t 4,RV.t 5] (af [br 2 0,cw 4,am 5 0] ((af [aL 9 10 2,aa 10 1,aH 11 28 [t 9,t 10],aa 6 11] (af [aa 12 6,aB 13 .neq 12 0] (az 13 (aj [aa 14 6,cw 4,aa 5 14])))).seq (af [aL 16 10 2,aH 17 29 [t 16],aa 18 1,aH 19 30 [t 17,t 18],aa 15 19,bG 20 15 0,bG 21 15 1,aa 7 20,aa 8 21] ((af [aa 22 8,jM 23 22] (az 23 (aj [cw 4,am 5 20]))).seq (aj [aa 24 7,aa 4 24,am 5 0]))))))
theorem R4:Is Tryz.prog 10 b10:=mkI Tryz.func10
def b11:F2:=(F2.mk 21 [RV.t 4,RV.t 5] (af [br 2 0,cw 4,am 5 0] (af [aL 9 10 2,aa 10 1,aH 11 31 [t 9,t 10],aa 8 11,bG 12 8 0,bG 13 8 1,aa 6 12,aa 7 13] ((af [aa 14 7,aB 15 .neq 14 0] (az 15 (aj [aa 16 7,cw 4,aa 5 16]))).seq (af [aa 17 6,aH 18 32 [t 17]] (aj [aa 19 6,aH 20 33 [t 19],aa 4 20,am 5 0]))))))
theorem RB:Is Tryz.prog 11 b11:=mkI Tryz.func11
def b12:F2:=(F2.mk 49 [RV.t 6,RV.t 7] (af [br 3 0,cw 6,am 7 0] (af [aL 14 10 3,aa 15 1,aH 16 31 [t 14,t 15],aa 13 16,bG 17 13 0,bG 18 13 1,aa 8 17,aa 9 18] ((af [aa 19 9,aB 20 .neq 19 0] (az 20 (aj [aa 21 9,cw 6,aa 7 21]))).seq ((af [aa 22 2,aB 23 .lss 22 0,aa 24 23,ar 25 24 (cM 2),ar 26 24 (cM 8),ar 27 24 (lenS (t 26)),ar 28 24 (cB .geq (t 25) (t 27)),cT 29 24 28] (az 29 (aj [cw 6,am 7 6]))).seq (af [cw 10] ((af [aa 30 8,aV 31 30,am 32 0] (block 0 ((du 33 32 31 0 ((block 1 (af [aa 34 32,aW 35 1 30 32,ah 36 35,aa 11 34,aa 12 36] (af [aa 37 12,aa 38 8,aa 39 2,aW 40 1 38 39,ah 41 40,bh 42 .eql 37 41] (az 42 (ops 0 [aa 43 10,aa 44 11,cO 45 (bldS 1 1 [ag] [(0,1,t 44)]),fC 46 1 8 43 45,aa 10 46]))))).seq (cV 47 32)))).loop)).seq (aj [aa 48 10,aa 6 48,am 7 0]))))))))
theorem Sc:Is Tryz.prog 12 b12:=mkI Tryz.func12
def b13:F2:=(F2.mk 54 [RV.cn 2 7] (af [cO 2 (alloc (AV.agg [ag,ag,ag,AV.esl,ag,AV.esl,ag]))] (af [cO 8 (bldS 1 2 [ag] [(0,1,cN ((0))),(1,1,cN ((0)))]),cO 9 (bldS 1 2 [ag] [(0,1,cN ((1))),(1,1,cN ((1)))]),cO 10 (bldS 1 2 [AV.esl] [(0,1,t 8),(1,1,t 9)]),aa 3 10] ((ops 1 [cO 11 (bldS 1 2 [ag] [(0,1,cN ((0))),(1,1,cN ((0)))]),aa 12 3,cO 13 (sls 1 (t 12) none (some (cN 1)) none),cO 14 (bld [AV.esl,AV.esl,AV.esl] [(0,1,t 11),(1,1,t 13)]),cO 15 (bldS 1 2 [ag] [(0,1,cN ((0))),(1,1,cN ((1)))]),aa 16 3,cO 17 (bld [AV.esl,AV.esl,AV.esl] [(0,1,t 15),(1,1,t 16)]),cO 18 (bldS 1 2 [ag] [(0,1,cN ((1))),(1,1,cN ((0)))]),aa 19 3,cO 20 (bld [AV.esl,AV.esl,AV.esl] [(0,1,t 18),(1,1,t 19)]),cO 21 (bldS 1 2 [ag] [(0,1,cN ((1))),(1,1,cN ((1)))]),aa 22 3,cO 23 (sls 1 (t 22) (some (cN 1)) none none),cO 24 (bld [AV.esl,AV.esl,AV.esl] [(0,1,t 21),(1,1,t 23)]),cO 25 (bldS 3 4 [AV.esl,AV.esl,AV.esl] [(0,3,t 14),(3,3,t 17),(6,3,t 20),(9,3,t 24)]),cO 26 (bld [ag,ag,ag,AV.esl] [(0,1,cN ((2))),(1,1,cN ((2))),(2,1,cN ((2))),(3,1,t 25)]),cO 4 (alloc (AV.agg [ag,ag,ag,AV.esl])),a7 4 4 26]).seq (af [cw 5] ((af [cO 27 (bld [ag,ag] [(0,1,cN ((1))),(1,1,cN ((3)))]),cO 28 (bld [ag,ag] [(0,1,cN ((3))),(1,1,cN ((2)))]),cO 29 (bld [ag,ag] [(0,1,cN ((3))),(1,1,cN ((3)))]),cO 30 (bldS 2 3 [ag,ag] [(0,2,t 27),(2,2,t 28),(4,2,t 29)]),aV 31 30,am 32 0] (block 0 ((du 33 32 31 0 ((block 1 (af [aW 34 2 30 32,aL 35 2 34,cO 7 (alloc (AV.agg [ag,ag])),a7 2 7 35] (ops 0 [aa 36 5,cO 37 (ixaA 2 1 (t 7) (cN 0)),ah 38 37,cO 39 (ixaA 2 1 (t 7) (cN 1)),ah 40 39,cO 41 (bld [ag,ag,ag,ag,ag] [(0,1,t 38),(1,1,t 40)]),cO 42 (bld [ag,ag,ag,ag,ag,ag] [(0,1,cN ((2))),(1,5,t 41)]),cO 43 (bld [ag,ag,ag,ag,ag,ag,ag] [(0,6,t 42)]),cO 44 (bld [ag,ag,ag,ag,ag,ag,ag,ag] [(0,7,t 43)]),cO 45 (bldS 8 1 [ag,ag,ag,ag,ag,ag,ag,ag] [(0,8,t 44)]),fC 46 8 64 36 45,aa 5 46]))).seq (cV 47 32)))).loop)).seq (aj [aL 48 4 4,aa 49 5,cO 50 (bldS 1 1 [AV.esl] [(0,1,t 49)]),cO 51 (bld [ag,AV.esl] [(0,1,cN ((2))),(1,1,t 50)]),aa 52 0,cO 53 (bld [ag,ag,ag,AV.esl,ag,AV.esl,ag] [(0,4,t 48),(4,2,t 51),(6,1,t 52)]),a7 7 2 53])))))))
theorem Rw:Is Tryz.prog 13 b13:=mkI Tryz.func13
def b14:F2:=(F2.mk 37 [RV.t 2] (af [br 1 0,bM 2] ((af [ak 4 0 1,aL 5 4 4,aH 6 34 [t 5],jM 7 6,aa 8 7,ar 9 8 (fa 4 (t 1)),ar 10 8 (ldn 2 (t 9)),ar 11 8 (call (cF 35) [t 10]),ar 12 8 (un UnOp.not (t 11)),cT 13 8 12,aa 14 13,ar 15 14 (fa 0 (t 1)),ar 16 14 (fa 0 (t 15)),ar 17 14 (cD 16),ar 18 14 (cB .gtr (t 17) (cN 3)),ar 19 14 (cM 18),aR 20 19 (fa 0 (t 1)),aR 21 19 (fa 0 (t 20)),aR 22 19 (cD 21),aR 23 19 (cB .leq (t 22) (cN 5)),ar 24 14 (pick (t 19) (t 23) JQ),cT 25 14 24] (az 25 (aj [bM 2]))).seq ((af [aL 26 7 1,aH 27 36 [t 26],aB 28 .neq 27 0] (az 28 (aj [kq 2]))).seq (af [aL 29 7 1,aH 30 37 ([t 29,cN ((4096))]),aa 3 30] (aj [aa 31 3,aB 32 .leq 31 60,aa 33 32,ar 34 33 (cM 3),ar 35 33 (cB .gtr (t 34) (cN 4096)),cT 36 33 35,aa 2 36]))))))
theorem RJ:Is Tryz.prog 14 b14:=mkI Tryz.func14
def b15:F2:=(F2.mk 25 [RV.cn 2 10,RV.t 3] (af [br 1 0,cO 2 (alloc (AV.agg [ag,ag,ag,AV.esl,ag,AV.esl,ag,ag,AV.esl,AV.esl])),am 3 0] ((af [aL 6 7 1,aH 7 36 [t 6],aa 4 7] (af [aa 8 4,aB 9 .neq 8 0] (az 9 (aj [cO 10 (bld [ag,ag,ag,AV.esl,ag,AV.esl,ag,ag,AV.esl,AV.esl] []),aa 11 4,a7 10 2 10,aa 3 11])))).seq ((af [aL 12 7 1,aH 13 37 ([t 12,cN ((4096))]),aB 14 .gtr 13 4096] (az 14 (aj [cO 15 (bld [ag,ag,ag,AV.esl,ag,AV.esl,ag,ag,AV.esl,AV.esl] []),a7 10 2 15,am 3 17]))).seq (af [aL 16 7 1,aH 17 38 [t 16],cO 5 (alloc (AV.agg [ag,ag,ag,AV.esl,ag,AV.esl,ag,ag,AV.esl,AV.esl])),a7 10 5 17] ((af [ak 18 7 5,ak 19 1 18,ah 20 19,aV 21 20,aB 22 .gtr 21 8192] (az 22 (aj [cO 23 (bld [ag,ag,ag,AV.esl,ag,AV.esl,ag,ag,AV.esl,AV.esl] []),a7 10 2 23,am 3 17]))).seq (aj [aL 24 10 5,a7 10 2 24,am 3 0])))))))
theorem L6:Is Tryz.prog 15 b15:=mkI Tryz.func15
def b16:F2:=(F2.mk 33 [RV.t 2,RV.t 3] (af [br 1 0,am 2 0,am 3 0] ((af [aL 8 7 1,aH 9 39 [t 8],aa 4 9] (af [aa 10 4,aB 11 .neq 10 0] (az 11 (aj [aa 12 4,am 2 0,aa 3 12])))).seq (af [ak 14 4 1,aL 15 2 14,ak 16 6 1,ah 17 16,aH 18 40 [t 15,t 17],aa 13 18,bG 19 13 0,bG 20 13 1,aa 5 19,aa 6 20] ((af [aa 21 6,aB 22 .neq 21 0] (az 22 (aj [aa 23 6,am 2 0,aa 3 23]))).seq (af [aa 24 5,ak 25 0 1,ak 26 3 25,ah 27 26,aV 28 27,bh 29 .mul 24 28,aa 7 29] ((af [aa 30 7,aB 31 .gtr 30 1048576] (az 31 (aj [am 2 0,am 3 17]))).seq (aj [aa 32 7,aa 2 32,am 3 0]))))))))
theorem Rv:Is Tryz.prog 16 b16:=mkI Tryz.func16
def b17:F2:=(F2.mk 27 [RV.t 4,RV.t 5] (af [br 2 0,br 3 1,cw 4,am 5 0] (af [aL 11 2 2,ah 12 3,aH 13 41 ([t 11,t 12,cN ((4096))]),aa 10 13,bG 14 10 0,bG 15 10 1,aa 6 14,aa 7 15] ((af [aa 16 7,aB 17 .neq 16 0] (az 17 (aj [aa 18 7,cw 4,aa 5 18]))).seq (af [aa 19 6,cO 20 (mks 1 24 [AV.esl] (cN 0) (t 19)),cO 8 (alloc AV.esl),a7 1 8 20] (af [cO 9 (alloc AV.nilf)] (af [cO 21 (mkfn 42 [t 3,t 8,t 2,t 9]),a7 1 9 21] ((mixS 1 [ah 22 9,ah 23 3,cO 24 (mks 7 56 [ag,ag,ag,ag,ag,ag,ag] (cN 0) (t 23)),cO 25 (call (t 22) [cN ((0)),t 24])] [(0,0),(1,0),(2,1),(3,2)]).seq (aj [ah 26 8,aa 4 26,am 5 0])))))))))
theorem RM:Is Tryz.prog 17 b17:=mkI Tryz.func17
def b18:F2:=(F2.mk 62 [RV.cn 2 7] (af [br 1 0,cO 2 (alloc (AV.agg [ag,ag,ag,AV.esl,ag,AV.esl,ag]))] (af [ak 7 0 1,ak 8 3 7,ah 9 8,aH 10 43 [t 9],ak 11 0 1,ak 12 3 11,a7 1 12 10] ((af [ak 13 0 1,ak 14 3 13,ah 15 14,aV 16 15,am 17 0] (block 0 ((du 18 17 16 0 ((block 1 (af [aa 19 17,aW 20 3 15 17,aL 21 3 20,cO 4 (alloc (AV.agg [AV.esl,AV.esl,AV.esl])),aa 3 19,a7 3 4 21] (mixS 1 [ak 22 0 1,ak 23 3 22,ah 24 23,aa 25 3,ak 26 0 4,ah 27 26,aH 28 44 [t 27],ak 29 1 4,ah 30 29,aH 31 45 [t 30],ak 32 2 4,ah 33 32,aH 34 45 [t 33],cO 35 (bld [AV.esl,AV.esl,AV.esl] [(0,1,t 28),(1,1,t 31),(2,1,t 34)]),aW 36 3 24 25,a7 3 36 35] [(0,0),(1,0),(2,0),(3,0),(4,0),(5,0),(7,0),(8,0),(10,0),(11,0),(6,1),(9,1),(12,1),(13,0),(14,0),(15,2)]))).seq (cV 37 17)))).loop)).seq (af [ak 38 4 1,ak 39 1 38,ah 40 39,aH 41 46 [t 40],ak 42 4 1,ak 43 1 42,a7 1 43 41] ((af [ak 44 4 1,ak 45 1 44,ah 46 45,aV 47 46,am 48 0] (block 2 ((du 49 48 47 2 ((block 3 (af [aa 50 48,aW 51 1 46 48,ah 52 51,aa 5 50,aa 6 52] (mixS 1 [ak 53 4 1,ak 54 1 53,ah 55 54,aa 56 5,aa 57 6,aH 58 47 [t 57],aW 59 1 55 56,a7 1 59 58] [(0,0),(1,0),(2,0),(3,0),(4,0),(5,1),(6,0),(7,2)]))).seq (cV 60 48)))).loop)).seq (aj [aL 61 7 1,a7 7 2 61])))))))
theorem Sp:Is Tryz.prog 18 b18:=mkI Tryz.func18
def b19:F2:=(F2.mk 6 [RV.t 4] (af [br 2 0,br 3 1,cO 4 (mov (c AV.nilf))] (aj [cO 5 (mkfn 48 [t 2,t 3]),aa 4 5])))
theorem Ry:Is Tryz.prog 19 b19:=mkI Tryz.func19
def b20:F2:=(F2.mk 8 [RV.t 2] (af [cw 2] ((af [aa 3 0,cO 4 (snil false (t 3))] (az 4 (aj [cw 2]))).seq (aj [cO 5 (bldS 7 0 [ag,ag,ag,ag,ag,ag,ag] []),aa 6 0,fC 7 7 56 5 6,aa 2 7]))))
theorem Se:Is Tryz.prog 20 b20:=mkI Tryz.func20
def b21:F2:=(F2.mk 99 [RV.t 6] (af [cw 6] (af [aa 17 0,cO 18 (nilck (t 17)),ak 19 0 18,ah 20 19,cO 21 (mks 1 8 [ag] (t 20) (t 20)),aa 7 21] ((af [aa 22 7,aV 23 22,am 24 0] (block 0 ((du 25 24 23 0 ((block 1 (af [aa 26 24,aa 8 26] (mixS 1 [aa 27 7,aa 28 8,aa 29 0,aa 30 8,aa 31 1,aa 32 8,aW 33 1 31 32,ah 34 33,aH 35 50 [],cO 36 (bld [ag,ag,ag,ag,ag,ag,ag,ag] [(0,1,t 30),(2,1,t 34),(3,5,t 35)]),aH 37 49 [t 29,t 36],aW 38 1 27 28,a7 1 38 37] [(0,0),(1,0),(2,0),(3,0),(4,0),(5,0),(6,0),(7,0),(8,1),(9,0),(10,2),(11,0),(12,2)]))).seq (cV 39 24)))).loop)).seq (af [aa 40 7,cO 41 (bldS 1 1 [AV.esl] [(0,1,t 40)]),aa 9 41] ((af [aa 42 2,aV 43 42,am 44 0] (block 2 ((du 45 44 43 2 ((block 3 (af [aa 46 44,aW 47 7 42 44,aL 48 7 47,cO 11 (alloc (AV.agg [ag,ag,ag,ag,ag,ag,ag])),aa 10 46,a7 7 11 48] (af [aa 49 0,cO 50 (nilck (t 49)),ak 51 0 50,ah 52 51,cO 53 (mks 1 8 [ag] (t 52) (t 52)),aa 12 53] ((af [aa 54 12,aV 55 54,am 56 0] (block 4 ((du 57 56 55 4 ((block 5 (af [aa 58 56,aa 13 58] (af [aa 59 13,aa 60 10,aB 61 .add 60 1,aH 62 50 [],cO 63 (bld [ag,ag,ag,ag,ag,ag,ag,ag] [(0,1,t 59),(1,1,t 61),(3,5,t 62)]),cO 14 (alloc (AV.agg [ag,ag,ag,ag,ag,ag,ag,ag])),a7 8 14 63] ((af [aa 64 7,aV 65 64,am 66 0] (block 6 ((du 67 66 65 6 ((block 7 (af [aa 68 66,aW 69 1 64 66,ah 70 69,aa 15 68,aa 16 70] (af [aa 71 13,ak 72 0 11,ak 73 1 72,cO 74 (ixaA 5 1 (t 73) (t 71)),ah 75 74,aa 76 15,bh 77 .shr 75 76,aB 78 .and 77 1,aB 79 .eql 78 1] (az 79 (ops 0 [aa 80 15,aa 81 16,ak 82 3 14,cO 83 (ixaA 5 1 (t 82) (t 80)),a7 1 83 81]))))).seq (cV 84 66)))).loop)).seq (ops 0 [aa 85 12,aa 86 13,aa 87 0,aL 88 8 14,aH 89 49 [t 87,t 88],aW 90 1 85 86,a7 1 90 89]))))).seq (cV 91 56)))).loop)).seq (ops 0 [aa 92 9,aa 93 12,cO 94 (bldS 1 1 [AV.esl] [(0,1,t 93)]),fC 95 1 24 92 94,aa 96 12,aa 9 95,aa 7 96]))))).seq (cV 97 44)))).loop)).seq (aj [aa 98 9,aa 6 98])))))))
theorem QN:Is Tryz.prog 21 b21:=mkI Tryz.func21
def b22:F2:=(F2.mk 34 [RV.t 2] (af [br 1 0,am 2 0] ((af [ak 5 0 1,aL 6 4 5,aH 7 51 [t 6],aa 3 7] (af [aa 8 3,aB 9 .neq 8 0] (az 9 (aj [aa 10 3,aa 2 10])))).seq ((af [ak 11 4 1,aL 12 2 11,aH 13 52 [t 12],aa 4 13] (af [aa 14 4,aB 15 .neq 14 0] (az 15 (aj [aa 16 4,aa 2 16])))).seq ((block 0 (af [ak 18 0 1,ak 19 0 18,ah 20 19,ak 21 4 1,ak 22 0 21,ah 23 22,bh 24 .neq 20 23,aa 17 24] (cS 17 (aj [am 2 22]) (af [ak 26 6 1,ah 27 26,aB 28 .lss 27 0,aa 29 28,ar 30 29 (fa 6 (t 1)),ar 31 29 (cD 30),ar 32 29 (cB .gtr (t 31) (cN 6)),cT 33 29 32,aa 25 33] (az 25 (aj [am 2 2])))))).seq (aj [am 2 0]))))))
theorem RR:Is Tryz.prog 22 b22:=mkI Tryz.func22
def b23:F2:=(F2.mk 24 [RV.t 2,RV.t 3] (af [br 1 0,cw 2,am 3 0] ((af [aL 7 4 1,aH 8 51 [t 7],aa 4 8] (af [aa 9 4,aB 10 .neq 9 0] (az 10 (aj [aa 11 4,cw 2,aa 3 11])))).seq (af [ak 13 0 1,ah 14 13,aH 15 53 [t 14],aa 12 15,bG 16 12 0,bG 17 12 1,aa 5 16,aa 6 17] ((af [aa 18 6,aB 19 .neq 18 0] (az 19 (aj [aa 20 6,cw 2,aa 3 20]))).seq (aj [aa 21 5,cO 22 (mkfn 55 [t 1]),aH 23 54 [t 21,t 22],aa 2 23,am 3 0]))))))
theorem R6:Is Tryz.prog 23 b23:=mkI Tryz.func23
def b24:F2:=(F2.mk 33 [RV.t 4,RV.t 5] (af [cw 4,am 5 0] (af [cw 6] ((af [aa 11 0,aV 12 11,am 13 0] (block 0 ((du 14 13 12 0 ((block 1 (af [aW 15 1 11 13,ah 16 15,aa 8 16] (af [aa 18 1,aa 19 8,cO 20 (call (t 18) [t 19]),aa 17 20,bG 21 17 0,bG 22 17 1,aa 9 21,aa 10 22] ((af [aa 23 10,aB 24 .neq 23 0] (az 24 (aj [aa 25 10,cw 4,aa 5 25]))).seq (af [aa 26 9] (az 26 (ops 0 [aa 27 6,aa 28 8,cO 29 (bldS 1 1 [AV.esl] [(0,1,t 28)]),fC 30 1 24 27 29,aa 6 30]))))))).seq (cV 31 13)))).loop)).seq (aj [aa 32 6,aa 4 32,am 5 0])))))
theorem Sy:Is Tryz.prog 24 b24:=mkI Tryz.func24
def b25:F2:=(F2.mk 11 [RV.t 3,RV.t 4] (af [bM 3,am 4 0] (aj [ak 5 4 1,aL 6 2 5,aa 7 0,aH 8 26 [t 6,t 7],bG 9 8 0,bG 10 8 1,aa 3 9,aa 4 10])))
theorem RO:Is Tryz.prog 25 b25:=mkI Tryz.func25
def b26:F2:=(F2.mk 28 [RV.t 4,RV.t 5] (af [br 2 0,bM 4,am 5 0] (af [aL 11 2 2,aa 12 1,aH 13 58 [t 11,t 12],aa 10 13,bG 14 10 0,bG 15 10 1,cO 6 (alloc (AV.agg [ag,AV.esl])),a7 2 6 14,aa 7 15] ((af [aa 16 7,aB 17 .neq 16 0] (az 17 (aj [aa 18 7,bM 4,aa 5 18]))).seq (af [aL 20 2 2,aL 21 2 6,aH 22 59 [t 20,t 21],aa 19 22,bG 23 19 0,bG 24 19 1,bG 25 19 2,aa 8 23,aa 9 24,aa 7 25] (aj [aa 26 9,aa 27 7,aa 4 26,aa 5 27]))))))
theorem QT:Is Tryz.prog 26 b26:=mkI Tryz.func26
def b27:F2:=(F2.mk 48 [RV.t 4] (af [br 2 0,br 3 1,bM 4] ((af [ak 6 0 2,aL 7 7 6,ak 8 0 3,aL 9 7 8,aH 10 60 [t 7,t 9],jM 11 10,aa 12 11,ar 13 12 (fa 7 (t 2)),ar 14 12 (ldn 2 (t 13)),ar 15 12 (fa 7 (t 3)),ar 16 12 (ldn 2 (t 15)),ar 17 12 (call (cF 61) [t 14,t 16]),ar 18 12 (un UnOp.not (t 17)),cT 19 12 18,aa 20 19,ar 21 20 (fa 9 (t 2)),ar 22 20 (cD 21),ar 23 20 (lenS (t 22)),ar 24 20 (fa 9 (t 3)),ar 25 20 (cD 24),ar 26 20 (lenS (t 25)),ar 27 20 (cB .neq (t 23) (t 26)),cT 28 20 27] (az 28 (aj [bM 4]))).seq ((af [am 5 0] (block 0 ((af [aa 29 5,ak 30 9 2,ah 31 30,aV 32 31,bh 33 .lss 29 32] (cS 33 skip (exit 0))).seq ((block 1 ((mixS 1 [ak 36 9 2,ah 37 36,aa 38 5,aW 39 3 37 38,aL 40 3 39,ak 41 9 3,ah 42 41,aa 43 5,aW 44 3 42 43,aL 45 3 44,aH 46 62 [t 40,t 45],jM 47 46] [(0,0),(1,0),(2,0),(3,0),(4,0),(5,0),(6,0),(7,0),(8,0),(9,0),(10,2),(11,0)]).seq (az 47 (aj [bM 4])))).seq (ops 0 [aa 34 5,aB 35 .add 34 1,aa 5 35]))).loop)).seq (aj [kq 4])))))
theorem QS:Is Tryz.prog 27 b27:=mkI Tryz.func27
def b28:F2:=(F2.mk 23 [RV.t 4] (af [br 2 0,am 4 0] ((af [aL 7 10 2,aH 8 63 [t 7],aa 5 8] (af [aa 9 5,aB 10 .neq 9 0] (az 10 (aj [aa 11 5,aa 4 11])))).seq ((af [aa 12 1,aH 13 64 [t 12],aa 6 13] (af [aa 14 6,aB 15 .neq 14 0] (az 15 (aj [aa 16 6,aa 4 16])))).seq ((af [aa 17 1,aV 18 17,ak 19 7 2,ak 20 0 19,ah 21 20,bh 22 .neq 18 21] (az 22 (aj [am 4 22]))).seq (aj [am 4 0]))))))
theorem QL:Is Tryz.prog 28 b28:=mkI Tryz.func28
def b29:F2:=(F2.mk 52 [RV.t 2] (af [br 1 0,cO 2 (mov (c AV.nilp))] (af [aL 8 10 1,cO 9 (mkm none),cO 10 (mkm none),cO 11 (bld [ag,ag,ag,AV.esl,ag,AV.esl,ag,ag,AV.esl,AV.esl,AV.nilm,AV.nilm] [(0,10,t 8),(10,1,t 9),(11,1,t 10)]),br 12 11,aa 3 12] ((af [ak 13 0 1,ak 14 0 13,ak 15 3 14,ah 16 15,aV 17 16,am 18 0] (block 0 ((du 19 18 17 0 ((block 1 (af [aa 20 18,aW 21 3 16 18,aL 22 3 21,cO 5 (alloc (AV.agg [AV.esl,AV.esl,AV.esl])),aa 4 20,a7 3 5 22] (mixS 9 [aa 23 3,cO 24 (nilck (t 23)),ak 25 10 24,ah 26 25,ak 27 0 5,ah 28 27,aH 29 65 [t 28],aa 30 4,Op2.mk none none (mput (one str) (t 26) (t 29) (t 30))] [(0,0),(1,0),(2,0),(3,0),(4,0),(5,0),(7,0),(6,1),(8,2)]))).seq (cV 31 18)))).loop)).seq ((af [ak 32 9 1,ah 33 32,aV 34 33,am 35 0] (block 2 ((du 36 35 34 2 ((block 3 (af [aa 37 35,aW 38 3 33 35,aL 39 3 38,cO 7 (alloc (AV.agg [ag,AV.esl,AV.esl])),aa 6 37,a7 3 7 39] (mixS 9 [aa 40 3,cO 41 (nilck (t 40)),ak 42 11 41,ah 43 42,ak 44 0 7,ah 45 44,ak 46 1 7,ah 47 46,aH 48 66 [t 45,t 47],aa 49 6,Op2.mk none none (mput (one str) (t 43) (t 48) (t 49))] [(0,0),(1,0),(2,0),(3,0),(4,0),(5,0),(6,0),(7,0),(9,0),(8,1),(10,2)]))).seq (cV 50 35)))).loop)).seq (aj [aa 51 3,aa 2 51]))))))
theorem Q7:Is Tryz.prog 29 b29:=mkI Tryz.func29
def b30:F2:=(F2.mk 21 [RV.c1 4,RV.c1 5] (af [cO 4 (alloc AV.esl),cO 5 (alloc (AV.bool false))] (af [cO 6 (alloc AV.esl)] ((af [aa 9 0,aa 10 1,aH 11 67 [t 9,t 10]] (block 0 (rangeF (t 11) [12,13] (ops 0 [aa 8 13]) (block 1 ((af [aa 14 8,aB 15 .lss 14 0] (az 15 (aj [Op2.mk none none (Ins.st 1 (t 4) (c AV.esl)),Op2.mk none none (Ins.st 1 (t 5) JQ)]))).seq (ops 0 [ah 16 6,aa 17 8,cO 18 (bldS 1 1 [ag] [(0,1,t 17)]),fC 19 1 8 16 18,a7 1 6 19])))))).seq (aj [ah 20 6,a7 1 4 20,Op2.mk none none (Ins.st 1 (t 5) zY)])))))
theorem R0:Is Tryz.prog 30 b30:=mkI Tryz.func30
def b31:F2:=(F2.mk 122 [RV.t 4,RV.t 5] (af [br 2 0,cw 4,am 5 0] ((af [aL 23 10 2,aH 24 63 [t 23],aa 6 24] (af [aa 25 6,aB 26 .neq 25 0] (az 26 (aj [aa 27 6,cw 4,aa 5 27])))).seq ((af [ak 29 7 2,ak 30 0 29,ah 31 30,aa 32 1,aH 33 68 [t 31,t 32],aa 28 33,bG 34 28 0,bG 35 28 1,aa 7 34,aa 8 35] (af [aa 36 8,aB 37 .neq 36 0] (az 37 (aj [aa 38 8,cw 4,aa 5 38])))).seq (af [aL 39 10 2,aH 40 29 [t 39],aa 9 40] (af [ak 41 9 2,ah 42 41,aV 43 42,cO 44 (mks 1 8 [ag] (t 43) (t 43)),aa 10 44] ((af [aa 45 10,aV 46 45,am 47 0] (block 0 ((du 48 47 46 0 ((block 1 (af [aa 49 47,aa 11 49] (ops 0 [aa 50 10,aa 51 11,aa 52 11,aW 53 1 50 51,a7 1 53 52]))).seq (cV 54 47)))).loop)).seq (af [cw 12] ((af [aa 55 1,aV 56 55,am 57 0] (block 2 ((du 58 57 56 2 ((block 3 (af [aW 59 1 55 57,ah 60 59,aa 14 60] (af [aa 62 9,aa 63 14,aH 64 30 [t 62,t 63],aa 61 64,bG 65 61 0,bG 66 61 1,aa 15 65,aa 16 66] ((af [aa 67 16,jM 68 67] (az 68 (aj [cw 4,am 5 20]))).seq (ops 0 [aa 69 12,aa 70 15,cO 71 (bldS 1 1 [AV.esl] [(0,1,t 70)]),fC 72 1 24 69 71,aa 12 72]))))).seq (cV 73 57)))).loop)).seq ((af [kq 17] (block 4 ((af [aa 74 17] (cS 74 skip (exit 4))).seq (block 5 (af [bM 17] (af [aa 75 12,aV 76 75,am 77 0] (block 6 ((du 78 77 76 6 ((block 7 (af [aW 79 1 75 77,ah 80 79,aa 19 80] (af [aa 81 19,aV 82 81,am 83 0] (block 8 ((du 84 83 82 8 ((block 9 (af [aa 85 83,aW 86 1 81 83,ah 87 86,aa 20 85,aa 21 87] ((ops 1 [aa 88 10,aa 89 20,aW 90 1 88 89,ah 91 90,aa 92 10,aa 93 21,aW 94 1 92 93,ah 95 94,cO 96 (mn (t 91) [t 95]),aa 22 96]).seq (af [aa 97 22,aa 98 10,aa 99 20,aW 100 1 98 99,ah 101 100,bh 102 .neq 97 101,aa 103 102,ar 104 103 (cM 22),ar 105 103 (cM 10),ar 106 103 (cM 21),ar 107 103 (ixaS 1 (t 105) (t 106)),ar 108 103 (cD 107),ar 109 103 (cB .neq (t 104) (t 108)),cT 110 103 109] (az 110 (ops 0 [aa 111 10,aa 112 20,aa 113 10,aa 114 21,aa 115 22,aa 116 22,aW 117 1 111 112,a7 1 117 115,aW 118 1 113 114,a7 1 118 116,kq 17])))))).seq (cV 119 83)))).loop)))).seq (cV 120 77)))).loop))))).loop)).seq (aj [aa 121 10,aa 4 121,am 5 0])))))))))))
theorem So:Is Tryz.prog 31 b31:=mkI Tryz.func31
def b33:F2:=(F2.mk 61 [RV.t 2] (af [cw 2] ((af [aa 6 0,aV 7 6,aB 8 .lss 7 2] (az 8 (aj [aa 9 0,aa 2 9]))).seq ((af [am 3 1] (block 0 ((af [aa 10 3,aa 11 0,aV 12 11,bh 13 .lss 10 12] (cS 13 skip (exit 0))).seq ((block 1 ((ops 1 [aa 16 0,aa 17 3,aW 18 1 16 17,ah 19 18,aa 20 0,aa 21 3,aB 22 .sub 21 1,aW 23 1 20 22,ah 24 23,bh 25 .eql 19 24]).seq (az 25 (af [aa 26 0,aa 27 3,cO 28 (sls 1 (t 26) (some (t 27)) none none),aa 4 28] ((af [am 5 1] (block 2 ((af [aa 29 5,aa 30 4,aV 31 30,bh 32 .lss 29 31] (cS 32 skip (exit 2))).seq ((block 3 ((ops 1 [aa 35 4,aa 36 5,aW 37 1 35 36,ah 38 37,aa 39 4,aa 40 5,aB 41 .sub 40 1,aW 42 1 39 41,ah 43 42,bh 44 .neq 38 43]).seq (az 44 (af [aa 45 0,aa 46 3,aa 47 4,aa 48 5,aW 49 1 47 48,ah 50 49,aW 51 1 45 46,a7 1 51 50] (ops 0 [aa 52 3,aB 53 .add 52 1,aa 3 53]))))).seq (ops 0 [aa 33 5,aB 34 .add 33 1,aa 5 34]))).loop)).seq (af [aa 54 0,aa 55 3,cO 56 (sls 1 (t 54) (some (t 55)) none none),Op2.mk none none (clr 1 (ag) (t 56))] (aj [aa 57 0,aa 58 3,cO 59 (sls 1 (t 57) none (some (t 58)) none),aa 2 59]))))))).seq (ops 0 [aa 14 3,aB 15 .add 14 1,aa 3 15]))).loop)).seq (aj [aa 60 0,aa 2 60])))))
theorem Sq:Is Tryz.prog 33 b33:=mkI Tryz.func33
def b34:F2:=(F2.mk 37 [RV.t 2] (af [br 1 0,bM 2] ((af [ak 5 3 1,ah 6 5,aV 7 6,aB 8 .gtr 7 30] (az 8 (aj [bM 2]))).seq ((af [am 3 0] (block 0 ((af [aa 9 3,ak 10 3 1,ah 11 10,aV 12 11,bh 13 .lss 9 12] (cS 13 skip (exit 0))).seq ((block 1 (af [ak 16 3 1,ah 17 16,aa 18 3,aW 19 3 17 18,aL 20 3 19,cO 4 (alloc (AV.agg [AV.esl,AV.esl,AV.esl])),a7 3 4 20] (af [ak 21 0 4,ah 22 21,aV 23 22,aB 24 .gtr 23 10,aa 25 24,ar 26 25 (fa 1 (t 4)),ar 27 25 (cD 26),ar 28 25 (call (cF 71) [t 27,cN ((30))]),ar 29 25 (un UnOp.not (t 28)),cT 30 25 29,aa 31 30,ar 32 31 (fa 2 (t 4)),ar 33 31 (cD 32),ar 34 31 (call (cF 71) [t 33,cN ((30))]),ar 35 31 (un UnOp.not (t 34)),cT 36 31 35] (az 36 (aj [bM 2]))))).seq (ops 0 [aa 14 3,aB 15 .add 14 1,aa 3 15]))).loop)).seq (aj [kq 2])))))
theorem Q5:Is Tryz.prog 34 b34:=mkI Tryz.func34
def b35:F2:=(F2.mk 12 [RV.t 2] (af [br 1 0,bM 2] (aj [ak 3 1 1,ah 4 3,aV 5 4,aB 6 .leq 5 8,aa 7 6,aR 8 7 (ldn 2 (t 1)),aR 9 7 (call (cF 72) [t 8]),aR 10 7 (cB .leq (t 9) (cN 40)),jk 11 7 10,aa 2 11])))
theorem Rm:Is Tryz.prog 35 b35:=mkI Tryz.func35
def b36:F2:=(F2.mk 32 [RV.t 2] (af [br 1 0,am 2 0] ((af [ak 5 0 1,aL 6 4 5,aH 7 73 [t 6],aa 3 7] (af [aa 8 3,aB 9 .neq 8 0] (az 9 (aj [aa 10 3,aa 2 10])))).seq ((af [ak 11 4 1,aL 12 2 11,aH 13 74 [t 12],aa 4 13] (af [aa 14 4,aB 15 .neq 14 0] (az 15 (aj [aa 16 4,aa 2 16])))).seq ((af [ak 17 0 1,ak 18 0 17,ah 19 18,ak 20 4 1,ak 21 0 20,ah 22 21,bh 23 .neq 19 22] (az 23 (aj [am 2 22]))).seq ((af [ak 24 6 1,ah 25 24,aB 26 .lss 25 0,aa 27 26,ar 28 27 (fa 6 (t 1)),ar 29 27 (cD 28),ar 30 27 (cB .gtr (t 29) (cN 6)),cT 31 27 30] (az 31 (aj [am 2 2]))).seq (aj [am 2 0])))))))
theorem QP:Is Tryz.prog 36 b36:=mkI Tryz.func36
def b37:F2:=(F2.mk 16 [RV.t 4] (af [br 2 0,am 4 0] ((mixS 1 [ak 5 0 2,ak 6 3 5,ah 7 6,aV 8 7,ak 9 4 2,aL 10 2 9,ak 11 6 2,ah 12 11,aa 13 1,aH 14 75 [t 10,t 12,t 13],bh 15 .mul 8 14,aa 4 15] [(0,0),(1,0),(2,0),(3,0),(4,0),(5,0),(6,0),(7,0),(8,0),(9,1),(10,0),(11,0)]).seq ret)))
theorem Rp:Is Tryz.prog 37 b37:=mkI Tryz.func37
def b38:F2:=(F2.mk 116 [RV.cn 2 10] (af [br 1 0,cO 2 (alloc (AV.agg [ag,ag,ag,AV.esl,ag,AV.esl,ag,ag,AV.esl,AV.esl]))] (af [aL 14 7 1,ak 15 0 1,ak 16 0 15,ah 17 16,cO 18 (bld [ag,AV.esl] [(0,1,t 17)]),cO 19 (bld [ag,ag,ag,AV.esl,ag,AV.esl,ag,ag,AV.esl,AV.esl] [(0,7,t 14),(7,2,t 18)]),cO 3 (alloc (AV.agg [ag,ag,ag,AV.esl,ag,AV.esl,ag,ag,AV.esl,AV.esl])),a7 10 3 19] (af [ak 20 4 1,aL 21 2 20,ak 22 6 1,ah 23 22,aH 24 76 ([t 21,cN ((0)),t 23]),aa 4 24] ((af [am 5 0] (block 0 ((af [aa 25 5,ak 26 0 1,ak 27 3 26,ah 28 27,aV 29 28,bh 30 .lss 25 29] (cS 30 skip (exit 0))).seq ((block 1 (af [am 6 0] (block 2 ((af [aa 33 6,aa 34 4,aV 35 34,bh 36 .lss 33 35] (cS 36 skip (exit 2))).seq ((block 3 (af [aa 39 5,aa 40 4,aa 41 6,aW 42 1 40 41,ah 43 42,cO 44 (bld [ag,AV.esl,AV.esl] [(0,1,t 39),(1,1,t 43)]),cO 7 (alloc (AV.agg [ag,AV.esl,AV.esl])),a7 3 7 44] ((af [am 8 0] (block 4 ((af [aa 45 8,ak 46 6 1,ah 47 46,bh 48 .leq 45 47] (cS 48 skip (exit 4))).seq ((block 5 (af [cw 9] ((af [am 10 0] (block 6 ((af [aa 51 10,ak 52 0 1,ak 53 0 52,ah 54 53,bh 55 .lss 51 54] (cS 55 skip (exit 6))).seq ((block 7 (af [aa 58 10,ak 59 0 1,ak 60 3 59,ah 61 60,aa 62 5,aW 63 3 61 62,ak 64 0 63,ah 65 64,aa 66 10,aW 67 1 65 66,ah 68 67,aH 69 77 [t 58,t 68],cO 11 (alloc (AV.agg [ag,ag,ag,ag,ag,ag,ag,ag])),a7 8 11 69] ((af [aa 70 8,cO 71 (cB .gtr (t 70) (cN ((Int.ofNat 0))))] (az 71 (mixS 1 [aa 72 4,aa 73 6,aW 74 1 72 73,ah 75 74,aa 76 8,cO 77 (cB .sub (t 76) (cN ((Int.ofNat 1)))),aW 78 7 75 77,ak 79 0 78,aL 80 6 79,aa 81 8,aa 82 10,ak 83 2 7,ah 84 83,aa 85 8,cO 86 (cB .sub (t 85) (cN ((Int.ofNat 1)))),aW 87 1 84 86,ah 88 87,aH 89 78 [t 80,t 81,t 82,t 88],a7 8 11 89] [(0,0),(1,0),(2,0),(3,0),(4,0),(5,0),(6,0),(7,0),(8,0),(9,0),(10,0),(11,0),(12,0),(13,0),(14,0),(15,0),(16,0),(17,2),(18,2)]))).seq (af [ak 91 7 3,aL 92 2 91,aL 93 8 11,aH 94 79 [t 92,t 93],aa 90 94,bG 95 90 0,bG 96 90 1,cO 12 (alloc (AV.agg [ag,AV.esl])),a7 2 12 95,aa 13 96] (af [aL 97 2 12,ak 98 7 3,a7 2 98 97] (ops 0 [aa 99 9,aa 100 13,cO 101 (bldS 1 1 [ag] [(0,1,t 100)]),fC 102 1 8 99 101,aa 9 102])))))).seq (ops 0 [aa 56 10,aB 57 .add 56 1,aa 10 57]))).loop)).seq (ops 0 [ak 103 2 7,ah 104 103,aa 105 9,cO 106 (bldS 1 1 [AV.esl] [(0,1,t 105)]),fC 107 1 24 104 106,ak 108 2 7,a7 1 108 107])))).seq (ops 0 [aa 49 8,aB 50 .add 49 1,aa 8 50]))).loop)).seq (ops 0 [ak 109 9 3,ah 110 109,aL 111 3 7,cO 112 (bldS 3 1 [ag,AV.esl,AV.esl] [(0,3,t 111)]),fC 113 3 56 110 112,ak 114 9 3,a7 1 114 113])))).seq (ops 0 [aa 37 6,aB 38 .add 37 1,aa 6 38]))).loop))).seq (ops 0 [aa 31 5,aB 32 .add 31 1,aa 5 32]))).loop)).seq (aj [aL 115 10 3,a7 10 2 115]))))))
theorem QO:Is Tryz.prog 38 b38:=mkI Tryz.func38
def b39:F2:=(F2.mk 34 [RV.t 2] (af [br 1 0,am 2 0] ((af [ak 5 0 1,aL 6 4 5,aH 7 51 [t 6],aa 3 7] (af [aa 8 3,aB 9 .neq 8 0] (az 9 (aj [aa 10 3,aa 2 10])))).seq ((af [ak 11 4 1,aL 12 2 11,aH 13 52 [t 12],aa 4 13] (af [aa 14 4,aB 15 .neq 14 0] (az 15 (aj [aa 16 4,aa 2 16])))).seq ((block 0 (af [ak 18 0 1,ak 19 0 18,ah 20 19,ak 21 4 1,ak 22 0 21,ah 23 22,bh 24 .neq 20 23,aa 17 24] (cS 17 (aj [am 2 22]) (af [ak 26 6 1,ah 27 26,aB 28 .lss 27 0,aa 29 28,ar 30 29 (fa 6 (t 1)),ar 31 29 (cD 30),ar 32 29 (cB .gtr (t 31) (cN 6)),cT 33 29 32,aa 25 33] (az 25 (aj [am 2 2])))))).seq (aj [am 2 0]))))))
theorem SC:Is Tryz.prog 39 b39:=mkI Tryz.func39
def b40:F2:=(F2.mk 11 [RV.t 4,RV.t 5] (af [br 2 0,am 4 0,am 5 0] (aj [aL 6 2 2,aa 7 1,aH 8 41 ([t 6,t 7,cN ((1048576))]),bG 9 8 0,bG 10 8 1,aa 4 9,aa 5 10])))
theorem RA:Is Tryz.prog 40 b40:=mkI Tryz.func40
def b41:F2:=(F2.mk 29 [RV.t 6,RV.t 7] (af [br 3 0,am 6 0,am 7 0] ((af [aL 10 2 3,aH 11 52 [t 10],aa 8 11] (af [aa 12 8,aB 13 .neq 12 0] (az 13 (aj [aa 14 8,am 6 0,aa 7 14])))).seq ((af [aa 15 1,aB 16 .lss 15 0,aa 17 16,ar 18 17 (cM 1),ar 19 17 (cB .gtr (t 18) (cN 6)),cT 20 17 19] (az 20 (aj [am 6 0,am 7 2]))).seq (af [aL 21 2 3,aa 22 1,aa 23 2,aH 24 80 [t 21,t 22,t 23],aa 9 24] ((af [aa 25 9,aa 26 2,bh 27 .gtr 25 26] (az 27 (aj [am 6 0,am 7 17]))).seq (aj [aa 28 9,aa 6 28,am 7 0])))))))
theorem R7:Is Tryz.prog 41 b41:=mkI Tryz.func41
def b42:F2:=(F2.mk 39 [] ((af [aa 10 1,aV 11 10,ah 12 2,bh 13 .eql 11 12] (az 13 ((mixS 1 [ah 14 3,aa 15 1,aH 16 20 [t 15],cO 17 (bldS 1 1 [AV.esl] [(0,1,t 16)]),fC 18 1 24 14 17,a7 1 3 18] [(0,0),(1,0),(2,1),(3,1),(4,2),(5,2)]).seq ret))).seq (af [ak 19 1 4,ah 20 19,aa 21 0,aW 22 1 20 21,ah 23 22,aV 24 23,am 25 0] (block 0 ((du 26 25 24 0 ((block 1 (af [aW 27 8 23 25,aL 28 8 27,cO 9 (alloc (AV.agg [ag,ag,ag,ag,ag,ag,ag,ag])),a7 8 9 28] (mixS 2 [ah 29 5,ak 30 7 9,ah 31 30,aa 32 1,ak 33 0 9,aL 34 7 33,cO 35 (bldS 7 1 [ag,ag,ag,ag,ag,ag,ag] [(0,7,t 34)]),fC 36 7 56 32 35,cO 37 (call (t 29) [t 31,t 36])] [(0,0),(1,0),(2,0),(3,0),(4,0),(5,0),(6,1),(7,1),(8,2)]))).seq (cV 38 25)))).loop))))
theorem Qd:Is Tryz.prog 42 b42:=mkI Tryz.func42
def b43:F2:=(F2.mk 8 [RV.t 2] (af [cw 2] ((af [aa 3 0,cO 4 (snil false (t 3))] (az 4 (aj [cw 2]))).seq (aj [cO 5 (bldS 3 0 [AV.esl,AV.esl,AV.esl] []),aa 6 0,fC 7 3 72 5 6,aa 2 7]))))
theorem Q6:Is Tryz.prog 43 b43:=mkI Tryz.func43
def b44:F2:=(F2.mk 8 [RV.t 2] (af [cw 2] ((af [aa 3 0,cO 4 (snil false (t 3))] (az 4 (aj [cw 2]))).seq (aj [cO 5 (bldS 1 0 [ag] []),aa 6 0,fC 7 1 8 5 6,aa 2 7]))))
theorem N0:Is Tryz.prog 44 b44:=mkI Tryz.func44
def b45:F2:=(F2.mk 19 [RV.t 2] (af [cw 2] (af [cw 3] ((af [aa 6 0,aV 7 6,am 8 0] (block 0 ((du 9 8 7 0 ((block 1 (af [aW 10 1 6 8,ah 11 10,aa 5 11] (ops 0 [aa 12 3,aa 13 5,aH 14 44 [t 13],cO 15 (bldS 1 1 [AV.esl] [(0,1,t 14)]),fC 16 1 24 12 15,aa 3 16]))).seq (cV 17 8)))).loop)).seq (aj [aa 18 3,aa 2 18])))))
theorem QX:Is Tryz.prog 45 b45:=mkI Tryz.func45
def b46:F2:=(F2.mk 8 [RV.t 2] (af [cw 2] ((af [aa 3 0,cO 4 (snil false (t 3))] (az 4 (aj [cw 2]))).seq (aj [cO 5 (bldS 1 0 [AV.esl] []),aa 6 0,fC 7 1 24 5 6,aa 2 7]))))
theorem QY:Is Tryz.prog 46 b46:=mkI Tryz.func46
def b47:F2:=(F2.mk 8 [RV.t 2] (af [cw 2] ((af [aa 3 0,cO 4 (snil false (t 3))] (az 4 (aj [cw 2]))).seq (aj [cO 5 (bldS 8 0 [ag,ag,ag,ag,ag,ag,ag,ag] []),aa 6 0,fC 7 8 64 5 6,aa 2 7]))))
theorem Ss:Is Tryz.prog 47 b47:=mkI Tryz.func47
def b48:F2:=(F2.mk 27 [] (af [ak 7 0 1,ak 8 3 7,ah 9 8,aV 10 9,am 11 0] (block 0 ((du 12 11 10 0 ((block 1 (af [aa 13 11,aa 4 13] (af [ah 14 2,aV 15 14,am 16 0] (block 2 ((du 17 16 15 2 ((block 3 (af [aW 18 1 14 16,ah 19 18,aa 6 19] (af [aa 20 0,aa 21 4,aa 22 6,cO 23 (call (t 20) [t 21,t 22]),jM 24 23] (cS 24 ret skip)))).seq (cV 25 16)))).loop)))).seq (cV 26 11)))).loop)))
theorem SD:Is Tryz.prog 48 b48:=mkI Tryz.func48
def b49:F2:=(F2.mk 40 [RV.t 4] (af [br 3 1,am 4 0] ((mixS 9 [aa 8 0,cO 9 (nilck (t 8)),ak 10 2 9,ah 11 10,aL 12 8 3,cO 13 (Ins.mget (MK.st [int,int,int,int,int,int,int,int]) (ag) true (t 11) (t 12)),aa 7 13,bG 14 7 0,bG 15 7 1,aa 5 14,aa 6 15] [(0,0),(1,0),(2,0),(3,0),(4,0),(5,2),(6,0),(7,0),(8,0),(9,0),(10,0)]).seq ((af [aa 16 6,jM 17 16] (az 17 (af [aa 18 0,cO 19 (nilck (t 18)),ak 20 1 19,ah 21 20,aV 22 21,aa 5 22] ((mixS 9 [aa 23 0,cO 24 (nilck (t 23)),ak 25 2 24,ah 26 25,aL 27 8 3,aa 28 5,Op2.mk none none (mput (MK.st [int,int,int,int,int,int,int,int]) (t 26) (t 27) (t 28))] [(0,0),(1,0),(2,0),(3,0),(4,0),(5,0),(6,2)]).seq (ops 1 [aa 29 0,aa 30 0,cO 31 (nilck (t 30)),ak 32 1 31,ah 33 32,aL 34 8 3,cO 35 (bldS 8 1 [ag,ag,ag,ag,ag,ag,ag,ag] [(0,8,t 34)]),fC 36 8 64 33 35,cO 37 (nilck (t 29)),ak 38 1 37,a7 1 38 36]))))).seq (aj [aa 39 5,aa 4 39])))))
theorem Sa:Is Tryz.prog 49 b49:=mkI Tryz.func49
def b50:F2:=(F2.mk 10 [RV.cn 0 5] (af [cO 0 (alloc (AV.agg [ag,ag,ag,ag,ag]))] (af [cO 1 (alloc (AV.agg [ag,ag,ag,ag,ag]))] ((af [am 3 0] (block 0 (af [aB 4 .lss 3 5] (JG 4 0 ((block 1 (af [aa 5 3,aa 2 5] (ops 0 [aa 6 2,cO 7 (ixaA 5 1 (t 1) (t 6)),Op2.mk none none (Ins.st 1 (t 7) (cN ((-1))))]))).seq (cV 8 3)))).loop)).seq (aj [aL 9 5 1,a7 5 0 9])))))
theorem RK:Is Tryz.prog 50 b50:=mkI Tryz.func50
def b51:F2:=(F2.mk 83 [RV.t 2] (af [br 1 0,am 2 0] ((block 0 ((af [ak 8 0 1,ah 9 8,aB 10 .lss 9 1,aa 11 10,ar 12 11 (fa 0 (t 1)),ar 13 11 (cD 12),ar 14 11 (cB .gtr (t 13) (cN 5)),cT 15 11 14,aa 7 15] (cS 7 skip (af [ak 16 1 1,ah 17 16,aB 18 .lss 17 1,aa 19 18,ar 20 19 (fa 1 (t 1)),ar 21 19 (cD 20),ar 22 19 (cB .gtr (t 21) (cN 8)),cT 23 19 22,aa 7 23] (cS 7 skip (ops 0 [ak 24 2 1,ah 25 24,aB 26 .lss 25 1,aa 27 26,ar 28 27 (fa 2 (t 1)),ar 29 27 (cD 28),ar 30 27 (cB .gtr (t 29) (cN 8)),cT 31 27 30,aa 7 31]))))).seq (cS 7 (aj [am 2 2]) (af [ak 33 3 1,ah 34 33,aV 35 34,aB 36 .lss 35 1,aa 37 36,ar 38 37 (fa 3 (t 1)),ar 39 37 (cD 38),ar 40 37 (lenS (t 39)),ar 41 37 (cB .gtr (t 40) (cN 1024)),cT 42 37 41,aa 32 42] (az 32 (aj [am 2 5])))))).seq ((af [ak 43 3 1,ah 44 43,aV 45 44,am 46 0] (block 1 ((du 47 46 45 1 ((block 2 (af [aa 48 46,aW 49 3 44 46,aL 50 3 49,cO 4 (alloc (AV.agg [AV.esl,AV.esl,AV.esl])),aa 3 48,a7 3 4 50] ((af [ak 51 0 4,ah 52 51,ak 53 0 1,ah 54 53,ak 55 1 1,ah 56 55,aH 57 81 [t 52,t 54,t 56],aa 5 57] (af [aa 58 5,aB 59 .neq 58 0] (az 59 (aj [aa 60 5,aa 2 60])))).seq (((mixS 1 [aa 61 3,aB 62 .gtr 61 0,aa 63 62,aR 64 63 (fa 3 (t 1)),aR 65 63 (cD 64),aR 66 63 (cM 3),aR 67 63 (cB .sub (t 66) (cN 1)),aR 68 63 (ixaS 3 (t 65) (t 67)),aR 69 63 (fa 0 (t 68)),aR 70 63 (cD 69),aR 71 63 (fa 0 (t 4)),aR 72 63 (cD 71),aR 73 63 (call (cF 82) [t 70,t 72]),aR 74 63 (cB .geq (t 73) (cN 0)),jk 75 63 74] [(0,0),(1,0),(2,0),(3,0),(4,0),(5,0),(6,0),(7,0),(8,0),(9,0),(10,0),(11,0),(12,2),(13,0),(14,0)]).seq (az 75 (aj [am 2 14]))).seq (af [aL 76 4 1,aL 77 3 4,aH 78 83 [t 76,t 77],aa 6 78] (af [aa 79 6,aB 80 .neq 79 0] (az 80 (aj [aa 81 6,aa 2 81])))))))).seq (cV 82 46)))).loop)).seq (aj [am 2 0])))))
theorem QR:Is Tryz.prog 51 b51:=mkI Tryz.func51
def b52:F2:=(F2.mk 62 [RV.c1 2] (af [br 1 0,cO 2 (alloc (ag))] ((af [ak 11 0 1,ah 12 11,aB 13 .lss 12 1,aa 14 13,ar 15 14 (fa 0 (t 1)),ar 16 14 (cD 15),ar 17 14 (cB .gtr (t 16) (cN 5)),cT 18 14 17] (az 18 (aj [Op2.mk none none (Ins.st 1 (t 2) (cN 2))]))).seq ((af [aL 19 2 1,aH 20 84 [t 19],aa 3 20] (af [aa 21 3,aB 22 .neq 21 0] (az 22 (aj [aa 23 3,a7 1 2 23])))).seq ((af [ak 24 1 1,ah 25 24,aV 26 25,am 27 0] (block 0 ((du 28 27 26 0 ((block 1 (af [aW 29 1 25 27,ah 30 29,aa 5 30] (af [aL 31 2 1,aa 32 5,aH 33 85 [t 31,t 32],aa 6 33] (af [aa 34 6,aB 35 .neq 34 0] (az 35 (aj [aa 36 6,a7 1 2 36])))))).seq (cV 37 27)))).loop)).seq ((af [aL 38 2 1,aH 39 86 [t 38]] (block 2 (rangeF (t 39) [40,41] (ops 0 [cO 8 (alloc (AV.agg [ag,ag,ag,ag,ag,ag,ag,ag])),a7 8 8 41]) (block 3 (af [ak 42 1 1,ah 43 42,ak 44 7 8,ah 45 44,aW 46 1 43 45,ah 47 46,aV 48 47,am 49 0] (block 4 ((du 50 49 48 4 ((block 5 (af [aW 51 8 47 49,aL 52 8 51,cO 10 (alloc (AV.agg [ag,ag,ag,ag,ag,ag,ag,ag])),a7 8 10 52] (af [ak 53 0 8,ak 54 6 53,ah 55 54,ak 56 0 10,ak 57 6 56,ah 58 57,bh 59 .andNot 55 58,aB 60 .neq 59 0] (az 60 (aj [Op2.mk none none (Ins.st 1 (t 2) (cN 21))]))))).seq (cV 61 49)))).loop)))))).seq (aj [Op2.mk none none (Ins.st 1 (t 2) (cN 0))])))))))
theorem SB:Is Tryz.prog 52 b52:=mkI Tryz.func52
def b53:F2:=(F2.mk 12 [RV.t 2,RV.t 3] (af [cw 2,am 3 0] ((af [aa 5 0,aH 6 87 [t 5],aa 4 6] (af [aa 7 4,aB 8 .neq 7 0] (az 8 (aj [aa 9 4,cw 2,aa 3 9])))).seq (aj [aa 10 0,aH 11 88 [t 10,c AV.esl],aa 2 11,am 3 0]))))
theorem Sg:Is Tryz.prog 53 b53:=mkI Tryz.func53
def b54:F2:=(F2.mk 23 [RV.t 4] (af [cw 4] (af [cw 5] ((af [aa 8 0,aV 9 8,am 10 0] (block 0 ((du 11 10 9 0 ((block 1 (af [aW 12 1 8 10,ah 13 12,aa 7 13] (af [aa 14 1,aa 15 7,cO 16 (call (t 14) [t 15])] (az 16 (ops 0 [aa 17 5,aa 18 7,cO 19 (bldS 1 1 [AV.esl] [(0,1,t 18)]),fC 20 1 24 17 19,aa 5 20]))))).seq (cV 21 10)))).loop)).seq (aj [aa 22 5,aa 4 22])))))
theorem RZ:Is Tryz.prog 54 b54:=mkI Tryz.func54
def b55:F2:=(F2.mk 19 [RV.t 3] (af [bM 3] (af [aL 7 4 1,aa 8 0,aH 9 56 [t 7,t 8],aa 6 9,bG 10 6 0,bG 11 6 1,cO 4 (alloc (AV.agg [ag,ag,ag,AV.esl])),a7 4 4 10,aa 5 11] (aj [aa 12 5,aB 13 .eql 12 0,aa 14 13,aR 15 14 (ldn 4 (t 1)),aR 16 14 (ldn 4 (t 4)),aR 17 14 (call (cF 57) [t 15,t 16]),jk 18 14 17,aa 3 18]))))
theorem Ri:Is Tryz.prog 55 b55:=mkI Tryz.func55
def b56:F2:=(F2.mk 69 [RV.cn 4 4,RV.t 5] (af [br 2 0,cO 4 (alloc (AV.agg [ag,ag,ag,AV.esl])),am 5 0] ((af [aL 11 4 2,aH 12 51 [t 11],aa 6 12] (af [aa 13 6,aB 14 .neq 13 0] (az 14 (aj [cO 15 (bld [ag,ag,ag,AV.esl] []),aa 16 6,a7 4 4 15,aa 5 16])))).seq ((af [aa 17 1,aH 18 64 [t 17],aa 7 18] (af [aa 19 7,aB 20 .neq 19 0] (az 20 (aj [cO 21 (bld [ag,ag,ag,AV.esl] []),aa 22 7,a7 4 4 21,aa 5 22])))).seq ((af [aa 23 1,aV 24 23,ak 25 0 2,ah 26 25,bh 27 .neq 24 26] (az 27 (aj [cO 28 (bld [ag,ag,ag,AV.esl] []),a7 4 4 28,am 5 22]))).seq (af [ak 29 0 2,ah 30 29,ak 31 1 2,ah 32 31,ak 33 2 2,ah 34 33,cO 35 (bld [ag,ag,ag,AV.esl] [(0,1,t 30),(1,1,t 32),(2,1,t 34)]),cO 8 (alloc (AV.agg [ag,ag,ag,AV.esl])),a7 4 8 35] ((af [ak 36 3 2,ah 37 36,aV 38 37,am 39 0] (block 0 ((du 40 39 38 0 ((block 1 (af [aW 41 3 37 39,aL 42 3 41,cO 10 (alloc (AV.agg [AV.esl,AV.esl,AV.esl])),a7 3 10 42] (mixS 9 [ak 43 3 8,ah 44 43,ak 45 0 10,ah 46 45,cO 47 (bldS 1 1 [AV.esl] [(0,1,t 46)]),aa 48 1,aH 49 89 [t 47,t 48],cO 50 (ixaS 1 (t 49) (cN 0)),ah 51 50,ak 52 1 10,ah 53 52,aa 54 1,aH 55 89 [t 53,t 54],ak 56 2 10,ah 57 56,aa 58 1,aH 59 89 [t 57,t 58],cO 60 (bld [AV.esl,AV.esl,AV.esl] [(0,1,t 51),(1,1,t 55),(2,1,t 59)]),cO 61 (bldS 3 1 [AV.esl,AV.esl,AV.esl] [(0,3,t 60)]),fC 62 3 72 44 61,ak 63 3 8,a7 1 63 62] [(0,0),(1,0),(2,0),(3,0),(4,3),(5,0),(9,0),(10,0),(11,0),(13,0),(14,0),(15,0),(6,1),(7,0),(8,0),(12,1),(16,1),(17,0),(18,1),(19,2),(20,0),(21,2)]))).seq (cV 64 39)))).loop)).seq (af [ak 65 3 8,ah 66 65,aH 67 90 ([t 66,c (AV.func 91 [])])] (aj [aL 68 4 8,a7 4 4 68,am 5 0])))))))))
theorem Sf:Is Tryz.prog 56 b56:=mkI Tryz.func56
def b57:F2:=(F2.mk 33 [RV.t 4] (af [br 2 0,br 3 1,bM 4] (af [cO 5 (alloc AV.nilf),Op2.mk none none (Ins.st 1 (t 5) (cF 92))] (aj [ak 6 0 2,ah 7 6,ak 8 0 3,ah 9 8,bh 10 .eql 7 9,aa 11 10,aR 12 11 (fa 1 (t 2)),aR 13 11 (cD 12),aR 14 11 (fa 1 (t 3)),aR 15 11 (cD 14),aR 16 11 (cB .eql (t 13) (t 15)),jk 17 11 16,aa 18 17,aR 19 18 (fa 2 (t 2)),aR 20 18 (cD 19),aR 21 18 (fa 2 (t 3)),aR 22 18 (cD 21),aR 23 18 (cB .eql (t 20) (t 22)),jk 24 18 23,aa 25 24,aR 26 25 (fa 3 (t 2)),aR 27 25 (cD 26),aR 28 25 (fa 3 (t 3)),aR 29 25 (cD 28),aR 30 25 (mkfn 96 [t 5]),aR 31 25 (call (cF 95) [t 27,t 29,t 30]),jk 32 25 31,aa 4 32]))))
theorem R9:Is Tryz.prog 57 b57:=mkI Tryz.func57
def b58:F2:=(F2.mk 27 [RV.cn 4 2,RV.t 5] (af [br 2 0,cO 4 (alloc (AV.agg [ag,AV.esl])),am 5 0] ((af [aL 8 2 2,aH 9 52 [t 8],aa 6 9] (af [aa 10 6,aB 11 .neq 10 0] (az 11 (aj [cO 12 (bld [ag,AV.esl] []),aa 13 6,a7 2 4 12,aa 5 13])))).seq ((af [aa 14 1,ak 15 0 2,ah 16 15,aH 17 97 [t 14,t 16],aa 7 17] (af [aa 18 7,aB 19 .neq 18 0] (az 19 (aj [cO 20 (bld [ag,AV.esl] []),aa 21 7,a7 2 4 20,aa 5 21])))).seq (aj [aL 22 2 2,aa 23 1,aH 24 98 [t 22,t 23],bG 25 24 0,bG 26 24 1,a7 2 4 25,aa 5 26])))))
theorem Rl:Is Tryz.prog 58 b58:=mkI Tryz.func58
def b59:F2:=(F2.mk 25 [RV.t 4,RV.t 5,RV.t 6] (af [br 2 0,br 3 1,cw 4,bM 5,am 6 0] ((af [aL 10 2 2,aL 11 2 3,aH 12 99 [t 10,t 11],aa 7 12] (af [aa 13 7,aB 14 .neq 13 0] (az 14 (aj [aa 15 7,cw 4,bM 5,aa 6 15])))).seq (af [aL 17 2 2,aL 18 2 3,aH 19 100 ([t 17,t 18,c (AV.func 101 [])]),aa 16 19,bG 20 16 0,bG 21 16 1,aa 8 20,aa 9 21] (aj [aa 22 9,aa 23 9,cO 24 (snil false (t 23)),aa 4 22,aa 5 24,am 6 0])))))
theorem Ql:Is Tryz.prog 59 b59:=mkI Tryz.func59
def b60:F2:=(F2.mk 24 [RV.t 4] (af [br 2 0,br 3 1,bM 4] (aj [ak 5 6 2,ah 6 5,ak 7 6 3,ah 8 7,bh 9 .eql 6 8,aa 10 9,aR 11 10 (fa 0 (t 2)),aR 12 10 (ldn 4 (t 11)),aR 13 10 (fa 0 (t 3)),aR 14 10 (ldn 4 (t 13)),aR 15 10 (call (cF 102) [t 12,t 14]),jk 16 10 15,aa 17 16,aR 18 17 (fa 4 (t 2)),aR 19 17 (ldn 2 (t 18)),aR 20 17 (fa 4 (t 3)),aR 21 17 (ldn 2 (t 20)),aR 22 17 (call (cF 103) [t 19,t 21]),jk 23 17 22,aa 4 23])))
theorem RH:Is Tryz.prog 60 b60:=mkI Tryz.func60
def b61:F2:=(F2.mk 38 [RV.t 4] (af [br 2 0,br 3 1,bM 4] ((af [ak 6 0 2,ah 7 6,ak 8 0 3,ah 9 8,bh 10 .neq 7 9,aa 11 10,ar 12 11 (fa 1 (t 2)),ar 13 11 (cD 12),ar 14 11 (lenS (t 13)),ar 15 11 (fa 1 (t 3)),ar 16 11 (cD 15),ar 17 11 (lenS (t 16)),ar 18 11 (cB .neq (t 14) (t 17)),cT 19 11 18] (az 19 (aj [bM 4]))).seq ((af [am 5 0] (block 0 ((af [aa 20 5,ak 21 1 2,ah 22 21,aV 23 22,bh 24 .lss 20 23] (cS 24 skip (exit 0))).seq ((block 1 ((ops 1 [ak 27 1 2,ah 28 27,aa 29 5,aW 30 8 28 29,aL 31 8 30,ak 32 1 3,ah 33 32,aa 34 5,aW 35 8 33 34,aL 36 8 35,cO 37 (binS BinOp.neq [int,int,int,int,int,int,int,int] (t 31) (t 36))]).seq (az 37 (aj [bM 4])))).seq (ops 0 [aa 25 5,aB 26 .add 25 1,aa 5 26]))).loop)).seq (aj [kq 4])))))
theorem Rf:Is Tryz.prog 61 b61:=mkI Tryz.func61
def b62:F2:=(F2.mk 47 [RV.t 4] (af [br 2 0,br 3 1,bM 4] ((af [ak 6 0 2,ah 7 6,ak 8 0 3,ah 9 8,bh 10 .neq 7 9,aa 11 10,ar 12 11 (fa 1 (t 2)),ar 13 11 (cD 12),ar 14 11 (fa 1 (t 3)),ar 15 11 (cD 14),ar 16 11 (call (cF 104) [t 13,t 15]),ar 17 11 (un UnOp.not (t 16)),cT 18 11 17,aa 19 18,ar 20 19 (fa 2 (t 2)),ar 21 19 (cD 20),ar 22 19 (lenS (t 21)),ar 23 19 (fa 2 (t 3)),ar 24 19 (cD 23),ar 25 19 (lenS (t 24)),ar 26 19 (cB .neq (t 22) (t 25)),cT 27 19 26] (az 27 (aj [bM 4]))).seq ((af [am 5 0] (block 0 ((af [aa 28 5,ak 29 2 2,ah 30 29,aV 31 30,bh 32 .lss 28 31] (cS 32 skip (exit 0))).seq ((block 1 ((mixS 1 [ak 35 2 2,ah 36 35,aa 37 5,aW 38 1 36 37,ah 39 38,ak 40 2 3,ah 41 40,aa 42 5,aW 43 1 41 42,ah 44 43,aH 45 105 [t 39,t 44],jM 46 45] [(0,0),(1,0),(2,0),(3,0),(4,0),(5,0),(6,0),(7,0),(8,0),(9,0),(10,2),(11,0)]).seq (az 46 (aj [bM 4])))).seq (ops 0 [aa 33 5,aB 34 .add 33 1,aa 5 34]))).loop)).seq (aj [kq 4])))))
theorem Q3:Is Tryz.prog 62 b62:=mkI Tryz.func62
def b63:F2:=(F2.mk 39 [RV.t 2] (af [br 1 0,am 2 0] (af [ak 6 0 1,aL 7 7 6,aH 8 7 [t 7],aa 5 8,bG 9 5 0,bG 10 5 1,cO 3 (alloc (AV.agg [ag,ag,ag,AV.esl,ag,AV.esl,ag,ag,AV.esl,AV.esl])),a7 10 3 9,aa 4 10] ((af [aa 11 4,aB 12 .neq 11 0] (az 12 (aj [aa 13 4,aa 2 13]))).seq ((af [ak 14 7 1,ak 15 0 14,ah 16 15,ak 17 7 3,ak 18 0 17,ah 19 18,bh 20 .neq 16 19,aa 21 20,ar 22 21 (fa 7 (t 1)),ar 23 21 (fa 1 (t 22)),ar 24 21 (cD 23),ar 25 21 (fa 7 (t 3)),ar 26 21 (fa 1 (t 25)),ar 27 21 (cD 26),ar 28 21 (call (cF 106) [t 24,t 27]),ar 29 21 (un UnOp.not (t 28)),cT 30 21 29,aa 31 30,ar 32 31 (fa 9 (t 1)),ar 33 31 (cD 32),ar 34 31 (fa 9 (t 3)),ar 35 31 (cD 34),ar 36 31 (call (cF 107) [t 33,t 35,c (AV.func 108 [])]),ar 37 31 (un UnOp.not (t 36)),cT 38 31 37] (az 38 (aj [am 2 3]))).seq (aj [am 2 0]))))))
theorem Ru:Is Tryz.prog 63 b63:=mkI Tryz.func63
def b64:F2:=(F2.mk 33 [RV.t 2] (af [am 2 0] ((af [aa 7 0,aV 8 7,aH 9 87 [t 8],aa 3 9] (af [aa 10 3,aB 11 .neq 10 0] (az 11 (aj [aa 12 3,aa 2 12])))).seq (af [cO 4 (alloc (AV.agg [AV.bool false,AV.bool false,AV.bool false,AV.bool false,AV.bool false]))] ((af [aa 13 0,aV 14 13,am 15 0] (block 0 ((du 16 15 14 0 ((block 1 (af [aW 17 1 13 15,ah 18 17,aa 6 18] ((af [aa 19 6,aB 20 .lss 19 0,aa 21 20,ar 22 21 (cM 6),ar 23 21 (cM 0),ar 24 21 (lenS (t 23)),ar 25 21 (cB .geq (t 22) (t 24)),cT 26 21 25] (az 26 (aj [am 2 2]))).seq ((af [aa 27 6,cO 28 (ixaA 5 1 (t 4) (t 27)),ah 29 28] (az 29 (aj [am 2 7]))).seq (ops 0 [aa 30 6,cO 31 (ixaA 5 1 (t 4) (t 30)),Op2.mk none none (Ins.st 1 (t 31) zY)]))))).seq (cV 32 15)))).loop)).seq (aj [am 2 0]))))))
theorem QU:Is Tryz.prog 64 b64:=mkI Tryz.func64
def b65:F2:=(F2.mk 24 [RV.t 2] (af [cO 2 (mov (c (AV.str (ByteArray.mk (Array.mk [])))))] (af [aa 6 0,aV 7 6,cO 8 (mks 1 1 [AV.int IntKind.u8 (0)] (t 7) (t 7)),aa 3 8] ((af [aa 9 0,aV 10 9,am 11 0] (block 0 ((du 12 11 10 0 ((block 1 (af [aa 13 11,aW 14 1 9 11,ah 15 14,aa 4 13,aa 5 15] (ops 0 [aa 16 3,aa 17 4,aa 18 5,cO 19 (conv IntKind.u8 (t 18)),aW 20 1 16 17,a7 1 20 19]))).seq (cV 21 11)))).loop)).seq (aj [aa 22 3,cO 23 (b2s (t 22)),aa 2 23])))))
theorem Rc:Is Tryz.prog 65 b65:=mkI Tryz.func65
def b66:F2:=(F2.mk 14 [RV.t 4] (af [cO 4 (mov (c (AV.str (ByteArray.mk (Array.mk [])))))] (aj [aa 5 0,aB 6 .quo 5 64,aa 7 0,aB 8 .rem 7 64,cO 9 (bldS 1 2 [ag] [(0,1,t 6),(1,1,t 8)]),aa 10 1,aH 11 109 [t 10],fC 12 1 8 9 11,aH 13 65 [t 12],aa 4 13])))
theorem Su:Is Tryz.prog 66 b66:=mkI Tryz.func66
def b67:F2:=(F2.mk 6 [RV.t 4] (af [br 2 0,br 3 1,cO 4 (mov (c AV.nilf))] (aj [cO 5 (mkfn 110 [t 2,t 3]),aa 4 5])))
theorem Sj:Is Tryz.prog 67 b67:=mkI Tryz.func67
def b68:F2:=(F2.mk 83 [RV.t 4,RV.t 5] (af [cw 4,am 5 0] ((af [aa 16 0,aH 17 87 [t 16],aa 6 17] (af [aa 18 6,aB 19 .neq 18 0] (az 19 (aj [aa 20 6,cw 4,aa 5 20])))).seq ((af [aa 21 1,aV 22 21,aB 23 .gtr 22 1024] (az 23 (aj [cw 4,am 5 5]))).seq ((af [aa 24 1,aV 25 24,am 26 0] (block 0 ((du 27 26 25 0 ((block 1 (af [aW 28 1 24 26,ah 29 28,aa 8 29] ((af [aa 30 8,aH 31 64 [t 30],aa 9 31] (af [aa 32 9,aB 33 .neq 32 0] (az 33 (aj [aa 34 9,cw 4,aa 5 34])))).seq (af [aa 35 8,aV 36 35,aa 37 0,bh 38 .neq 36 37] (az 38 (aj [cw 4,am 5 22])))))).seq (cV 39 26)))).loop)).seq (af [aa 40 0,aH 41 112 [t 40],cO 42 (bldS 1 1 [AV.esl] [(0,1,t 41)]),aa 10 42] (af [cO 43 (mkm none),aa 44 10,cO 45 (ixaS 1 (t 44) (cN 0)),ah 46 45,aH 47 113 [t 46],Op2.mk none none (mput (MK.st [int,int,int,int,int]) (t 43) (t 47) zY),aa 48 43,aa 11 48] ((af [am 12 0] (block 2 ((af [aa 49 12,aa 50 10,aV 51 50,bh 52 .lss 49 51] (cS 52 skip (exit 2))).seq ((block 3 (af [aa 55 1,aV 56 55,am 57 0] (block 4 ((du 58 57 56 4 ((block 5 (af [aW 59 1 55 57,ah 60 59,aa 14 60] (af [aa 61 14,aa 62 10,aa 63 12,aW 64 1 62 63,ah 65 64,aH 66 114 [t 61,t 65],aa 15 66] (af [aa 67 11,aa 68 15,aH 69 113 [t 68],cO 70 (Ins.mget (MK.st [int,int,int,int,int]) (AV.bool false) false (t 67) (t 69)),jM 71 70] (az 71 (af [aa 72 11,aa 73 15,aH 74 113 [t 73],Op2.mk none none (mput (MK.st [int,int,int,int,int]) (t 72) (t 74) zY)] (ops 0 [aa 75 10,aa 76 15,cO 77 (bldS 1 1 [AV.esl] [(0,1,t 76)]),fC 78 1 24 75 77,aa 10 78]))))))).seq (cV 79 57)))).loop))).seq (ops 0 [aa 53 12,aB 54 .add 53 1,aa 12 54]))).loop)).seq (af [aa 80 10,aH 81 115 ([t 80,c (AV.func 82 [])])] (aj [aa 82 10,aa 4 82,am 5 0]))))))))))
theorem R3:Is Tryz.prog 68 b68:=mkI Tryz.func68
def b71:F2:=(F2.mk 22 [RV.t 4] (af [bM 4] ((af [aa 6 0,aV 7 6,aa 8 1,bh 9 .gtr 7 8] (az 9 (aj [bM 4]))).seq ((af [am 5 0] (block 0 ((af [aa 10 5,aa 11 0,aV 12 11,bh 13 .lss 10 12] (cS 13 skip (exit 0))).seq ((block 1 (af [aa 16 0,aa 17 5,aW 18 1 16 17,ah 19 18,aV 20 19,aB 21 .gtr 20 10] (az 21 (aj [bM 4])))).seq (ops 0 [aa 14 5,aB 15 .add 14 1,aa 5 15]))).loop)).seq (aj [kq 4])))))
theorem Q8:Is Tryz.prog 71 b71:=mkI Tryz.func71
def b72:F2:=(F2.mk 21 [RV.t 2] (af [br 1 0,am 2 0] (af [am 3 0] ((af [am 4 0] (block 0 ((af [aa 5 4,ak 6 1 1,ah 7 6,aV 8 7,bh 9 .lss 5 8] (cS 9 skip (exit 0))).seq ((block 1 (ops 0 [aa 12 3,ak 13 1 1,ah 14 13,aa 15 4,aW 16 1 14 15,ah 17 16,aV 18 17,bh 19 .add 12 18,aa 3 19])).seq (ops 0 [aa 10 4,aB 11 .add 10 1,aa 4 11]))).loop)).seq (aj [aa 20 3,aa 2 20])))))
theorem RW:Is Tryz.prog 72 b72:=mkI Tryz.func72
def b73:F2:=(F2.mk 56 [RV.t 2] (af [br 1 0,am 2 0] ((af [ak 5 0 1,ah 6 5,aB 7 .lss 6 1,aa 8 7,ar 9 8 (fa 0 (t 1)),ar 10 8 (cD 9),ar 11 8 (cB .gtr (t 10) (cN 5)),cT 12 8 11,aa 13 12,ar 14 13 (fa 1 (t 1)),ar 15 13 (cD 14),ar 16 13 (cB .lss (t 15) (cN 1)),cT 17 13 16,aa 18 17,ar 19 18 (fa 1 (t 1)),ar 20 18 (cD 19),ar 21 18 (cB .gtr (t 20) (cN 8)),cT 22 18 21,aa 23 22,ar 24 23 (fa 2 (t 1)),ar 25 23 (cD 24),ar 26 23 (cB .lss (t 25) (cN 1)),cT 27 23 26,aa 28 27,ar 29 28 (fa 2 (t 1)),ar 30 28 (cD 29),ar 31 28 (cB .gtr (t 30) (cN 8)),cT 32 28 31] (az 32 (aj [am 2 2]))).seq ((af [ak 33 3 1,ah 34 33,aV 35 34,aB 36 .lss 35 1,aa 37 36,ar 38 37 (fa 3 (t 1)),ar 39 37 (cD 38),ar 40 37 (lenS (t 39)),ar 41 37 (cB .gtr (t 40) (cN 1024)),cT 42 37 41] (az 42 (aj [am 2 5]))).seq ((af [am 3 0] (block 0 ((af [aa 43 3,ak 44 3 1,ah 45 44,aV 46 45,bh 47 .lss 43 46] (cS 47 skip (exit 0))).seq ((block 1 (af [aL 50 4 1,aa 51 3,aH 52 127 [t 50,t 51],aa 4 52] (af [aa 53 4,aB 54 .neq 53 0] (az 54 (aj [aa 55 4,aa 2 55]))))).seq (ops 0 [aa 48 3,aB 49 .add 48 1,aa 3 49]))).loop)).seq (aj [am 2 0]))))))
theorem Rz:Is Tryz.prog 73 b73:=mkI Tryz.func73
def b74:F2:=(F2.mk 67 [RV.t 2] (af [br 1 0,am 2 0] ((af [ak 6 0 1,ah 7 6,aB 8 .lss 7 1,aa 9 8,ar 10 9 (fa 0 (t 1)),ar 11 9 (cD 10),ar 12 9 (cB .gtr (t 11) (cN 5)),cT 13 9 12] (az 13 (aj [am 2 2]))).seq ((af [ak 14 1 1,ah 15 14,aV 16 15,aB 17 .lss 16 1,aa 18 17,ar 19 18 (fa 1 (t 1)),ar 20 18 (cD 19),ar 21 18 (lenS (t 20)),ar 22 18 (cB .gtr (t 21) (cN 256)),cT 23 18 22,aa 24 23,ar 25 24 (ldn 2 (t 1)),ar 26 24 (call (cF 72) [t 25]),ar 27 24 (cB .gtr (t 26) (cN 4096)),cT 28 24 27] (az 28 (aj [am 2 5]))).seq ((af [am 3 0] (block 0 ((af [aa 29 3,ak 30 1 1,ah 31 30,aV 32 31,bh 33 .lss 29 32] (cS 33 skip (exit 0))).seq ((block 1 ((af [ak 36 1 1,ah 37 36,aa 38 3,aW 39 1 37 38,ah 40 39,aV 41 40,aB 42 .eql 41 0] (az 42 (aj [am 2 19]))).seq (af [am 4 0] (block 2 ((af [aa 43 4,ak 44 1 1,ah 45 44,aa 46 3,aW 47 1 45 46,ah 48 47,aV 49 48,bh 50 .lss 43 49] (cS 50 skip (exit 2))).seq ((block 3 ((mixS 1 [aL 53 2 1,ak 54 1 1,ah 55 54,aa 56 3,aW 57 1 55 56,ah 58 57,aa 59 4,aH 60 128 [t 53,t 58,t 59],aa 5 60] [(0,0),(1,0),(2,0),(3,0),(4,0),(5,0),(6,0),(7,2),(8,0)]).seq (af [aa 61 5,aB 62 .neq 61 0] (az 62 (aj [aa 63 5,aa 2 63]))))).seq (ops 0 [aa 51 4,aB 52 .add 51 1,aa 4 52]))).loop)))).seq (ops 0 [aa 34 3,aB 35 .add 34 1,aa 3 35]))).loop)).seq ((af [aL 64 2 1,aH 65 129 [t 64],jM 66 65] (az 66 (aj [am 2 21]))).seq (aj [am 2 0])))))))
theorem Q0:Is Tryz.prog 74 b74:=mkI Tryz.func74
def b75:F2:=(F2.mk 71 [RV.t 6] (af [br 3 0,am 6 0] (af [cw 7] ((af [am 8 0] (block 0 ((af [aa 14 8,ak 15 1 3,ah 16 15,aV 17 16,bh 18 .lss 14 17] (cS 18 skip (exit 0))).seq ((block 1 (ops 0 [aa 21 7,cO 22 (bldS 1 1 [ag] [(0,1,cN ((1)))]),fC 23 1 8 21 22,aa 7 23])).seq (ops 0 [aa 19 8,aB 20 .add 19 1,aa 8 20]))).loop)).seq ((af [am 9 0] (block 2 ((af [aa 24 9,aa 25 1,bh 26 .lss 24 25] (cS 26 skip (exit 2))).seq ((block 3 (af [cw 10] ((af [am 11 0] (block 4 ((af [aa 29 11,ak 30 1 3,ah 31 30,aV 32 31,bh 33 .lss 29 32] (cS 33 skip (exit 4))).seq ((block 5 (af [am 12 0] ((af [am 13 0] (block 6 ((af [aa 36 13,ak 37 1 3,ah 38 37,aa 39 11,aW 40 1 38 39,ah 41 40,aV 42 41,bh 43 .lss 36 42] (cS 43 skip (exit 6))).seq ((block 7 (ops 0 [aa 46 12,aa 47 7,ak 48 1 3,ah 49 48,aa 50 11,aW 51 1 49 50,ah 52 51,aa 53 13,aW 54 8 52 53,ak 55 7 54,ah 56 55,aW 57 1 47 56,ah 58 57,bh 59 .add 46 58,aa 60 2,aB 61 .add 60 1,cO 62 (mn (t 59) [t 61]),aa 12 62])).seq (ops 0 [aa 44 13,aB 45 .add 44 1,aa 13 45]))).loop)).seq (ops 0 [aa 63 10,aa 64 12,cO 65 (bldS 1 1 [ag] [(0,1,t 64)]),fC 66 1 8 63 65,aa 10 66])))).seq (ops 0 [aa 34 11,aB 35 .add 34 1,aa 11 35]))).loop)).seq (ops 0 [aa 67 10,aa 7 67])))).seq (ops 0 [aa 27 9,aB 28 .add 27 1,aa 9 28]))).loop)).seq (aj [aa 68 7,cO 69 (ixaS 1 (t 68) (cN 0)),ah 70 69,aa 6 70]))))))
theorem Q2:Is Tryz.prog 75 b75:=mkI Tryz.func75
def b76:F2:=(F2.mk 59 [RV.t 6] (af [br 3 0,cw 6] ((af [aa 13 2,aB 14 .eql 13 0] (az 14 (aj [cO 15 (bldS 1 1 [AV.esl] [(0,1,c AV.esl)]),aa 6 15]))).seq (af [cw 7] ((af [am 8 0] (block 0 ((af [aa 16 8,ak 17 1 3,ah 18 17,aa 19 1,aW 20 1 18 19,ah 21 20,aV 22 21,bh 23 .lss 16 22] (cS 23 skip (exit 0))).seq ((block 1 (af [ak 26 1 3,ah 27 26,aa 28 1,aW 29 1 27 28,ah 30 29,aa 31 8,aW 32 8 30 31,aL 33 8 32,cO 9 (alloc (AV.agg [ag,ag,ag,ag,ag,ag,ag,ag])),a7 8 9 33] (af [aL 34 2 3,ak 35 7 9,ah 36 35,aa 37 2,aB 38 .sub 37 1,aH 39 76 [t 34,t 36,t 38],aa 10 39] (af [am 11 0] (block 2 ((af [aa 40 11,aa 41 10,aV 42 41,bh 43 .lss 40 42] (cS 43 skip (exit 2))).seq ((block 3 (af [ak 46 0 9,aL 47 7 46,cO 48 (bldS 7 1 [ag,ag,ag,ag,ag,ag,ag] [(0,7,t 47)]),aa 12 48] (ops 0 [aa 49 7,aa 50 12,aa 51 10,aa 52 11,aW 53 1 51 52,ah 54 53,fC 55 7 56 50 54,cO 56 (bldS 1 1 [AV.esl] [(0,1,t 55)]),fC 57 1 24 49 56,aa 7 57]))).seq (ops 0 [aa 44 11,aB 45 .add 44 1,aa 11 45]))).loop))))).seq (ops 0 [aa 24 8,aB 25 .add 24 1,aa 8 25]))).loop)).seq (aj [aa 58 7,aa 6 58]))))))
theorem O3:Is Tryz.prog 76 b76:=mkI Tryz.func76
def b77:F2:=(F2.mk 18 [RV.cn 4 8] (af [cO 4 (alloc (AV.agg [ag,ag,ag,ag,ag,ag,ag,ag]))] (af [aa 7 0,aa 8 1,cO 9 (bld [ag,ag,ag,ag,ag,ag,ag,ag] [(0,1,t 7),(2,1,t 8)]),cO 5 (alloc (AV.agg [ag,ag,ag,ag,ag,ag,ag,ag])),a7 8 5 9] ((af [am 6 0] (block 0 ((af [aa 10 6,aB 11 .lss 10 5] (cS 11 skip (exit 0))).seq ((block 1 (ops 0 [aa 14 6,ak 15 3 5,cO 16 (ixaA 5 1 (t 15) (t 14)),Op2.mk none none (Ins.st 1 (t 16) (cN ((-1))))])).seq (ops 0 [aa 12 6,aB 13 .add 12 1,aa 6 13]))).loop)).seq (aj [aL 17 8 5,a7 8 4 17])))))
theorem RY:Is Tryz.prog 77 b77:=mkI Tryz.func77
def b78:F2:=(F2.mk 41 [RV.cn 8 8] (af [br 4 0,cO 8 (alloc (AV.agg [ag,ag,ag,ag,ag,ag,ag,ag]))] (af [aa 11 2,aa 12 1,cO 13 (bld [ag,ag,ag,ag,ag,ag,ag,ag] [(0,1,t 11),(1,1,t 12)]),cO 9 (alloc (AV.agg [ag,ag,ag,ag,ag,ag,ag,ag])),a7 8 9 13] ((af [am 10 0] (block 0 ((af [aa 14 10,aB 15 .lss 14 5] (cS 15 skip (exit 0))).seq ((block 1 (af [aa 18 10,ak 19 3 9,cO 20 (ixaA 5 1 (t 19) (t 18)),Op2.mk none none (Ins.st 1 (t 20) (cN ((-1))))] (af [aa 21 10,ak 22 0 4,ah 23 22,bh 24 .lss 21 23,aa 25 24,aR 26 25 (cM 2),aR 27 25 (fa 1 (t 4)),aR 28 25 (ixaA 5 1 (t 27) (t 26)),aR 29 25 (cD 28),aR 30 25 (cM 10),aR 31 25 (call (cF 130) [t 29,t 30]),jk 32 25 31] (az 32 (ops 0 [aa 33 10,aa 34 3,aa 35 10,aW 36 1 34 35,ah 37 36,ak 38 3 9,cO 39 (ixaA 5 1 (t 38) (t 33)),a7 1 39 37]))))).seq (ops 0 [aa 16 10,aB 17 .add 16 1,aa 10 17]))).loop)).seq (aj [aL 40 8 9,a7 8 8 40])))))
theorem Sd:Is Tryz.prog 78 b78:=mkI Tryz.func78
def b79:F2:=(F2.mk 31 [RV.cn 4 2,RV.t 5] (af [br 2 0,br 3 1,cO 4 (alloc (AV.agg [ag,AV.esl])),am 5 0] ((af [aL 8 2 2,aL 9 8 3,aH 10 131 [t 8,t 9],aa 6 10] (af [aa 11 6,aB 12 .geq 11 0] (az 12 (aj [aL 13 2 2,aa 14 6,a7 2 4 13,aa 5 14])))).seq (af [ak 15 0 2,ah 16 15,cO 17 (bld [ag,AV.esl] [(0,1,t 16)]),cO 7 (alloc (AV.agg [ag,AV.esl])),a7 2 7 17] ((mixS 9 [ak 18 1 7,ah 19 18,ak 20 1 2,ah 21 20,fC 22 8 64 19 21,aL 23 8 3,cO 24 (bldS 8 1 [ag,ag,ag,ag,ag,ag,ag,ag] [(0,8,t 23)]),fC 25 8 64 22 24,ak 26 1 7,a7 1 26 25] [(0,0),(1,0),(2,0),(3,0),(5,0),(6,3),(4,1),(7,2),(8,0),(9,2)]).seq ((mixS 2 [aL 27 2 7,ak 28 1 2,ah 29 28,aV 30 29,a7 2 4 27,aa 5 30] [(0,0),(1,0),(2,0),(3,0),(4,1),(5,0)]).seq ret))))))
theorem Rb:Is Tryz.prog 79 b79:=mkI Tryz.func79
def b80:F2:=(F2.mk 47 [RV.t 6] (af [br 3 0,br 5 2,am 6 0] (af [cO 11 (bldS 1 1 [ag] [(0,1,cN ((1)))]),ak 12 1 3,ah 13 12,aV 14 13,aH 15 132 [t 11,t 14],cO 7 (alloc AV.esl),a7 1 7 15] ((af [aa 16 1,am 17 0] (block 0 ((du 18 17 16 0 ((block 1 (af [ah 19 7,aV 20 19,cO 21 (mks 1 8 [ag] (t 20) (t 20)),cO 8 (alloc AV.esl),a7 1 8 21] ((af [aL 22 2 3,aH 23 86 [t 22]] (block 2 (rangeF (t 23) [24,25] (af [aa 9 24] (ops 0 [cO 10 (alloc (AV.agg [ag,ag,ag,ag,ag,ag,ag,ag])),a7 8 10 25])) (block 3 (ops 1 [ah 26 8,aa 27 9,ah 28 8,aa 29 9,aW 30 1 28 29,ah 31 30,ah 32 7,ak 33 7 10,ah 34 33,aW 35 1 32 34,ah 36 35,bh 37 .add 31 36,ah 38 5,aB 39 .add 38 1,cO 40 (mn (t 37) [t 39]),aW 41 1 26 27,a7 1 41 40]))))).seq (ops 0 [ah 42 8,a7 1 7 42])))).seq (cV 43 17)))).loop)).seq (aj [ah 44 7,cO 45 (ixaS 1 (t 44) (cN 0)),ah 46 45,aa 6 46])))))
theorem RS:Is Tryz.prog 80 b80:=mkI Tryz.func80
def b81:F2:=(F2.mk 14 [RV.t 6] (af [br 5 2,am 6 0] ((af [aa 7 0,aV 8 7,aa 9 1,bh 10 .neq 8 9] (az 10 (aj [am 6 15]))).seq ((af [aa 11 0,cO 12 (mkfn 134 [t 5]),aH 13 133 [t 11,t 12]] (az 13 (aj [am 6 2]))).seq (aj [am 6 0])))))
theorem Q1:Is Tryz.prog 81 b81:=mkI Tryz.func81
def b82:F2:=(F2.mk 36 [RV.t 4] (af [am 4 0] ((af [aa 9 0,aV 10 9,am 11 0] (block 0 ((du 12 11 10 0 ((block 1 (af [aa 13 11,aW 14 1 9 11,ah 15 14,aa 5 13,aa 6 15] ((af [aa 16 5,aa 17 1,aV 18 17,bh 19 .geq 16 18] (az 19 (aj [am 4 1]))).seq (af [aa 20 1,aa 21 5,aW 22 1 20 21,ah 23 22,aa 7 23] (af [aa 24 6,aa 25 7,aH 26 135 [t 24,t 25],aa 8 26] (af [aa 27 8,aB 28 .neq 27 0] (az 28 (aj [aa 29 8,aa 4 29])))))))).seq (cV 30 11)))).loop)).seq ((af [aa 31 0,aV 32 31,aa 33 1,aV 34 33,bh 35 .lss 32 34] (az 35 (aj [cO 4 (mov (cN ((-1))))]))).seq (aj [am 4 0])))))
theorem R5:Is Tryz.prog 82 b82:=mkI Tryz.func82
def b83:F2:=(F2.mk 60 [RV.t 4] (af [br 2 0,br 3 1,am 4 0] ((af [ak 10 1 3,ah 11 10,aV 12 11,aB 13 .lss 12 1,aa 14 13,ar 15 14 (fa 1 (t 3)),ar 16 14 (cD 15),ar 17 14 (lenS (t 16)),ar 18 14 (cB .gtr (t 17) (cN 1024)),cT 19 14 18] (az 19 (aj [am 4 5]))).seq ((af [ak 20 1 3,ah 21 20,aV 22 21,am 23 0] (block 0 ((du 24 23 22 0 ((block 1 (af [aa 25 23,aW 26 1 21 23,ah 27 26,aa 5 25,aa 6 27] ((af [aa 28 6,ak 29 0 2,ah 30 29,ak 31 2 2,ah 32 31,aH 33 81 [t 28,t 30,t 32],aa 7 33] (af [aa 34 7,aB 35 .neq 34 0] (az 35 (aj [aa 36 7,aa 4 36])))).seq (af [ak 37 1 3,ah 38 37,aa 39 5,aH 40 136 [t 38,t 39]] (az 40 (aj [am 4 14])))))).seq (cV 41 23)))).loop)).seq ((af [ak 42 2 3,ah 43 42,aV 44 43,am 45 0] (block 2 ((du 46 45 44 2 ((block 3 (af [aa 47 45,aW 48 1 43 45,ah 49 48,aa 8 47,aa 9 49] ((af [ak 50 1 3,ah 51 50,aa 52 9,aH 53 137 [t 51,t 52],jM 54 53] (az 54 (aj [am 4 6]))).seq (af [ak 55 2 3,ah 56 55,aa 57 8,aH 58 136 [t 56,t 57]] (az 58 (aj [am 4 14])))))).seq (cV 59 45)))).loop)).seq (aj [am 4 0]))))))
theorem R2:Is Tryz.prog 83 b83:=mkI Tryz.func83
def b84:F2:=(F2.mk 24 [RV.t 2] (af [br 1 0,am 2 0] (af [cO 3 (alloc (ag)),Op2.mk none none (Ins.st 1 (t 3) (cN 0))] ((af [aL 4 2 1,aH 5 86 [t 4]] (block 0 (rangeF (t 5) [6,7] skip (block 1 (ops 0 [ah 8 3,aB 9 .add 8 1,a7 1 3 9]))))).seq ((af [ak 10 1 1,ah 11 10,aV 12 11,aB 13 .lss 12 1,aa 14 13,ar 15 14 (fa 1 (t 1)),ar 16 14 (cD 15),ar 17 14 (lenS (t 16)),ar 18 14 (cB .gtr (t 17) (cN 256)),cT 19 14 18,aa 20 19,ar 21 20 (cD 3),ar 22 20 (cB .gtr (t 21) (cN 4096)),cT 23 20 22] (az 23 (aj [am 2 5]))).seq (aj [am 2 0]))))))
theorem Rs:Is Tryz.prog 84 b84:=mkI Tryz.func84
def b85:F2:=(F2.mk 60 [RV.t 4] (af [br 2 0,am 4 0] ((af [aa 8 1,aV 9 8,aB 10 .eql 9 0] (az 10 (aj [am 4 19]))).seq ((af [aa 11 1,aV 12 11,am 13 0] (block 0 ((du 14 13 12 0 ((block 1 (af [aa 15 13,aW 16 8 11 13,aL 17 8 16,cO 6 (alloc (AV.agg [ag,ag,ag,ag,ag,ag,ag,ag])),aa 5 15,a7 8 6 17] ((af [ak 18 0 6,aL 19 7 18,aH 20 138 [t 19],aa 7 20] (af [aa 21 7,aB 22 .neq 21 0] (az 22 (aj [aa 23 7,aa 4 23])))).seq (block 2 (af [ak 25 0 6,ak 26 0 25,ak 27 0 26,ah 28 27,ak 29 0 2,ah 30 29,bh 31 .neq 28 30,aa 24 31] (cS 24 (aj [am 4 22]) ((mixS 1 [aa 33 5,aB 34 .gtr 33 0,aa 35 34,aR 36 35 (cM 1),aR 37 35 (cM 5),aR 38 35 (cB .sub (t 37) (cN 1)),aR 39 35 (ixaS 8 (t 36) (t 38)),aR 40 35 (fa 0 (t 39)),aR 41 35 (ldn 7 (t 40)),aR 42 35 (fa 0 (t 6)),aR 43 35 (ldn 7 (t 42)),aR 44 35 (call (cF 139) [t 41,t 43]),aR 45 35 (cB .geq (t 44) (cN 0)),jk 46 35 45,aa 32 46] [(0,0),(1,0),(2,0),(3,0),(4,0),(5,0),(6,0),(7,0),(8,0),(9,0),(10,0),(11,2),(12,0),(13,0),(14,0)]).seq (cS 32 (aj [am 4 14]) (af [ak 48 7 6,ah 49 48,aB 50 .lss 49 0,aa 51 50,ar 52 51 (fa 7 (t 6)),ar 53 51 (cD 52),ar 54 51 (fa 1 (t 2)),ar 55 51 (cD 54),ar 56 51 (lenS (t 55)),ar 57 51 (cB .geq (t 53) (t 56)),cT 58 51 57,aa 47 58] (az 47 (aj [am 4 2]))))))))))).seq (cV 59 13)))).loop)).seq (aj [am 4 0])))))
theorem Sv:Is Tryz.prog 85 b85:=mkI Tryz.func85
def b86:F2:=(F2.mk 4 [RV.t 2] (af [br 1 0,cO 2 (mov (c AV.nilf))] (aj [cO 3 (mkfn 140 [t 1]),aa 2 3])))
theorem Rn:Is Tryz.prog 86 b86:=mkI Tryz.func86
def b87:F2:=(F2.mk 9 [RV.t 2] (af [am 2 0] ((af [aa 3 0,aB 4 .lss 3 1,aa 5 4,ar 6 5 (cM 0),ar 7 5 (cB .gtr (t 6) (cN 5)),cT 8 5 7] (az 8 (aj [am 2 2]))).seq (aj [am 2 0]))))
theorem O5:Is Tryz.prog 87 b87:=mkI Tryz.func87
def b88:F2:=(F2.mk 33 [RV.t 4] (af [cw 4] ((af [aa 7 1,aV 8 7,aa 9 0,bh 10 .eql 8 9] (az 10 (aj [aa 11 1,aH 12 44 [t 11],cO 13 (bldS 1 1 [AV.esl] [(0,1,t 12)]),aa 4 13]))).seq (af [cw 5] ((af [aa 14 0,am 15 0] (block 0 ((du 16 15 14 0 ((block 1 (af [aa 17 15,aa 6 17] (af [aa 18 1,aa 19 6,aH 20 141 [t 18,t 19],jM 21 20] (az 21 (ops 0 [aa 22 5,aa 23 0,aa 24 1,aH 25 44 [t 24],aa 26 6,cO 27 (bldS 1 1 [ag] [(0,1,t 26)]),fC 28 1 8 25 27,aH 29 88 [t 23,t 28],fC 30 1 24 22 29,aa 5 30]))))).seq (cV 31 15)))).loop)).seq (aj [aa 32 5,aa 4 32]))))))
theorem NU:Is Tryz.prog 88 b88:=mkI Tryz.func88
def b89:F2:=(F2.mk 30 [RV.t 4] (af [cw 4] (af [cw 5] ((af [aa 10 0,aV 11 10,am 12 0] (block 0 ((du 13 12 11 0 ((block 1 (af [aW 14 1 10 12,ah 15 14,aa 7 15] (af [aa 17 1,aa 18 7,aH 19 142 [t 17,t 18],aa 16 19,bG 20 16 0,bG 21 16 1,aa 8 20,aa 9 21] (ops 0 [aa 22 5,aa 23 8,cO 24 (bldS 1 1 [AV.esl] [(0,1,t 23)]),fC 25 1 24 22 24,aa 5 25])))).seq (cV 26 12)))).loop)).seq (af [aa 27 5,aH 28 115 ([t 27,c (AV.func 82 [])])] (aj [aa 29 5,aa 4 29]))))))
theorem RQ:Is Tryz.prog 89 b89:=mkI Tryz.func89
def b91:F2:=(F2.mk 10 [RV.t 4] (af [br 2 0,br 3 1,am 4 0] (aj [ak 5 0 2,ah 6 5,ak 7 0 3,ah 8 7,aH 9 82 [t 6,t 8],aa 4 9])))
theorem R8:Is Tryz.prog 91 b91:=mkI Tryz.func91
def b92:F2:=(F2.mk 8 [RV.t 4] (af [bM 4] (aj [aa 5 0,aa 6 1,aH 7 93 ([t 5,t 6,c (AV.func 94 [])]),aa 4 7])))
theorem Sb:Is Tryz.prog 92 b92:=mkI Tryz.func92
def b93:F2:=(F2.mk 32 [RV.t 6] (af [bM 6] ((af [aa 10 0,aV 11 10,aa 12 1,aV 13 12,bh 14 .neq 11 13] (az 14 (aj [bM 6]))).seq ((af [aa 15 0,aV 16 15,am 17 0] (block 0 ((du 18 17 16 0 ((block 1 (af [aa 19 17,aW 20 1 15 17,ah 21 20,aa 7 19,aa 8 21] (af [aa 22 1,aa 23 7,aW 24 1 22 23,ah 25 24,aa 9 25] (af [aa 26 2,aa 27 8,aa 28 9,cO 29 (call (t 26) [t 27,t 28]),jM 30 29] (az 30 (aj [bM 6])))))).seq (cV 31 17)))).loop)).seq (aj [kq 6])))))
theorem P1:Is Tryz.prog 93 b93:=mkI Tryz.func93
def b94:F2:=(F2.mk 26 [RV.t 4] (af [bM 4] ((af [aa 6 0,aV 7 6,aa 8 1,aV 9 8,bh 10 .neq 7 9] (az 10 (aj [bM 4]))).seq ((af [aa 11 0,aV 12 11,am 13 0] (block 0 ((du 14 13 12 0 ((block 1 (af [aa 15 13,aa 5 15] ((ops 1 [aa 16 0,aa 17 5,aW 18 1 16 17,ah 19 18,aa 20 1,aa 21 5,aW 22 1 20 21,ah 23 22,bh 24 .neq 19 23]).seq (az 24 (aj [bM 4]))))).seq (cV 25 13)))).loop)).seq (aj [kq 4])))))
theorem Re:Is Tryz.prog 94 b94:=mkI Tryz.func94
def b95:F2:=(F2.mk 32 [RV.t 6] (af [bM 6] ((af [aa 10 0,aV 11 10,aa 12 1,aV 13 12,bh 14 .neq 11 13] (az 14 (aj [bM 6]))).seq ((af [aa 15 0,aV 16 15,am 17 0] (block 0 ((du 18 17 16 0 ((block 1 (af [aa 19 17,aW 20 3 15 17,aL 21 3 20,cO 8 (alloc (AV.agg [AV.esl,AV.esl,AV.esl])),aa 7 19,a7 3 8 21] (af [aa 22 1,aa 23 7,aW 24 3 22 23,aL 25 3 24,cO 9 (alloc (AV.agg [AV.esl,AV.esl,AV.esl])),a7 3 9 25] (af [aa 26 2,aL 27 3 8,aL 28 3 9,cO 29 (call (t 26) [t 27,t 28]),jM 30 29] (az 30 (aj [bM 6])))))).seq (cV 31 17)))).loop)).seq (aj [kq 6])))))
theorem Sn:Is Tryz.prog 95 b95:=mkI Tryz.func95
def b96:F2:=(F2.mk 27 [RV.t 5] (af [br 3 0,br 4 1,bM 5] (aj [ak 6 0 3,ah 7 6,ak 8 0 4,ah 9 8,aH 10 94 [t 7,t 9],aa 11 10,aR 12 11 (cD 2),aR 13 11 (fa 1 (t 3)),aR 14 11 (cD 13),aR 15 11 (fa 1 (t 4)),aR 16 11 (cD 15),aR 17 11 (call (t 12) [t 14,t 16]),jk 18 11 17,aa 19 18,aR 20 19 (cD 2),aR 21 19 (fa 2 (t 3)),aR 22 19 (cD 21),aR 23 19 (fa 2 (t 4)),aR 24 19 (cD 23),aR 25 19 (call (t 20) [t 22,t 24]),jk 26 19 25,aa 5 26])))
theorem R1:Is Tryz.prog 96 b96:=mkI Tryz.func96
def b97:F2:=(F2.mk 15 [RV.t 4] (af [am 4 0] ((af [aa 6 0,aH 7 64 [t 6],aa 5 7] (af [aa 8 5,aB 9 .neq 8 0] (az 9 (aj [aa 10 5,aa 4 10])))).seq ((af [aa 11 0,aV 12 11,aa 13 1,bh 14 .neq 12 13] (az 14 (aj [am 4 22]))).seq (aj [am 4 0])))))
theorem RE:Is Tryz.prog 97 b97:=mkI Tryz.func97
def b98:F2:=(F2.mk 58 [RV.cn 4 2,RV.t 5] (af [br 2 0,cO 4 (alloc (AV.agg [ag,AV.esl])),am 5 0] (af [aa 15 1,cO 16 (mkbf 144 [t 15]),aa 6 16] (af [ak 17 0 2,ah 18 17,cO 19 (bld [ag,AV.esl] [(0,1,t 18)]),cO 7 (alloc (AV.agg [ag,AV.esl])),a7 2 7 19] ((af [ak 20 1 2,ah 21 20,aV 22 21,am 23 0] (block 0 ((du 24 23 22 0 ((block 1 (af [aW 25 1 21 23,ah 26 25,aa 9 26] (af [cw 10] ((af [aa 27 9,aV 28 27,am 29 0] (block 2 ((du 30 29 28 2 ((block 3 (af [aW 31 8 27 29,aL 32 8 31,cO 12 (alloc (AV.agg [ag,ag,ag,ag,ag,ag,ag,ag])),a7 8 12 32] (af [aa 34 6,aL 35 8 12,cO 36 (call (t 34) [t 35]),aa 33 36,bG 37 33 0,bG 38 33 1,cO 13 (alloc (AV.agg [ag,ag,ag,ag,ag,ag,ag,ag])),a7 8 13 37,aa 14 38] ((af [aa 39 14,aB 40 .neq 39 0] (az 40 (aj [cO 41 (bld [ag,AV.esl] []),aa 42 14,a7 2 4 41,aa 5 42]))).seq (ops 0 [aa 43 10,aL 44 8 13,cO 45 (bldS 8 1 [ag,ag,ag,ag,ag,ag,ag,ag] [(0,8,t 44)]),fC 46 8 64 43 45,aa 10 46]))))).seq (cV 47 29)))).loop)).seq (af [aa 48 10,aH 49 145 ([t 48,c (AV.func 146 [])])] (ops 0 [ak 50 1 7,ah 51 50,aa 52 10,cO 53 (bldS 1 1 [AV.esl] [(0,1,t 52)]),fC 54 1 24 51 53,ak 55 1 7,a7 1 55 54])))))).seq (cV 56 23)))).loop)).seq (aj [aL 57 2 7,a7 2 4 57,am 5 0]))))))
theorem Sl:Is Tryz.prog 98 b98:=mkI Tryz.func98
def b99:F2:=(F2.mk 22 [RV.t 4] (af [br 2 0,br 3 1,am 4 0] ((af [aL 7 2 2,aH 8 52 [t 7],aa 5 8] (af [aa 9 5,aB 10 .neq 9 0] (az 10 (aj [aa 11 5,aa 4 11])))).seq ((af [aL 12 2 3,aH 13 52 [t 12],aa 6 13] (af [aa 14 6,aB 15 .neq 14 0] (az 15 (aj [aa 16 6,aa 4 16])))).seq ((af [ak 17 0 2,ah 18 17,ak 19 0 3,ah 20 19,bh 21 .neq 18 20] (az 21 (aj [am 4 22]))).seq (aj [am 4 0]))))))
theorem Rh:Is Tryz.prog 99 b99:=mkI Tryz.func99
def Mf:F2:=(F2.mk 83 [RV.c1 6,RV.c1 7] (af [br 3 0,br 4 1,br 5 2,cO 6 (alloc AV.esl),cO 7 (alloc AV.esl)] (af [cO 13 (bld [ag,ag,ag,ag,ag,ag,ag,ag,ag,ag] []),cO 14 (bldS 10 1 [ag,ag,ag,ag,ag,ag,ag,ag,ag,ag] [(0,10,t 13)]),cO 8 (alloc AV.esl),a7 1 8 14] (af [cO 15 (mkm none),cO 16 (bld [ag,ag] [(0,1,cN ((0))),(1,1,cN ((0)))]),Op2.mk none none (mput (MK.st [int,int]) (t 15) (t 16) zY),aa 17 15,cO 9 (alloc AV.nilm),a7 1 9 17] ((af [cO 10 (alloc (ag)),Op2.mk none none (Ins.st 1 (t 10) (cN 0))] (block 0 ((af [ah 18 10,ah 19 8,aV 20 19,bh 21 .lss 18 20] (cS 21 skip (exit 0))).seq ((block 1 (af [ah 24 8,ah 25 10,aW 26 10 24 25,ak 27 0 26,aL 28 2 27,cO 11 (alloc (AV.agg [ag,ag])),a7 2 11 28] ((mixS 1 [ak 29 1 3,ah 30 29,cO 31 (ixaA 2 1 (t 11) (cN 0)),ah 32 31,aW 33 1 30 32,ah 34 33,ak 35 1 4,ah 36 35,cO 37 (ixaA 2 1 (t 11) (cN 1)),ah 38 37,aW 39 1 36 38,ah 40 39,aH 41 147 [t 34,t 40]] [(0,0),(1,0),(2,0),(3,0),(4,0),(5,0),(6,0),(7,0),(8,0),(9,0),(10,0),(11,0),(12,2)]).seq (block 2 (rangeF (t 41) [42] (ops 0 [cO 12 (alloc (AV.agg [ag,ag,ag,ag,ag,ag,ag,ag,ag])),a7 9 12 42]) (block 3 ((af [ah 43 5,aL 44 9 12,cO 45 (call (t 43) [t 44])] (az 45 ((mixS 1 [ah 46 8,ah 47 8,ah 48 10,ak 49 0 12,aL 50 7 49,aH 51 148 [t 47,t 48,t 50],a7 1 6 46,a7 1 7 51] [(0,0),(1,0),(2,0),(3,0),(4,0),(5,1),(6,2),(7,2)]).seq ret))).seq (af [ak 52 7 12,cO 53 (ixaA 2 1 (t 52) (cN 0)),ah 54 53,aB 55 .geq 54 0,aa 56 55,aR 57 56 (fa 7 (t 12)),aR 58 56 (ixaA 2 1 (t 57) (cN 1)),aR 59 56 (cD 58),aR 60 56 (cB .geq (t 59) (cN 0)),jk 61 56 60,aa 62 61,aR 63 62 (cD 9),aR 64 62 (fa 7 (t 12)),aR 65 62 (ldn 2 (t 64)),aR 66 62 (Ins.mget (MK.st [int,int]) (AV.bool false) false (t 63) (t 65)),aR 67 62 (un UnOp.not (t 66)),jk 68 62 67] (az 68 (af [ah 69 9,ak 70 7 12,aL 71 2 70,Op2.mk none none (mput (MK.st [int,int]) (t 69) (t 71) zY)] (ops 0 [ah 72 8,ak 73 7 12,aL 74 2 73,ah 75 10,ak 76 0 12,aL 77 7 76,cO 78 (bld [ag,ag,ag,ag,ag,ag,ag,ag,ag,ag] [(0,2,t 74),(2,1,t 75),(3,7,t 77)]),cO 79 (bldS 10 1 [ag,ag,ag,ag,ag,ag,ag,ag,ag,ag] [(0,10,t 78)]),fC 80 10 80 72 79,a7 1 8 80]))))))))))).seq ((af [ah 81 10] (ops 0 [cO 10 (alloc (ag)),a7 1 10 81])).seq (ops 0 [ah 22 10,aB 23 .add 22 1,a7 1 10 23])))).loop)).seq (aj [ah 82 8,a7 1 6 82,Op2.mk none none (Ins.st 1 (t 7) (c AV.esl))]))))))
theorem K7:Is Tryz.prog 100 Mf:=mkI Tryz.func100
def Pg:F2:=(F2.mk 13 [RV.t 2] (af [br 1 0,bM 2] (aj [ak 3 7 1,cO 4 (ixaA 2 1 (t 3) (cN 0)),ah 5 4,aB 6 .lss 5 0,aa 7 6,ar 8 7 (fa 7 (t 1)),ar 9 7 (ixaA 2 1 (t 8) (cN 1)),ar 10 7 (cD 9),ar 11 7 (cB .lss (t 10) (cN 0)),cT 12 7 11,aa 2 12])))
theorem OW:Is Tryz.prog 101 Pg:=mkI Tryz.func101
def PA:F2:=(F2.mk 75 [RV.t 4] (af [br 2 0,br 3 1,bM 4] ((af [ak 8 0 2,ah 9 8,ak 10 0 3,ah 11 10,bh 12 .neq 9 11,aa 13 12,ar 14 13 (fa 1 (t 2)),ar 15 13 (cD 14),ar 16 13 (fa 1 (t 3)),ar 17 13 (cD 16),ar 18 13 (cB .neq (t 15) (t 17)),cT 19 13 18,aa 20 19,ar 21 20 (fa 2 (t 2)),ar 22 20 (cD 21),ar 23 20 (fa 2 (t 3)),ar 24 20 (cD 23),ar 25 20 (cB .neq (t 22) (t 24)),cT 26 20 25,aa 27 26,ar 28 27 (fa 3 (t 2)),ar 29 27 (cD 28),ar 30 27 (lenS (t 29)),ar 31 27 (fa 3 (t 3)),ar 32 27 (cD 31),ar 33 27 (lenS (t 32)),ar 34 27 (cB .neq (t 30) (t 33)),cT 35 27 34] (az 35 (aj [bM 4]))).seq ((af [am 5 0] (block 0 ((af [aa 36 5,ak 37 3 2,ah 38 37,aV 39 38,bh 40 .lss 36 39] (cS 40 skip (exit 0))).seq ((block 1 ((ops 2 [ak 43 3 2,ah 44 43,aa 45 5,aW 46 3 44 45,aL 47 3 46,ak 48 3 3,ah 49 48,aa 50 5,aW 51 3 49 50,aL 52 3 51,cO 6 (alloc (AV.agg [AV.esl,AV.esl,AV.esl])),cO 7 (alloc (AV.agg [AV.esl,AV.esl,AV.esl])),a7 3 6 47,a7 3 7 52]).seq (af [ak 53 0 6,ah 54 53,ak 55 0 7,ah 56 55,aH 57 149 [t 54,t 56],aB 58 .neq 57 0,aa 59 58,ar 60 59 (fa 1 (t 6)),ar 61 59 (cD 60),ar 62 59 (fa 1 (t 7)),ar 63 59 (cD 62),ar 64 59 (call (cF 150) [t 61,t 63]),ar 65 59 (un UnOp.not (t 64)),cT 66 59 65,aa 67 66,ar 68 67 (fa 2 (t 6)),ar 69 67 (cD 68),ar 70 67 (fa 2 (t 7)),ar 71 67 (cD 70),ar 72 67 (call (cF 150) [t 69,t 71]),ar 73 67 (un UnOp.not (t 72)),cT 74 67 73] (az 74 (aj [bM 4]))))).seq (ops 0 [aa 41 5,aB 42 .add 41 1,aa 5 42]))).loop)).seq (aj [kq 4])))))
theorem PU:Is Tryz.prog 102 PA:=mkI Tryz.func102
def OB:F2:=(F2.mk 68 [RV.t 4] (af [br 2 0,br 3 1,bM 4] ((af [ak 7 0 2,ah 8 7,ak 9 0 3,ah 10 9,bh 11 .neq 8 10,aa 12 11,ar 13 12 (fa 1 (t 2)),ar 14 12 (cD 13),ar 15 12 (lenS (t 14)),ar 16 12 (fa 1 (t 3)),ar 17 12 (cD 16),ar 18 12 (lenS (t 17)),ar 19 12 (cB .neq (t 15) (t 18)),cT 20 12 19] (az 20 (aj [bM 4]))).seq ((af [am 5 0] (block 0 ((af [aa 21 5,ak 22 1 2,ah 23 22,aV 24 23,bh 25 .lss 21 24] (cS 25 skip (exit 0))).seq ((block 1 (((ops 1 [ak 28 1 2,ah 29 28,aa 30 5,aW 31 1 29 30,ah 32 31,aV 33 32,ak 34 1 3,ah 35 34,aa 36 5,aW 37 1 35 36,ah 38 37,aV 39 38,bh 40 .neq 33 39]).seq (az 40 (aj [bM 4]))).seq (af [am 6 0] (block 2 ((af [aa 41 6,ak 42 1 2,ah 43 42,aa 44 5,aW 45 1 43 44,ah 46 45,aV 47 46,bh 48 .lss 41 47] (cS 48 skip (exit 2))).seq ((block 3 ((ops 1 [ak 51 1 2,ah 52 51,aa 53 5,aW 54 1 52 53,ah 55 54,aa 56 6,aW 57 8 55 56,aL 58 8 57,ak 59 1 3,ah 60 59,aa 61 5,aW 62 1 60 61,ah 63 62,aa 64 6,aW 65 8 63 64,aL 66 8 65,cO 67 (binS BinOp.neq [int,int,int,int,int,int,int,int] (t 58) (t 66))]).seq (az 67 (aj [bM 4])))).seq (ops 0 [aa 49 6,aB 50 .add 49 1,aa 6 50]))).loop)))).seq (ops 0 [aa 26 5,aB 27 .add 26 1,aa 5 27]))).loop)).seq (aj [kq 4])))))
theorem N4:Is Tryz.prog 103 OB:=mkI Tryz.func103
def Qr:F2:=(F2.mk 26 [RV.t 4] (af [bM 4] ((af [aa 6 0,aV 7 6,aa 8 1,aV 9 8,bh 10 .neq 7 9] (az 10 (aj [bM 4]))).seq ((af [am 5 0] (block 0 ((af [aa 11 5,aa 12 0,aV 13 12,bh 14 .lss 11 13] (cS 14 skip (exit 0))).seq ((block 1 ((ops 1 [aa 17 0,aa 18 5,aW 19 7 17 18,aL 20 7 19,aa 21 1,aa 22 5,aW 23 7 21 22,aL 24 7 23,cO 25 (binS BinOp.neq [int,int,int,int,int,int,int] (t 20) (t 24))]).seq (az 25 (aj [bM 4])))).seq (ops 0 [aa 15 5,aB 16 .add 15 1,aa 5 16]))).loop)).seq (aj [kq 4])))))
theorem Oi:Is Tryz.prog 104 Qr:=mkI Tryz.func104
def PX:F2:=(F2.mk 26 [RV.t 4] (af [bM 4] ((af [aa 6 0,aV 7 6,aa 8 1,aV 9 8,bh 10 .neq 7 9] (az 10 (aj [bM 4]))).seq ((af [am 5 0] (block 0 ((af [aa 11 5,aa 12 0,aV 13 12,bh 14 .lss 11 13] (cS 14 skip (exit 0))).seq ((block 1 ((ops 1 [aa 17 0,aa 18 5,aW 19 1 17 18,ah 20 19,aa 21 1,aa 22 5,aW 23 1 21 22,ah 24 23,bh 25 .neq 20 24]).seq (az 25 (aj [bM 4])))).seq (ops 0 [aa 15 5,aB 16 .add 15 1,aa 5 16]))).loop)).seq (aj [kq 4])))))
theorem Qh:Is Tryz.prog 105 PX:=mkI Tryz.func105
def PY:F2:=(F2.mk 26 [RV.t 4] (af [bM 4] ((af [aa 6 0,aV 7 6,aa 8 1,aV 9 8,bh 10 .neq 7 9] (az 10 (aj [bM 4]))).seq ((af [aa 11 0,aV 12 11,am 13 0] (block 0 ((du 14 13 12 0 ((block 1 (af [aa 15 13,aa 5 15] ((ops 1 [aa 16 0,aa 17 5,aW 18 8 16 17,aL 19 8 18,aa 20 1,aa 21 5,aW 22 8 20 21,aL 23 8 22,cO 24 (binS BinOp.neq [int,int,int,int,int,int,int,int] (t 19) (t 23))]).seq (az 24 (aj [bM 4]))))).seq (cV 25 13)))).loop)).seq (aj [kq 4])))))
theorem PK:Is Tryz.prog 106 PY:=mkI Tryz.func106
def O9:F2:=(F2.mk 32 [RV.t 6] (af [bM 6] ((af [aa 10 0,aV 11 10,aa 12 1,aV 13 12,bh 14 .neq 11 13] (az 14 (aj [bM 6]))).seq ((af [aa 15 0,aV 16 15,am 17 0] (block 0 ((du 18 17 16 0 ((block 1 (af [aa 19 17,aW 20 3 15 17,aL 21 3 20,cO 8 (alloc (AV.agg [ag,AV.esl,AV.esl])),aa 7 19,a7 3 8 21] (af [aa 22 1,aa 23 7,aW 24 3 22 23,aL 25 3 24,cO 9 (alloc (AV.agg [ag,AV.esl,AV.esl])),a7 3 9 25] (af [aa 26 2,aL 27 3 8,aL 28 3 9,cO 29 (call (t 26) [t 27,t 28]),jM 30 29] (az 30 (aj [bM 6])))))).seq (cV 31 17)))).loop)).seq (aj [kq 6])))))
theorem O0:Is Tryz.prog 107 O9:=mkI Tryz.func107
def NP:F2:=(F2.mk 24 [RV.t 4] (af [br 2 0,br 3 1,bM 4] (aj [ak 5 0 2,ah 6 5,ak 7 0 3,ah 8 7,bh 9 .eql 6 8,aa 10 9,aR 11 10 (fa 1 (t 2)),aR 12 10 (cD 11),aR 13 10 (fa 1 (t 3)),aR 14 10 (cD 13),aR 15 10 (call (cF 151) [t 12,t 14]),jk 16 10 15,aa 17 16,aR 18 17 (fa 2 (t 2)),aR 19 17 (cD 18),aR 20 17 (fa 2 (t 3)),aR 21 17 (cD 20),aR 22 17 (call (cF 93) [t 19,t 21,c (AV.func 94 [])]),jk 23 17 22,aa 4 23])))
theorem QJ:Is Tryz.prog 108 NP:=mkI Tryz.func108
def PH:F2:=(F2.mk 23 [RV.t 2] (af [cw 2] (af [cw 3] ((af [aa 6 0,aV 7 6,am 8 0] (block 0 ((du 9 8 7 0 ((block 1 (af [aW 10 7 6 8,aL 11 7 10,cO 5 (alloc (AV.agg [ag,ag,ag,ag,ag,ag,ag])),a7 7 5 11] (mixS 9 [aa 12 3,ak 13 0 5,ak 14 1 13,cO 15 (slsA 5 (t 14) none none),fC 16 1 8 12 15,ak 17 6 5,ah 18 17,cO 19 (bldS 1 1 [ag] [(0,1,t 18)]),fC 20 1 8 16 19,aa 3 20] [(0,0),(1,0),(2,0),(3,0),(5,0),(6,0),(7,3),(4,1),(8,2),(9,0)]))).seq (cV 21 8)))).loop)).seq (aj [aa 22 3,aa 2 22])))))
theorem Oa:Is Tryz.prog 109 PH:=mkI Tryz.func109
def NB:F2:=(F2.mk 23 [] (af [ah 5 1,cO 6 (nilck (t 5)),ak 7 0 6,ak 8 9 7,ah 9 8,aV 10 9,am 11 0] (block 0 ((du 12 11 10 0 ((block 1 (af [aa 13 11,aa 4 13] (af [aa 14 0,aa 15 4,ah 16 1,ah 17 2,aa 18 4,aH 19 111 [t 16,t 17,t 18],cO 20 (call (t 14) [t 15,t 19]),jM 21 20] (cS 21 ret skip)))).seq (cV 22 11)))).loop)))
theorem OH:Is Tryz.prog 110 NB:=mkI Tryz.func110
def Nh:F2:=(F2.mk 93 [RV.t 6] (af [am 6 0] (af [aa 19 0,cO 20 (nilck (t 19)),ak 21 0 20,ak 22 9 21,ah 23 22,aa 24 2,aW 25 3 23 24,aL 26 3 25,cO 7 (alloc (AV.agg [ag,AV.esl,AV.esl])),a7 3 7 26] ((mixS 1 [aa 28 1,aa 29 0,cO 30 (nilck (t 29)),ak 31 0 30,ak 32 0 31,ak 33 0 32,ak 34 3 33,ah 35 34,ak 36 0 7,ah 37 36,aW 38 3 35 37,ak 39 0 38,ah 40 39,aH 41 142 [t 28,t 40],aa 27 41,bG 42 27 0,bG 43 27 1,aa 8 42,aa 9 43] [(0,0),(1,0),(2,0),(3,0),(4,0),(5,0),(6,0),(7,0),(8,0),(9,0),(10,0),(11,0),(12,0),(13,2),(14,0),(15,0),(16,0),(17,0),(18,0)]).seq ((mixS 9 [aa 45 0,cO 46 (nilck (t 45)),ak 47 10 46,ah 48 47,aa 49 8,aH 50 65 [t 49],cO 51 (Ins.mget (one str) (ag) true (t 48) (t 50)),aa 44 51,bG 52 44 0,bG 53 44 1,aa 10 52,aa 11 53] [(0,0),(1,0),(2,0),(3,0),(4,0),(5,1),(6,2),(7,0),(8,0),(9,0),(10,0),(11,0)]).seq ((af [aa 54 9,aB 55 .neq 54 0,aa 56 55,ar 57 56 (cM 11),ar 58 56 (un UnOp.not (t 57)),cT 59 56 58] (az 59 (aj [cO 6 (mov (cN ((-1))))]))).seq (af [cw 12] ((af [ak 60 1 7,ah 61 60,aV 62 61,am 63 0] (block 0 ((du 64 63 62 0 ((block 1 (af [aW 65 7 61 63,aL 66 7 65,cO 14 (alloc (AV.agg [ag,ag,ag,ag,ag,ag,ag])),a7 7 14 66] (af [aL 68 7 14,aa 69 1,aH 70 152 [t 68,t 69],aa 67 70,bG 71 67 0,bG 72 67 1,cO 15 (alloc (AV.agg [ag,ag,ag,ag,ag,ag,ag])),a7 7 15 71,aa 16 72] ((af [aa 73 16,aB 74 .neq 73 0] (az 74 (aj [cO 6 (mov (cN ((-1))))]))).seq (ops 0 [aa 75 12,aL 76 7 15,cO 77 (bldS 7 1 [ag,ag,ag,ag,ag,ag,ag] [(0,7,t 76)]),fC 78 7 56 75 77,aa 12 78]))))).seq (cV 79 63)))).loop)).seq (((mixS 9 [aa 81 0,cO 82 (nilck (t 81)),ak 83 11 82,ah 84 83,aa 85 10,aa 86 12,aH 87 66 [t 85,t 86],cO 88 (Ins.mget (one str) (ag) true (t 84) (t 87)),aa 80 88,bG 89 80 0,bG 90 80 1,aa 17 89,aa 18 90] [(0,0),(1,0),(2,0),(3,0),(4,0),(5,0),(6,1),(7,2),(8,0),(9,0),(10,0),(11,0),(12,0)]).seq (af [aa 91 18] (az 91 (aj [aa 92 17,aa 6 92])))).seq (aj [cO 6 (mov (cN ((-1))))]))))))))))
theorem Qt:Is Tryz.prog 111 Nh:=mkI Tryz.func111
def OE:F2:=(F2.mk 18 [RV.t 2] (af [cw 2] (af [aa 5 0,cO 6 (mks 1 8 [ag] (t 5) (t 5)),aa 3 6] ((af [aa 7 3,aV 8 7,am 9 0] (block 0 ((du 10 9 8 0 ((block 1 (af [aa 11 9,aa 4 11] (ops 0 [aa 12 3,aa 13 4,aa 14 4,aW 15 1 12 13,a7 1 15 14]))).seq (cV 16 9)))).loop)).seq (aj [aa 17 3,aa 2 17])))))
theorem OV:Is Tryz.prog 112 OE:=mkI Tryz.func112
def Rj:F2:=(F2.mk 8 [RV.cn 2 5] (af [cO 2 (alloc (AV.agg [ag,ag,ag,ag,ag]))] (af [cO 3 (alloc (AV.agg [ag,ag,ag,ag,ag]))] (af [cO 4 (slsA 5 (t 3) none none),aa 5 0,cO 6 (cpy 1 (t 4) (t 5))] (aj [aL 7 5 3,a7 5 2 7])))))
theorem QE:Is Tryz.prog 113 Rj:=mkI Tryz.func113
def PI:F2:=(F2.mk 27 [RV.t 4] (af [cw 4] (af [aa 8 1,aV 9 8,cO 10 (mks 1 8 [ag] (t 9) (t 9)),aa 5 10] ((af [aa 11 1,aV 12 11,am 13 0] (block 0 ((du 14 13 12 0 ((block 1 (af [aa 15 13,aW 16 1 11 13,ah 17 16,aa 6 15,aa 7 17] (ops 0 [aa 18 5,aa 19 6,aa 20 0,aa 21 7,aW 22 1 20 21,ah 23 22,aW 24 1 18 19,a7 1 24 23]))).seq (cV 25 13)))).loop)).seq (aj [aa 26 5,aa 4 26])))))
theorem Qe:Is Tryz.prog 114 PI:=mkI Tryz.func114
def PQ:F2:=(F2.mk 120 [RV.t 4] (af [br 2 0,am 4 0] (af [ak 10 3 2,ah 11 10,aa 12 1,aW 13 3 11 12,aL 14 3 13,cO 5 (alloc (AV.agg [AV.esl,AV.esl,AV.esl])),a7 3 5 14] ((af [ak 15 0 5,ah 16 15,ak 17 0 2,ah 18 17,ak 19 1 2,ah 20 19,aH 21 160 [t 16,t 18,t 20],aa 6 21] (af [aa 22 6,aB 23 .neq 22 0] (az 23 (aj [aa 24 6,aa 4 24])))).seq (((mixS 1 [aa 25 1,aB 26 .gtr 25 0,aa 27 26,aR 28 27 (fa 3 (t 2)),aR 29 27 (cD 28),aR 30 27 (cM 1),aR 31 27 (cB .sub (t 30) (cN 1)),aR 32 27 (ixaS 3 (t 29) (t 31)),aR 33 27 (fa 0 (t 32)),aR 34 27 (cD 33),aR 35 27 (fa 0 (t 5)),aR 36 27 (cD 35),aR 37 27 (call (cF 149) [t 34,t 36]),aR 38 27 (cB .geq (t 37) (cN 0)),jk 39 27 38] [(0,0),(1,0),(2,0),(3,0),(4,0),(5,0),(6,0),(7,0),(8,0),(9,0),(10,0),(11,0),(12,2),(13,0),(14,0)]).seq (az 39 (aj [am 4 14]))).seq ((af [ak 40 1 5,ah 41 40,aV 42 41,aB 43 .lss 42 1,aa 44 43,ar 45 44 (fa 1 (t 5)),ar 46 44 (cD 45),ar 47 44 (lenS (t 46)),ar 48 44 (cB .gtr (t 47) (cN 1024)),cT 49 44 48] (az 49 (aj [am 4 5]))).seq ((af [am 7 0] (block 0 ((af [aa 50 7,ak 51 1 5,ah 52 51,aV 53 52,bh 54 .lss 50 53] (cS 54 skip (exit 0))).seq ((block 1 (((mixS 1 [ak 57 1 5,ah 58 57,aa 59 7,aW 60 1 58 59,ah 61 60,ak 62 0 2,ah 63 62,ak 64 2 2,ah 65 64,aH 66 160 [t 61,t 63,t 65],aa 8 66] [(0,0),(1,0),(2,0),(3,0),(4,0),(5,0),(6,0),(7,0),(8,0),(9,2),(10,0)]).seq (af [aa 67 8,aB 68 .neq 67 0] (az 68 (aj [aa 69 8,aa 4 69])))).seq ((mixS 1 [aa 70 7,aB 71 .gtr 70 0,aa 72 71,aR 73 72 (fa 1 (t 5)),aR 74 72 (cD 73),aR 75 72 (cM 7),aR 76 72 (cB .sub (t 75) (cN 1)),aR 77 72 (ixaS 1 (t 74) (t 76)),aR 78 72 (cD 77),aR 79 72 (fa 1 (t 5)),aR 80 72 (cD 79),aR 81 72 (cM 7),aR 82 72 (ixaS 1 (t 80) (t 81)),aR 83 72 (cD 82),aR 84 72 (call (cF 149) [t 78,t 83]),aR 85 72 (cB .geq (t 84) (cN 0)),jk 86 72 85] [(0,0),(1,0),(2,0),(3,0),(4,0),(5,0),(6,0),(7,0),(8,0),(9,0),(10,0),(11,0),(12,0),(13,0),(14,2),(15,0),(16,0)]).seq (az 86 (aj [am 4 14]))))).seq (ops 0 [aa 55 7,aB 56 .add 55 1,aa 7 56]))).loop)).seq ((af [am 9 0] (block 2 ((af [aa 87 9,ak 88 2 5,ah 89 88,aV 90 89,bh 91 .lss 87 90] (cS 91 skip (exit 2))).seq ((block 3 (((mixS 1 [ak 94 1 5,ah 95 94,ak 96 2 5,ah 97 96,aa 98 9,aW 99 1 97 98,ah 100 99,aH 101 161 [t 95,t 100],jM 102 101] [(0,0),(1,0),(2,0),(3,0),(4,0),(5,0),(6,0),(7,2),(8,0)]).seq (az 102 (aj [am 4 6]))).seq ((mixS 1 [aa 103 9,aB 104 .gtr 103 0,aa 105 104,aR 106 105 (fa 2 (t 5)),aR 107 105 (cD 106),aR 108 105 (cM 9),aR 109 105 (cB .sub (t 108) (cN 1)),aR 110 105 (ixaS 1 (t 107) (t 109)),aR 111 105 (cD 110),aR 112 105 (fa 2 (t 5)),aR 113 105 (cD 112),aR 114 105 (cM 9),aR 115 105 (ixaS 1 (t 113) (t 114)),aR 116 105 (cD 115),aR 117 105 (call (cF 149) [t 111,t 116]),aR 118 105 (cB .geq (t 117) (cN 0)),jk 119 105 118] [(0,0),(1,0),(2,0),(3,0),(4,0),(5,0),(6,0),(7,0),(8,0),(9,0),(10,0),(11,0),(12,0),(13,0),(14,2),(15,0),(16,0)]).seq (az 119 (aj [am 4 14]))))).seq (ops 0 [aa 92 9,aB 93 .add 92 1,aa 9 93]))).loop)).seq (aj [am 4 0])))))))))
theorem Nn:Is Tryz.prog 127 PQ:=mkI Tryz.func127
def Qp:F2:=(F2.mk 55 [RV.t 6] (af [br 3 0,am 6 0] (af [aa 9 1,aa 10 2,aW 11 8 9 10,ak 12 0 11,aL 13 7 12,cO 7 (alloc (AV.agg [ag,ag,ag,ag,ag,ag,ag])),a7 7 7 13] ((af [aL 14 7 7,aH 15 162 [t 14],aa 8 15] (af [aa 16 8,aB 17 .neq 16 0] (az 17 (aj [aa 18 8,aa 6 18])))).seq ((af [ak 19 0 7,ak 20 0 19,ah 21 20,ak 22 0 3,ah 23 22,bh 24 .neq 21 23] (az 24 (aj [am 6 22]))).seq (((mixS 1 [aa 25 2,aB 26 .gtr 25 0,aa 27 26,aR 28 27 (cM 1),aR 29 27 (cM 2),aR 30 27 (cB .sub (t 29) (cN 1)),aR 31 27 (ixaS 8 (t 28) (t 30)),aR 32 27 (fa 0 (t 31)),aR 33 27 (ldn 7 (t 32)),aR 34 27 (ldn 7 (t 7)),aR 35 27 (call (cF 163) [t 33,t 34]),aR 36 27 (cB .geq (t 35) (cN 0)),jk 37 27 36] [(0,0),(1,0),(2,0),(3,0),(4,0),(5,0),(6,0),(7,0),(8,0),(9,0),(10,2),(11,0),(12,0)]).seq (az 37 (aj [am 6 14]))).seq (((ops 1 [aa 38 1,aa 39 2,aW 40 8 38 39,ak 41 7 40,ah 42 41,aB 43 .lss 42 0,aa 44 43,ar 45 44 (cM 1),ar 46 44 (cM 2),ar 47 44 (ixaS 8 (t 45) (t 46)),ar 48 44 (fa 7 (t 47)),ar 49 44 (cD 48),ar 50 44 (fa 1 (t 3)),ar 51 44 (cD 50),ar 52 44 (lenS (t 51)),ar 53 44 (cB .geq (t 49) (t 52)),cT 54 44 53]).seq (az 54 (aj [am 6 2]))).seq (aj [am 6 0]))))))))
theorem Ou:Is Tryz.prog 128 Qp:=mkI Tryz.func128
def Pn:F2:=(F2.mk 59 [RV.t 2] (af [br 1 0,bM 2] ((af [am 3 0] (block 0 ((af [aa 7 3,ak 8 1 1,ah 9 8,aV 10 9,bh 11 .lss 7 10] (cS 11 skip (exit 0))).seq ((block 1 (af [am 4 0] (block 2 ((af [aa 14 4,ak 15 1 1,ah 16 15,aa 17 3,aW 18 1 16 17,ah 19 18,aV 20 19,bh 21 .lss 14 20] (cS 21 skip (exit 2))).seq ((block 3 (af [ak 24 1 1,ah 25 24,aa 26 3,aW 27 1 25 26,ah 28 27,aa 29 4,aW 30 8 28 29,aL 31 8 30,cO 5 (alloc (AV.agg [ag,ag,ag,ag,ag,ag,ag,ag])),a7 8 5 31] (af [am 6 0] (block 4 ((af [aa 32 6,ak 33 1 1,ah 34 33,ak 35 7 5,ah 36 35,aW 37 1 34 36,ah 38 37,aV 39 38,bh 40 .lss 32 39] (cS 40 skip (exit 4))).seq ((block 5 ((mixS 1 [ak 43 0 5,ak 44 6 43,ah 45 44,ak 46 1 1,ah 47 46,ak 48 7 5,ah 49 48,aW 50 1 47 49,ah 51 50,aa 52 6,aW 53 8 51 52,ak 54 0 53,ak 55 6 54,ah 56 55,aH 57 164 [t 45,t 56],jM 58 57] [(0,0),(1,0),(2,0),(3,0),(4,0),(5,0),(6,0),(7,0),(8,0),(9,0),(10,0),(11,0),(12,0),(13,0),(14,2),(15,0)]).seq (az 58 (aj [bM 2])))).seq (ops 0 [aa 41 6,aB 42 .add 41 1,aa 6 42]))).loop)))).seq (ops 0 [aa 22 4,aB 23 .add 22 1,aa 4 23]))).loop))).seq (ops 0 [aa 12 3,aB 13 .add 12 1,aa 3 13]))).loop)).seq (aj [kq 2]))))
theorem Nt:Is Tryz.prog 129 Pn:=mkI Tryz.func129
def Oo:F2:=(F2.mk 11 [RV.t 4] (af [bM 4] (aj [aa 5 0,aa 6 1,aH 7 165 [t 6],bh 8 .quo 5 7,aB 9 .rem 8 2,aB 10 .eql 9 1,aa 4 10])))
theorem P0:Is Tryz.prog 130 Oo:=mkI Tryz.func130
def Pi:F2:=(F2.mk 21 [RV.t 4] (af [br 2 0,br 3 1,am 4 0] ((af [am 5 0] (block 0 ((af [aa 6 5,ak 7 1 2,ah 8 7,aV 9 8,bh 10 .lss 6 9] (cS 10 skip (exit 0))).seq ((block 1 ((ops 1 [ak 13 1 2,ah 14 13,aa 15 5,aW 16 8 14 15,aL 17 8 16,aL 18 8 3,cO 19 (binS BinOp.eql [int,int,int,int,int,int,int,int] (t 17) (t 18))]).seq (az 19 (aj [aa 20 5,aa 4 20])))).seq (ops 0 [aa 11 5,aB 12 .add 11 1,aa 5 12]))).loop)).seq (aj [cO 4 (mov (cN ((-1))))]))))
theorem Qa:Is Tryz.prog 131 Pi:=mkI Tryz.func131
def P7:F2:=(F2.mk 48 [RV.t 4] (af [cw 4] ((af [aa 9 1,aB 10 .lss 9 0] (az 10 (ops 0 [cO 11 dead,Op2.mk none none dead]))).seq (af [aa 13 0,aV 14 13,cO 15 (conv IntKind.u64 (t 14)),aa 16 1,cO 17 (conv IntKind.u64 (t 16)),aH 18 166 [t 15,t 17],aa 12 18,bG 19 12 0,bG 20 12 1,aa 5 19,aa 6 20] ((af [aa 21 5,cO 22 (cB .gtr (t 21) (c (AV.int IntKind.u64 (0)))),aa 23 22,ar 24 23 (cM 6),ar 25 23 (cB .gtr (t 24) (c (AV.int IntKind.u64 (9223372036854775807)))),cT 26 23 25] (az 26 (ops 0 [cO 27 dead,Op2.mk none none dead]))).seq (af [aa 28 6,cO 29 (conv IntKind.i64 (t 28)),cO 30 (mks 1 8 [ag] (t 29) (t 29)),aa 7 30] (af [aa 31 7,aa 32 0,cO 33 (cpy 1 (t 31) (t 32)),aa 8 33] ((block 0 ((af [aa 34 8,aa 35 7,aV 36 35,bh 37 .lss 34 36] (cS 37 skip (exit 0))).seq (block 1 (mix 9 [aa 38 8,aa 39 7,aa 40 8,cO 41 (sls 1 (t 39) (some (t 40)) none none),aa 42 7,aa 43 8,cO 44 (sls 1 (t 42) none (some (t 43)) none),cO 45 (cpy 1 (t 41) (t 44)),bh 46 .add 38 45,aa 8 46] [0,1,2,3,4,5,6,7,8,9]))).loop).seq (aj [aa 47 7,aa 4 47])))))))))
theorem PT:Is Tryz.prog 132 P7:=mkI Tryz.func132
def PZ:F2:=(F2.mk 9 [RV.t 4] (af [bM 4] (aj [aa 5 0,aa 6 1,aH 7 167 [t 5,t 6],aB 8 .geq 7 0,aa 4 8])))
theorem O1:Is Tryz.prog 133 PZ:=mkI Tryz.func133
def OL:F2:=(F2.mk 11 [RV.t 3] (af [bM 3] (aj [aa 4 0,aB 5 .lss 4 0,aa 6 5,ar 7 6 (cM 0),ar 8 6 (cD 1),ar 9 6 (cB .geq (t 7) (t 8)),cT 10 6 9,aa 3 10])))
theorem Qg:Is Tryz.prog 134 OL:=mkI Tryz.func134
def Ow:F2:=(F2.mk 20 [RV.t 4] (af [am 4 0] (af [aa 7 0,aH 8 159 [t 7],aa 5 8] (af [aa 9 1,aH 10 159 [t 9],aa 6 10] ((af [aa 11 5] (az 11 ((af [aa 12 6] (az 12 (aj [am 4 0]))).seq (aj [cO 4 (mov (cN ((-1))))])))).seq ((af [aa 13 6] (az 13 (aj [am 4 1]))).seq ((af [aa 14 0,aa 15 1,bh 16 .lss 14 15] (az 16 (aj [cO 4 (mov (cN ((-1))))]))).seq ((af [aa 17 0,aa 18 1,bh 19 .gtr 17 18] (az 19 (aj [am 4 1]))).seq (aj [am 4 0])))))))))
theorem Qk:Is Tryz.prog 135 Ow:=mkI Tryz.func135
def PJ:F2:=(F2.mk 20 [RV.t 4] (af [bM 4] ((mixS 1 [aa 5 1,aB 6 .gtr 5 0,aa 7 6,aR 8 7 (cM 0),aR 9 7 (cM 1),aR 10 7 (cB .sub (t 9) (cN 1)),aR 11 7 (ixaS 1 (t 8) (t 10)),aR 12 7 (cD 11),aR 13 7 (cM 0),aR 14 7 (cM 1),aR 15 7 (ixaS 1 (t 13) (t 14)),aR 16 7 (cD 15),aR 17 7 (call (cF 82) [t 12,t 16]),aR 18 7 (cB .geq (t 17) (cN 0)),jk 19 7 18,aa 4 19] [(0,0),(1,0),(2,0),(3,0),(4,0),(5,0),(6,0),(7,0),(8,0),(9,0),(10,0),(11,0),(12,2),(13,0),(14,0),(15,0)]).seq ret)))
theorem PO:Is Tryz.prog 136 PJ:=mkI Tryz.func136
def NT:F2:=(F2.mk 8 [RV.t 4] (af [br 3 1,bM 4] (aj [aa 5 0,cO 6 (mkfn 169 [t 3]),aH 7 168 [t 5,t 6],aa 4 7])))
theorem OT:Is Tryz.prog 137 NT:=mkI Tryz.func137
def Pc:F2:=(F2.mk 16 [RV.t 2] (af [br 1 0,am 2 0] ((af [ak 4 0 1,aL 5 6 4,aH 6 170 [t 5],aa 3 6] (af [aa 7 3,aB 8 .neq 7 0] (az 8 (aj [aa 9 3,aa 2 9])))).seq (aj [ak 10 0 1,ak 11 0 10,ah 12 11,ak 13 6 1,ah 14 13,aH 15 171 [t 12,t 14],aa 2 15]))))
theorem OD:Is Tryz.prog 138 Pc:=mkI Tryz.func138
def Pp:F2:=(F2.mk 23 [RV.t 4] (af [br 2 0,br 3 1,am 4 0] ((af [aL 5 7 2,aL 6 7 3,cO 7 (binS BinOp.eql [int,int,int,int,int,int,int] (t 5) (t 6))] (az 7 (aj [am 4 0]))).seq ((af [ak 8 0 2,aL 9 6 8,ak 10 0 3,aL 11 6 10,cO 12 (binS BinOp.neq [int,int,int,int,int,int] (t 9) (t 11))] (az 12 (aj [ak 13 0 2,aL 14 6 13,ak 15 0 3,aL 16 6 15,aH 17 172 [t 14,t 16],aa 4 17]))).seq (aj [ak 18 6 2,ah 19 18,ak 20 6 3,ah 21 20,aH 22 135 [t 19,t 21],aa 4 22])))))
theorem NR:Is Tryz.prog 139 Pp:=mkI Tryz.func139
def OJ:F2:=(F2.mk 28 [] (af [ak 7 1 1,ah 8 7,aV 9 8,am 10 0] (block 0 ((du 11 10 9 0 ((block 1 (af [aa 12 10,aW 13 1 8 10,ah 14 13,aa 3 12,aa 4 14] (af [aa 15 4,aV 16 15,am 17 0] (block 2 ((du 18 17 16 2 ((block 3 (af [aW 19 8 15 17,aL 20 8 19,cO 6 (alloc (AV.agg [ag,ag,ag,ag,ag,ag,ag,ag])),a7 8 6 20] (af [aa 21 0,aa 22 3,aL 23 8 6,cO 24 (call (t 21) [t 22,t 23]),jM 25 24] (cS 25 ret skip)))).seq (cV 26 17)))).loop)))).seq (cV 27 10)))).loop)))
theorem Pw:Is Tryz.prog 140 OJ:=mkI Tryz.func140
def QC:F2:=(F2.mk 9 [RV.t 4] (af [bM 4] (aj [aa 5 0,aa 6 1,aH 7 173 [t 5,t 6],aB 8 .geq 7 0,aa 4 8])))
theorem OY:Is Tryz.prog 141 QC:=mkI Tryz.func141
def Oe:F2:=(F2.mk 39 [RV.t 4,RV.t 5] (af [cw 4,am 5 0] ((af [aa 10 0,aH 11 64 [t 10],aa 6 11] (af [aa 12 6,aB 13 .neq 12 0] (az 13 (aj [aa 14 6,cw 4,aa 5 14])))).seq ((af [aa 15 1,aV 16 15,aa 17 0,aV 18 17,bh 19 .neq 16 18] (az 19 (aj [cw 4,am 5 15]))).seq (af [aa 20 1,aV 21 20,cO 22 (mks 1 8 [ag] (t 21) (t 21)),aa 7 22] ((af [aa 23 0,aV 24 23,am 25 0] (block 0 ((du 26 25 24 0 ((block 1 (af [aa 27 25,aW 28 1 23 25,ah 29 28,aa 8 27,aa 9 29] (ops 0 [aa 30 7,aa 31 9,aa 32 1,aa 33 8,aW 34 1 32 33,ah 35 34,aW 36 1 30 31,a7 1 36 35]))).seq (cV 37 25)))).loop)).seq (aj [aa 38 7,aa 4 38,am 5 0])))))))
theorem Nu:Is Tryz.prog 142 Oe:=mkI Tryz.func142
def Pz:F2:=(F2.mk 20 [RV.cn 4 8,RV.t 5] (af [br 3 1,cO 4 (alloc (AV.agg [ag,ag,ag,ag,ag,ag,ag,ag])),am 5 0] (af [ak 9 0 3,aL 10 7 9,aa 11 0,aH 12 152 [t 10,t 11],aa 8 12,bG 13 8 0,bG 14 8 1,cO 6 (alloc (AV.agg [ag,ag,ag,ag,ag,ag,ag])),a7 7 6 13,aa 7 14] (aj [aL 15 7 6,ak 16 7 3,ah 17 16,cO 18 (bld [ag,ag,ag,ag,ag,ag,ag,ag] [(0,7,t 15),(7,1,t 17)]),aa 19 7,a7 8 4 18,aa 5 19]))))
theorem Nl:Is Tryz.prog 144 Pz:=mkI Tryz.func144
def P6:F2:=(F2.mk 10 [RV.t 4] (af [br 2 0,br 3 1,am 4 0] (aj [ak 5 0 2,aL 6 7 5,ak 7 0 3,aL 8 7 7,aH 9 139 [t 6,t 8],aa 4 9])))
theorem Qn:Is Tryz.prog 146 P6:=mkI Tryz.func146
def OX:F2:=(F2.mk 6 [RV.t 4] (af [br 2 0,br 3 1,cO 4 (mov (c AV.nilf))] (aj [cO 5 (mkfn 183 [t 2,t 3]),aa 4 5])))
theorem NJ:Is Tryz.prog 147 OX:=mkI Tryz.func147
def Pf:F2:=(F2.mk 28 [RV.t 6] (af [br 5 2,cw 6] (af [aL 8 7 5,cO 9 (bldS 7 1 [ag,ag,ag,ag,ag,ag,ag] [(0,7,t 8)]),aa 7 9] ((block 0 ((af [aa 10 1,aB 11 .gtr 10 0] (cS 11 skip (exit 0))).seq ((block 1 (ops 0 [aa 17 7,aa 18 0,aa 19 1,aW 20 10 18 19,ak 21 3 20,aL 22 7 21,cO 23 (bldS 7 1 [ag,ag,ag,ag,ag,ag,ag] [(0,7,t 22)]),fC 24 7 56 17 23,aa 7 24])).seq (ops 0 [aa 12 0,aa 13 1,aW 14 10 12 13,ak 15 2 14,ah 16 15,aa 1 16]))).loop).seq (af [aa 25 7,aH 26 184 [t 25]] (aj [aa 27 7,aa 6 27]))))))
theorem Oz:Is Tryz.prog 148 Pf:=mkI Tryz.func148
def OA:F2:=(F2.mk 46 [RV.t 4] (af [am 4 0] ((af [am 5 0] (block 0 ((af [aa 6 5,aa 7 0,aV 8 7,bh 9 .lss 6 8,aa 10 9,aR 11 10 (cM 5),aR 12 10 (cM 1),aR 13 10 (lenS (t 12)),aR 14 10 (cB .lss (t 11) (t 13)),jk 15 10 14] (cS 15 skip (exit 0))).seq ((block 1 (((ops 1 [aa 18 0,aa 19 5,aW 20 1 18 19,ah 21 20,aa 22 1,aa 23 5,aW 24 1 22 23,ah 25 24,bh 26 .lss 21 25]).seq (az 26 (aj [cO 4 (mov (cN ((-1))))]))).seq ((ops 1 [aa 27 0,aa 28 5,aW 29 1 27 28,ah 30 29,aa 31 1,aa 32 5,aW 33 1 31 32,ah 34 33,bh 35 .gtr 30 34]).seq (az 35 (aj [am 4 1]))))).seq (ops 0 [aa 16 5,aB 17 .add 16 1,aa 5 17]))).loop)).seq ((af [aa 36 0,aV 37 36,aa 38 1,aV 39 38,bh 40 .lss 37 39] (az 40 (aj [cO 4 (mov (cN ((-1))))]))).seq ((af [aa 41 0,aV 42 41,aa 43 1,aV 44 43,bh 45 .gtr 42 44] (az 45 (aj [am 4 1]))).seq (aj [am 4 0]))))))
theorem NG:Is Tryz.prog 149 OA:=mkI Tryz.func149
def PP:F2:=(F2.mk 27 [RV.t 4] (af [bM 4] ((af [aa 6 0,aV 7 6,aa 8 1,aV 9 8,bh 10 .neq 7 9] (az 10 (aj [bM 4]))).seq ((af [am 5 0] (block 0 ((af [aa 11 5,aa 12 0,aV 13 12,bh 14 .lss 11 13] (cS 14 skip (exit 0))).seq ((block 1 ((mixS 1 [aa 17 0,aa 18 5,aW 19 1 17 18,ah 20 19,aa 21 1,aa 22 5,aW 23 1 21 22,ah 24 23,aH 25 149 [t 20,t 24],aB 26 .neq 25 0] [(0,0),(1,0),(2,0),(3,0),(4,0),(5,0),(6,0),(7,0),(8,2),(9,0)]).seq (az 26 (aj [bM 4])))).seq (ops 0 [aa 15 5,aB 16 .add 15 1,aa 5 16]))).loop)).seq (aj [kq 4])))))
theorem Pm:Is Tryz.prog 150 PP:=mkI Tryz.func150
def Pb:F2:=(F2.mk 26 [RV.t 4] (af [bM 4] ((af [aa 6 0,aV 7 6,aa 8 1,aV 9 8,bh 10 .neq 7 9] (az 10 (aj [bM 4]))).seq ((af [aa 11 0,aV 12 11,am 13 0] (block 0 ((du 14 13 12 0 ((block 1 (af [aa 15 13,aa 5 15] ((ops 1 [aa 16 0,aa 17 5,aW 18 7 16 17,aL 19 7 18,aa 20 1,aa 21 5,aW 22 7 20 21,aL 23 7 22,cO 24 (binS BinOp.neq [int,int,int,int,int,int,int] (t 19) (t 23))]).seq (az 24 (aj [bM 4]))))).seq (cV 25 13)))).loop)).seq (aj [kq 4])))))
theorem NH:Is Tryz.prog 151 Pb:=mkI Tryz.func151
def NQ:F2:=(F2.mk 41 [RV.cn 4 7,RV.t 5] (af [br 2 0,cO 4 (alloc (AV.agg [ag,ag,ag,ag,ag,ag,ag])),am 5 0] ((af [aL 10 7 2,aH 11 138 [t 10],aa 6 11] (af [aa 12 6,aB 13 .neq 12 0] (az 13 (aj [cO 14 (bld [ag,ag,ag,ag,ag,ag,ag] []),aa 15 6,a7 7 4 14,aa 5 15])))).seq (af [ak 17 0 2,aL 18 6 17,aa 19 1,aH 20 185 [t 18,t 19],aa 16 20,bG 21 16 0,bG 22 16 1,cO 7 (alloc (AV.agg [ag,ag,ag,ag,ag,ag])),a7 6 7 21,aa 8 22] ((af [aa 23 8,aB 24 .neq 23 0] (az 24 (aj [cO 25 (bld [ag,ag,ag,ag,ag,ag,ag] []),aa 26 8,a7 7 4 25,aa 5 26]))).seq (af [aa 28 1,ak 29 6 2,ah 30 29,aH 31 186 [t 28,t 30],aa 27 31,bG 32 27 0,bG 33 27 1,aa 9 32,aa 8 33] ((af [aa 34 8,aB 35 .neq 34 0] (az 35 (aj [cO 36 (bld [ag,ag,ag,ag,ag,ag,ag] []),aa 37 8,a7 7 4 36,aa 5 37]))).seq (aj [aL 38 6 7,aa 39 9,cO 40 (bld [ag,ag,ag,ag,ag,ag,ag] [(0,6,t 38),(6,1,t 39)]),a7 7 4 40,am 5 0]))))))))
theorem Oj:Is Tryz.prog 152 NQ:=mkI Tryz.func152
def OI:F2:=(F2.mk 6 [RV.t 2] (af [bM 2] (aj [aa 3 0,aa 4 0,bh 5 .neq 3 4,aa 2 5])))
theorem P8:Is Tryz.prog 159 OI:=mkI Tryz.func159
def QD:F2:=(F2.mk 30 [RV.t 6] (af [am 6 0] ((af [aa 8 0,aV 9 8,aa 10 1,bh 11 .neq 9 10] (az 11 (aj [am 6 15]))).seq ((af [am 7 0] (block 0 ((af [aa 12 7,aa 13 1,bh 14 .lss 12 13] (cS 14 skip (exit 0))).seq ((block 1 (af [aa 17 0,aa 18 7,aW 19 1 17 18,ah 20 19,aB 21 .lss 20 0,aa 22 21,ar 23 22 (cM 0),ar 24 22 (cM 7),ar 25 22 (ixaS 1 (t 23) (t 24)),ar 26 22 (cD 25),ar 27 22 (cM 2),ar 28 22 (cB .geq (t 26) (t 27)),cT 29 22 28] (az 29 (aj [am 6 2])))).seq (ops 0 [aa 15 7,aB 16 .add 15 1,aa 7 16]))).loop)).seq (aj [am 6 0])))))
theorem Pu:Is Tryz.prog 160 QD:=mkI Tryz.func160
def PR:F2:=(F2.mk 19 [RV.t 4] (af [bM 4] ((af [am 5 0] (block 0 ((af [aa 6 5,aa 7 0,aV 8 7,bh 9 .lss 6 8] (cS 9 skip (exit 0))).seq ((block 1 (af [aa 12 0,aa 13 5,aW 14 1 12 13,ah 15 14,aa 16 1,aH 17 149 [t 15,t 16],aB 18 .eql 17 0] (az 18 (aj [kq 4])))).seq (ops 0 [aa 10 5,aB 11 .add 10 1,aa 5 11]))).loop)).seq (aj [bM 4]))))
theorem Pt:Is Tryz.prog 161 PR:=mkI Tryz.func161
def Od:F2:=(F2.mk 16 [RV.t 2] (af [br 1 0,am 2 0] ((af [ak 4 0 1,aL 5 6 4,aH 6 196 [t 5],aa 3 6] (af [aa 7 3,aB 8 .neq 7 0] (az 8 (aj [aa 9 3,aa 2 9])))).seq (aj [ak 10 0 1,ak 11 0 10,ah 12 11,ak 13 6 1,ah 14 13,aH 15 197 [t 12,t 14],aa 2 15]))))
theorem P5:Is Tryz.prog 162 Od:=mkI Tryz.func162
def O4:F2:=(F2.mk 24 [RV.t 4] (af [br 2 0,br 3 1,am 4 0] ((af [ak 6 0 2,aL 7 6 6,ak 8 0 3,aL 9 6 8,aH 10 198 [t 7,t 9],aa 5 10] (af [aa 11 5,aB 12 .neq 11 0] (az 12 (aj [aa 13 5,aa 4 13])))).seq ((af [ak 14 6 2,ah 15 14,ak 16 6 3,ah 17 16,bh 18 .lss 15 17] (az 18 (aj [cO 4 (mov (cN ((-1))))]))).seq ((af [ak 19 6 2,ah 20 19,ak 21 6 3,ah 22 21,bh 23 .gtr 20 22] (az 23 (aj [am 4 1]))).seq (aj [am 4 0]))))))
theorem Om:Is Tryz.prog 163 O4:=mkI Tryz.func163
def PW:F2:=(F2.mk 19 [RV.t 4] (af [bM 4] ((af [am 5 0] (block 0 ((af [aa 6 5,aB 7 .lss 6 5] (cS 7 skip (exit 0))).seq ((block 1 (af [aa 10 0,aa 11 5,aH 12 130 [t 10,t 11],aa 13 12,aR 14 13 (cM 1),aR 15 13 (cM 5),aR 16 13 (call (cF 130) [t 14,t 15]),aR 17 13 (un UnOp.not (t 16)),jk 18 13 17] (az 18 (aj [bM 4])))).seq (ops 0 [aa 8 5,aB 9 .add 8 1,aa 5 9]))).loop)).seq (aj [kq 4]))))
theorem PF:Is Tryz.prog 164 PW:=mkI Tryz.func164
def Qx:F2:=(F2.mk 13 [RV.t 2] (af [am 2 0] (af [am 3 1] ((af [am 4 0] (block 0 ((af [aa 5 4,aa 6 0,bh 7 .lss 5 6] (cS 7 skip (exit 0))).seq ((block 1 (ops 0 [aa 10 3,aB 11 .mul 10 2,aa 3 11])).seq (ops 0 [aa 8 4,aB 9 .add 8 1,aa 4 9]))).loop)).seq (aj [aa 12 3,aa 2 12])))))
theorem NY:Is Tryz.prog 165 Qx:=mkI Tryz.func165
def Nm:F2:=(F2.mk 30 [RV.t 4,RV.t 5] (af [cO 4 (mov (c (AV.int IntKind.u64 (0)))),cO 5 (mov (c (AV.int IntKind.u64 (0))))] ((C2.cond JQ (af [aa 11 0,cO 12 (conv IntKind.u32 (t 11)),aa 13 1,cO 14 (conv IntKind.u32 (t 13)),aH 15 199 [t 12,t 14],aa 10 15,bG 16 10 0,bG 17 10 1,aa 6 16,aa 7 17] (aj [aa 18 6,cO 19 (conv IntKind.u64 (t 18)),aa 20 7,cO 21 (conv IntKind.u64 (t 20)),aa 4 19,aa 5 21])) skip).seq (af [aa 23 0,aa 24 1,aH 25 200 [t 23,t 24],aa 22 25,bG 26 22 0,bG 27 22 1,aa 8 26,aa 9 27] (aj [aa 28 8,aa 29 9,aa 4 28,aa 5 29])))))
theorem Oy:Is Tryz.prog 166 Nm:=mkI Tryz.func166
def Nv:F2:=(F2.mk 19 [RV.t 4] (af [am 4 0] ((af [aa 6 0,aV 7 6,am 8 0] (block 0 ((du 9 8 7 0 ((block 1 (af [aa 10 8,aa 5 10] (af [aa 11 1,aa 12 0,aa 13 5,aW 14 1 12 13,ah 15 14,cO 16 (call (t 11) [t 15])] (az 16 (aj [aa 17 5,aa 4 17]))))).seq (cV 18 8)))).loop)).seq (aj [cO 4 (mov (cN ((-1))))]))))
theorem OG:Is Tryz.prog 167 Nv:=mkI Tryz.func167
def Qq:F2:=(F2.mk 9 [RV.t 4] (af [bM 4] (aj [aa 5 0,aa 6 1,aH 7 201 [t 5,t 6],aB 8 .geq 7 0,aa 4 8])))
theorem NV:Is Tryz.prog 168 Qq:=mkI Tryz.func168
def Oc:F2:=(F2.mk 7 [RV.t 3] (af [bM 3] (aj [aa 4 0,ah 5 1,aH 6 94 [t 4,t 5],aa 3 6])))
theorem OC:Is Tryz.prog 169 Oc:=mkI Tryz.func169
def Pj:F2:=(F2.mk 50 [RV.t 2] (af [br 1 0,am 2 0] ((af [ak 5 0 1,ah 6 5,aB 7 .lss 6 1,aa 8 7,ar 9 8 (fa 0 (t 1)),ar 10 8 (cD 9),ar 11 8 (cB .gtr (t 10) (cN 5)),cT 12 8 11] (az 12 (aj [am 2 2]))).seq ((af [ak 13 1 1,aL 14 5 13,am 15 0] (block 0 (af [aB 16 .lss 15 5] (JG 16 0 ((block 1 (af [aa 17 15,cO 18 (ixA1 5 1 (t 14) (t 15)),aa 3 17,aa 4 18] (block 2 (af [aa 20 3,ak 21 0 1,ah 22 21,bh 23 .geq 20 22,aa 24 23,aR 25 24 (cM 4),aR 26 24 (cB .neq (t 25) (cN 0)),jk 27 24 26,aa 19 27] (cS 19 (aj [am 2 3]) (af [aa 29 3,ak 30 0 1,ah 31 30,bh 32 .geq 29 31,aa 28 32] (cS 28 skip (af [aa 34 4,aB 35 .lss 34 0,aa 36 35,ar 37 36 (cM 4),ar 38 36 (fa 0 (t 1)),ar 39 36 (cD 38),ar 40 36 (call (cF 202) [t 39]),ar 41 36 (cB .gtr (t 37) (t 40)),cT 42 36 41,aa 33 42] (cS 33 (aj [am 2 2]) (af [aa 44 4,aa 45 3,bh 46 .shr 44 45,aB 47 .and 46 1,aB 48 .eql 47 0,aa 43 48] (az 43 (aj [am 2 3])))))))))))).seq (cV 49 15)))).loop)).seq (aj [am 2 0])))))
theorem Py:Is Tryz.prog 170 Pj:=mkI Tryz.func170
def Ps:F2:=(F2.mk 19 [RV.t 4] (af [am 4 0] ((af [aa 6 0,aH 7 203 [t 6],aa 5 7] (af [aa 8 5,aB 9 .neq 8 0] (az 9 (aj [aa 10 5,aa 4 10])))).seq ((af [aa 11 1,aB 12 .lss 11 0,aa 13 12,ar 14 13 (cM 1),ar 15 13 (cM 0),ar 16 13 (cB .shr (t 14) (t 15)),ar 17 13 (cB .neq (t 16) (cN 0)),cT 18 13 17] (az 18 (aj [am 4 2]))).seq (aj [am 4 0])))))
theorem QB:Is Tryz.prog 171 Ps:=mkI Tryz.func171
def Ns:F2:=(F2.mk 36 [RV.t 4] (af [br 2 0,br 3 1,am 4 0] ((af [aL 7 6 2,aL 8 6 3,cO 9 (binS BinOp.eql [int,int,int,int,int,int] (t 7) (t 8))] (az 9 (aj [am 4 0]))).seq ((af [ak 10 0 2,ah 11 10,ak 12 0 3,ah 13 12,bh 14 .neq 11 13] (az 14 (aj [ak 15 0 2,ah 16 15,ak 17 0 3,ah 18 17,aH 19 135 [t 16,t 18],aa 4 19]))).seq ((af [am 20 0] (block 0 (af [aB 21 .lss 20 5] (JG 21 0 ((block 1 (af [aa 22 20,aa 5 22] ((mixS 1 [aa 23 5,ak 24 1 2,cO 25 (ixaA 5 1 (t 24) (t 23)),ah 26 25,aa 27 5,ak 28 1 3,cO 29 (ixaA 5 1 (t 28) (t 27)),ah 30 29,aH 31 135 [t 26,t 30],aa 6 31] [(0,0),(1,0),(2,0),(3,0),(4,0),(5,0),(6,0),(7,0),(8,2),(9,0)]).seq (af [aa 32 6,aB 33 .neq 32 0] (az 33 (aj [aa 34 6,aa 4 34])))))).seq (cV 35 20)))).loop)).seq (aj [am 4 0]))))))
theorem N5:Is Tryz.prog 172 Ns:=mkI Tryz.func172
def Nj:F2:=(F2.mk 19 [RV.t 4] (af [am 4 0] ((af [aa 6 0,aV 7 6,am 8 0] (block 0 ((du 9 8 7 0 ((block 1 (af [aa 10 8,aa 5 10] (af [aa 11 1,aa 12 0,aa 13 5,aW 14 1 12 13,ah 15 14,bh 16 .eql 11 15] (az 16 (aj [aa 17 5,aa 4 17]))))).seq (cV 18 8)))).loop)).seq (aj [cO 4 (mov (cN ((-1))))]))))
theorem QA:Is Tryz.prog 173 Nj:=mkI Tryz.func173
def Ob:F2:=(F2.mk 67 [] (block 0 ((af [ah 6 1,aV 7 6,aB 8 .gtr 7 0,aa 9 8,ar 10 9 (cD 2),ar 11 9 (lenS (t 10)),ar 12 9 (cB .gtr (t 11) (cN 0)),cT 13 9 12] (cS 13 skip (exit 0))).seq (block 1 (af [am 4 0] ((block 2 (af [ah 24 2,aV 25 24,aB 26 .eql 25 0,aa 23 26] (cS 23 (ops 0 [cO 4 (mov (cN ((-1))))]) (af [ah 28 1,aV 29 28,aB 30 .eql 29 0,aa 27 30] (cS 27 (ops 0 [am 4 1]) (mixS 1 [ah 14 1,cO 15 (ixaS 8 (t 14) (cN 0)),ak 16 0 15,aL 17 7 16,ah 18 2,cO 19 (ixaS 8 (t 18) (cN 0)),ak 20 0 19,aL 21 7 20,aH 22 139 [t 17,t 21],aa 4 22] [(0,0),(1,0),(2,0),(3,0),(4,0),(5,0),(6,0),(7,0),(8,2),(9,0)])))))).seq (af [cO 31 (bld [ag,ag] [(0,1,cN ((-1))),(1,1,cN ((-1)))]),cO 32 (bld [ag,ag,ag,ag,ag,ag,ag,ag,ag] [(7,2,t 31)]),cO 5 (alloc (AV.agg [ag,ag,ag,ag,ag,ag,ag,ag,ag])),a7 9 5 32] ((af [aa 33 4,aB 34 .leq 33 0] (az 34 (mixS 2 [ah 35 1,cO 36 (ixaS 8 (t 35) (cN 0)),ak 37 0 36,aL 38 7 37,ah 39 1,cO 40 (ixaS 8 (t 39) (cN 0)),ak 41 7 40,ah 42 41,ah 43 1,cO 44 (sls 8 (t 43) (some (cN 1)) none none),ak 45 0 5,a7 7 45 38,ak 46 7 5,cO 47 (ixaA 2 1 (t 46) (cN 0)),a7 1 47 42,a7 1 1 44] [(0,0),(1,0),(2,0),(3,0),(4,0),(5,0),(6,0),(7,0),(8,0),(9,0),(10,0),(12,0),(11,1),(13,0),(14,1),(15,2)]))).seq ((af [aa 48 4,aB 49 .geq 48 0] (az 49 (mixS 2 [ah 50 2,cO 51 (ixaS 8 (t 50) (cN 0)),ak 52 0 51,aL 53 7 52,ah 54 2,cO 55 (ixaS 8 (t 54) (cN 0)),ak 56 7 55,ah 57 56,ah 58 2,cO 59 (sls 8 (t 58) (some (cN 1)) none none),ak 60 0 5,a7 7 60 53,ak 61 7 5,cO 62 (ixaA 2 1 (t 61) (cN 1)),a7 1 62 57,a7 1 2 59] [(0,0),(1,0),(2,0),(3,0),(4,0),(5,0),(6,0),(7,0),(8,0),(9,0),(10,0),(12,0),(11,1),(13,0),(14,1),(15,2)]))).seq (af [aa 63 0,aL 64 9 5,cO 65 (call (t 63) [t 64]),jM 66 65] (cS 66 ret skip))))))))).loop))
theorem O6:Is Tryz.prog 183 Ob:=mkI Tryz.func183
def Ph:F2:=(F2.mk 28 [] (af [aa 4 0,aV 5 4,aB 6 .sub 5 1,am 2 0,aa 3 6] (block 0 ((af [aa 7 2,aa 8 3,bh 9 .lss 7 8] (cS 9 skip (exit 0))).seq ((block 1 (ops 1 [aa 14 0,aa 15 2,aa 16 0,aa 17 3,aa 18 0,aa 19 3,aW 20 7 18 19,aL 21 7 20,aa 22 0,aa 23 2,aW 24 7 22 23,aL 25 7 24,aW 26 7 14 15,a7 7 26 21,aW 27 7 16 17,a7 7 27 25])).seq (ops 0 [aa 10 2,aB 11 .add 10 1,aa 12 3,aB 13 .sub 12 1,aa 2 11,aa 3 13]))).loop)))
theorem Qj:Is Tryz.prog 184 Ph:=mkI Tryz.func184
def Pr:F2:=(F2.mk 34 [RV.cn 4 6,RV.t 5] (af [br 2 0,br 3 1,cO 4 (alloc (AV.agg [ag,ag,ag,ag,ag,ag])),am 5 0] ((af [aL 9 6 2,aH 10 170 [t 9],aa 6 10] (af [aa 11 6,aB 12 .neq 11 0] (az 12 (aj [cO 13 (bld [ag,ag,ag,ag,ag,ag] []),aa 14 6,a7 6 4 13,aa 5 14])))).seq (af [ah 16 3,aH 17 215 [t 16],aa 15 17,bG 18 15 0,bG 19 15 1,cO 7 (alloc AV.esl),a7 1 7 18,aa 8 19] ((af [aa 20 8,aB 21 .neq 20 0] (az 21 (aj [cO 22 (bld [ag,ag,ag,ag,ag,ag] []),aa 23 8,a7 6 4 22,aa 5 23]))).seq ((af [ah 24 3,aV 25 24,ak 26 0 2,ah 27 26,bh 28 .neq 25 27] (az 28 (aj [cO 29 (bld [ag,ag,ag,ag,ag,ag] []),a7 6 4 29,am 5 22]))).seq (aj [ak 30 0 2,ah 31 30,cO 32 (mkfn 217 [t 3,t 2,t 7]),aH 33 216 [t 31,t 32],a7 6 4 33,am 5 0])))))))
theorem Nr:Is Tryz.prog 185 Pr:=mkI Tryz.func185
def Pd:F2:=(F2.mk 41 [RV.t 4,RV.t 5] (af [am 4 0,am 5 0] ((af [aa 10 0,aH 11 64 [t 10],aa 6 11] (af [aa 12 6,aB 13 .neq 12 0] (az 13 (aj [aa 14 6,am 4 0,aa 5 14])))).seq ((af [aa 15 1,aB 16 .lss 15 0,aa 17 16,ar 18 17 (cM 1),ar 19 17 (cM 0),ar 20 17 (lenS (t 19)),ar 21 17 (cB .shl (cN 1) (t 20)),ar 22 17 (cB .geq (t 18) (t 21)),cT 23 17 22] (az 23 (aj [am 4 0,am 5 2]))).seq (af [am 7 0] ((af [aa 24 0,aV 25 24,am 26 0] (block 0 ((du 27 26 25 0 ((block 1 (af [aa 28 26,aW 29 1 24 26,ah 30 29,aa 8 28,aa 9 30] (ops 0 [aa 31 7,aa 32 1,aa 33 8,bh 34 .shr 32 33,aB 35 .and 34 1,aa 36 9,bh 37 .shl 35 36,bh 38 .or 31 37,aa 7 38]))).seq (cV 39 26)))).loop)).seq (aj [aa 40 7,aa 4 40,am 5 0])))))))
theorem Qu:Is Tryz.prog 186 Pd:=mkI Tryz.func186
def Nq:F2:=(F2.mk 40 [RV.t 2] (af [br 1 0,am 2 0] ((af [ak 5 0 1,ah 6 5,aB 7 .lss 6 1,aa 8 7,ar 9 8 (fa 0 (t 1)),ar 10 8 (cD 9),ar 11 8 (cB .gtr (t 10) (cN 5)),cT 12 8 11] (az 12 (aj [am 2 2]))).seq ((af [am 3 0] (block 0 ((af [aa 13 3,aB 14 .lss 13 5] (cS 14 skip (exit 0))).seq ((block 1 (af [aa 17 3,ak 18 1 1,cO 19 (ixaA 5 1 (t 18) (t 17)),ah 20 19,aa 4 20] ((af [aa 21 3,ak 22 0 1,ah 23 22,bh 24 .geq 21 23] (az 24 ((af [aa 25 4,aB 26 .neq 25 0] (az 26 (aj [am 2 3]))).seq (exit 1)))).seq ((af [aa 27 4,aB 28 .lss 27 0,aa 29 28,ar 30 29 (cM 4),ar 31 29 (fa 0 (t 1)),ar 32 29 (cD 31),ar 33 29 (call (cF 221) [t 32]),ar 34 29 (cB .gtr (t 30) (t 33)),cT 35 29 34] (az 35 (aj [am 2 2]))).seq (af [aa 36 4,aa 37 3,aH 38 130 [t 36,t 37],jM 39 38] (az 39 (aj [am 2 3]))))))).seq (ops 0 [aa 15 3,aB 16 .add 15 1,aa 3 16]))).loop)).seq (aj [am 2 0])))))
theorem QG:Is Tryz.prog 196 Nq:=mkI Tryz.func196
def NA:F2:=(F2.mk 19 [RV.t 4] (af [am 4 0] ((af [aa 6 0,aH 7 222 [t 6],aa 5 7] (af [aa 8 5,aB 9 .neq 8 0] (az 9 (aj [aa 10 5,aa 4 10])))).seq ((af [aa 11 1,aB 12 .lss 11 0,aa 13 12,ar 14 13 (cM 1),ar 15 13 (cM 0),ar 16 13 (call (cF 165) [t 15]),ar 17 13 (cB .geq (t 14) (t 16)),cT 18 13 17] (az 18 (aj [am 4 2]))).seq (aj [am 4 0])))))
theorem N1:Is Tryz.prog 197 NA:=mkI Tryz.func197
def OU:F2:=(F2.mk 38 [RV.t 4] (af [br 2 0,br 3 1,am 4 0] ((af [ak 6 0 2,ah 7 6,ak 8 0 3,ah 9 8,bh 10 .lss 7 9] (az 10 (aj [cO 4 (mov (cN ((-1))))]))).seq ((af [ak 11 0 2,ah 12 11,ak 13 0 3,ah 14 13,bh 15 .gtr 12 14] (az 15 (aj [am 4 1]))).seq ((af [am 5 0] (block 0 ((af [aa 16 5,aB 17 .lss 16 5] (cS 17 skip (exit 0))).seq ((block 1 (((ops 1 [aa 20 5,ak 21 1 2,cO 22 (ixaA 5 1 (t 21) (t 20)),ah 23 22,aa 24 5,ak 25 1 3,cO 26 (ixaA 5 1 (t 25) (t 24)),ah 27 26,bh 28 .lss 23 27]).seq (az 28 (aj [cO 4 (mov (cN ((-1))))]))).seq ((ops 1 [aa 29 5,ak 30 1 2,cO 31 (ixaA 5 1 (t 30) (t 29)),ah 32 31,aa 33 5,ak 34 1 3,cO 35 (ixaA 5 1 (t 34) (t 33)),ah 36 35,bh 37 .gtr 32 36]).seq (az 37 (aj [am 4 1]))))).seq (ops 0 [aa 18 5,aB 19 .add 18 1,aa 5 19]))).loop)).seq (aj [am 4 0]))))))
theorem Qv:Is Tryz.prog 198 OU:=mkI Tryz.func198
def NK:F2:=(F2.mk 51 [RV.t 4,RV.t 5] (af [cO 4 (mov (c (AV.int IntKind.u64 (0)))),cO 5 (mov (c (AV.int IntKind.u64 (0))))] (af [aa 14 0,cO 15 (cB .and (t 14) (c (AV.int IntKind.u64 (4294967295)))),aa 6 15] (af [aa 16 0,cO 17 (cB .shr (t 16) (c (AV.int IntKind.u64 (32)))),aa 7 17] (af [aa 18 1,cO 19 (cB .and (t 18) (c (AV.int IntKind.u64 (4294967295)))),aa 8 19] (af [aa 20 1,cO 21 (cB .shr (t 20) (c (AV.int IntKind.u64 (32)))),aa 9 21] (af [aa 22 6,aa 23 8,bh 24 .mul 22 23,aa 10 24] (af [aa 25 7,aa 26 8,bh 27 .mul 25 26,aa 28 10,cO 29 (cB .shr (t 28) (c (AV.int IntKind.u64 (32)))),bh 30 .add 27 29,aa 11 30] (af [aa 31 11,cO 32 (cB .and (t 31) (c (AV.int IntKind.u64 (4294967295)))),aa 12 32] (af [aa 33 11,cO 34 (cB .shr (t 33) (c (AV.int IntKind.u64 (32)))),aa 13 34] (af [aa 35 12,aa 36 6,aa 37 9,bh 38 .mul 36 37,bh 39 .add 35 38,aa 12 39] (af [aa 40 7,aa 41 9,bh 42 .mul 40 41,aa 43 13,bh 44 .add 42 43,aa 45 12,cO 46 (cB .shr (t 45) (c (AV.int IntKind.u64 (32)))),bh 47 .add 44 46,aa 4 47] (aj [aa 48 0,aa 49 1,bh 50 .mul 48 49,aa 5 50])))))))))))))
theorem Nw:Is Tryz.prog 200 NK:=mkI Tryz.func200
def Og:F2:=(F2.mk 19 [RV.t 4] (af [am 4 0] ((af [aa 6 0,aV 7 6,am 8 0] (block 0 ((du 9 8 7 0 ((block 1 (af [aa 10 8,aa 5 10] (af [aa 11 1,aa 12 0,aa 13 5,aW 14 1 12 13,ah 15 14,cO 16 (call (t 11) [t 15])] (az 16 (aj [aa 17 5,aa 4 17]))))).seq (cV 18 8)))).loop)).seq (aj [cO 4 (mov (cN ((-1))))]))))
theorem Pv:Is Tryz.prog 201 Og:=mkI Tryz.func201
def Ng:F2:=(F2.mk 6 [RV.t 2] (af [am 2 0] (aj [aa 3 0,cO 4 (cB .shl (cN 1) (t 3)),aB 5 .sub 4 1,aa 2 5])))
theorem PD:Is Tryz.prog 202 Ng:=mkI Tryz.func202
def QI:F2:=(F2.mk 9 [RV.t 2] (af [am 2 0] ((af [aa 3 0,aB 4 .lss 3 1,aa 5 4,ar 6 5 (cM 0),ar 7 5 (cB .gtr (t 6) (cN 5)),cT 8 5 7] (az 8 (aj [am 2 1]))).seq (aj [am 2 0]))))
theorem O7:Is Tryz.prog 203 QI:=mkI Tryz.func203
def P2:F2:=(F2.mk 29 [RV.t 2,RV.t 3] (af [cw 2,am 3 0] ((af [aa 8 0,aH 9 64 [t 8],aa 4 9] (af [aa 10 4,aB 11 .neq 10 0] (az 11 (aj [aa 12 4,cw 2,aa 3 12])))).seq (af [aa 13 0,aV 14 13,cO 15 (mks 1 8 [ag] (t 14) (t 14)),aa 5 15] ((af [aa 16 0,aV 17 16,am 18 0] (block 0 ((du 19 18 17 0 ((block 1 (af [aa 20 18,aW 21 1 16 18,ah 22 21,aa 6 20,aa 7 22] (ops 0 [aa 23 5,aa 24 7,aa 25 6,aW 26 1 23 24,a7 1 26 25]))).seq (cV 27 18)))).loop)).seq (aj [aa 28 5,aa 2 28,am 3 0]))))))
theorem QH:Is Tryz.prog 215 P2:=mkI Tryz.func215
def NC:F2:=(F2.mk 21 [RV.cn 4 6] (af [cO 4 (alloc (AV.agg [ag,ag,ag,ag,ag,ag]))] (af [aa 7 0,cO 8 (bld [ag,ag,ag,ag,ag,ag] [(0,1,t 7)]),cO 5 (alloc (AV.agg [ag,ag,ag,ag,ag,ag])),a7 6 5 8] ((af [aa 9 0,am 10 0] (block 0 ((du 11 10 9 0 ((block 1 (af [aa 12 10,aa 6 12] (ops 0 [aa 13 6,aa 14 1,aa 15 6,cO 16 (call (t 14) [t 15]),ak 17 1 5,cO 18 (ixaA 5 1 (t 17) (t 13)),a7 1 18 16]))).seq (cV 19 10)))).loop)).seq (aj [aL 20 6 5,a7 6 4 20])))))
theorem Np:Is Tryz.prog 216 NC:=mkI Tryz.func216
def Oq:F2:=(F2.mk 21 [RV.t 5] (af [am 5 0] ((mixS 1 [ah 9 1,ah 10 3,aa 11 0,aW 12 1 10 11,ah 13 12,ak 14 1 2,cO 15 (ixaA 5 1 (t 14) (t 13)),ah 16 15,aH 17 186 [t 9,t 16],aa 8 17,bG 18 8 0,bG 19 8 1,aa 6 18,aa 7 19] [(0,0),(1,0),(2,0),(3,0),(4,0),(5,0),(6,0),(7,0),(8,2),(9,0),(10,0),(11,0),(12,0),(13,0)]).seq (aj [aa 20 6,aa 5 20]))))
theorem Qy:Is Tryz.prog 217 Oq:=mkI Tryz.func217
def Qz:F2:=(F2.mk 6 [RV.t 2] (af [am 2 0] (aj [aa 3 0,aH 4 165 [t 3],aB 5 .sub 4 1,aa 2 5])))
theorem Px:Is Tryz.prog 221 Qz:=mkI Tryz.func221
def Qo:F2:=(F2.mk 9 [RV.t 2] (af [am 2 0] ((af [aa 3 0,aB 4 .lss 3 1,aa 5 4,ar 6 5 (cM 0),ar 7 5 (cB .gtr (t 6) (cN 5)),cT 8 5 7] (az 8 (aj [am 2 1]))).seq (aj [am 2 0]))))
theorem Oh:Is Tryz.prog 222 Qo:=mkI Tryz.func222
end Go.Proofs.YtbmjaojeplmhnaaGreat
namespace Go.Proofs.YtbmjaojeplmhnaaGreat
open Go Go.Abs
open Nat (reduceEqDiff reduceAdd reduceLeDiff)
abbrev Sh{α:Type}(l:List α):Prop:=l.length<=17592186044416
structure CaseV where
 inp:List Int
 out:List (List Int)
 calm:List (List Int)
 deriving Inhabited,DecidableEq
structure TaskV where
 n:Int
 ins:Int
 outs:Int
 cases:List CaseV
 deriving Inhabited,DecidableEq
def fF(c:CaseV):AV:=.agg [aq c.inp,ay c.out,ay c.calm]
def bw(l:List CaseV):AV:=.sl 3 (l.map fF)
def gF(t:TaskV):AV:=.agg [.int .i64 t.n,.int .i64 t.ins,.int .i64 t.outs,bw t.cases]
def T00:TaskV:=⟨0,0,0,[]⟩
theorem yc{H:Hp}(e:Int):Snap H (.tup [.agg [.int .i64 0,.int .i64 0,.int .i64 0,.esl],.int .i64 e]) (.tup [gF T00,.int .i64 e]):=by
 refine bE (ac (eh ?_) (ac (.int _ _) al));exact ac (.int _ _) (ac (.int _ _) (ac (.int _ _) (ac (.eslsl 3) al)))
theorem vq{H:Hp}{d:Nat}{x:AV}:ee 1 (av H d [x]) (.msl d 1 1 0 1)=some (1,[x]):=fZ (n:=1) (len:=1) (off:=0) (cs:=[x]) ae rfl (by simp)
theorem ib (l:List CaseV):Dat (bw l):=Dat.sl (fun x hx c hc=>by
 simp at hx;obtain⟨q,_,rfl⟩:=hx;simp only[fF,AV.cells,gR,List.not_mem_nil,or_false] at hc;rcases hc with rfl|rfl|rfl
 ·exact bP _
 ·exact bS _
 ·exact bS _)
theorem fV(t:TaskV):Dat (gF t):=by
 refine Dat.agg λx hx=>?_;simp only[gR,List.not_mem_nil,or_false] at hx;rcases hx with rfl|rfl|rfl|rfl
 ·exact .int
 ·exact .int
 ·exact .int
 ·exact ib _
theorem BH(t:TaskV):(gF t).cells=[.int .i64 t.n,.int .i64 t.ins,.int .i64 t.outs,bw t.cases]:=rfl
theorem aG(l:List CaseV):(bw l).one=true:=rfl
theorem aA(l:List CaseV):(bw l).cells=[bw l]:=rfl
theorem aJ(l:List CaseV):eW (bw l)=some (.int .i64 l.length):=by simp[eW,bw]
theorem bL{l:List CaseV}{k:Nat}(h:k<l.length):eo 3 (bw l) (.int .i64 k)=some (.iptr [aq (l.getD k default).inp,ay (l.getD k default).out,ay (l.getD k default).calm] 0):=by
 simp[eo,bw,h,List.getD,fF,AV.cells]
def ShC(c:CaseV):Prop:=Sh c.inp/\Sh c.out/\(∀x∈c.out,Sh x)/\Sh c.calm/\∀x∈c.calm,Sh x
def aD:List Int->List Int->Int
 |[],[]=>0
 |[],_::_=>-1
 |_::_,[]=>1
 |a::l,b::m=>if a<b then-1 else if a>b then 1 else aD l m
def bU(f:Nat->Int):Nat->Int
 |0=>0
 |n+1=>if bU f n≠0 then bU f n else f n
theorem bV{f:Nat->Int}:∀{n:Nat},(∀i,i<n->f i=0)->bU f n=0
 |0,_=>rfl
 |n+1,h=>by
  have:=bV (f:=f) (n:=n) (λi hi=>h i (by omega));rw[bU,this,if_neg (by simp)];exact h n (by omega)
theorem dD{f:Nat->Int}:∀{n k:Nat},k<n->(∀i,i<k->f i=0)->f k≠0->bU f n=f k
 |0,k,h,_,_=>absurd h (by omega)
 |n+1,k,h,h0,hk=>by
  rw[bU];by_cases e:k=n
  ·subst e;rw[bV h0,if_neg (by simp)]
  ·rw[dD (n:=n) (by omega) h0 hk,if_pos hk]
theorem dK{f:Nat->Int}:∀{n:Nat},bU f n=0->∀i,i<n->f i=0
 |0,_,i,h=>absurd h (by omega)
 |n+1,h,i,hi=>by
  rw[bU] at h;by_cases e:bU f n=0
  ·rw[e,if_neg (by simp)] at h;by_cases ei:i=n
   ·subst ei;exact h
   ·exact dK e i (by omega)
  ·rw[if_pos e] at h;exact absurd h e
def bz(v:List Int)(n most:Int):Int:=if (v.length:Int)≠n then 15 else if v.any (λx=>decide (x<0\/most<=x)) then 2 else 0
def cR(l:List (List Int))(i:Nat):Bool:=decide (0<i)&&decide (0<=aD (l.getD (i-1) default) (l.getD i default))
def ml(n outs:Int)(l:List (List Int))(k:Nat):Int:=if bz (l.getD k default) n outs≠0 then bz (l.getD k default) n outs else if cR l k then 14 else 0
def lA(out calm:List (List Int))(k:Nat):Int:=if calm.getD k default∈out then(if cR calm k then 14 else 0) else 6
def cu(n outs:Int)(c:CaseV):Int:=if c.out.length<1\/1024<c.out.length then 5 else if bU (ml n outs c.out) c.out.length≠0 then bU (ml n outs c.out) c.out.length else bU (lA c.out c.calm) c.calm.length
def iH(t:TaskV)(k:Nat):Int:=if bz (t.cases.getD k default).inp t.n t.ins≠0 then bz (t.cases.getD k default).inp t.n t.ins else if cR (t.cases.map CaseV.inp) k then 14 else cu t.n t.outs (t.cases.getD k default)
def ba(t:TaskV):Int:=if t.n<1\/5<t.n\/t.ins<1\/8<t.ins\/t.outs<1\/8<t.outs then 2 else if t.cases.length<1\/1024<t.cases.length then 5 else bU (iH t) t.cases.length
theorem eH:∀l:List Int,aD l l=0
 |[]=>rfl
 |a::l=>by rw[aD,if_neg (by omega),if_neg (by omega)];exact eH l
theorem kM:∀{l m:List Int},aD l m=0->l=m
 |[],[],_=>rfl
 |[],_::_,h=>by simp[aD] at h
 |_::_,[],h=>by simp[aD] at h
 |a::l,b::m,h=>by
  rw[aD] at h;split at h
  ·omega
  ·split at h
   ·omega
   ·rw[kM h,show a=b by omega]
theorem dL:∀l m:List Int,aD m l=- aD l m
 |[],[]=>rfl
 |[],_::_=>rfl
 |_::_,[]=>rfl
 |a::l,b::m=>by
  rw[aD,aD];by_cases h:a<b
  ·rw[if_neg (by omega),if_pos (by omega),if_pos h];rfl
  ·by_cases h2:b<a
   ·rw[if_pos h2,if_neg h,if_pos (by omega)]
   ·rw[if_neg h2,if_neg (by omega),if_neg h,if_neg (by omega)];exact dL l m
theorem nf:∀l m:List Int,aD l m=-1\/aD l m=0\/aD l m=1
 |[],[]=>.inr (.inl rfl)
 |[],_::_=>.inl rfl
 |_::_,[]=>.inr (.inr rfl)
 |a::l,b::m=>by
  rw[aD];split
  ·exact .inl rfl
  ·split
   ·exact .inr (.inr rfl)
   ·exact nf l m
theorem fG:∀{l m k:List Int},aD l m<0->aD m k<0->aD l k<0
 |[],[],k,h,_=>by simp[aD] at h
 |[],_::_,[],_,h=>by simp[aD] at h
 |[],_::_,_::_,_,_=>by simp[aD]
 |_::_,[],_,h,_=>by simp[aD] at h
 |_::_,_::_,[],_,h=>by simp[aD] at h
 |a::l,b::m,c::k,h1,h2=>by
  rw[aD] at h1 h2 |-;by_cases e1:a<b
  ·by_cases e2:b<c
   ·rw[if_pos (by omega)];decide
   ·rw[if_neg e2] at h2;by_cases e3:b>c
    ·rw[if_pos e3] at h2;omega
    ·rw[if_pos (by omega)];decide
  ·rw[if_neg e1] at h1;by_cases e4:a>b
   ·rw[if_pos e4] at h1;omega
   ·rw[if_neg e4] at h1;by_cases e2:b<c
    ·rw[if_pos (by omega)];decide
    ·rw[if_neg e2] at h2;by_cases e3:b>c
     ·rw[if_pos e3] at h2;omega
     ·rw[if_neg e3] at h2;rw[if_neg (by omega),if_neg (by omega)];exact fG h1 h2
theorem si{l m:List Int}:aD l m=0↔l=m:=⟨kM,λh=>h▸eH l⟩
theorem zr{l:List (List Int)}(h:∀i,i<l.length->cR l i=false):∀(j i:Nat),i<j->j<l.length->aD (l.getD i default) (l.getD j default)<0
 |0,i,h1,_=>absurd h1 (by omega)
 |j+1,i,h1,h2=>by
  have hj:=h (j+1) h2;unfold cR at hj;rw[bR (show 0<j+1 by omega),Bool.true_and,decide_eq_false_iff_not] at hj
  have hj':aD (l.getD j default) (l.getD (j+1) default)<0:=by
   rw[show j+1-1=j by omega] at hj;omega
  by_cases e:i=j
  ·subst e;exact hj'
  ·exact fG (zr h j i (by omega) (by omega)) hj'
section
attribute [local irreducible] aF ai bj aY aN aM ax aS a8 bm Go.Abs.Fn aX Go.Abs.Pure ap aK Yl
def GG(l:List Int)(p:Int->Bool):Int:=if l.any p then(l.findIdx p:Nat) else-1
theorem II{l:List Int}{p:Int->Bool}{k:Nat}(hk:k<l.length)(h:∀i,i<k->p (l.getD i default)=false)(hv:p (l.getD k default)=true):GG l p=k:=by
 have e:l.getD k default=l[k]:=by simp[List.getD,hk]
 have hm:l.any p=true:=qS.2 ⟨l[k],mq hk,by rw[<-e];exact hv⟩;unfold GG;rw[if_pos hm];have:l.findIdx p=k:=(List.findIdx_eq hk).2 ⟨by rw[<-e];exact hv,λj hj=>by have:=h j hj;rwa [show l.getD j default=l[j] by simp[List.getD,show j<l.length by omega]] at this⟩;rw[this]
theorem Fb{l:List Int}{p:Int->Bool}(h:∀i,i<l.length->p (l.getD i default)=false):l.any p=false:=by
 rw[List.any_eq_false];intro x hx;obtain⟨i,hi,e⟩:=fW hx;have:=h i hi;rw[show l.getD i default=l[i] by simp[List.getD,hi],e] at this;simp[this]
theorem HD(l:List Int)(p:Int->Bool)(g:Nat)(caps:List AV)(hd:∀x∈caps,Dat x)(hg:∀x∈l,pU g (.int .i64 x::caps) (.bool (p x)))(hl:Sh l):pU 167 [aq l,.func g caps] (.int .i64 (GG l p)):=by
 refine pO OG ?_;simp only[Nv,aw]
 repeat' (first|refine zW ?_|apply a_n|refine zO ?_|refine vZ ?_|fail)
 refine iq (X:=Nat) (λk=>[(0,aq l),(1,.func g caps),(6,aq l),(7,.int .i64 l.length),(8,.int .i64 k)]) (λk=>k<=l.length/\∀i,i<k->p (l.getD i default)=false) (λk=>l.length-k) 0 ⟨bo _,by simp⟩ ag0 ?_;rintro k ⟨h1,h2⟩
 repeat' (first|refine zW ?_|apply a_n|apply a_x|apply a_r|refine zO ?_|refine vZ ?_|refine cZ ?_ (hp:=by exact hg _ (ao (by omega))) (hs:=by(first|refine bK ?_ rfl|apply bC);(repeat' (first|exact al|apply fj|apply cU|exact di hd));first|done|fail)|(refine zGZ ?_ ?_<;>(intro _hg;try (exfalso;omega)))|refine au rfl ?_|refine r1Z ?_|fail)
 ·refine aC ?_;rw[II (by omega) h2 _hg]
 ·refine⟨k+1,⟨by omega,λi hi=>?_⟩,by omega,ag0,rfl,rfl⟩;rcases lL.1 hi with h|rfl
  ·exact h2 i h
  ·exact _hg
 ·refine aC ?_;unfold GG;rw[Fb λi hi=>h2 i (by omega)];rfl
theorem A2(l:List Int)(p:Int->Bool)(g:Nat)(caps:List AV)(hd:∀x∈caps,Dat x)(hg:∀x∈l,pU g (.int .i64 x::caps) (.bool (p x)))(hl:Sh l):pU 133 [aq l,.func g caps] (.bool (l.any p)):=by
 refine pO O1 ?_;simp only[PZ,aw]
 repeat' (first|refine zW ?_|apply a_n|refine zO ?_|refine vZ ?_|refine cZ ?_ (hp:=by exact HD l p g caps hd hg hl) (hs:=by(first|refine bK ?_ rfl|apply bC);(repeat' (first|exact al|apply fj|apply cU|exact Dat.func hd));first|done|fail)|refine au rfl ?_|refine r1Z ?_|fail)
 refine dE ?_;unfold GG;split<;>simp_all
theorem uI(l:List Int)(hl:Sh l):PureF Tryz.prog 44 [aq l] (aq l):=by
 refine qO N0 ?_;simp only[b44,aw]
 repeat' (first|refine zW ?_|apply a_n|refine zO ?_|refine vZ ?_|fail)
 refine pR (k:=l.length) (by((try simp only[bg,ZA,reduceEqDiff,↓reduceIte,reduceAdd,reduceLeDiff]);(try with_reducible rfl));exact mR) (λh=>?_) (λh=>?_) (λh=>?_)
 ((all_goals (try have zz:=and_self));(repeat' (first|refine zW ?_|apply a_n|apply a_r|refine zO ?_|refine vZ ?_|refine b0Z ?_|refine a0Z ?_|refine cTZ ?_|refine cFZ ?_|refine au rfl ?_|refine r1Z ?_|fail));(all_goals (try clear zz)))
 ·exact sA ae (by omega) rfl
 ·exact Ex h
 ·exact sA ae (by omega) rfl
theorem qU(l m:List Int)(hl:Sh l)(hm:Sh m):pU 94 [aq l,aq m] (.bool (decide (l=m))):=by
 refine pO Re ?_;simp only[b94,aw]
 repeat' (first|refine zW ?_|apply a_n|apply a_r|refine zO ?_|refine vZ ?_|(refine zGZ ?_ ?_<;>(intro _hg;try (exfalso;omega)))|refine au rfl ?_|refine r1Z ?_|fail)
 ·refine dE ?_
  symm;rw[decide_eq_false_iff_not];rintro rfl;omega
 refine iq (X:=Nat) (λk=>[(0,aq l),(1,aq m),(12,.int .i64 l.length),(13,.int .i64 k)]) (λk=>k<=l.length/\∀i,i<k->l.getD i default=m.getD i default) (λk=>l.length-k) 0 ⟨bo _,by simp⟩ ag0 ?_;rintro k ⟨h1,h2⟩
 repeat' (first|refine zW ?_|apply a_n|apply a_x|apply a_r|refine zO ?_|refine vZ ?_|(refine zGZ ?_ ?_<;>(intro _hg;try (exfalso;omega)))|refine au rfl ?_|refine r1Z ?_|fail)
 ·refine dE ?_
  symm;rw[decide_eq_false_iff_not];rintro rfl;exact absurd rfl ‹_›
 ·refine⟨k+1,⟨by omega,λi hi=>?_⟩,by omega,ag0,rfl,rfl⟩;rcases lL.1 hi with h|rfl
  ·exact h2 i h
  ·omega
 ·refine dE ?_
  symm;rw[vt]
  refine List.ext_getElem (by omega) (λi h3 h4=>?_);have:=h2 i (by omega);simpa[List.getD,h3,h4] using this
theorem I6(n:Int):pU 159 [.int .i64 n] (.bool false):=by
 refine pO P8 ?_;simp only[OI,aw]
 repeat' (first|refine zW ?_|apply a_n|refine zO ?_|refine vZ ?_|refine au rfl ?_|refine r1Z ?_|fail)
 exact dE (by simp)
theorem CT(a b:Int):pU 135 [.int .i64 a,.int .i64 b] (.int .i64 (if a<b then-1 else if a>b then 1 else 0)):=by
 refine pO Qk ?_;simp only[Ow,aw];have zz:=@dX;repeat' (first|refine zW ?_|apply a_n|apply a_r|refine zO ?_|refine vZ ?_|refine cZ ?_ (hp:=by exact I6 _)|refine cFZ ?_|(refine zGZ ?_ ?_<;>(intro _hg;try (exfalso;omega)))|refine au rfl ?_|refine r1Z ?_|fail)
 all_goals (refine aC ?_)
 ·rw[if_pos ‹_›]
 ·rw[if_neg ‹_›,if_pos ‹_›]
 ·rw[if_neg (by omega),if_neg (by omega)]
theorem pb(a b:List Int)(ha:Sh a)(hb:Sh b):pU 82 [aq a,aq b] (.int .i64 (aD a b)):=by
 refine pO R5 ?_;simp only[b82,aw]
 repeat' (first|refine zW ?_|apply a_n|refine zO ?_|refine vZ ?_|fail)
 refine iq (X:=Nat) (λk=>[(0,aq a),(1,aq b),(9,aq a),(10,.int .i64 a.length),(11,.int .i64 k)]) (λk=>k<=a.length/\k<=b.length/\aD a b=aD (a.drop k) (b.drop k)) (λk=>a.length-k) 0 ⟨bo _,bo _,rfl⟩ ag0 ?_;rintro k ⟨h1,h2,h3⟩
 repeat' (first|refine zW ?_|apply a_n|apply a_x|apply a_r|refine zO ?_|refine vZ ?_|refine cZ ?_ (hp:=by exact CT _ _)|(refine zGZ ?_ ?_<;>(intro _hg;try (exfalso;omega)))|refine au rfl ?_|refine r1Z ?_|fail)
 ·refine aC ?_;rw[h3,sk (show b.length<=k by omega),fv (l:=a) (by omega)];rfl
 ·refine aC ?_;rw[h3,fv (l:=a) (by omega),fv (l:=b) (by omega),aD];split
  ·rfl
  ·rename_i h;split
   ·rfl
   ·rename_i h';exact absurd (show(if a.getD k default<b.getD k default then(-1:Int) else if a.getD k default>b.getD k default then 1 else 0)=0 by rw[if_neg h,if_neg h']) ‹_›
 ·refine⟨k+1,⟨by omega,by omega,?_⟩,by omega,ag0,rfl,rfl⟩;rw[h3,fv (l:=a) (by omega),fv (l:=b) (by omega),aD];by_cases h:a.getD k default<b.getD k default
  ·rw[if_pos h] at _hg;exact absurd (by decide) _hg
  ·by_cases h':a.getD k default>b.getD k default
   ·rw[if_neg h,if_pos h'] at _hg;exact absurd (by decide) _hg
   ·rw[if_neg h,if_neg h']
 ·refine aC ?_;rw[h3,sk (show a.length<=k by omega),fv (l:=b) (by omega)];rfl
 ·refine aC ?_;rw[h3,sk (show a.length<=k by omega),sk (show b.length<=k by omega)];rfl
theorem Ew(l:List (List Int))(p:List Int->Bool)(g:Nat)(caps:List AV)(hd:∀x∈caps,Dat x)(hg:∀x∈l,pU g (aq x::caps) (.bool (p x)))(hl:Sh l):pU 201 [ay l,.func g caps] (.int .i64 (if l.any p then(l.findIdx p:Nat) else-1)):=by
 refine pO Pv ?_;simp only[Og,aw]
 repeat' (first|refine zW ?_|apply a_n|refine zO ?_|refine vZ ?_|fail)
 refine iq (X:=Nat) (λk=>[(0,ay l),(1,.func g caps),(7,.int .i64 l.length),(8,.int .i64 k)]) (λk=>k<=l.length/\∀i,i<k->p (l.getD i default)=false) (λk=>l.length-k) 0 ⟨bo _,by simp⟩ ag0 ?_;rintro k ⟨h1,h2⟩
 repeat' (first|refine zW ?_|apply a_n|apply a_x|apply a_r|refine zO ?_|refine vZ ?_|refine cZ ?_ (hp:=by exact hg _ (ao (by omega))) (hs:=by(first|refine bK ?_ rfl|apply bC);(repeat' (first|exact al|apply fj|apply cU|exact di hd));first|done|fail)|(refine zGZ ?_ ?_<;>(intro _hg;try (exfalso;omega)))|refine au rfl ?_|refine r1Z ?_|fail)
 ·refine aC ?_;have hk:k<l.length:=by omega
  have e:l.getD k default=l[k]:=by simp[List.getD,hk]
  rw[e] at _hg;have hm:l.any p=true:=qS.2 ⟨l[k],mq hk,_hg⟩;rw[if_pos hm,(List.findIdx_eq hk).2 ⟨_hg,λj hj=>by have:=h2 j hj;rwa [show l.getD j default=l[j] by simp[List.getD,show j<l.length by omega]] at this⟩]
 ·refine⟨k+1,⟨by omega,λi hi=>?_⟩,by omega,ag0,rfl,rfl⟩;rcases lL.1 hi with h|rfl
  ·exact h2 i h
  ·exact _hg
 ·refine aC ?_;rw[if_neg];rw[Bool.not_eq_true,List.any_eq_false];intro x hx;obtain⟨i,hi,e⟩:=fW hx;have:=h2 i (by omega);rw[show l.getD i default=x by simp[List.getD,hi,e]] at this;simp[this]
theorem yh(l:List (List Int))(p:List Int->Bool)(g:Nat)(caps:List AV)(hd:∀x∈caps,Dat x)(hg:∀x∈l,pU g (aq x::caps) (.bool (p x)))(hl:Sh l):pU 168 [ay l,.func g caps] (.bool (l.any p)):=by
 refine pO NV ?_;simp only[Qq,aw]
 repeat' (first|refine zW ?_|apply a_n|refine zO ?_|refine vZ ?_|refine cZ ?_ (hp:=by exact Ew l p g caps hd hg hl) (hs:=by(first|refine bK ?_ rfl|apply bC);(repeat' (first|exact al|apply fj|apply cU|exact Dat.func hd));first|done|fail)|refine au rfl ?_|refine r1Z ?_|fail)
 refine dE ?_;split<;>simp_all
end
end Go.Proofs.YtbmjaojeplmhnaaGreat
namespace Go.Proofs.YtbmjaojeplmhnaaGreat
open Go Go.Abs Go.RowKit
section
variable{H:Type}{enc:TypeId×Value->H}{W:World}
theorem oi:eA enc Tryz.prog W 3 (AV.int .i64) (λn=>(Lit.int .i64 n).wf=true):=FF Tryz.underlying3
theorem oL1:eA enc Tryz.prog W 45 aq Sh:=
 (jU Tryz.underlying45 (sz:=1) (by_:=8) (by kernel_rfl) (by kernel_rfl) jf (λ_=>rfl) oi).mono λl h=>by have:=h.2.2;show _<=_;omega
theorem oL2:eA enc Tryz.prog W 41 ay (λl=>Sh l/\∀x∈l,Sh x):=
 (jU Tryz.underlying41 (sz:=1) (by_:=24) (by kernel_rfl) (by kernel_rfl) jf (λ_=>rfl) oL1).mono λl h=>⟨by have:=h.2.2;show _<=_;omega,h.1⟩
set_option maxRecDepth 100000 in
theorem P9:eA enc Tryz.prog W 79 fF ShC:=
 (fH Tryz.underlying79 (by kernel_rfl) (bW (off:=0) (off':=1) rfl (by kernel_rfl) oL1 (bW (off:=1) (off':=2) rfl (by kernel_rfl) oL2 (bW (off:=2) (off':=3) rfl (by kernel_rfl) oL2 iQ)))).map
  (fun a=>(⟨a.1,a.2.1,a.2.2.1⟩:CaseV)) (by
   rintro⟨i,o,c,u⟩ ⟨h1,h2,h3,_⟩;exact⟨h1,h2.1,h2.2,h3.1,h3.2⟩) (λ_ _=>rfl)
theorem Lq:eA enc Tryz.prog W 22 bw (λl=>Sh l/\∀c∈l,ShC c):=
 (jU Tryz.underlying22 (sz:=3) (by_:=72) (by kernel_rfl) (by kernel_rfl) (by omega) (λ_=>rfl) P9).mono λl h=>⟨by have:=h.2.2;show _<=_;omega,h.1⟩
set_option maxRecDepth 100000 in
theorem NL:eA enc Tryz.prog W 24 gF (λt=>Sh t.cases/\∀c∈t.cases,ShC c):=
 (fH Tryz.underlying24 (by kernel_rfl) (bW (off:=0) (off':=1) rfl (by kernel_rfl) oi (bW (off:=1) (off':=2) rfl (by kernel_rfl) oi (bW (off:=2) (off':=3) rfl (by kernel_rfl) oi (bW (off:=3) (off':=4) rfl (by kernel_rfl) Lq iQ))))).map
  (fun a=>(⟨a.1,a.2.1,a.2.2.1,a.2.2.2.1⟩:TaskV)) (by
   rintro⟨n,i,o,c,u⟩ ⟨_,_,_,h,_⟩;exact h) (λ_ _=>rfl)
end
theorem ud{f:FuncId}{xs:List AV}{vs:List Value}(h:pU f xs (.bool true))(w:World)(hv:dI (E0 (tB w)) w xs vs):
    Calls Tryz.prog f vs.toArray w λe w'=>e=.returned (.bool true)/\Below w.heap.size w w':=by
 refine(h.2 (tB w) w vs (λ_ h=>h) hv).mono ?_;rintro e w' ⟨v,imm',rfl,hb,_,_,_,hr,_⟩;cases hr;exact⟨rfl,hb⟩
theorem QM:laidOutB Tryz.prog=true:=by kernel_rfl
end Go.Proofs.YtbmjaojeplmhnaaGreat
namespace Go.Proofs.YtbmjaojeplmhnaaGreat
open Go Go.Abs
open Nat (reduceEqDiff reduceAdd reduceLeDiff)
theorem i4{t:TaskV}{k:Nat}(h:k<t.cases.length):(t.cases.map CaseV.inp).getD k default=(t.cases.getD k default).inp:=by simp[List.getD,h]
theorem JK(l:List (List Int))(v:List Int):(l.any λx=>decide (x=v))=decide (v∈l):=by
 by_cases h:v∈l
 ·rw[bR h,qS];exact⟨v,h,by simp⟩
 ·rw[bJ h,List.any_eq_false];intro x hx e;rw[vt] at e;subst e;exact h hx
def Nf(t:TaskV)(v:List Int):Nat:=(t.cases.map CaseV.inp).findIdx λx=>decide (x=v)
def KW(t:TaskV)(v:List Int):Int×Int:=if ba t≠0 then(0,ba t) else if v∈t.cases.map CaseV.inp then(Nf t v,0) else(0,6)
def nC(l:List (List Int)):Bool:=decide (l.length<=30)&&l.all λv=>decide (v.length<=10)
def uP(c:CaseV):Bool:=decide (c.inp.length<=10)&&nC c.out&&nC c.calm
def wk(t:TaskV):Bool:=decide (t.cases.length<=30)&&t.cases.all uP
theorem Cl{l:List (List Int)}{v:List Int}{k:Nat}(hk:k<l.length)(h:∀i,i<k->l.getD i default≠v)(hv:l.getD k default=v):l.findIdx (λx=>decide (x=v))=k:=by
 have e:∀i(hi:i<l.length),l.getD i default=l[i]:=λi hi=>by simp[List.getD,hi]
 refine(List.findIdx_eq hk).2 ⟨by rw[vt,<-e k hk];exact hv,λj hj=>?_⟩;rw[decide_eq_false_iff_not,<-e j (by omega)];exact h j hj
theorem vj{l:List (List Int)}{v:List Int}:v∈l↔ ∃i,i<l.length/\l.getD i default=v:=by
 constructor
 ·intro h;obtain⟨i,hi,e⟩:=fW h;exact⟨i,hi,by simp[List.getD,hi,e]⟩
 ·rintro⟨i,hi,rfl⟩;exact ao hi
theorem k9{t:TaskV}(h:ba t=0):∀j i,i<j->j<t.cases.length->aD (t.cases.getD i default).inp (t.cases.getD j default).inp<0:=by
 intro j i hij hj
 have h2:bU (iH t) t.cases.length=0:=by
  unfold ba at h;split at h
  ·omega
  ·split at h
   ·omega
   ·exact h
 have:=zr (l:=t.cases.map CaseV.inp) (fun k hk=>by
  rw[bi] at hk;have h3:=dK h2 k hk;unfold iH at h3;split at h3
  ·exact absurd h3 ‹_›
  ·split at h3
   ·omega
   ·simpa using ‹¬cR (t.cases.map CaseV.inp) k=true›) j i hij (by rw[bi];exact hj)
 rwa [i4 (by omega),i4 hj] at this
section
attribute [local irreducible] aF ai bj aY aN aM ax aS a8 bm Go.Abs.Fn aX Go.Abs.Pure ap aK Yl
theorem Lp(v x:List Int)(hv:Sh v)(hx:Sh x):pU 169 [aq x,.iptr [aq v] 0] (.bool (decide (x=v))):=by
 refine pO OC ?_;simp only[Oc,aw]
 repeat' (first|refine zW ?_|apply a_n|refine zO ?_|refine vZ ?_|refine cZ ?_ (hp:=by exact qU _ _ hx hv)|refine au rfl ?_|refine r1Z ?_|fail)
 exact .bool _
theorem Qw(l:List (List Int))(v:List Int)(hl:Sh l)(hs:∀x∈l,Sh x)(hv:Sh v):pU 137 [ay l,aq v] (.bool (l.any λx=>decide (x=v))):=by
 refine pO OT ?_;simp only[NT,aw]
 repeat' (first|refine zW ?_|apply a_n|refine zO ?_|refine vZ ?_|refine bxZ ?_|fail)
 refine eJ ev0 ev0 (yh l (λx=>decide (x=v)) 169 [.iptr [aq v] 0] (DatL.cons (Dat.iptr (DatL.cons (bP _) DatL.nil)) DatL.nil) (λx hx=>Lp v x hv (hs x hx)) hl) (bK (by(repeat' (first|exact al|exact Dat.snap Dat.int|exact Dat.snap Dat.bool|exact Dat.snap Dat.str|exact Dat.snap Dat.esl|exact Dat.snap Dat.nilf|exact Dat.snap (bP _)|exact Dat.snap (bS _)|apply ac|apply iT|apply ru|(apply fU;(focus ((try simp only[bg,ZA,reduceEqDiff,↓reduceIte,reduceAdd,reduceLeDiff]);with_reducible rfl));(focus rfl))))) rfl) ?_
 repeat' (first|apply a_n|refine zO ?_|refine vZ ?_|refine au rfl ?_|refine r1Z ?_|fail)
 exact .bool _
theorem Fs(x most:Int):pU 134 [.int .i64 x,.iptr [.int .i64 most] 0] (.bool (decide (x<0\/most<=x))):=by
 refine pO Qg ?_;simp only[OL,aw]
 repeat' (first|refine zW ?_|apply a_n|refine zO ?_|refine vZ ?_|refine gTZ ?_|refine gFZ ?_|(refine zGZ ?_ ?_<;>(intro _hg;try (exfalso;omega)))|refine au rfl ?_|refine r1Z ?_|fail)
 all_goals (refine dE ?_)
 ·exact decide_eq_decide.2 (by omega)
 ·rw[bR (by omega)]
theorem sS(l:List (List Int))(i:Nat)(hi:i<l.length)(hl:Sh l)(hs:∀x∈l,Sh x):pU 136 [ay l,.int .i64 i] (.bool (decide (0<i)&&decide (0<=aD (l.getD (i-1) default) (l.getD i default)))):=by
 refine pO PO ?_;simp only[PJ,aw];by_cases h0:i=0
 ·subst h0;have zz:=(show((0:Nat):Int)=0 from rfl);repeat' (first|refine zW ?_|refine zM ?_|apply a_n|refine zO ?_|refine vZ ?_|refine gFZ ?_|(refine zGZ ?_ ?_<;>(intro _hg;try (exfalso;omega)))|refine au rfl ?_|refine r1Z ?_|fail)
  exact dE (by simp)
 ·have e:((i:Int)-1).toNat=i-1:=by omega
  have hc:=pb (l.getD (i-1) default) (l.getD i default) (hs _ (ao (by omega))) (hs _ (ao (by omega)));have zz:=@e;repeat' (first|refine zW ?_|refine zM ?_|apply a_n|refine zO ?_|refine vZ ?_|refine cZ ?_ (hp:=hc)|refine gTZ ?_|(refine zGZ ?_ ?_<;>(intro _hg;try (exfalso;omega)))|refine au rfl ?_|refine r1Z ?_|fail)
  refine dE ?_;rw[bR (show 0<i by omega),Bool.true_and]
def j3(c:CaseV)(faulty:Int):List (List Int):=if faulty=0/\0<c.calm.length then c.calm else c.out
def tx(a:Int):Int:=IntKind.wrap .i64 (BitVec.ofInt 64 a &&& BitVec.ofInt 64 1).toNat
def nS(f:Int)(p:Nat):Int:=f.fdiv (2^(min p 64))
theorem yF(tb tf:Bool)(f:Int)(p:Nat):bt .shr tb tf (.int .i64 f) (.int .i64 p)=some (.int .i64 (nS f p)):=by
 have h:¬((p:Int)<0):=by omega
 simp only[bt,ou,h,if_false,or_true,if_true];rfl
theorem yq(tb tf:Bool)(a:Int):bt .and tb tf (.int .i64 a) (.int .i64 1)=some (.int .i64 (tx a)):=rfl
theorem A1(v:List Int)(n most:Int)(hv:Sh v):pU 81 [aq v,.int .i64 n,.int .i64 most] (.int .i64 (bz v n most)):=by
 refine pO Q1 ?_;simp only[b81,aw];have hv':v.length<=17592186044416:=hv;by_cases hn:(v.length:Int)=n
 rotate_left
 ·have e:bz v n most=15:=by unfold bz;rw[if_pos hn]
  rw[e]
  repeat' (first|refine zW ?_|apply a_n|apply a_r|refine zO ?_|refine vZ ?_|refine bxZ ?_|(refine zGZ ?_ ?_<;>(intro _hg;try (exfalso;omega)))|refine au rfl ?_|refine r1Z ?_|fail)
  all_goals exact .int _ _
 have e:bz v n most=if v.any (λx=>decide (x<0\/most<=x)) then 2 else 0:=by unfold bz;rw[if_neg (λh=>h hn)]
 rw[e];have hc:=A2 v (λx=>decide (x<0\/most<=x)) 134 [.iptr [.int .i64 most] 0] (DatL.cons (Dat.iptr (DatL.cons .int DatL.nil)) DatL.nil) (λx _=>Fs x most) hv
 repeat' (first|refine zW ?_|apply a_n|refine zO ?_|refine vZ ?_|refine bxZ ?_|(refine zGZ ?_ ?_<;>(intro _hg;try (exfalso;omega)))|fail)
 refine eJ ev0 ev0 hc (bK (by(repeat' (first|exact al|exact Dat.snap Dat.int|exact Dat.snap Dat.bool|exact Dat.snap Dat.str|exact Dat.snap Dat.esl|exact Dat.snap Dat.nilf|exact Dat.snap (bP _)|exact Dat.snap (bS _)|apply ac|apply iT|apply ru|(apply fU;(focus ((try simp only[bg,ZA,reduceEqDiff,↓reduceIte,reduceAdd,reduceLeDiff]);with_reducible rfl));(focus rfl))))) rfl) ?_;cases hb:v.any (λx=>decide (x<0\/most<=x))
 ·have zz:=@dX;repeat' (first|refine zW ?_|apply a_n|refine zO ?_|refine vZ ?_|refine cFZ ?_|refine au rfl ?_|refine r1Z ?_|fail)
  all_goals exact .int _ _
 ·have zz:=@dX;repeat' (first|refine zW ?_|apply a_n|apply a_r|refine zO ?_|refine vZ ?_|refine cTZ ?_|refine au rfl ?_|refine r1Z ?_|fail)
  all_goals exact .int _ _
theorem Fe(n ins outs:Int)(cs:AV)(hcs:Dat cs/\cs.cells=[cs]/\cs.one=true)(c:CaseV)(hs:ShC c):pU 83 [.agg [.int .i64 n,.int .i64 ins,.int .i64 outs,cs],.agg [aq c.inp,ay c.out,ay c.calm]] (.int .i64 (cu n outs c)):=by
 refine pO R2 ?_;simp only[b83,aw];obtain⟨hc1,hc2,hc3⟩:=hcs;obtain⟨s1,s2,s3,s4,s5⟩:=hs;have s2':c.out.length<=17592186044416:=s2;have s4':c.calm.length<=17592186044416:=s4;by_cases h0:c.out.length<1\/1024<c.out.length
 ·have e:cu n outs c=5:=by unfold cu;rw[if_pos h0]
  rw[e];have zz:=aI @hc2 @hc3;repeat' (first|refine zW ?_|apply a_n|apply a_r|refine zO ?_|refine vZ ?_|refine bxZ ?_|refine gTZ ?_|refine gFZ ?_|refine cTZ ?_|(refine zGZ ?_ ?_<;>(intro _hg;try (exfalso;omega)))|refine au rfl ?_|refine r1Z ?_|fail)
  all_goals exact .int _ _
 have e:cu n outs c=if bU (ml n outs c.out) c.out.length≠0 then bU (ml n outs c.out) c.out.length else bU (lA c.out c.calm) c.calm.length:=by unfold cu;rw[if_neg h0]
 rw[e];have zz:=aI @hc2 @hc3;repeat' (first|refine zW ?_|apply a_n|refine zO ?_|refine vZ ?_|refine bxZ ?_|refine gTZ ?_|(refine zGZ ?_ ?_<;>(intro _hg;try (exfalso;omega)))|fail)
 refine iq (X:=Nat) (λk=>[(2,.ptr 0 4 0),(3,.ptr 1 3 0),(21,ay c.out),(22,.int .i64 c.out.length),(23,.int .i64 k)]) (λk=>k<=c.out.length/\∀i,i<k->ml n outs c.out i=0) (λk=>c.out.length-k) 0 ⟨bo _,λi h=>absurd h (by omega)⟩ (by simp (disch:=omega) only[agr,ZG,reduceEqDiff,↓reduceIte,ig,ss,reduceAdd,dt]) ?_;rintro k ⟨hk,hz⟩;by_cases hj:k<c.out.length
 ·have hm:=ao hj;have hv:=A1 (c.out.getD k default) n outs (s3 _ hm);have hu:=sS c.out k hj s2 s3;have ho:ml n outs c.out k=if bz (c.out.getD k default) n outs≠0 then bz (c.out.getD k default) n outs else if cR c.out k then 14 else 0:=rfl
  change Pure _ _ _ (.bool (cR c.out k)) at hu;generalize bz (c.out.getD k default) n outs=V at *;by_cases hV:V=0
  ·subst hV;cases hub:cR c.out k
   ·rw[hub] at hu ho;clear zz;have zz:=aI @hc2 (aI @hc3 @dX);repeat' (first|refine zW ?_|apply a_n|refine zO ?_|refine vZ ?_|refine cZ ?_ (hp:=by first|exact hv|exact hu)|refine cFZ ?_|(refine zGZ ?_ ?_<;>(intro _hg;try (exfalso;omega)))|fail)
    refine⟨k+1,⟨by omega,λi hi=>?_⟩,by omega,ag0,rfl,rfl⟩;rcases lL.1 hi with h|rfl
    ·exact hz i h
    ·exact ho
   ·rw[hub] at hu ho;clear zz;have zz:=aI @hc2 (aI @hc3 @dX);repeat' (first|refine zW ?_|apply a_n|apply a_r|refine zO ?_|refine vZ ?_|refine cZ ?_ (hp:=by first|exact hv|exact hu)|refine cTZ ?_|(refine zGZ ?_ ?_<;>(intro _hg;try (exfalso;omega)))|refine au rfl ?_|refine r1Z ?_|fail)
    refine aC ?_;rw[dD hj hz (by rw[ho];decide),if_pos (by rw[ho];decide),ho];rfl
  ·have ho':ml n outs c.out k=V:=by rw[ho,if_pos hV]
   clear zz;have zz:=aI @hc2 (aI @hc3 @dX);repeat' (first|refine zW ?_|apply a_n|apply a_r|refine zO ?_|refine vZ ?_|refine cZ ?_ (hp:=by first|exact hv|exact hu)|(refine zGZ ?_ ?_<;>(intro _hg;try (exfalso;omega)))|refine au rfl ?_|refine r1Z ?_|fail)
   refine aC ?_;rw[dD hj hz (by rw[ho'];exact hV),if_pos (by rw[ho'];exact hV),ho']
 ·have hz0:=bV (f:=ml n outs c.out) (n:=c.out.length) (λi hi=>hz i (by omega));rw[hz0,if_neg (λh=>h rfl)];clear zz;have zz:=aI @hc2 @hc3;repeat' (first|refine zW ?_|apply a_n|apply a_x|refine zO ?_|refine vZ ?_|(refine zGZ ?_ ?_<;>(intro _hg;try (exfalso;omega)))|fail)
  refine iq (X:=Nat) (λk=>[(2,.ptr 0 4 0),(3,.ptr 1 3 0),(43,ay c.calm),(44,.int .i64 c.calm.length),(45,.int .i64 k)]) (λk=>k<=c.calm.length/\∀i,i<k->lA c.out c.calm i=0) (λk=>c.calm.length-k) 0 ⟨bo _,λi h=>absurd h (by omega)⟩ ag0 ?_;rintro k ⟨hk,hz⟩;by_cases hj:k<c.calm.length
  ·have hm:=ao hj;have hv:=Qw c.out (c.calm.getD k default) s2 s3 (s5 _ hm);rw[JK] at hv;have hu:=sS c.calm k hj s4 s5;have ho:lA c.out c.calm k=if c.calm.getD k default∈c.out then(if cR c.calm k then 14 else 0) else 6:=rfl
   change Pure _ _ _ (.bool (cR c.calm k)) at hu;by_cases hh:c.calm.getD k default∈c.out
   ·rw[bR hh] at hv;rw[if_pos hh] at ho;cases hub:cR c.calm k
    ·rw[hub] at hu ho;clear zz;have zz:=aI @hc2 (aI @hc3 @dX);repeat' (first|refine zW ?_|apply a_n|refine zO ?_|refine vZ ?_|refine cZ ?_ (hp:=by first|exact hv|exact hu)|refine cFZ ?_|(refine zGZ ?_ ?_<;>(intro _hg;try (exfalso;omega)))|fail)
     refine⟨k+1,⟨by omega,λi hi=>?_⟩,by omega,ag0,rfl,rfl⟩;rcases lL.1 hi with h|rfl
     ·exact hz i h
     ·exact ho
    ·rw[hub] at hu ho;clear zz;have zz:=aI @hc2 (aI @hc3 @dX);repeat' (first|refine zW ?_|apply a_n|apply a_r|refine zO ?_|refine vZ ?_|refine cZ ?_ (hp:=by first|exact hv|exact hu)|refine cTZ ?_|refine cFZ ?_|(refine zGZ ?_ ?_<;>(intro _hg;try (exfalso;omega)))|refine au rfl ?_|refine r1Z ?_|fail)
     refine aC ?_;rw[dD hj hz (by rw[ho];decide),ho];rfl
   ·rw[bJ hh] at hv;rw[if_neg hh] at ho;clear zz;have zz:=aI @hc2 (aI @hc3 @dX);repeat' (first|refine zW ?_|apply a_n|apply a_r|refine zO ?_|refine vZ ?_|refine cZ ?_ (hp:=by first|exact hv|exact hu)|refine cTZ ?_|(refine zGZ ?_ ?_<;>(intro _hg;try (exfalso;omega)))|refine au rfl ?_|refine r1Z ?_|fail)
    refine aC ?_;rw[dD hj hz (by rw[ho];decide),ho]
  ·clear zz;have zz:=aI @hc2 @hc3;repeat' (first|refine zW ?_|apply a_n|apply a_x|refine zO ?_|refine vZ ?_|(refine zGZ ?_ ?_<;>(intro _hg;try (exfalso;omega)))|refine au rfl ?_|refine r1Z ?_|fail)
   refine aC ?_;rw[bV λi hi=>hz i (by omega)]
theorem tL(t:TaskV)(hs:∀c∈t.cases,ShC c)(hsc:Sh t.cases):pU 51 [gF t] (.int .i64 (ba t)):=by
 refine pO QR ?_;simp only[b51,aw];have hsc':t.cases.length<=17592186044416:=hsc;unfold gF;by_cases h0:t.n<1\/5<t.n\/t.ins<1\/8<t.ins\/t.outs<1\/8<t.outs
 ·have e:ba t=2:=by unfold ba;rw[if_pos h0]
  rw[e];have zz:=aI @aG (aI @aA @aJ);repeat' (first|refine zW ?_|apply a_n|apply a_r|refine zO ?_|refine vZ ?_|refine bxZ ?_|refine gTZ ?_|refine gFZ ?_|refine cTZ ?_|(refine zGZ ?_ ?_<;>(intro _hg;try (exfalso;omega)))|refine au rfl ?_|refine r1Z ?_|fail)
  all_goals exact .int _ _
 by_cases h1:t.cases.length<1\/1024<t.cases.length
 ·have e:ba t=5:=by unfold ba;rw[if_neg h0,if_pos h1]
  rw[e];have zz:=aI @aG (aI @aA @aJ);repeat' (first|refine zW ?_|apply a_n|apply a_r|refine zO ?_|refine vZ ?_|refine bxZ ?_|refine gTZ ?_|refine gFZ ?_|refine cTZ ?_|(refine zGZ ?_ ?_<;>(intro _hg;try (exfalso;omega)))|refine au rfl ?_|refine r1Z ?_|fail)
  all_goals exact .int _ _
 have e:ba t=bU (iH t) t.cases.length:=by unfold ba;rw[if_neg h0,if_neg h1]
 rw[e];have zz:=aI @aG (aI @aA @aJ);repeat' (first|refine zW ?_|apply a_n|refine zO ?_|refine vZ ?_|refine bxZ ?_|refine gTZ ?_|(refine zGZ ?_ ?_<;>(intro _hg;try (exfalso;omega)))|fail)
 refine bq (X:=Nat) (λk=>[(1,.ptr 0 4 0),(44,bw t.cases),(45,.int .i64 t.cases.length),(46,.int .i64 k)]) (λk H nx=>k<=t.cases.length/\(∀i,i<k->iH t i=0)/\1<=nx/\H 0=some [.int .i64 t.n,.int .i64 t.ins,.int .i64 t.outs,bw t.cases]) (λk=>t.cases.length-k) 0 ⟨bo _,λi h=>absurd h (by omega),bc _,rfl⟩ (by simp (disch:=omega) only[agr,ZG,reduceEqDiff,↓reduceIte,ig,ss,reduceAdd]) ?_;rintro k H nx ⟨hk,hz,hn,g0⟩;by_cases hj:k<t.cases.length
 rotate_left
 ·clear zz;have zz:=aI @g0 (aI @aG (aI @aA (aI @aJ (aI @bL @dX))));repeat' (first|refine zW ?_|apply a_n|apply a_x|refine zO ?_|refine vY ?_|(refine zGY ?_ ?_<;>(intro _hg;try (exfalso;omega)))|refine au rfl ?_|refine r1Y ?_|fail)
  refine aC ?_;rw[bV λi hi=>hz i (by omega)]
 have hm:=ao hj;have hsh:=hs _ hm;have hv:=A1 _ t.n t.ins hsh.1;have hvs:=Fe t.n t.ins t.outs (bw t.cases) ⟨ib _,rfl,rfl⟩ _ hsh;have d1:Dat (fF (t.cases.getD k default)):=Dat.agg (DatL.cons (bP _) (DatL.cons (bS _) (DatL.cons (bS _) DatL.nil)));have d2:=fV t;unfold fF at d1;unfold gF at d2;have hce:iH t k=if bz (t.cases.getD k default).inp t.n t.ins≠0 then bz (t.cases.getD k default).inp t.n t.ins else if cR (t.cases.map CaseV.inp) k then 14 else cu t.n t.outs (t.cases.getD k default):=rfl
 have fin:iH t k≠0->bU (iH t) t.cases.length=iH t k:=λh=>dD hj hz h
 have hnext:iH t k=0->∀i,i<k+1->iH t i=0:=λh i hi=>by
  rcases lL.1 hi with h'|rfl
  ·exact hz i h'
  ·exact h
 by_cases hk0:k=0
 ·subst hk0;have hu:cR (t.cases.map CaseV.inp) 0=false:=rfl;rw[hu] at hce;have hi0:eo 3 (bw t.cases) (.int .i64 0)=_:=bL (l:=t.cases) (k:=0) hj;generalize bz (t.cases.getD 0 default).inp t.n t.ins=V at *;generalize cu t.n t.outs (t.cases.getD 0 default)=W at *;by_cases hV:V=0
  ·subst hV;rw[if_neg (λh=>h rfl),if_neg (by simp)] at hce;by_cases hW:W=0
   ·subst hW;clear zz;have zz:=aI @g0 (aI @aG (aI @aA (aI @aJ (aI @bL (aI @dX (aI (show((0:Nat):Int)=0 from rfl) @hi0))))));repeat' (first|refine zW ?_|refine zM ?_|apply a_n|refine zO ?_|refine vY ?_|refine cY ?_ (hp:=by first|exact hv|exact hvs)|refine alY ?_|refine stY ?_|refine gFY ?_|refine cFY ?_|(refine zGY ?_ ?_<;>(intro _hg;try (exfalso;omega)))|fail)
    refine⟨0+1,by omega,⟨by omega,hnext hce,by omega,?_⟩,by simp (disch:=omega) only[agr,ZG,reduceEqDiff,↓reduceIte,Int.zero_add]⟩;rw[ab (by omega),ab (by omega),g0]
   ·clear zz;have zz:=aI @g0 (aI @aG (aI @aA (aI @aJ (aI @bL (aI @dX (aI (show((0:Nat):Int)=0 from rfl) @hi0))))));repeat' (first|refine zW ?_|refine zM ?_|apply a_n|apply a_r|refine zO ?_|refine vY ?_|refine cY ?_ (hp:=by first|exact hv|exact hvs)|refine alY ?_|refine stY ?_|refine gFY ?_|refine cFY ?_|(refine zGY ?_ ?_<;>(intro _hg;try (exfalso;omega)))|refine au rfl ?_|refine r1Y ?_|fail)
    refine aC ?_;rw[fin (by rw[hce];exact hW),hce]
  ·rw[if_pos hV] at hce;clear zz;have zz:=aI @g0 (aI @aG (aI @aA (aI @aJ (aI @bL (aI @dX (aI (show((0:Nat):Int)=0 from rfl) @hi0))))));repeat' (first|refine zW ?_|apply a_n|apply a_r|refine zO ?_|refine vY ?_|refine cY ?_ (hp:=by first|exact hv|exact hvs)|refine alY ?_|refine stY ?_|(refine zGY ?_ ?_<;>(intro _hg;try (exfalso;omega)))|refine au rfl ?_|refine r1Y ?_|fail)
   refine aC ?_;rw[fin (by rw[hce];exact hV),hce]
 ·have e1:(k:Int)-1=((k-1:Nat):Int):=by omega
  have ho:=pb (t.cases.getD (k-1) default).inp (t.cases.getD k default).inp (hs _ (ao (by omega))).1 hsh.1;have hi1:=bL (l:=t.cases) (k:=k-1) (by omega);rw[<-e1] at hi1
  have hu:cR (t.cases.map CaseV.inp) k=decide (0<=aD (t.cases.getD (k-1) default).inp (t.cases.getD k default).inp):=by
   unfold cR;rw[i4 hj,i4 (by omega),bR (show 0<k by omega),Bool.true_and]
  rw[hu] at hce;generalize aD (t.cases.getD (k-1) default).inp (t.cases.getD k default).inp=O at *;generalize bz (t.cases.getD k default).inp t.n t.ins=V at *;generalize cu t.n t.outs (t.cases.getD k default)=W at *;by_cases hV:V=0
  ·subst hV;rw[if_neg (λh=>h rfl)] at hce;by_cases hO:0<=O
   ·rw[bR hO,if_pos rfl] at hce;clear zz;have zz:=aI @g0 (aI @aG (aI @aA (aI @aJ (aI @bL (aI @dX @hi1)))));repeat' (first|refine zW ?_|refine zM ?_|apply a_n|apply a_r|refine zO ?_|refine vY ?_|refine cY ?_ (hp:=by first|exact hv|exact hvs|exact ho)|refine alY ?_|refine stY ?_|refine gTY ?_|(refine zGY ?_ ?_<;>(intro _hg;try (exfalso;omega)))|refine au rfl ?_|refine r1Y ?_|fail)
    refine aC ?_;rw[fin (by rw[hce];decide),hce]
   ·rw[bJ hO,if_neg (by simp)] at hce;by_cases hW:W=0
    ·subst hW;clear zz;have zz:=aI @g0 (aI @aG (aI @aA (aI @aJ (aI @bL (aI @dX @hi1)))));repeat' (first|refine zW ?_|refine zM ?_|apply a_n|refine zO ?_|refine vY ?_|refine cY ?_ (hp:=by first|exact hv|exact hvs|exact ho)|refine alY ?_|refine stY ?_|refine gTY ?_|(refine zGY ?_ ?_<;>(intro _hg;try (exfalso;omega)))|fail)
     refine⟨k+1,by omega,⟨by omega,hnext hce,by omega,?_⟩,ag0⟩;rw[ab (by omega),ab (by omega),g0]
    ·clear zz;have zz:=aI @g0 (aI @aG (aI @aA (aI @aJ (aI @bL (aI @dX @hi1)))));repeat' (first|refine zW ?_|refine zM ?_|apply a_n|apply a_r|refine zO ?_|refine vY ?_|refine cY ?_ (hp:=by first|exact hv|exact hvs|exact ho)|refine alY ?_|refine stY ?_|refine gTY ?_|(refine zGY ?_ ?_<;>(intro _hg;try (exfalso;omega)))|refine au rfl ?_|refine r1Y ?_|fail)
     refine aC ?_;rw[fin (by rw[hce];exact hW),hce]
  ·rw[if_pos hV] at hce;clear zz;have zz:=aI @g0 (aI @aG (aI @aA (aI @aJ (aI @bL (aI @dX @hi1)))));repeat' (first|refine zW ?_|apply a_n|apply a_r|refine zO ?_|refine vY ?_|refine cY ?_ (hp:=by first|exact hv|exact hvs|exact ho)|refine alY ?_|refine stY ?_|(refine zGY ?_ ?_<;>(intro _hg;try (exfalso;omega)))|refine au rfl ?_|refine r1Y ?_|fail)
   refine aC ?_;rw[fin (by rw[hce];exact hV),hce]
end
end Go.Proofs.YtbmjaojeplmhnaaGreat
