/- Contracts of functions and plain laws, for all inputs that the theorems name. -/
import Derived.Test.YtpbjhjkfobapeaaXG2
import Derived.IntWalk
import Derived.ChangeArms
import Derived.Carry
import Derived.Deep.Slices
import Derived.Lib.SmallJoins
import Derived.Test.YtpbjhjkfobapeaaProg
import Derived.KernelRfl

set_option linter.unusedSimpArgs false
set_option linter.unusedVariables false
set_option maxHeartbeats 4000000
namespace Go.Abs
open Go.RowKit
structure Op2 where
 d:Option Nat
 g:Option (Nat×Bool)
 i:Ins
inductive C2 where
 |skip
 |ops (m:Nat) (l:List Op2)
 |mix (m:Nat) (l:List Op2) (C:List Nat)
 |mixS (m:Nat) (l:List Op2) (C:List (Nat×Nat))
 |mixF (l:List Op2) (f:Nat×Nat) (C D:List (Nat×Nat))
 |anyI (l:List Op2) (B:List (List Nat))
 |seq (a b:C2)
 |cond (c:Opd) (a b:C2)
 |block (id:Nat) (b:C2)
 |loop (b:C2)
 |exit (id:Nat)
 |ret
 |rangeF (g:Opd) (ps:List Nat) (a b:C2)
inductive IC where
 |val|eff|call|sp
 deriving DecidableEq
def ic:Ins->IC
 |.alloc _|.box _|.bldS .. |.mks .. |.st .. |.app .. |.apz ..=>.eff
 |.call ..=>.call
 |.mkm .. |.mput .. |.mdel .. |.mget .. |.mlen _|.mrng _|.mnxt _|.ment _|.cpy .. |.clr .. |.snil .. |.s2b _|.b2s _|.mplc .. |.mpst .. |.slp ..=>.sp
 |_=>.val
def uo(m:Nat)(p:AV):Bool:=match p with|.ptr b _ _=>b<m|_=>true
def xX(m:Nat)(p:AV):Bool:=match p with|.ptr b _ _=>m<=b|_=>true
def dm2(dm:DM)(T:Tm)(i:Ins):Bool:=match dm with
 |.fresh m=>match i with
  |.ld1 a=>uo m (ov T a)
  |.ldn _ a=>uo m (ov T a)
  |.st _ p _=>xX m (ov T p)
  |.app ..=>false
  |.apz ..=>false
  |_=>true
 |_=>true
def bI(P:Program)(dm:DM)(i:Ins)(T:Tm)(H:Hp)(nx:Nat)(K:AV->Hp->Nat->Prop):Prop:=
 match ic i with
 |.val=>bf (dm2 dm T i) (aC (bo T H i) λr=>K r H nx)
 |.eff=>bf (dm2 dm T i) (aC (jW T H nx i) λx=>K x.1 x.2.1 x.2.2)
 |.call=>match i with
  | .call f args=>(aC (mJ (ov T f)) fun y=>match dm.isText with
   |false=>bD P y.1 (args.map (ov T)++y.2) H λr=>K r H nx
   |true=>Fn P y.1 (args.map (ov T)++y.2) H nx K)\/(dm.isText=true/\((∃b,ov T f=.yld b/\Yl P b (args.map (ov T)) H nx K)\/ ∃g fs,ov T f=.bfn g fs/\Fn P g (fs++args.map (ov T)) H nx K))
  |_=>False
 |.sp=>dm.isText=true/\isp i T H nx K
def g2(T:Tm):Option (Nat×Bool)->Option Bool
 |none=>some true
 |some (t,want)=>match T t with
  |.bool b=>some (b==want)
  |.tup []=>some false
  |_=>none
def ak(P:Program)(dm:DM):List Op2->Tm->Hp->Nat->SP->Prop
 |[],T,H,nx,K=>K T H nx
 |o::l,T,H,nx,K=>bn (g2 T o.g) (bI P dm o.i T H nx λr H nx=>ak P dm l (aD T o.d r) H nx K) (ak P dm l (aD T o.d (.tup [])) H nx K)
def ru(T:Tm):Ins->Option AV
 |.bldS sz len z parts=>pB (jW T bi 0 (.bldS sz len z parts))
 |_=>none
def lkS(mk:MK)(z:AV)(ok:Bool)(mv kv:AV)(S:Hp):Option AV:=match mv with
 |.mp b=>match S b with
  |some [.omap ks vs]=>if lf mk kv=true then(match dE mk kv ks with|some r=>some (mget z ok r vs)|none=>none) else none
  |some [.bmap ks vs _ _]=>if lf mk kv=true then(match dE mk kv ks with|some r=>some (mget z ok r vs)|none=>none) else none
  |_=>none
 |_=>none
def ilk(T:Tm)(S:Hp):Ins->Option AV
 |.mget mk z ok m key=>lkS mk z ok (ov T m) (ov T key) S
 |_=>none
def aU(P:Program)(S:Hp):List (Op2×Nat)->Tm->Hp->Nat->SP->Prop
 |[],T,H,nx,K=>K T H nx
 |(o,0)::l,T,H,nx,K=>bn (g2 T o.g) (aC (bo T S o.i) λr=>aU P S l (aD T o.d r) H nx K) (aU P S l (aD T o.d (.tup [])) H nx K)
 |(o,k+1)::l,T,H,nx,K=>bn (g2 T o.g) (if k=2 then aC (ru T o.i) λr=>aU P S l (aD T o.d r) H nx K else if k=3 then aC (ilk T S o.i) λr=>aU P S l (aD T o.d r) H nx K else bI P .text o.i T H nx λr H' nx'=>(k=0->Sub S H')/\aU P S l (aD T o.d r) H' nx' K) (aU P S l (aD T o.d (.tup [])) H nx K)
def l5(P:Program)(S:Hp)(f:Op2×Nat)(l2:List (Op2×Nat)):List (Op2×Nat)->Tm->Hp->Nat->SP->Prop
 |[],T,H,nx,K=>aU P S (f::l2) T H nx K
 |x::l,T,H,nx,K=>(x.2=1\/x.2=2->aU P S (f::x::(l++l2)) T H nx K)/\aU P S [x] T H nx λT H nx=>l5 P S f l2 l T H nx K
def aJ(P:Program):C2->Tm->Hp->Nat->CP->Prop
 |.skip,T,H,nx,K=>K .normal T H nx
 |.ops m l,T₀,H₀,nx₀,K=>∃T H nx Hf,Gh T₀ H₀ nx₀ T H nx Hf/\ak P (match m with|0=>.text|1=>.draw|_=>.fresh nx) l T H nx (K .normal)
 |.mix m l C,T₀,H₀,nx₀,K=>(m≠9/\∃T H nx Hf,Gh T₀ H₀ nx₀ T H nx Hf/\ak P (match m with|1=>.draw|_=>.fresh nx) l T H nx (K .normal))\/
     ∃T H nx Hf,Gh T₀ H₀ nx₀ T H nx Hf/\ak P .text (C.map λk=>l.getD k ⟨none,none,.dead⟩) T H nx (K .normal)
 |.mixS m l C,T₀,H₀,nx₀,K=>(m≠9/\∃T H nx Hf,Gh T₀ H₀ nx₀ T H nx Hf/\ak P (match m with|1=>.draw|_=>.fresh nx) l T H nx (K .normal))\/
     ∃T H nx Hf S,Gh T₀ H₀ nx₀ T H nx Hf/\Sub S H/\aU P S (C.map λk=>(l.getD k.1 ⟨none,none,.dead⟩,k.2)) T H nx (K .normal)
 |.mixF l f C D,T₀,H₀,nx₀,K=>∃T H nx Hf S,Gh T₀ H₀ nx₀ T H nx Hf/\Sub S H/\l5 P S (l.getD f.1 ⟨none,none,.dead⟩,f.2) (D.map λk=>(l.getD k.1 ⟨none,none,.dead⟩,k.2)) (C.map λk=>(l.getD k.1 ⟨none,none,.dead⟩,k.2)) T H nx (K .normal)
 |.anyI l B,T₀,H₀,nx₀,K=>∃T H nx Hf,∃I:(Nat->Bool)->Tm->Hp->Nat->Prop,Gh T₀ H₀ nx₀ T H nx Hf/\I (λ_=>false) T H nx/\
     (∀(i:Nat)(L:Nat->Bool)(T:Tm)(H:Hp)(nx:Nat),i<l.length->L i=false->(∀k∈B.getD i [],L k=true)->I L T H nx->ak P .text [l.getD i ⟨none,none,.dead⟩] T H nx (I λk=>L k || decide (k=i)))/\
     ∀(L:Nat->Bool)(T:Tm)(H:Hp)(nx:Nat),(∀k,k<l.length->L k=true)->I L T H nx->K .normal T H nx
 |.seq x y,T,H,nx,K=>aJ P x T H nx λe T H nx=>bl e (aJ P y T H nx K) (K e T H nx)
 |.cond c x y,T,H,nx,K=>bF (ov T c) (aJ P x T H nx K) (aJ P y T H nx K)
 |.block id b,T,H,nx,K=>aJ P b T H nx λe T H nx=>K (nN id e) T H nx
 |.loop b,T,H,nx,K=>bA (aJ P b) T H nx K
 |.exit id,T,H,nx,K=>K (.exit id) T H nx
 |.ret,T,H,nx,K=>K .ret T H nx
 |.rangeF g ps a b,T,H,nx,K=>∃f caps,ov T g=.func f caps/\∀(c0:AV)(cj:AEx->AV),
     (∀ (args:List AV) (H':Hp) (nx':Nat) (K':AV→Hp→Nat→Prop),H' nx=some [c0]→args.length=ps.length →
      aJ P a (ky T ps args) H' nx' (λe T2 H2 nx2=>bl e (H2 nx=some [c0]/\aJ P b T2 (e8 H2 nx) nx2 λe T3 H3 nx3=>bl e (K' (.bool true) (ah H3 nx [c0]) nx3) (K' (.bool false) (ah H3 nx [cj e]) nx3)) False)->
      Yl P nx args H' nx' K')->
     Fn P f (.yld nx::caps) (ah H nx [c0]) (nx+1) λ_ H' nx'=>(H' nx=some [c0]/\K .normal T (e8 H' nx) nx')\/ ∃e,e≠.normal/\H' nx=some [cj e]/\K e T (e8 H' nx) nx'
def rA:Op->Option IC
 |.call {callee:=.value _,..}=>some .call
 |op=>match opk op with
  |.pure|.touch=>some .val
  |.alloc|.write=>some .eff
  |.other=>none
def fM(P:Program)(op:Op):Option Ins:=match rA op with
 |some .call=>match kC op with
  |some (f,args)=>some (.call (.of f) (args.toList.map .of))
  |none=>none
 |some .val=>match gZ P op with
  |some i=>if ic i=.val then some i else none
  |none=>none
 |some .eff=>match kN P op with
  |some i=>if ic i=.eff then some i else none
  |none=>none
 |_=>none
def eI(P:Program)(op:Op):Ins:=match fM P op with
 |some i=>i
 |none=>match qx P op with
  |some i=>if ic i=.sp then i else .dead
  |none=>.dead
def zC(dsts:List (Option Nat)):Option (Nat×Bool)->Option (Option (Nat×Bool))
 |none=>some none
 |some (j,want)=>match dsts[j]? with
  |some (some d)=>some (some (d,want))
  |_=>none
def uC(P:Program)(N:Nat)(dsts:List (Option Nat))(o:Oper):Option Op2:=
 if dok N o.dst then (match zC dsts o.guard with
  |some g=>some ⟨o.dst,g,eI P o.op⟩
  |none=>none) else none
def i0(P:Program)(N:Nat)(dsts:List (Option Nat)):List Oper->Option (List Op2)
 |[]=>some []
 |o::l=>match uC P N dsts o,i0 P N dsts l with
  |some o,some l=>some (o::l)
  |_,_=>none
def vpP(P:Program)(op:Op):Bool:=zh op || (opk op==.pure&&(fM P op).isSome)
theorem l7 (P:Program):VP (vpP P):=⟨fun op h=>by
 unfold vpP at h;rw[jT,cE] at h;rcases h with h|h
 ·exact wK h
 ·simpa using h.1,λop h=>by unfold vpP;rw[h];rfl⟩
def sS(P:Program)(ops:List Oper):Bool:=ops.any λo=>opk o.op==.other || (opk o.op==.pure&& !vpP P o.op)
def Cs(P:Program)(ops:List Oper):List Nat:=
 let m:=Region.before ops.toArray
 let r:=List.range ops.length
 let sp:=r.filter λi=>!vpP P (ops.getD i default).op
 let C:=sp.foldl (λacc s=>acc++(r.filter λi=>vpP P (ops.getD i default).op&& !acc.contains i&& !sp.any λq=>cH m i q&& !acc.contains q)++[s]) []
 C++r.filter λi=>!C.contains i
def Cp(P:Program)(N:Nat)(ops:List Oper):Bool:=
 (sS P ops || ops.any λo=>rA o.op==some .call)&&tP (vpP P) N ops (Cs P ops)
def svP(P:Program)(op:Op):Bool:=sv (vpP P) op
def lvP(P:Program)(op:Op)(T:Tm)(S:Hp):Option AV:=match op with
 |.lookup t m k ok=>match gV P t with
  |some (kt,et)=>match mkk P kt,eO P et with
   |some mk,some z=>lkS mk z ok (ev T m) (ev T k) S
   |_,_=>none
  |none=>none
 |_=>none
def bpF(P:Program)(b:Op->Bool)(l:Bool):BP where
 b:=b
 l:=l
 lv:=lvP P
 cg:=λ{op T T' S} h=>by
  cases op<;>first|rfl|skip
  rename_i t m k ok;unfold lvP;simp only;rw[h m (by simp[Op.operands]),h k (by simp[Op.operands])]
theorem oa{P:Program}{b:Op->Bool}{l:Bool}:o7 P (bpF P b l):=λ_{op T S H nx K r} hl hr hs hk=>by
 cases op<;>first|(cases hl;done)|skip
 rename_i t m k ok;have hr:lvP P (.lookup t m k ok) T S=some r:=hr;unfold lvP at hr;simp only at hr;split at hr
 ·rename_i kt et ht;split at hr
  ·rename_i mk z hmk hz;unfold lkS at hr;split at hr
   ·rename_i bx hm;split at hr
    ·rename_i ks vs hb;split at hr
     ·rename_i hf;split at hr
      ·rename_i q hq;cases hr;exact mz ht hmk hz hm (hs _ _ hb) hf hq hk
      ·cases hr
     ·cases hr
    ·rename_i ks vs bs ck hb;split at hr
     ·rename_i hf;split at hr
      ·rename_i q hq;cases hr;exact lW ht hmk hz hm (hs _ _ hb) hf hq hk
      ·cases hr
     ·cases hr
    ·cases hr
   ·cases hr
  ·cases hr
 ·cases hr
def Bj(P:Program)(ops:List Oper):List Nat:=
 let m:=Region.before ops.toArray
 let r:=List.range ops.length
 let sp:=r.filter λi=>!svP P (ops.getD i default).op
 let C:=sp.foldl (λacc s=>acc++(r.filter λi=>svP P (ops.getD i default).op&& !acc.contains i&& !sp.any λq=>cH m i q&& !acc.contains q)++[s]) []
 C++r.filter λi=>!C.contains i
def Bl(P:Program)(N:Nat)(ops:List Oper):Bool:=
 (sS P ops || (ops.any λo=>rA o.op==some .call) || !drawOk false ops)&&(ops.all λo=>!fK o.op || (fM P o.op).isSome)&&nr (vpP P) (bpF P (λ_=>false) false) N ops (Bj P ops)
def bP(P:Program)(bp:BP)(ops:List Oper)(k:Nat):Nat:=if (bp.b (ops.getD k default).op&&fE (ops.getD k default).op)=true then 3 else if (bp.l&&pd (ops.getD k default).op)=true then 4 else if svP P (ops.getD k default).op=true then 0 else if eR bp ops k=true then 1 else 2
def rL(P:Program)(bp:BP)(ops:List Oper):List Nat:=
 let m:=Region.before ops.toArray
 let r:=List.range ops.length
 let v:=λi=>svP P (ops.getD i default).op || (bp.b (ops.getD i default).op&&fE (ops.getD i default).op) || (bp.l&&pd (ops.getD i default).op)
 let sp:=r.filter λi=>!v i
 let C:=sp.foldl (λacc s=>acc++(r.filter λi=>v i&& !acc.contains i&& !sp.any λq=>cH m i q&& !acc.contains q)++[s]) []
 C++r.filter λi=>!C.contains i
def r7(P:Program)(bp:BP)(N:Nat)(ops:List Oper):Bool:=
 (ops.all λo=>!(fK o.op || (bp.b o.op&&fE o.op)) || (fM P o.op).isSome)&&nr (vpP P) bp N ops (rL P bp ops)
def bpA(P:Program)(op:Op):Bool:=match fM P op with
 |some (.bldS 1 _ _ _)=>true
 |_=>false
def Ba(P:Program)(N:Nat)(ops:List Oper):Bool:=
 (ops.any λo=>bpA P o.op)&&(ops.any λo=>fE o.op&& !bpA P o.op)&&r7 P (bpF P (bpA P) false) N ops
def Bm(P:Program)(N:Nat)(ops:List Oper):Bool:=
 (ops.any λo=>pd o.op)&&(drawOk false ops || drawOk true ops)&&r7 P (bpF P (λ_=>false) true) N ops
def Br:Op->Bool
 |.alloc _=>true
 |_=>false
def yL(P:Program)(bp:BP)(ops:List Oper)(f:Nat):List Nat:=
 let m:=Region.before ops.toArray
 let r:=(List.range ops.length).filter λi=>i !=f&& !cH m i f
 let v:=λi=>svP P (ops.getD i default).op || (bp.b (ops.getD i default).op&&fE (ops.getD i default).op)
 let sp:=r.filter λi=>!v i
 let C:=sp.foldl (λacc s=>acc++(r.filter λi=>v i&& !acc.contains i&& !sp.any λq=>cH m i q&& !acc.contains q)++[s]) []
 C++r.filter λi=>!C.contains i
def yO(ops:List Oper)(f:Nat):List Nat:=(List.range ops.length).filter λi=>cH (Region.before ops.toArray) i f
def yK(P:Program)(bp:BP)(N:Nat)(ops:List Oper)(f:Nat):Bool:=
 Br (ops.getD f default).op&&(ops.all λo=>!(fK o.op || (bp.b o.op&&fE o.op)) || (fM P o.op).isSome)&&qF (vpP P) bp N ops f (yL P bp ops f) (yO ops f)
def Ec(o:Op2):Bool:=match o with
 |⟨_,_,.call (.t _) _⟩=>true
 |_=>false
def BQ(ops:List Oper):List (List Nat):=(List.range ops.length).map λi=>(List.range ops.length).filter λk=>cH (Region.before ops.toArray) i k
def Cy(ops:List Oper):Bool:=rQ ops&&(List.range ops.length).any λi=>(List.range ops.length).any λj=>decide (i<j)&&Br (ops.getD i default).op&&Br (ops.getD j default).op&& !cH (Region.before ops.toArray) j i
def Cv(o:Op2):Bool:=match o with
 |⟨_,_,.app ..⟩=>true
 |_=>false
def lI(P:Program)(N:Nat):Code->Option C2
 |.skip=>some .skip
 |.label _=>some .skip
 |.region _ ops draw=>match i0 P N (ops.toList.map (·.dst)) ops.toList with
  |some l=>if draw=true then(if Ba P N ops.toList=true then some (.mixS 9 l ((rL P (bpF P (bpA P) false) ops.toList).map λk=>(k,bP P (bpF P (bpA P) false) ops.toList k))) else if Cp P N ops.toList=true then some (.mix (if sS P ops.toList=true then 9 else if drawOk false ops.toList=true then 1 else if drawOk true ops.toList=true then 2 else 9) l (Cs P ops.toList)) else if Bl P N ops.toList=true then some (.mixS (if sS P ops.toList=true then 9 else if drawOk false ops.toList=true then 1 else if drawOk true ops.toList=true then 2 else 9) l ((Bj P ops.toList).map λk=>(k,bP P (bpF P (λ_=>false) false) ops.toList k))) else if Bm P N ops.toList=true then some (.mixS 9 l ((rL P (bpF P (λ_=>false) true) ops.toList).map λk=>(k,bP P (bpF P (λ_=>false) true) ops.toList k))) else if (l.any Ec&&Cy ops.toList)=true then some (.anyI l (BQ ops.toList)) else if drawOk false ops.toList=true then some (.ops 1 l) else if (l.any Cv&&r7 P (bpF P (λ_=>true) false) N ops.toList)=true then some (.mixS 9 l ((rL P (bpF P (λ_=>true) false) ops.toList).map λk=>(k,bP P (bpF P (λ_=>true) false) ops.toList k))) else if drawOk true ops.toList=true then some (.ops 2 l) else if r7 P (bpF P (λ_=>true) false) N ops.toList=true then some (.mixS 9 l ((rL P (bpF P (λ_=>true) false) ops.toList).map λk=>(k,bP P (bpF P (λ_=>true) false) ops.toList k))) else match (List.range ops.toList.length).find? (yK P (bpF P (λ_=>true) false) N ops.toList) with|some f=>some (.mixF l (f,bP P (bpF P (λ_=>true) false) ops.toList f) ((yL P (bpF P (λ_=>true) false) ops.toList f).map λk=>(k,bP P (bpF P (λ_=>true) false) ops.toList k)) ((yO ops.toList f).map λk=>(k,bP P (bpF P (λ_=>true) false) ops.toList k)))|none=>none) else some (.ops 0 l)
  |none=>none
 |.seq a b=>match lI P N a,lI P N b with
  |some a,some b=>some (.seq a b)
  |_,_=>none
 |.cond c a b=>match lI P N a,lI P N b with
  |some a,some b=>some (.cond (.of c) a b)
  |_,_=>none
 |.block id b=>match lI P N b with
  |some b=>some (.block id b)
  |none=>none
 |.loop b=>match lI P N b with
  |some b=>some (.loop b)
  |none=>none
 |.exit id=>some (.exit id)
 |.ret=>some .ret
 | .rangeFunc g ps a b=>if ps.toList.all (fun t=>decide (t < N))=true then (match lI P N a,lI P N b with
  |some a,some b=>some (.rangeF (.of g) ps.toList a b)
  |_,_=>none) else none
 |_=>none
theorem l6{α:Type}{x:Option α}{A B:α->Prop}(hab:∀a,A a->B a)(h:aC x A):aC x B:=by
 cases x with
 |none=>exact h
 |some a=>exact hab a h
theorem y7{P:Program}{dm:DM}{op:Op}{i:Ins}{T:Tm}(hc:(gZ P op=some i/\opk op≠.write)\/kN P op=some i)(h:dm2 dm T i=true):pP dm T op=true:=by
 cases dm with
 |text=>rfl
 |draw=>rfl
 |fresh m=>
  rcases hc with⟨hc,hk⟩|hc
  ·cases op with
   |load t a=>
    simp only[gZ] at hc;split at hc
    ·split at hc
     ·split at hc
      ·cases hc;simp only[dm2,uo,bt] at h;simp only[pP,oW];exact h
      ·cases hc
     ·cases hc;simp only[dm2,uo,bt] at h;simp only[pP,oW];exact h
    ·cases hc
   |store t p x=>exact absurd rfl hk
   |_=>simpa[pP,oW] using hk
  ·cases op with
   |store t p x=>
    simp only[kN] at hc;split at hc
    ·cases hc;simp only[dm2,xX,bt] at h;simp only[pP,oW];exact h
    ·cases hc
   |alloc e=>rfl
   |box e x=>rfl
   |buildSlice t len parts=>rfl
   |makeSlice t l c=>rfl
   |call c=>
    obtain⟨callee,args,argTypes⟩:=c;cases callee with
    |builtin b=>
     obtain⟨args⟩:=args;obtain⟨argTypes⟩:=argTypes;cases b with
     |append=>
      rcases args with _|⟨x,_|⟨y,_|⟨z,l⟩⟩⟩
      ·cases hc
      ·cases hc
      ·rcases argTypes with _|⟨t,_|⟨u,_|⟨v,l⟩⟩⟩
       ·cases hc
       ·cases hc
       ·simp only[kN] at hc;split at hc
        ·cases hc
        ·split at hc
         ·cases hc;cases h
         ·split at hc
          ·split at hc
           ·split at hc
            ·cases hc;cases h
            ·cases hc
           ·cases hc
          ·cases hc
       ·cases hc
      ·cases hc
     |_=>cases hc
    |_=>cases hc
   |_=>cases hc
theorem Az{P:Program}{dm:DM}{op:Op}{i:Ins}{T:Tm}{H:Hp}{nx:Nat}{K:AV->Hp->Nat->Prop}(hc:fM P op=some i)(h:bI P dm i T H nx K):o8 P dm op T H nx K:=by
 unfold o8;unfold fM at hc;split at hc
 ·rename_i hk;split at hc
  ·rename_i f args hf;cases hc
   have h:(aC (mJ (ov T (.of f))) fun y=>match (generalizing:=false) dm.isText with
    |false=>bD P y.1 ((args.toList.map Opd.of).map (ov T)++y.2) H λr=>K r H nx
    |true=>Fn P y.1 ((args.toList.map Opd.of).map (ov T)++y.2) H nx K)\/(dm.isText=true/\((∃b,ov T (.of f)=.yld b/\Yl P b ((args.toList.map Opd.of).map (ov T)) H nx K)\/ ∃g fs,ov T (.of f)=.bfn g fs/\Fn P g (fs++(args.toList.map Opd.of).map (ov T)) H nx K)):=h
   rw[bt,jk] at h;obtain⟨ts,rfl⟩:=ln hf;rcases h with h|⟨h1,⟨b,h2,h3⟩|⟨g,fs,h2,h3⟩⟩
   ·exact .inl h
   ·exact .inr ⟨h1,ud h2 h3⟩
   ·exact .inr ⟨h1,tV h2 h3⟩
  ·cases hc
 ·rename_i hk;split at hc
  ·rename_i j hj;split at hc
   ·rename_i hic;cases hc
    have hoc:opc op=.val/\opk op≠.write:=by
     unfold rA at hk;split at hk
     ·cases hk
     ·rename_i hn;unfold opc;split
      ·rename_i a b c;exact absurd rfl (hn _ _ _)
      ·split at hk<;>rename_i hkk<;>(try rw[hkk])<;>first|(cases hk;done)|(exact⟨rfl,by decide⟩)
    unfold bI at h;rw[hic] at h;simp only at h;left;unfold jl;rw[hoc.1];simp only;refine⟨y7 (.inl ⟨hj,hoc.2⟩) h.1,?_⟩;have h:=h.2;cases hv:bo T H i with
    |none=>rw[hv] at h;exact h.elim
    |some r=>rw[sN hj hv];rw[hv] at h;exact h
   ·cases hc
  ·cases hc
 ·rename_i hk;split at hc
  ·rename_i j hj;split at hc
   ·rename_i hic;cases hc
    have hoc:opc op=.eff:=by
     unfold rA at hk;split at hk
     ·cases hk
     ·rename_i hn;unfold opc;split
      ·rename_i a b c;exact absurd rfl (hn _ _ _)
      ·split at hk<;>rename_i hkk<;>(try rw[hkk])<;>cases hk
    unfold bI at h;rw[hic] at h;simp only at h;left;unfold jl;rw[hoc];simp only;refine⟨y7 (.inr hj) h.1,?_⟩;have h:=h.2;cases hv:jW T H nx i with
    |none=>rw[hv] at h;exact h.elim
    |some r=>rw[xf hj hv];rw[hv] at h;exact h
   ·cases hc
  ·cases hc
 ·cases hc
theorem pK{P:Program}{dm:DM}{op:Op}{T:Tm}{H:Hp}{nx:Nat}{K:AV->Hp->Nat->Prop}(h:bI P dm (eI P op) T H nx K):o8 P dm op T H nx K:=by
 unfold eI at h;split at h
 ·rename_i i hi;exact Az hi h
 ·split at h
  ·rename_i i hi;split at h
   ·rename_i hic;unfold bI at h;rw[hic] at h;exact .inr ⟨h.1,BE hi h.2⟩
   ·exact h.2.elim
  ·exact h.2.elim
theorem yM{dsts:List (Option Nat)}{T:Tm}{g:Option (Nat×Bool)}{g':Option (Nat×Bool)}(h:zC dsts g=some g'):gval T dsts g=g2 T g':=by
 unfold zC at h;split at h
 ·cases h;rfl
 ·split at h
  ·rename_i d hd;cases h;simp only[gval,hd,g2];generalize T d=v;cases v<;>try rfl
  ·cases h
theorem fQ{P:Program}{N:Nat}{dm:DM}{dsts:List (Option Nat)}{K:SP}:∀(l:List Oper)(l2:List Op2){T:Tm}{H:Hp}{nx:Nat},i0 P N dsts l=some l2->ak P dm l2 T H nx K->nA P N dm dsts l T H nx K
 |[],l2,T,H,nx,hc,h=>by cases hc;exact h
 |o::l,l2,T,H,nx,hc,h=>by
  simp only[i0] at hc;split at hc
  ·rename_i o2 r2 ho hr;cases hc;unfold uC at ho;split at ho
   ·rename_i hd;split at ho
    ·rename_i g hg;cases ho;refine⟨hd,?_⟩;rw[yM hg];have h:bn (g2 T g) (bI P dm (eI P o.op) T H nx λr H nx=>ak P dm r2 (aD T o.dst r) H nx K) (ak P dm r2 (aD T o.dst (.tup [])) H nx K):=h;cases hgv:g2 T g with
     |none=>rw[hgv] at h;exact h.elim
     |some b=>
      rw[hgv] at h;cases b with
      |true=>
       have h:bI P dm (eI P o.op) T H nx λr H nx=>ak P dm r2 (aD T o.dst r) H nx K:=h;exact iq (pK h) (λr H nx hh=>fQ l r2 hr hh)
      |false=>exact fQ l r2 hr h
    ·cases ho
   ·cases ho
  ·cases hc
theorem ze{P:Program}{op:Op}{T:Tm}{H:Hp}{nx:Nat}{K:AV->Hp->Nat->Prop}(h:bI P .text (eI P op) T H nx K):gY (vpP P) P op T H nx K:=by
 unfold gY;split
 ·rename_i hk0;have hk:=(l7 P).pure _ hk0
  have hsome:(fM P op).isSome=true:=by
   unfold vpP at hk0;rw[jT,cE] at hk0;rcases hk0 with h|h
   ·cases op<;>first|(cases h;done)|rfl
   ·exact h.2
  obtain⟨i,hi⟩:=zP.1 hsome;unfold eI at h;rw[hi] at h;have h:bI P .text i T H nx K:=h;unfold fM at hi
  have hic:rA op=some .val:=by
   unfold rA;split
   ·simp[opk] at hk
   ·rw[hk]
  rw[hic] at hi;simp only at hi;split at hi
  ·rename_i j hj;split at hi
   ·rename_i hc;cases hi;unfold bI at h;rw[hc] at h;obtain⟨_,h⟩:=h;obtain⟨r,hr,hk⟩:=cL h;rw[sN hj hr];exact hk
   ·cases hi
  ·cases hi
 ·exact pK h
theorem nR{P:Program}{N:Nat}{dsts:List (Option Nat)}:∀{l:List Oper}{l2:List Op2},i0 P N dsts l=some l2->∀{k:Nat}{o:Oper},l[k]?=some o->∃o2,l2[k]?=some o2/\uC P N dsts o=some o2
 |[],l2,h,k,o,ho=>by simp at ho
 |x::l,l2,h,k,o,ho=>by
  simp only[i0] at h;split at h
  ·rename_i o2 r2 h1 h2;cases h;cases k with
   |zero=>simp at ho;subst ho;exact⟨o2,rfl,h1⟩
   |succ k=>
    obtain⟨o3,h3,h4⟩:=nR h2 (k:=k) (o:=o) (by simpa using ho);exact⟨o3,by simpa using h3,h4⟩
  ·cases h
theorem nc{P:Program}{N:Nat}{ops:List Oper}{l:List Op2}(hl:i0 P N (ops.map (·.dst)) ops=some l){K:SP}:∀(C:List Nat),(∀k∈C,k<ops.length)->∀{T:Tm}{H:Hp}{nx:Nat},
    ak P .text (C.map λk=>l.getD k ⟨none,none,.dead⟩) T H nx K->kg (vpP P) P N (ops.map (·.dst)) (C.map λk=>ops.getD k default) T H nx K
 |[],_,_,_,_,h=>h
 |k::C,hC,T,H,nx,h=>by
  have hk:=hC k (by simp);obtain⟨o,ho⟩:=cl hk;obtain⟨o2,ho2,hc⟩:=nR hl ho;have e1:ops.getD k default=o:=ca ho;have e2:l.getD k ⟨none,none,.dead⟩=o2:=by simp[List.getD,ho2]
  rw[gD,e1];rw[gD,e2] at h;unfold uC at hc;split at hc
  ·rename_i hd;split at hc
   ·rename_i g hg;cases hc;refine⟨hd,?_⟩;rw[yM hg];have h:bn (g2 T g) (bI P .text (eI P o.op) T H nx λr H nx=>ak P .text (C.map λk=>l.getD k ⟨none,none,.dead⟩) (aD T o.dst r) H nx K) (ak P .text (C.map λk=>l.getD k ⟨none,none,.dead⟩) (aD T o.dst (.tup [])) H nx K):=h;cases hgv:g2 T g with
    |none=>rw[hgv] at h;exact h.elim
    |some b=>
     rw[hgv] at h;cases b with
     |true=>
      have h:bI P .text (eI P o.op) T H nx λr H nx=>ak P .text (C.map λk=>l.getD k ⟨none,none,.dead⟩) (aD T o.dst r) H nx K:=h;exact mb (ze h) (λr H nx hh=>nc hl C (λq hq=>hC q (by simp[hq])) hh)
     |false=>exact nc hl C (λq hq=>hC q (by simp[hq])) h
   ·cases hc
  ·cases hc
theorem A8{P:Program}{op:Op}{T:Tm}{r:AV}(hb:fE op=true)(hc:(fM P op).isSome=true)(h:ru T (eI P op)=some r):ui P T op=some r:=by
 obtain⟨i,hi⟩:=zP.1 hc;have hcd:eI P op=i:=by unfold eI;rw[hi]
 rw[hcd] at h;cases op<;>first|(cases hb;done)|skip
 rename_i t len parts
 have hi2:kN P (.buildSlice t len parts)=some i:=by
  unfold fM at hi;have:rA (.buildSlice t len parts)=some .eff:=rfl;rw[this] at hi;simp only at hi;split at hi
  ·rename_i j hj;split at hi
   ·cases hi;exact hj
   ·cases hi
  ·cases hi
 unfold ui;rw[if_pos hb];unfold ru at h;split at h
 ·rename_i sz len' z parts';obtain⟨n,H',k,cs,sz1,len1,es,h1,h2⟩:=oe h;rw[xf hi2 h1];rw[h1] at h;exact h
 ·cases h
theorem Bu{P:Program}{op:Op}{T:Tm}{S:Hp}{r:AV}(hl:pd op=true)(h:ilk T S (eI P op)=some r):lvP P op T S=some r:=by
 cases op<;>first|(cases hl;done)|skip
 rename_i t m k ok
 have e:eI P (.lookup t m k ok)=match qx P (.lookup t m k ok) with
  |some i=>if ic i=.sp then i else .dead
  |none=>.dead:=rfl
 rw[e] at h;simp only[qx] at h;unfold lvP;simp only;cases ht:gV P t with
 |none=>rw[ht] at h;cases h
 |some p=>
  obtain⟨kt,et⟩:=p;rw[ht] at h;simp only at h |-;cases hk:mkk P kt with
  |none=>rw[hk] at h;cases h
  |some mk=>
   cases hz:eO P et with
   |none=>rw[hk,hz] at h;cases h
   |some z=>
    rw[hk,hz] at h;simp only[ic,if_true,ilk,bt] at h;exact h
theorem jw{P:Program}{bp:BP}(hlv:bp.lv=lvP P){N:Nat}{ops:List Oper}{l:List Op2}(hl:i0 P N (ops.map (·.dst)) ops=some l)(hld:(ops.all λo=>!fK o.op || (fM P o.op).isSome)=true)(hbd:(ops.all λo=>!(bp.b o.op&&fE o.op) || (fM P o.op).isSome)=true){S:Hp}{K:SP}:∀(C:List Nat),(∀k∈C,k<ops.length)->∀{T:Tm}{H:Hp}{nx:Nat},
    aU P S (C.map λk=>(l.getD k ⟨none,none,.dead⟩,bP P bp ops k)) T H nx K->fT (vpP P) bp P N (ops.map (·.dst)) S (C.map (db bp ops)) T H nx K
 |[],_,_,_,_,h=>h
 |k::C,hC,T,H,nx,h=>by
  have hk:=hC k (by simp);obtain⟨o,ho⟩:=cl hk;obtain⟨o2,ho2,hc⟩:=nR hl ho;have e1:ops.getD k default=o:=ca ho;have e2:l.getD k ⟨none,none,.dead⟩=o2:=by simp[List.getD,ho2]
  have hrec:=λ(T:Tm)(H:Hp)(nx:Nat) hh=>jw hlv hl hld hbd (S:=S) (K:=K) C (λq hq=>hC q (by simp[hq])) (T:=T) (H:=H) (nx:=nx) hh;rw[gD];rw[gD,e2] at h;have ep:db bp ops k=(o,eR bp ops k):=by unfold db;rw[e1]
  have ek:bP P bp ops k=if (bp.b o.op&&fE o.op)=true then 3 else if (bp.l&&pd o.op)=true then 4 else if sv (vpP P) o.op=true then 0 else if eR bp ops k=true then 1 else 2:=by unfold bP svP;rw[e1]
  rw[ep];rw[ek] at h;unfold uC at hc;split at hc
  case isFalse=>cases hc
  rename_i hd;split at hc
  case h_2=>cases hc
  rename_i g hg;cases hc;refine⟨hd,?_⟩;show bn (gval T (ops.map (·.dst)) o.guard) (eV (vpP P) bp P S o.op (eR bp ops k) T H nx λr H' nx'=>fT (vpP P) bp P N (ops.map (·.dst)) S (C.map (db bp ops)) (aD T o.dst r) H' nx' K) (fT (vpP P) bp P N (ops.map (·.dst)) S (C.map (db bp ops)) (aD T o.dst (.tup [])) H nx K);rw[yM hg];by_cases hbl:(bp.b o.op&&fE o.op)=true
  ·rw[if_pos hbl] at h;have h:bn (g2 T g) (aC (ru T (eI P o.op)) λr=>aU P S (C.map λk=>(l.getD k ⟨none,none,.dead⟩,bP P bp ops k)) (aD T o.dst r) H nx K) (aU P S (C.map λk=>(l.getD k ⟨none,none,.dead⟩,bP P bp ops k)) (aD T o.dst (.tup [])) H nx K):=h;cases hgv:g2 T g with
   |none=>rw[hgv] at h;exact h.elim
   |some b=>
    rw[hgv] at h;cases b with
    |false=>exact hrec _ _ _ h
    |true=>
     have h:aC (ru T (eI P o.op)) λr=>aU P S (C.map λk=>(l.getD k ⟨none,none,.dead⟩,bP P bp ops k)) (aD T o.dst r) H nx K:=h;show eV (vpP P) bp P S o.op (eR bp ops k) T H nx _;unfold eV;rw[if_pos (show nv (vpP P) bp o.op=true by unfold nv;rw[hbl,Bool.or_true,Bool.true_or])];obtain⟨r,hr,hh⟩:=cL h;rw[cE] at hbl
     have hsome:(fM P o.op).isSome=true:=by
      have:=cV.1 hbd o (gG ho);rw[hbl.1,hbl.2] at this;simpa using this
     unfold o0;rw[if_pos (show(bp.b o.op&&fE o.op)=true by rw[hbl.1,hbl.2];rfl),A8 hbl.2 hsome hr];exact hrec _ _ _ hh
  rw[if_neg hbl] at h;by_cases hlk:(bp.l&&pd o.op)=true
  ·rw[if_pos hlk] at h;have h:bn (g2 T g) (aC (ilk T S (eI P o.op)) λr=>aU P S (C.map λk=>(l.getD k ⟨none,none,.dead⟩,bP P bp ops k)) (aD T o.dst r) H nx K) (aU P S (C.map λk=>(l.getD k ⟨none,none,.dead⟩,bP P bp ops k)) (aD T o.dst (.tup [])) H nx K):=h;cases hgv:g2 T g with
   |none=>rw[hgv] at h;exact h.elim
   |some b=>
    rw[hgv] at h;cases b with
    |false=>exact hrec _ _ _ h
    |true=>
     have h:aC (ilk T S (eI P o.op)) λr=>aU P S (C.map λk=>(l.getD k ⟨none,none,.dead⟩,bP P bp ops k)) (aD T o.dst r) H nx K:=h;show eV (vpP P) bp P S o.op (eR bp ops k) T H nx _;unfold eV;rw[if_pos (show nv (vpP P) bp o.op=true by unfold nv;rw[hlk,Bool.or_true])];obtain⟨r,hr,hh⟩:=cL h;unfold o0;rw[if_neg hbl,if_pos hlk,hlv];rw[cE] at hlk;rw[Bu hlk.2 hr];exact hrec _ _ _ hh
  have hnv:nv (vpP P) bp o.op=sv (vpP P) o.op:=by
   unfold nv;cases hb:(bp.b o.op&&fE o.op) with
   |true=>exact absurd hb hbl
   |false=>
    cases hb2:(bp.l&&pd o.op) with
    |true=>exact absurd hb2 hlk
    |false=>rw[Bool.or_false,Bool.or_false]
  have hnval:o0 P bp T S o.op=cz P T S o.op:=by unfold o0;rw[if_neg hbl,if_neg hlk]
  rw[if_neg hlk] at h;by_cases hs:sv (vpP P) o.op=true
  ·rw[if_pos hs] at h;have h:bn (g2 T g) (aC (bo T S (eI P o.op)) λr=>aU P S (C.map λk=>(l.getD k ⟨none,none,.dead⟩,bP P bp ops k)) (aD T o.dst r) H nx K) (aU P S (C.map λk=>(l.getD k ⟨none,none,.dead⟩,bP P bp ops k)) (aD T o.dst (.tup [])) H nx K):=h;cases hgv:g2 T g with
   |none=>rw[hgv] at h;exact h.elim
   |some b=>
    rw[hgv] at h;cases b with
    |false=>exact hrec _ _ _ h
    |true=>
     have h:aC (bo T S (eI P o.op)) λr=>aU P S (C.map λk=>(l.getD k ⟨none,none,.dead⟩,bP P bp ops k)) (aD T o.dst r) H nx K:=h;show eV (vpP P) bp P S o.op (eR bp ops k) T H nx _;unfold eV;rw[if_pos (hnv.trans hs),hnval];obtain⟨r,hr,hh⟩:=cL h
     have hsome:(fM P o.op).isSome=true:=by
      unfold sv at hs;rw[jT] at hs;rcases hs with hs|hs
      ·unfold vpP at hs;rw[jT,cE] at hs;rcases hs with h|h
       ·revert h;cases o.op<;>intro h<;>first|(cases h;done)|rfl
       ·exact h.2
      ·have:=cV.1 hld o (gG ho);rw[hs] at this;simpa using this
     obtain⟨i,hi⟩:=zP.1 hsome;have hcd:eI P o.op=i:=by unfold eI;rw[hi]
     rw[hcd] at hr
     have hic:rA o.op=some .val:=by
      unfold sv at hs;rw[jT] at hs;rcases hs with hs|hs
      ·have hk:=(l7 P).pure _ hs;unfold rA;split
       ·rename_i heq;rw[heq] at hk;simp[opk] at hk
       ·rw[hk]
      ·revert hs;cases o.op<;>intro hs<;>first|(cases hs;done)|rfl
     unfold fM at hi;rw[hic] at hi;simp only at hi;split at hi
     ·rename_i j hj;split at hi
      ·cases hi;rw[sN hj hr];exact hrec _ _ _ hh
      ·cases hi
     ·cases hi
  ·rw[if_neg hs] at h
   obtain⟨q,hq,hq2,hq3,hq4⟩:∃q,(if eR bp ops k=true then 1 else 2)=q+1/\(eR bp ops k=true->q=0)/\q≠2/\q≠3:=by
    by_cases hkk:eR bp ops k=true
    ·exact⟨0,by rw[if_pos hkk],λ_=>rfl,by omega,by omega⟩
    ·exact⟨1,by rw[if_neg hkk],λh=>absurd h hkk,by omega,by omega⟩
   rw[hq] at h;simp only[aU,if_neg hq3,if_neg hq4] at h;have h:bn (g2 T g) (bI P .text (eI P o.op) T H nx λr H' nx'=>(q=0->Sub S H')/\aU P S (C.map λk=>(l.getD k ⟨none,none,.dead⟩,bP P bp ops k)) (aD T o.dst r) H' nx' K) (aU P S (C.map λk=>(l.getD k ⟨none,none,.dead⟩,bP P bp ops k)) (aD T o.dst (.tup [])) H nx K):=h;cases hgv:g2 T g with
   |none=>rw[hgv] at h;exact h.elim
   |some b=>
    rw[hgv] at h;cases b with
    |false=>exact hrec _ _ _ h
    |true=>
     have h:bI P .text (eI P o.op) T H nx λr H' nx'=>(q=0->Sub S H')/\aU P S (C.map λk=>(l.getD k ⟨none,none,.dead⟩,bP P bp ops k)) (aD T o.dst r) H' nx' K:=h;show eV (vpP P) bp P S o.op (eR bp ops k) T H nx _;unfold eV;rw[if_neg (by rw[hnv];exact hs)];exact iq (pK h) (λr H nx hh=>⟨λhkk=>hh.1 (hq2 hkk),hrec _ _ _ hh.2⟩)
theorem pm{P:Program}{bp:BP}(hbp:o7 P bp)(hlv:bp.lv=lvP P){N:Nat}{rid:Nat}{ops:Array Oper}{l:List Op2}(hl:i0 P N (ops.toList.map (·.dst)) ops.toList=some l)(hmx:r7 P bp N ops.toList=true){T:Tm}{H:Hp}{nx:Nat}{K:CP}
    (h:aJ P (.mixS 9 l ((rL P bp ops.toList).map λk=>(k,bP P bp ops.toList k))) T H nx K):awp P N (.region rid ops true) T H nx K:=by
 unfold r7 at hmx;rw[cE] at hmx;obtain⟨hld,hok⟩:=hmx;rcases h with⟨h9,_⟩|⟨T,H,nx,Hf,S,hg,hs,h⟩
 ·exact absurd rfl h9
 ·rw[List.map_map] at h;rw[cV] at hld;refine⟨T,H,nx,Hf,hg,.inr (.inr (.inl ⟨_,bp,_,S,l7 P,hbp,hok,hs,jw hlv hl ?_ ?_ _ (nU hok).lt h⟩))⟩
  ·rw[cV];intro o ho;have:=hld o ho;cases h1:fK o.op with
   |false=>rfl
   |true=>rw[h1] at this;simpa using this
  ·rw[cV];intro o ho;have:=hld o ho;cases h1:(bp.b o.op&&fE o.op) with
   |false=>rfl
   |true=>rw[h1] at this;simpa using this
theorem t7{P:Program}{bp:BP}(hlv:bp.lv=lvP P){N:Nat}{ops:List Oper}{l:List Op2}(hl:i0 P N (ops.map (·.dst)) ops=some l)(hld:(ops.all λo=>!fK o.op || (fM P o.op).isSome)=true)(hbd:(ops.all λo=>!(bp.b o.op&&fE o.op) || (fM P o.op).isSome)=true){S:Hp}{K:SP}{f:Nat}{D:List Nat}(hf:f<ops.length)(hD:∀k∈D,k<ops.length):∀(C:List Nat),(∀k∈C,k<ops.length)->∀{T:Tm}{H:Hp}{nx:Nat},
    l5 P S (l.getD f ⟨none,none,.dead⟩,bP P bp ops f) (D.map λk=>(l.getD k ⟨none,none,.dead⟩,bP P bp ops k)) (C.map λk=>(l.getD k ⟨none,none,.dead⟩,bP P bp ops k)) T H nx K->jH (vpP P) bp P N (ops.map (·.dst)) S (db bp ops f) (D.map (db bp ops)) (C.map (db bp ops)) T H nx K
 | [],_,T,H,nx,h=>jw hlv hl hld hbd (f :: D) (fun k hk=>by
     rcases nj.1 hk with rfl|hk
     ·exact hf
     ·exact hD k hk) h
 |k::C,hC,T,H,nx,h=>by
  have h:(bP P bp ops k=1\/bP P bp ops k=2->aU P S ((l.getD f ⟨none,none,.dead⟩,bP P bp ops f)::(l.getD k ⟨none,none,.dead⟩,bP P bp ops k)::((C.map λk=>(l.getD k ⟨none,none,.dead⟩,bP P bp ops k))++D.map λk=>(l.getD k ⟨none,none,.dead⟩,bP P bp ops k))) T H nx K)/\aU P S [(l.getD k ⟨none,none,.dead⟩,bP P bp ops k)] T H nx λT H nx=>l5 P S (l.getD f ⟨none,none,.dead⟩,bP P bp ops f) (D.map λk=>(l.getD k ⟨none,none,.dead⟩,bP P bp ops k)) (C.map λk=>(l.getD k ⟨none,none,.dead⟩,bP P bp ops k)) T H nx K:=h;obtain⟨h1,h2⟩:=h;refine⟨λhn=>?_,?_⟩
  ·have hk:bP P bp ops k=1\/bP P bp ops k=2:=by
     unfold nv at hn;have hn:nv (vpP P) bp (ops.getD k default).op=false:=hn;unfold nv at hn;rw[Bool.or_eq_false_iff,Bool.or_eq_false_iff] at hn;obtain⟨⟨n1,n2⟩,n3⟩:=hn;unfold bP svP;rw[n2,n3,n1];simp only[bm,if_false];split
     ·exact .inl rfl
     ·exact .inr rfl
   have h1:=h1 hk;have e:(l.getD f ⟨none,none,.dead⟩,bP P bp ops f)::(l.getD k ⟨none,none,.dead⟩,bP P bp ops k)::((C.map λk=>(l.getD k ⟨none,none,.dead⟩,bP P bp ops k))++D.map λk=>(l.getD k ⟨none,none,.dead⟩,bP P bp ops k))=(f::k::(C++D)).map λk=>(l.getD k ⟨none,none,.dead⟩,bP P bp ops k):=by simp
   rw[e] at h1
   have:=jw hlv hl hld hbd (f :: k :: (C ++ D)) (fun q hq=>by
    rcases nj.1 hq with rfl|hq
    ·exact hf
    ·rcases nj.1 hq with rfl|hq
     ·exact hC _ (by simp)
     ·rcases th.1 hq with hq|hq
      ·exact hC q (by simp[hq])
      ·exact hD q hq) h1
   rw[gD,gD,eU] at this;exact this
  ·have:=jw hlv hl hld hbd [k] (λq hq=>by rw[qZ.1 hq];exact hC k (by simp)) h2;have this:ik (vpP P) bp P N (ops.map (·.dst)) S (db bp ops k) T H nx λT H nx=>l5 P S (l.getD f ⟨none,none,.dead⟩,bP P bp ops f) (D.map λk=>(l.getD k ⟨none,none,.dead⟩,bP P bp ops k)) (C.map λk=>(l.getD k ⟨none,none,.dead⟩,bP P bp ops k)) T H nx K:=this;exact ed this (λr H1 nx1 h=>t7 hlv hl hld hbd hf hD C (λq hq=>hC q (by simp[hq])) h)
theorem AY{P:Program}{bp:BP}(hbp:o7 P bp)(hlv:bp.lv=lvP P){N:Nat}{rid:Nat}{ops:Array Oper}{l:List Op2}{f:Nat}(hl:i0 P N (ops.toList.map (·.dst)) ops.toList=some l)(hmx:yK P bp N ops.toList f=true){T:Tm}{H:Hp}{nx:Nat}{K:CP}
    (h:aJ P (.mixF l (f,bP P bp ops.toList f) ((yL P bp ops.toList f).map λk=>(k,bP P bp ops.toList k)) ((yO ops.toList f).map λk=>(k,bP P bp ops.toList k))) T H nx K):awp P N (.region rid ops true) T H nx K:=by
 unfold yK at hmx;rw[cE,cE] at hmx;obtain⟨⟨_,hld⟩,hok⟩:=hmx;have hk:=sc hok;obtain⟨T,H,nx,Hf,S,hg,hs,h⟩:=h;rw[List.map_map,List.map_map] at h;rw[cV] at hld;refine⟨T,H,nx,Hf,hg,.inr (.inr (.inr (.inl ⟨_,bp,f,_,_,S,l7 P,hbp,hok,hs,t7 hlv hl ?_ ?_ hk.fl (λk hk'=>(hk.lt k (uV _ hk')).1) _ (λk hk'=>(hk.lt k (rn _ hk')).1) h⟩)))⟩
 ·rw[cV];intro o ho;have:=hld o ho;cases h1:fK o.op with
  |false=>rfl
  |true=>rw[h1] at this;simpa using this
 ·rw[cV];intro o ho;have:=hld o ho;cases h1:(bp.b o.op&&fE o.op) with
  |false=>rfl
  |true=>rw[h1] at this;simpa using this
theorem sw{P:Program}{N:Nat}{dsts:List (Option Nat)}:∀{ops:List Oper}{l:List Op2},i0 P N dsts ops=some l->l.length=ops.length
 |[],l,h=>by cases h;rfl
 |o::ops,l,h=>by
  unfold i0 at h;split at h
  ·rename_i o2 l2 _ h2;cases h;rw[gI,gI,sw h2]
  ·cases h
theorem Cm{P:Program}{N:Nat}{rid:Nat}{ops:Array Oper}{l:List Op2}(hl:i0 P N (ops.toList.map (·.dst)) ops.toList=some l)(hok:rQ ops.toList=true){T:Tm}{H:Hp}{nx:Nat}{K:CP}
    (h:aJ P (.anyI l (BQ ops.toList)) T H nx K):awp P N (.region rid ops true) T H nx K:=by
 obtain⟨T,H,nx,Hf,I,hg,h0,h1,h2⟩:=h;have hlen:l.length=ops.toList.length:=sw hl;refine⟨T,H,nx,Hf,hg,.inr (.inr (.inr (.inr ⟨I,hok,⟨h0,λi L T H nx hi hL hb hI=>?_,λL T H nx hall hI=>h2 L T H nx (λk hk=>hall k (by omega)) hI⟩⟩)))⟩
 have h3:=h1 i L T H nx (by omega) hL (fun k hk=>by
  unfold BQ at hk;rw[List.getD_eq_getElem?_getD,nJ,List.getElem?_range hi] at hk;simp only[ko,u5,lG,gJ] at hk;exact hb k hk.1 hk.2) hI
 exact vu (l7 P) (nc hl [i] (λk hk=>by rw[qZ.1 hk];exact hi) h3)
theorem ig{P:Program}{N:Nat}(hm:P.follows .mixedOrders=true):∀(c:Code)(c2:C2){T:Tm}{H:Hp}{nx:Nat}{K:CP},lI P N c=some c2->aJ P c2 T H nx K->awp P N c T H nx K
 |.skip,c2,_,_,_,_,hc,h=>by cases hc;exact h
 |.label _,c2,_,_,_,_,hc,h=>by cases hc;exact h
 |.exit _,c2,_,_,_,_,hc,h=>by cases hc;exact h
 |.ret,c2,_,_,_,_,hc,h=>by cases hc;exact h
 |.region _ ops draw,c2,_,_,_,_,hc,h=>by
  simp only[lI] at hc;split at hc
  ·rename_i l hl;cases draw with
   |true=>
    simp only[if_true] at hc;split at hc
    ·rename_i hmx;cases hc;unfold Ba at hmx;rw[cE] at hmx;exact pm oa rfl hl hmx.2 h
    split at hc
    ·rename_i hmx;cases hc;unfold Cp at hmx;rw[cE] at hmx;obtain⟨_,hok⟩:=hmx;rcases h with⟨h9,T,H,nx,Hf,hg,h⟩|⟨T,H,nx,Hf,hg,h⟩
     ·refine⟨T,H,nx,Hf,hg,.inl ?_⟩;split at h9
      ·exact absurd rfl h9
      ·rename_i ho;rw[if_neg ho] at h;split at h9
       ·rename_i hd;rw[if_pos hd] at h |-;exact fQ _ _ hl h
       ·rename_i hd;rw[if_neg hd] at h |-;split at h9
        ·rename_i hd2;rw[if_pos hd2] at h;exact⟨hd2,fQ _ _ hl h⟩
        ·exact absurd rfl h9
     ·exact⟨T,H,nx,Hf,hg,.inr (.inl ⟨_,_,l7 P,hok,nc hl _ (u9 hok).lt h⟩)⟩
    ·split at hc
     ·rename_i hmx;cases hc;unfold Bl at hmx;rw[cE,cE] at hmx;obtain⟨⟨_,hld⟩,hok⟩:=hmx;rcases h with⟨h9,T,H,nx,Hf,hg,h⟩|⟨T,H,nx,Hf,S,hg,hs,h⟩
      ·refine⟨T,H,nx,Hf,hg,.inl ?_⟩;split at h9
       ·exact absurd rfl h9
       ·rename_i ho;rw[if_neg ho] at h;split at h9
        ·rename_i hd;rw[if_pos hd] at h |-;exact fQ _ _ hl h
        ·rename_i hd;rw[if_neg hd] at h |-;split at h9
         ·rename_i hd2;rw[if_pos hd2] at h;exact⟨hd2,fQ _ _ hl h⟩
         ·exact absurd rfl h9
      ·rw[List.map_map] at h;exact⟨T,H,nx,Hf,hg,.inr (.inr (.inl ⟨_,bpF P (λ_=>false) false,_,S,l7 P,oa,hok,hs,jw rfl hl hld (cV.2 λ_ _=>rfl) _ (nU hok).lt h⟩))⟩
     split at hc
     ·rename_i hmx;cases hc;unfold Bm at hmx;rw[cE] at hmx;exact pm oa rfl hl hmx.2 h
     split at hc
     ·rename_i hmx;cases hc;unfold Cy at hmx;rw[cE,cE] at hmx;exact Cm hl hmx.2.1 h
     split at hc
     ·rename_i hd;cases hc;obtain⟨T,H,nx,Hf,hg,h⟩:=h;refine⟨T,H,nx,Hf,hg,?_⟩;simp only;rw[if_pos hd];exact .inl (fQ _ _ hl h)
     ·rename_i hd;split at hc
      ·rename_i hmx;cases hc;rw[cE] at hmx;exact pm oa rfl hl hmx.2 h
      split at hc
      ·rename_i hd2;cases hc;obtain⟨T,H,nx,Hf,hg,h⟩:=h;refine⟨T,H,nx,Hf,hg,?_⟩;simp only;rw[if_neg hd];exact .inl ⟨hd2,fQ _ _ hl h⟩
      ·split at hc
       ·rename_i hmx;cases hc;exact pm oa rfl hl hmx h
       ·split at hc
        ·rename_i f hfd;cases hc;exact AY oa rfl hl (List.find?_some hfd) h
        ·cases hc
   |false=>
    simp only[bm,if_false] at hc;cases hc;obtain⟨T,H,nx,Hf,hg,h⟩:=h;exact⟨T,H,nx,Hf,hg,fQ _ _ hl h⟩
  ·cases hc
 |.seq a b,c2,_,_,_,K,hc,h=>by
  simp only[lI] at hc;split at hc
  ·rename_i a2 b2 ha hb;cases hc;refine fq a (ig hm a a2 ha h) (λe T H nx h=>?_);cases e with
   |normal=>exact ig hm b b2 hb h
   |exit i=>exact h
   |ret=>exact h
  ·cases hc
 |.cond c a b,c2,_,_,_,K,hc,h=>by
  simp only[lI] at hc;split at hc
  ·rename_i a2 b2 ha hb;cases hc;simp only[aJ,bt] at h;simp only[awp];unfold bF at h |-;split at h
   ·exact⟨λhh=>ig hm a a2 ha (h.1 hh),λhh=>ig hm b b2 hb (h.2 hh)⟩
   ·exact h
  ·cases hc
 |.block id b,c2,_,_,_,K,hc,h=>by
  simp only[lI] at hc;split at hc
  ·rename_i b2 hb;cases hc;exact ig hm b b2 hb h
  ·cases hc
 |.loop b,c2,T,H,nx,K,hc,h=>by
  simp only[lI] at hc;split at hc
  ·rename_i b2 hb;cases hc;obtain⟨n,h⟩:=h;refine⟨n,?_⟩
   induction n generalizing T H nx with
   |zero=>exact h
   |succ n ih=>
    obtain⟨T',H',nx',Hf,hg,h⟩:=h;refine⟨T',H',nx',Hf,hg,fq b (ig hm b b2 hb h) (λe T H nx h=>?_)⟩;cases e with
    |normal=>exact ih _ _ _ h
    |exit i=>exact h
    |ret=>exact h
  ·cases hc
 |.rangeFunc g ps a b,c2,T,H,nx,K,hc,h=>by
  simp only[lI] at hc;split at hc
  case isFalse=>cases hc
  case isTrue hps=>
  split at hc
  ·rename_i a2 b2 ha hb;cases hc;obtain⟨f,caps,h1,h2⟩:=h;rw[bt] at h1;show RF P N _ T H nx K;refine Cw h1 (λr hr=>?_);refine h2 (.oloop r T) (sG r T) (λargs H' nx' K' hH hl hw=>?_);refine Yl.of_awp hr hm (λt ht=>by simpa using cV.1 hps t ht) hH (by simpa using hl) (fq a (ig hm a a2 ha hw) (λe T2 H2 nx2 h=>?_));cases e with
   |normal=>exact⟨h.1,ig hm b b2 hb h.2⟩
   |exit i=>exact h
   |ret=>exact h
  ·cases hc
 |.scope _,_,_,_,_,_,hc,_=>by cases hc
 |.goto _,_,_,_,_,_,hc,_=>by cases hc
 |.refuse _,_,_,_,_,_,hc,_=>by cases hc
inductive RV where
 |t (n:Nat)
 |c1 (n:Nat)
 |cn (n k:Nat)
structure F2 where
 n:Nat
 res:List RV
 body:C2
def jA(P:Program):List ResultVar->Option (List RV)
 |[]=>some []
 |.tmp t::l=>match jA P l with|some l=>some (.t t::l)|none=>none
 | .cell a t :: l=>if tok P t=true then (match jA P l with
  |some l=>if pe P t=true then(if 0<P.cellsOf t then some (.cn a (P.cellsOf t)::l) else none) else some (.c1 a::l)
  |none=>none) else none
def tM(P:Program)(fn:Func):Option F2:=
 match fn.body with
 |some c=>if fn.name== "runtime.NumGoroutine" then none else match lI P fn.ntmps c,jA P fn.results.toList with
  |some b,some r=>some ⟨fn.ntmps,r,b⟩
  |_,_=>none
 |none=>none
def rv(T:Tm)(H:Hp):RV->Option AV
 |.t n=>some (T n)
 |.c1 n=>rd1 H (T n)
 |.cn n k=>(rd H k (T n)).map .agg
def zw(T:Tm)(H:Hp):List RV->(List AV->Prop)->Prop
 |[],K=>K []
 |a::l,K=>aC (rv T H a) λx=>zw T H l λxs=>K (x::xs)
def cb(T:Tm)(H:Hp)(K:AV->Prop):List RV->Prop
 |[a]=>aC (rv T H a) K
 |[a,b]=>aC (rv T H a) λx=>aC (rv T H b) λy=>K (.tup [x,y])
 |[a,b,c]=>aC (rv T H a) λx=>aC (rv T H b) λy=>aC (rv T H c) λz=>K (.tup [x,y,z])
 |[]=>K (.tup [])
 |a::b::c::d::l=>zw T H (a::b::c::d::l) λxs=>K (.tup xs)
theorem pQ{P:Program}{T:Tm}{H:Hp}{r:ResultVar}{l:List ResultVar}{x:RV}{xs:List RV}{v:AV}(h:jA P (r::l)=some (x::xs))(hv:rv T H x=some v):
    jA P l=some xs/\kU P T H (r::l)=(match kU P T H l with|some ys=>some (v::ys)|none=>none):=by
 cases r with
 |tmp t=>
  simp only[jA] at h;split at h
  ·rename_i ys hy;cases h;cases hv;exact⟨hy,rfl⟩
  ·cases h
 |cell a t=>
  simp only[jA] at h;split at h
  ·rename_i h1;split at h
   ·rename_i ys hy;split at h
    ·rename_i h2;split at h
     ·rename_i h3;cases h;refine⟨hy,?_⟩;simp only[rv] at hv;simp only[kU,jt,h1,h2,if_true,if_pos h3,hv];cases kU P T H l<;>rfl
     ·cases h
    ·rename_i h2;cases h;refine⟨hy,?_⟩;simp only[rv] at hv;simp only[kU,jt,h1,h2,if_true,hv];cases kU P T H l<;>rfl
   ·cases h
  ·cases h
theorem jI{P:Program}{l:List ResultVar}(h:jA P l=some []):l=[]:=by
 cases l with
 |nil=>rfl
 |cons r l=>
  cases r with
  |tmp t=>simp only[jA] at h;split at h<;>cases h
  |cell a t=>
   simp only[jA] at h;split at h
   ·split at h
    ·split at h
     ·split at h<;>cases h
     ·cases h
    ·cases h
   ·cases h
theorem fA{P:Program}{l:List ResultVar}{x:RV}{xs:List RV}(h:jA P l=some (x::xs)):∃r l',l=r::l':=by
 cases l with
 |nil=>cases h
 |cons r l=>exact⟨r,l,rfl⟩
theorem xj{P:Program}{T:Tm}{H:Hp}:∀{r:List RV}{l:List ResultVar}{K:List AV->Prop},jA P l=some r->zw T H r K->∃xs,kU P T H l=some xs/\xs.length=r.length/\K xs
 |[],l,K,h,hk=>by
  have:=jI h;subst this;exact⟨[],rfl,rfl,hk⟩
 |a::r,l,K,h,hk=>by
  obtain⟨r1,l1,rfl⟩:=fA h;have hk:aC (rv T H a) λx=>zw T H r λxs=>K (x::xs):=hk;cases hv:rv T H a with
  |none=>rw[hv] at hk;exact hk.elim
  |some v=>
   rw[hv] at hk;obtain⟨h1,e1⟩:=pQ h hv;obtain⟨xs,h2,h3,h4⟩:=xj h1 hk;exact⟨v::xs,by rw[e1,h2],by simp[h3],h4⟩
theorem AL{P:Program}{T:Tm}{H:Hp}{K:AV->Prop}{l:List ResultVar}{r:List RV}(h:jA P l=some r)(hk:cb T H K r):aC (mA P T H l) K:=by
 have one:∀{x:RV}{K':AV->Prop},aC (rv T H x) K'->∃v,rv T H x=some v/\K' v:=by
  intro x K' h;cases hv:rv T H x with
  |none=>rw[hv] at h;exact h.elim
  |some v=>rw[hv] at h;exact⟨v,rfl,h⟩
 rcases r with _|⟨a,_|⟨b,_|⟨c,_|⟨d,r⟩⟩⟩⟩
 ·have:=jI h;subst this;exact hk
 ·obtain⟨r1,l1,rfl⟩:=fA h;obtain⟨v,hv,hk⟩:=one hk;obtain⟨h1,e1⟩:=pQ h hv;have:=jI h1;subst this;simp only[mA,e1,kU];exact hk
 ·obtain⟨r1,l1,rfl⟩:=fA h;obtain⟨v,hv,hk⟩:=one hk;obtain⟨h1,e1⟩:=pQ h hv;obtain⟨r2,l2,rfl⟩:=fA h1;obtain⟨v2,hv2,hk⟩:=one hk;obtain⟨h2,e2⟩:=pQ h1 hv2;have:=jI h2;subst this;simp only[mA,e1,e2,kU];exact hk
 ·obtain⟨r1,l1,rfl⟩:=fA h;obtain⟨v,hv,hk⟩:=one hk;obtain⟨h1,e1⟩:=pQ h hv;obtain⟨r2,l2,rfl⟩:=fA h1;obtain⟨v2,hv2,hk⟩:=one hk;obtain⟨h2,e2⟩:=pQ h1 hv2;obtain⟨r3,l3,rfl⟩:=fA h2;obtain⟨v3,hv3,hk⟩:=one hk;obtain⟨h3,e3⟩:=pQ h2 hv3;have:=jI h3;subst this;simp only[mA,e1,e2,e3,kU];exact hk
 ·have hk:zw T H (a::b::c::d::r) λxs=>K (.tup xs):=hk;obtain⟨xs,h1,h2,h3⟩:=xj h hk;unfold mA;rw[h1];rcases xs with _|⟨x,_|⟨y,xs⟩⟩
  ·simp at h2
  ·simp at h2
  ·exact h3
structure Is(P:Program)(f:FuncId)(F:F2):Prop where
 out:∃fn,P.funcs[f]?=some fn/\tM P fn=some F
theorem Is.mk'{P:Program}{f:FuncId}{F:F2}{fn:Func}(h1:P.funcs[f]?=some fn)(h2:tM P fn=some F):Is P f F:=⟨fn,h1,h2⟩
theorem Is.cok{P:Program}{f:FuncId}{F:F2}(h:Is P f F):cok P f=true:=by
 obtain⟨fn,h1,h2⟩:=h.out;unfold tM at h2;split at h2
 ·rename_i c hc;split at h2
  ·cases h2
  ·rename_i hn;unfold Go.Abs.cok;simp only[h1,hc,Option.isSome_some,Bool.true_and,Bool.not_eq_true'];simpa using hn
 ·cases h2
theorem Is.bodyOk{P:Program}{f:FuncId}{F:F2}(h:Is P f F)(hm:P.follows .mixedOrders=true){args:List AV}{H:Hp}{nx:Nat}{K:AV->Hp->Nat->Prop}(hl:args.length<=F.n)
    (hb:aJ P F.body (T0 args) H nx λe T H nx=>bf e.ends (cb T H (λx=>K x H nx) F.res)):∃fn,P.funcs[f]?=some fn/\sQ P fn args H nx K:=by
 obtain⟨fn,h1,h2⟩:=h.out;refine⟨fn,h1,?_⟩;unfold tM at h2;split at h2
 ·rename_i c hc;split at h2
  ·cases h2
  ·split at h2
   ·rename_i b r hb' hr;cases h2;exact⟨c,hc,hl,fq c (ig hm c b hb' hb) (λe T H nx hh=>⟨hh.1,AL hr hh.2⟩)⟩
   ·cases h2
 ·cases h2
theorem Pure.of_c2{P:Program}{f:FuncId}{F:F2}{args:List AV}{r:AV}(hm:P.follows .mixedOrders=true)(hf:Is P f F)(hl:args.length<=F.n)
    (hb:aJ P F.body (T0 args) bi 0 λe T H nx=>bf e.ends (cb T H (λx=>Snap H x r) F.res)):Pure P f args r:=by
 obtain⟨fn,h1,h2⟩:=hf.bodyOk hm (K:=λx H nx=>Snap H x r) hl hb;exact Pure.of_body hm h1 hf.cok h2
theorem Fn.of_c2{P:Program}{f:FuncId}{F:F2}{args:List AV}{H:Hp}{nx:Nat}{K:AV->Hp->Nat->Prop}(hm:P.follows .mixedOrders=true)(hf:Is P f F)(hl:args.length<=F.n)
    (hb:aJ P F.body (T0 args) H nx λe T H nx=>bf e.ends (cb T H (λx=>K x H nx) F.res)):Fn P f args H nx K:=by
 obtain⟨fn,h1,h2⟩:=hf.bodyOk hm (K:=K) hl hb;exact Fn.of_body hm h1 hf.cok h2
theorem qU.of_c2{P:Program}{f:FuncId}{F:F2}{args:List AV}{r:AV}(hm:P.follows .mixedOrders=true)(hf:Is P f F)(hl:args.length<=F.n)
    (hb:aJ P F.body (T0 args) bi 0 λe T H nx=>bf e.ends (cb T H (λx=>SnapF H x r) F.res)):qU P f args r:=
 qU.of_fn (Fn.of_c2 hm hf hl hb)
theorem zF{i:Ins}{T:Tm}{H:Hp}{nx:Nat}{K K':AV->Hp->Nat->Prop}(h:isp i T H nx K)(hK:∀r H nx,K r H nx->K' r H nx):isp i T H nx K':=by
 cases i<;>first|exact h|skip
 ·exact⟨h.1,h.2.imp (hK _ _ _) (hK _ _ _)⟩
 ·rcases h with⟨b,ks,vs,r,h1,h2,h3,h4,h5⟩|⟨b,ks,vs,bs,ck,r,h1,h2,h3,h4,h5⟩
  ·exact .inl ⟨b,ks,vs,r,h1,h2,h3,h4,hK _ _ _ h5⟩
  ·exact .inr ⟨b,ks,vs,bs,ck,r,h1,h2,h3,h4,hK _ _ _ h5⟩
 ·obtain⟨b,ks,vs,bs,ck,r,h1,h2,h3,h4,h5⟩:=h;exact⟨b,ks,vs,bs,ck,r,h1,h2,h3,h4,hK _ _ _ h5⟩
 ·rcases h with⟨b,ks,vs,r,h1,h2,h3,h4,h5⟩|⟨b,ks,vs,bs,ck,r,h1,h2,h3,h4,h5⟩
  ·exact .inl ⟨b,ks,vs,r,h1,h2,h3,h4,hK _ _ _ h5⟩
  ·exact .inr ⟨b,ks,vs,bs,ck,r,h1,h2,h3,h4,hK _ _ _ h5⟩
 ·rcases h with⟨b,ks,vs,h1,h2,h3⟩|⟨b,ks,vs,bs,ck,h1,h2,h3⟩
  ·exact .inl ⟨b,ks,vs,h1,h2,hK _ _ _ h3⟩
  ·exact .inr ⟨b,ks,vs,bs,ck,h1,h2,hK _ _ _ h3⟩
 ·rcases h with⟨b,ks,vs,h1,h2,h3⟩|⟨b,ks,vs,bs,ck,h1,h2,h3⟩
  ·exact .inl ⟨b,ks,vs,h1,h2,hK _ _ _ h3⟩
  ·exact .inr ⟨b,ks,vs,bs,ck,h1,h2,hK _ _ _ h3⟩
 ·rcases h with⟨b,m,n0,seen,ks,vs,h1,h2,h3,hn,h4,h5⟩|⟨b,m,ck,seen,ks,vs,bs,h1,h2,h3,h4,h5⟩
  ·exact .inl ⟨b,m,n0,seen,ks,vs,h1,h2,h3,hn,λi hi hs=>hK _ _ _ (h4 i hi hs),λh=>hK _ _ _ (h5 h)⟩
  ·exact .inr ⟨b,m,ck,seen,ks,vs,bs,h1,h2,h3,λi s hi hs=>hK _ _ _ (h4 i s hi hs),λh=>hK _ _ _ (h5 h)⟩
 ·rcases h with⟨b,m,n0,i,seen,ks,vs,h1,h2,h3,h4,h5,h6,h7⟩|⟨b,m,ck,i,s,seen,ks,vs,bs,h1,h2,h3,h5,h6,h7⟩
  ·exact .inl ⟨b,m,n0,i,seen,ks,vs,h1,h2,h3,h4,h5,h6,hK _ _ _ h7⟩
  ·exact .inr ⟨b,m,ck,i,s,seen,ks,vs,bs,h1,h2,h3,h5,h6,hK _ _ _ h7⟩
 ·obtain⟨n,H',h1,h2⟩:=h;exact⟨n,H',h1,hK _ _ _ h2⟩
 ·obtain⟨H',h1,h2⟩:=h;exact⟨H',h1,hK _ _ _ h2⟩
 ·obtain⟨b,n,off,cs,h1,h2,h3,h4,h5⟩:=h;exact⟨b,n,off,cs,h1,h2,h3,h4,hK _ _ _ h5⟩
 ·obtain⟨k,h1,h2⟩:=h;exact⟨k,h1,λh=>hK _ _ _ (h2.1 h),λh=>⟨hK _ _ _ (h2.2 h).1,hK _ _ _ (h2.2 h).2⟩⟩
 ·obtain⟨bs,h1,h2,h3⟩:=h;exact⟨bs,h1,λh=>hK _ _ _ (h2 h),λh=>hK _ _ _ (h3 h)⟩
 ·obtain⟨n,bs,h1,h2⟩:=h;exact⟨n,bs,h1,hK _ _ _ h2⟩
 ·obtain⟨b,ks,vs,r,h1,h2,h3,h4,h5⟩:=h;exact⟨b,ks,vs,r,h1,h2,h3,h4,hK _ _ _ h5⟩
 ·obtain⟨b,ks,vs,i,h1,h2,h3,h4,h5⟩:=h;exact⟨b,ks,vs,i,h1,h2,h3,h4,hK _ _ _ h5⟩
theorem lz{P:Program}{dm:DM}{i:Ins}{T:Tm}{H:Hp}{nx:Nat}{K K':AV->Hp->Nat->Prop}(h:bI P dm i T H nx K)(hK:∀r H nx,K r H nx->K' r H nx):bI P dm i T H nx K':=by
 unfold bI at h |-;split at h
 ·exact⟨h.1,l6 (λa=>hK _ _ _) h.2⟩
 ·exact⟨h.1,l6 (λa=>hK _ _ _) h.2⟩
 ·split at h
  ·rcases h with h|⟨h1,⟨b,h2,h3⟩|⟨g,fs,h2,h3⟩⟩
   ·left;refine l6 (λb=>?_) h;intro h;cases hd:dm.isText with
    |false=>rw[hd] at h;obtain⟨r,h1,h3⟩:=h;exact⟨r,h1,hK _ _ _ h3⟩
    |true=>rw[hd] at h;exact Fn.mono h hK
   ·exact .inr ⟨h1,.inl ⟨b,h2,h3.mono hK⟩⟩
   ·exact .inr ⟨h1,.inr ⟨g,fs,h2,h3.mono hK⟩⟩
  ·exact h
 ·exact⟨h.1,zF h.2 hK⟩
theorem gl{P:Program}{dm:DM}{K K':SP}(hK:∀T H nx,K T H nx->K' T H nx):∀(l:List Op2){T:Tm}{H:Hp}{nx:Nat},ak P dm l T H nx K->ak P dm l T H nx K'
 |[],_,_,_,h=>hK _ _ _ h
 |o::l,T,H,nx,h=>by
  have h:bn (g2 T o.g) (bI P dm o.i T H nx λr H nx=>ak P dm l (aD T o.d r) H nx K) (ak P dm l (aD T o.d (.tup [])) H nx K):=h;show bn (g2 T o.g) (bI P dm o.i T H nx λr H nx=>ak P dm l (aD T o.d r) H nx K') (ak P dm l (aD T o.d (.tup [])) H nx K');cases hg:g2 T o.g with
  |none=>rw[hg] at h;exact h.elim
  |some b=>
   rw[hg] at h;cases b with
   |true=>
    have h:bI P dm o.i T H nx λr H nx=>ak P dm l (aD T o.d r) H nx K:=h;exact lz h (λ_ _ _ hh=>gl hK l hh)
   |false=>exact gl hK l h
theorem du{P:Program}{S:Hp}{K K':SP}(hK:∀T H nx,K T H nx->K' T H nx):∀(l:List (Op2×Nat)){T:Tm}{H:Hp}{nx:Nat},aU P S l T H nx K->aU P S l T H nx K'
 |[],_,_,_,h=>hK _ _ _ h
 |(o,0)::l,T,H,nx,h=>by
  simp only[aU] at h |-;cases hg:g2 T o.g with
  |none=>rw[hg] at h;exact h.elim
  |some b=>
   rw[hg] at h;cases b with
   |true=>
    have h:aC (bo T S o.i) λr=>aU P S l (aD T o.d r) H nx K:=h;show aC (bo T S o.i) λr=>aU P S l (aD T o.d r) H nx K';obtain⟨r,hr,hh⟩:=cL h;rw[hr];exact du hK l hh
   |false=>exact du hK l h
 |(o,k+1)::l,T,H,nx,h=>by
  simp only[aU] at h |-;cases hg:g2 T o.g with
  |none=>rw[hg] at h;exact h.elim
  |some b=>
   rw[hg] at h;cases b with
   |true=>
    have h:if k=2 then aC (ru T o.i) λr=>aU P S l (aD T o.d r) H nx K else if k=3 then aC (ilk T S o.i) λr=>aU P S l (aD T o.d r) H nx K else bI P .text o.i T H nx λr H' nx'=>(k=0->Sub S H')/\aU P S l (aD T o.d r) H' nx' K:=h
    show if k=2 then aC (ru T o.i) λr=>aU P S l (aD T o.d r) H nx K' else if k=3 then aC (ilk T S o.i) λr=>aU P S l (aD T o.d r) H nx K' else bI P .text o.i T H nx λr H' nx'=>(k=0->Sub S H')/\aU P S l (aD T o.d r) H' nx' K'
    split
    ·rename_i hk;rw[if_pos hk] at h;obtain⟨r,hr,hh⟩:=cL h;rw[hr];exact du hK l hh
    ·rename_i hk;rw[if_neg hk] at h;split
     ·rename_i hk;rw[if_pos hk] at h;obtain⟨r,hr,hh⟩:=cL h;rw[hr];exact du hK l hh
     rename_i hk;rw[if_neg hk] at h;exact lz h (λ_ _ _ hh=>⟨hh.1,du hK l hh.2⟩)
   |false=>exact du hK l h
theorem oO{P:Program}{S:Hp}{f:Op2×Nat}{l2:List (Op2×Nat)}{K K':SP}(hK:∀T H nx,K T H nx->K' T H nx):∀(l:List (Op2×Nat)){T:Tm}{H:Hp}{nx:Nat},l5 P S f l2 l T H nx K->l5 P S f l2 l T H nx K'
 |[],_,_,_,h=>du hK _ h
 |x::l,_,_,_,h=>⟨λhx=>du hK _ (h.1 hx),du (λ_ _ _=>oO hK l) _ h.2⟩
theorem dJ{P:Program}:∀(c:C2){T:Tm}{H:Hp}{nx:Nat}{K K':CP},aJ P c T H nx K->(∀e T H nx,K e T H nx->K' e T H nx)->aJ P c T H nx K'
 |.skip,_,_,_,_,_,h,hK=>hK _ _ _ _ h
 |.exit _,_,_,_,_,_,h,hK=>hK _ _ _ _ h
 |.ret,_,_,_,_,_,h,hK=>hK _ _ _ _ h
 |.ops m l,_,_,_,_,_,h,hK=>let ⟨T,H,nx,Hf,hg,h⟩:=h;⟨T,H,nx,Hf,hg,gl (hK .normal) l h⟩
 |.mix m l C,_,_,_,_,_,h,hK=>h.imp (λ⟨h9,T,H,nx,Hf,hg,h⟩=>⟨h9,T,H,nx,Hf,hg,gl (hK .normal) l h⟩) (λ⟨T,H,nx,Hf,hg,h⟩=>⟨T,H,nx,Hf,hg,gl (hK .normal) _ h⟩)
 |.mixS m l C,_,_,_,_,_,h,hK=>h.imp (λ⟨h9,T,H,nx,Hf,hg,h⟩=>⟨h9,T,H,nx,Hf,hg,gl (hK .normal) l h⟩) (λ⟨T,H,nx,Hf,S,hg,hs,h⟩=>⟨T,H,nx,Hf,S,hg,hs,du (hK .normal) _ h⟩)
 |.anyI l B,_,_,_,_,_,h,hK=>let ⟨T,H,nx,Hf,I,hg,h0,h1,h2⟩:=h;⟨T,H,nx,Hf,I,hg,h0,h1,λL T H nx ha hi=>hK _ _ _ _ (h2 L T H nx ha hi)⟩
 |.mixF l f C D,_,_,_,_,_,h,hK=>let ⟨T,H,nx,Hf,S,hg,hs,h⟩:=h;⟨T,H,nx,Hf,S,hg,hs,oO (hK .normal) _ h⟩
 |.seq x y,_,_,_,K,K',h,hK=>by
  refine dJ x h (λe T H nx h=>?_);cases e with
  |normal=>exact dJ y h hK
  |exit i=>exact hK _ _ _ _ h
  |ret=>exact hK _ _ _ _ h
 |.cond c x y,T,H,nx,K,K',h,hK=>by
  simp only[aJ] at h |-;unfold bF at h |-;split at h
  ·exact⟨λhb=>dJ x (h.1 hb) hK,λhb=>dJ y (h.2 hb) hK⟩
  ·exact h
 |.block id b,_,_,_,_,_,h,hK=>dJ b h (λe T H nx h=>hK _ _ _ _ h)
 |.loop b,T,H,nx,K,K',h,hK=>by
  obtain⟨n,h⟩:=h;refine⟨n,?_⟩
  induction n generalizing T H nx with
  |zero=>exact h
  |succ n ih=>
   obtain⟨T',H',nx',Hf,hw,h⟩:=h;refine⟨T',H',nx',Hf,hw,dJ b h (λe T H nx h=>?_)⟩;cases e with
   |normal=>exact ih _ _ _ h
   |exit i=>exact hK _ _ _ _ h
   |ret=>exact hK _ _ _ _ h
 |.rangeF g ps a b,T,H,nx,K,K',h,hK=>by
  obtain⟨f,caps,h1,h2⟩:=h;refine⟨f,caps,h1,λc0 cj hy=>Fn.mono (h2 c0 cj hy) ?_⟩;rintro r H' nx' (⟨k1,k2⟩|⟨e,k1,k2,k3⟩)
  ·exact .inl ⟨k1,hK _ _ _ _ k2⟩
  ·exact .inr ⟨e,k1,k2,hK _ _ _ _ k3⟩
theorem yT{P:Program}{b:C2}{T:Tm}{H:Hp}{nx:Nat}{K:CP}{X:Type}(TT:X->Tm)(HH:X->Hp)(NX:X->Nat)(φ:X->Prop)(μ:X->Nat)
    (start:∃x,φ x/\∃Hf,Gh T H nx (TT x) (HH x) (NX x) Hf)
    (step:∀x,φ x->aJ P b (TT x) (HH x) (NX x) λe T H nx=>bl e (∃y,φ y/\μ y<μ x/\∃Hf,Gh T H nx (TT y) (HH y) (NX y) Hf) (K e T H nx)):bA (aJ P b) T H nx K:=by
 have key:∀n x T H nx,μ x<n->φ x->(∃Hf,Gh T H nx (TT x) (HH x) (NX x) Hf)->tG (aJ P b) K n T H nx:=by
  intro n
  induction n with
  |zero=>intro x T H nx h;omega
  |succ n ih=>
   intro x T H nx hn hx ⟨Hf,hg⟩;refine⟨_,_,_,Hf,hg,dJ b (step x hx) (λe T H nx h=>?_)⟩;cases e with
   |normal=>
    obtain⟨y,h1,h2,h3⟩:=h;exact ih y T H nx (by omega) h1 h3
   |exit i=>exact h
   |ret=>exact h
 obtain⟨x,hx,hg⟩:=start;exact⟨_,key _ x T H nx (sZ _) hx hg⟩
def tl:List (Nat×AV)->Tm
 |[],_=>.undef
 |(d,v)::l,t=>if t=d then v else tl l t
def agr(T:Tm):List (Nat×AV)->Prop
 |[]=>True
 |(d,v)::l=>T d=v/\agr T l
theorem qG{T:Tm}:∀{l:List (Nat×AV)},agr T l->∀t,tl l t=.undef\/tl l t=T t
 |[],_,t=>.inl rfl
 |(d,v)::l,h,t=>by
  simp only[tl];split
  ·rename_i e;subst e;exact .inr h.1.symm
  ·exact qG h.2 t
theorem Gh.weak{T T':Tm}{H:Hp}{nx:Nat}(h:∀t,T' t=.undef\/T' t=T t):Gh T H nx T' H nx bi:=
 ⟨λ_ _ h=>(by cases h),bj _,λb cs h=>.inl ⟨cs,h,rfl,rfl,λi x x' h1 h2=>.inl (by rw[h1] at h2;cases h2;rfl)⟩,λt=>(h t).imp id .inl⟩
theorem fg{P:Program}{b:C2}{T:Tm}{H:Hp}{nx:Nat}{K:CP}{X:Type}(L:X->List (Nat×AV))(φ:X->Prop)(μ:X->Nat)(x0:X)
    (h0:φ x0) (hT:agr T (L x0))
    (step:∀x,φ x->aJ P b (tl (L x)) H nx λe T H' nx'=>bl e (∃y,φ y/\μ y<μ x/\agr T (L y)/\H'=H/\nx'=nx) (K e T H' nx')):bA (aJ P b) T H nx K:=by
 refine yT (λx=>tl (L x)) (λ_=>H) (λ_=>nx) φ μ ⟨x0,h0,_,Gh.weak (qG hT)⟩ (λx hx=>dJ b (step x hx) (λe T H' nx' h=>?_));cases e with
 |normal=>
  obtain⟨y,h1,h2,h3,rfl,rfl⟩:=h;exact⟨y,h1,h2,_,Gh.weak (qG h3)⟩
 |exit i=>exact h
 |ret=>exact h
@[congr] theorem aloop_congr {b:Tm->Hp->Nat->CP->Prop} {T:Tm} {H:Hp} {nx nx':Nat} {K:CP} (h:nx=nx'):bA b T H nx K=bA b T H nx' K:=by rw[h]
@[congr] theorem awp2_congr {P P':Program} {c:C2} {T:Tm} {H:Hp} {nx:Nat} {K:CP} (h:P=P'):aJ P c T H nx K=aJ P' c T H nx K:=by rw[h]
@[congr] theorem aops2_congr {P P':Program} {dm:DM} {l:List Op2} {T:Tm} {H:Hp} {nx:Nat} {K:SP} (h:P=P'):ak P dm l T H nx K=ak P' dm l T H nx K:=by rw[h]
@[congr] theorem ains_congr {P P':Program} {dm:DM} {i:Ins} {T:Tm} {H:Hp} {nx:Nat} {K:AV->Hp->Nat->Prop} (h:P=P'):bI P dm i T H nx K=bI P' dm i T H nx K:=by rw[h]
theorem AP{k:IntKind}{a b:Int}{tb tf:Bool}:aX .lss tb tf (.int k a) (.int k b)=some (.bool (decide (a<b))):=by simp[aX,dA]
theorem AO{k:IntKind}{a b:Int}{tb tf:Bool}:aX .leq tb tf (.int k a) (.int k b)=some (.bool (decide (a<=b))):=by simp[aX,dA]
theorem Ah{k:IntKind}{a b:Int}{tb tf:Bool}:aX .gtr tb tf (.int k a) (.int k b)=some (.bool (decide (a>b))):=by simp[aX,dA]
theorem AU{k:IntKind}{a b:Int}{tb tf:Bool}:aX .geq tb tf (.int k a) (.int k b)=some (.bool (decide (a≥b))):=by simp[aX,dA]
theorem AE{k:IntKind}{a b:Int}{tb tf:Bool}:aX .eql tb tf (.int k a) (.int k b)=some (.bool (decide (a=b))):=by
 simp only[aX,dA];simp;by_cases h:a=b<;>simp[h]
theorem Aa{k:IntKind}{a b:Int}{tb tf:Bool}:aX .neq tb tf (.int k a) (.int k b)=some (.bool (decide (a≠b))):=by
 simp[aX,dA,bne];rfl
theorem AC{k:IntKind}{a b:Int}{tb tf:Bool}:aX .add tb tf (.int k a) (.int k b)=some (.int k (k.wrap (a+b))):=by simp[aX,dA]
theorem AN{k:IntKind}{a b:Int}{tb tf:Bool}:aX .sub tb tf (.int k a) (.int k b)=some (.int k (k.wrap (a-b))):=by simp[aX,dA]
theorem Ak{k:IntKind}{a b:Int}{tb tf:Bool}:aX .mul tb tf (.int k a) (.int k b)=some (.int k (k.wrap (a*b))):=by simp[aX,dA]
theorem tr{a:Int}(h1:-9223372036854775808<=a)(h2:a<=9223372036854775807):IntKind.wrap .i64 a=a:=by
 rw[IntKind.wrap_i64];omega
end Go.Abs
namespace Go.Abs
open Go.RowKit
variable{P:Program}{T:Tm}{H:Hp}{nx:Nat}
theorem BK{K:CP}(h:K .normal T H nx):aJ P .skip T H nx K:=h
theorem BX{K:CP}{i:Nat}(h:K (.exit i) T H nx):aJ P (.exit i) T H nx K:=h
theorem CG{K:CP}(h:K .ret T H nx):aJ P .ret T H nx K:=h
theorem BJ{K:CP}{l:List Op2}(h:ak P .text l T H nx λT H nx=>K .normal T H nx):aJ P (.ops 0 l) T H nx K:=⟨T,H,nx,_,Gh.refl _ _ _,h⟩
theorem BN{K:CP}{l:List Op2}{C:List Nat}(h:ak P .draw l T H nx λT H nx=>K .normal T H nx):aJ P (.mix 1 l C) T H nx K:=.inl ⟨by decide,T,H,nx,_,Gh.refl _ _ _,h⟩
theorem Bz{K:CP}{l:List Op2}{C:List Nat}(h:ak P (.fresh nx) l T H nx λT H nx=>K .normal T H nx):aJ P (.mix 2 l C) T H nx K:=.inl ⟨by decide,T,H,nx,_,Gh.refl _ _ _,h⟩
theorem Am{K:CP}{l:List Op2}{C:List (Nat×Nat)}(h:ak P .draw l T H nx λT H nx=>K .normal T H nx):aJ P (.mixS 1 l C) T H nx K:=.inl ⟨by decide,T,H,nx,_,Gh.refl _ _ _,h⟩
theorem zX{K:CP}{l:List Op2}{C:List (Nat×Nat)}(h:ak P (.fresh nx) l T H nx λT H nx=>K .normal T H nx):aJ P (.mixS 2 l C) T H nx K:=.inl ⟨by decide,T,H,nx,_,Gh.refl _ _ _,h⟩
theorem wi(S:Hp){K:CP}{m:Nat}{l:List Op2}{alt:List (Op2×Nat)}{C:List (Nat×Nat)}(ha:(C.map λk=>(l.getD k.1 ⟨none,none,.dead⟩,k.2))=alt)(hs:Sub S H)(h:aU P S alt T H nx λT H nx=>K .normal T H nx):aJ P (.mixS m l C) T H nx K:=by
 subst ha;exact .inr ⟨T,H,nx,_,S,Gh.refl _ _ _,hs,h⟩
theorem Cq{S:Hp}{K:SP}(h:K T H nx):aU P S [] T H nx K:=h
theorem uG{S:Hp}{K:SP}{l:List (Op2×Nat)}{d:Option Nat}{i:Ins}{r:AV}(h:bo T S i=some r)(k:aU P S l (aD T d r) H nx K):aU P S ((⟨d,none,i⟩,0)::l) T H nx K:=by
 show aC (bo T S i) λr=>aU P S l (aD T d r) H nx K;rw[h];exact k
theorem Bd{S:Hp}{K:SP}{l:List (Op2×Nat)}{d:Option Nat}{len:Nat}{z cs:List AV}{parts:List (Nat×Nat×Opd)}{pv:List (Nat×Nat×AV)}(hp:parts.map (λp=>(p.1,p.2.1,ov T p.2.2))=pv)(hc:ej (bC (.agg z) len) pv=some cs)(hl:len≠0)(hn:cs.length=len)(ho:cs.all AV.one=true)
    (k:aU P S l (aD T d (.sl 1 cs)) H nx K):aU P S ((⟨d,none,.bldS 1 len z parts⟩,3)::l) T H nx K:=by
 show aC (ru T (.bldS 1 len z parts)) _
 have:ru T (.bldS 1 len z parts)=some (.sl 1 cs):=by
  simp only[ru,jW,hl,if_false,hp,hc,pB,ah,if_true,hn];rw[if_pos ⟨trivial,hl,ho⟩]
 rw[this];exact k
theorem qj{S:Hp}{K:SP}{l:List (Op2×Nat)}{d:Option Nat}{i:Ins}(k:ak P .text [⟨d,none,i⟩] T H nx λT H nx=>Sub S H/\aU P S l T H nx K):aU P S ((⟨d,none,i⟩,1)::l) T H nx K:=by
 have k:bI P .text i T H nx λr H nx=>Sub S H/\aU P S l (aD T d r) H nx K:=k;show bI P .text i T H nx λr H' nx'=>(0=0->Sub S H')/\aU P S l (aD T d r) H' nx' K;exact lz k (λ_ _ _ h=>⟨λ_=>h.1,h.2⟩)
theorem rI{S:Hp}{K:SP}{l:List (Op2×Nat)}{d:Option Nat}{i:Ins}(k:ak P .text [⟨d,none,i⟩] T H nx λT H nx=>aU P S l T H nx K):aU P S ((⟨d,none,i⟩,2)::l) T H nx K:=by
 have k:bI P .text i T H nx λr H nx=>aU P S l (aD T d r) H nx K:=k;show bI P .text i T H nx λr H' nx'=>(1=0->Sub S H')/\aU P S l (aD T d r) H' nx' K;exact lz k (λ_ _ _ h=>⟨λhh=>absurd hh (by decide),h⟩)
theorem Ch{K:CP}{l:List Op2}(h:ak P .draw l T H nx λT H nx=>K .normal T H nx):aJ P (.ops 1 l) T H nx K:=⟨T,H,nx,_,Gh.refl _ _ _,h⟩
theorem BC{K:CP}{l:List Op2}(h:ak P (.fresh nx) l T H nx λT H nx=>K .normal T H nx):aJ P (.ops 2 l) T H nx K:=⟨T,H,nx,_,Gh.refl _ _ _,h⟩
theorem bW{K:CP}{x y:C2}(h:aJ P x T H nx λe T H nx=>bl e (aJ P y T H nx K) (K e T H nx)):aJ P (.seq x y) T H nx K:=h
theorem pn{K:CP}{i:Nat}{b:C2}(h:aJ P b T H nx λe T H nx=>K (nN i e) T H nx):aJ P (.block i b) T H nx K:=h
theorem vS{K:CP}{c:Opd}{x y:C2}{b:Bool}(hc:ov T c=.bool b)(h1:b=true->aJ P x T H nx K)(h2:b=false->aJ P y T H nx K):aJ P (.cond c x y) T H nx K:=by
 simp only[aJ,hc];exact⟨h1,h2⟩
theorem xe{K:CP}{c:Opd}{x y:C2}(hc:ov T c=.bool true)(h1:aJ P x T H nx K):aJ P (.cond c x y) T H nx K:=
 vS hc (λ_=>h1) (λh=>by cases h)
theorem xo{K:CP}{c:Opd}{x y:C2}(hc:ov T c=.bool false)(h2:aJ P y T H nx K):aJ P (.cond c x y) T H nx K:=
 vS hc (λh=>by cases h) (λ_=>h2)
theorem BL{K:CP}{b:C2}(h:bA (aJ P b) T H nx K):aJ P (.loop b) T H nx K:=h
theorem a_n{A B:Prop}(h:A):bl .normal A B:=h
theorem a_x{A B:Prop}{i:Nat}(h:B):bl (.exit i) A B:=h
theorem a_r{A B:Prop}(h:B):bl .ret A B:=h
theorem zb{dm:DM}{K:SP}(h:K T H nx):ak P dm [] T H nx K:=h
theorem lQ{dm:DM}{K:SP}{l:List Op2}{d:Option Nat}{i:Ins}{r:AV}(hi:ic i=.val)(hd:dm2 dm T i=true)(h:bo T H i=some r)(k:ak P dm l (aD T d r) H nx K):ak P dm (⟨d,none,i⟩::l) T H nx K:=by
 show bI P dm i T H nx λr H nx=>ak P dm l (aD T d r) H nx K;unfold bI;rw[hi];exact⟨hd,by rw[h];exact k⟩
theorem qT{dm:DM}{K:SP}{l:List Op2}{d:Option Nat}{i:Ins}{r:AV}{H':Hp}{nx':Nat}(hi:ic i=.eff)(hd:dm2 dm T i=true)(h:jW T H nx i=some (r,H',nx'))(k:ak P dm l (aD T d r) H' nx' K):ak P dm (⟨d,none,i⟩::l) T H nx K:=by
 show bI P dm i T H nx λr H nx=>ak P dm l (aD T d r) H nx K;unfold bI;rw[hi];exact⟨hd,by rw[h];exact k⟩
theorem zr{K:SP}{l:List Op2}{d:Option Nat}{f:Opd}{args:List Opd}{g:FuncId}{caps:List AV}(hf:ov T f=.func g caps)(k:Fn P g (args.map (ov T)++caps) H nx λr H nx=>ak P .text l (aD T d r) H nx K):
    ak P .text (⟨d,none,.call f args⟩::l) T H nx K:=by
 left;show aC (mJ (ov T f)) _;rw[hf];exact k
theorem AM{dm:DM}(hdm:dm.isText=false){K:SP}{l:List Op2}{d:Option Nat}{f:Opd}{args:List Opd}{g:FuncId}{caps:List AV}(hf:ov T f=.func g caps)(k:bD P g (args.map (ov T)++caps) H λr=>ak P dm l (aD T d r) H nx K):
    ak P dm (⟨d,none,.call f args⟩::l) T H nx K:=by
 left;show aC (mJ (ov T f)) _;rw[hf];show(match dm.isText with|false=>_|true=>_);rw[hdm];exact k
theorem AG{K:SP}{l:List Op2}{d:Option Nat}{f:Opd}{args:List Opd}{g:FuncId}{fs xs:List AV}(hf:ov T f=.bfn g fs)(ha:fs++args.map (ov T)=xs)(k:Fn P g xs H nx λr H nx=>ak P .text l (aD T d r) H nx K):
    ak P .text (⟨d,none,.call f args⟩::l) T H nx K:=by
 right;exact⟨rfl,.inr ⟨g,fs,hf,by rw[ha];exact k⟩⟩
theorem yx{K:SP}{l:List Op2}{d:Option Nat}{i:Ins}(hi:ic i=.sp)(k:isp i T H nx λr H nx=>ak P .text l (aD T d r) H nx K):ak P .text (⟨d,none,i⟩::l) T H nx K:=by
 show bI P .text i T H nx λr H nx=>ak P .text l (aD T d r) H nx K;unfold bI;rw[hi];exact⟨rfl,k⟩
theorem Cu{K:SP}{l:List Op2}{d:Option Nat}(k:ak P .text l (aD T d (.mp nx)) (ah H nx [.omap [] []]) (nx+1) K):ak P .text (⟨d,none,.mkm none⟩::l) T H nx K:=yx rfl ⟨.inl rfl,.inl k⟩
theorem Bv{K:SP}{l:List Op2}{d:Option Nat}{kk:MK}{m key x:Opd}{b:Nat}{ks vs:List AV}{kv xv:AV}{r:Option Nat}(hm:ov T m=.mp b)(hb:H b=some [.omap ks vs])(hk:ov T key=kv)(hx:ov T x=xv)(hfit:lf kk kv=true)(hr:dE kk kv ks=some r)
    (k:ak P .text l (aD T d (.tup [])) (ah H b [.omap (dD kv r ks) (fY xv r vs)]) nx K):ak P .text (⟨d,none,.mput kk m key x⟩::l) T H nx K:=by
 subst hk hx;exact yx rfl (.inl ⟨b,ks,vs,r,hm,hb,hfit,hr,k⟩)
theorem BM{K:SP}{l:List Op2}{d:Option Nat}{kk:MK}{z:AV}{ok:Bool}{m key:Opd}{b:Nat}{ks vs:List AV}{kv:AV}{r:Option Nat}(hm:ov T m=.mp b)(hb:H b=some [.omap ks vs])(hk:ov T key=kv)(hfit:lf kk kv=true)(hr:dE kk kv ks=some r)
    (k:ak P .text l (aD T d (mget z ok r vs)) H nx K):ak P .text (⟨d,none,.mget kk z ok m key⟩::l) T H nx K:=by
 subst hk;exact yx rfl (.inl ⟨b,ks,vs,r,hm,hb,hfit,hr,k⟩)
theorem tJ{K:SP}{l:List Op2}{d:Option Nat}{x:Opd}{bs:ByteArray}(hx:ov T x=.str bs)(h0:bs.size=0->ak P .text l (aD T d (.sl 1 [])) H nx K)(h1:bs.size≠0->ak P .text l (aD T d (.msl nx bs.size 1 0 bs.size)) (ah H nx (bs.data.toList.map dW)) (nx+1) K):ak P .text (⟨d,none,.s2b x⟩::l) T H nx K:=yx rfl ⟨bs,hx,h0,h1⟩
theorem rO{K:SP}{l:List Op2}{d:Option Nat}{x:Opd}{n:Nat}{bs:List UInt8}(hx:fV 1 H (ov T x)=some (n,bs.map dW))(k:ak P .text l (aD T d (.str ⟨bs.toArray⟩)) H nx K):ak P .text (⟨d,none,.b2s x⟩::l) T H nx K:=yx rfl ⟨n,bs,hx,k⟩
theorem B7{dm:DM}{K:SP}{l:List Op2}{d:Option Nat}{i:Ins}{t:Nat}{w:Bool}(h:T t=.bool w)(k:ak P dm (⟨d,none,i⟩::l) T H nx K):ak P dm (⟨d,some (t,w),i⟩::l) T H nx K:=by
 show bn (g2 T (some (t,w))) _ _;have:g2 T (some (t,w))=some true:=by simp[g2,h]
 rw[this];exact k
theorem Cn{dm:DM}{K:SP}{l:List Op2}{d:Option Nat}{i:Ins}{t:Nat}{w:Bool}(h:T t=.bool (!w)\/T t=.tup [])(k:ak P dm l (aD T d (.tup [])) H nx K):ak P dm (⟨d,some (t,w),i⟩::l) T H nx K:=by
 show bn (g2 T (some (t,w))) _ _
 have:g2 T (some (t,w))=some false:=by
  rcases h with h|h
  ·cases w<;>simp[g2,h]
  ·simp[g2,h]
 rw[this];exact k
theorem ae{e:AEx}{A:Prop}(he:e.ends=true)(h:A):bf e.ends A:=⟨he,h⟩
theorem r_1{K:AV->Prop}{a:RV}{x:AV}(ha:rv T H a=some x)(h:K x):cb T H K [a]:=by
 show aC (rv T H a) K;rw[ha];exact h
theorem r_2{K:AV->Prop}{a b:RV}{x y:AV}(ha:rv T H a=some x)(hb:rv T H b=some y)(h:K (.tup [x,y])):cb T H K [a,b]:=by
 show aC (rv T H a) _;rw[ha];show aC (rv T H b) _;rw[hb];exact h
theorem vG{T:Tm}{t:Nat}{v:AV}(h:T t=v):upd T t v=T:=by
 funext x;simp only[upd];split
 ·rename_i e;rw[e,h]
 ·rfl
theorem CF{dm:DM}{K:SP}{l:List Op2}{d:Option Nat}{i:Ins}{t:Nat}{w b:Bool}(h:T t=.bool b)(k1:b=w->ak P dm (⟨d,none,i⟩::l) (upd T t (.bool w)) H nx K)
    (k2:b=!w->ak P dm l (aD (upd T t (.bool (!w))) d (.tup [])) H nx K):ak P dm (⟨d,some (t,w),i⟩::l) T H nx K:=by
 by_cases hb:b=w
 ·subst hb;have:=k1 rfl;rw[vG h] at this;exact B7 h this
 ·have hb':b=!w:=by cases b<;>cases w<;>simp_all
  subst hb';have:=k2 rfl;rw[vG h] at this;exact Cn (.inl h) this
theorem uQ{α:Type}{f:α->AV}{l:List α}{k:Nat}{u:AV}(d:α)(h:k<l.length):(l.map f).getD k u=f (l.getD k d):=by
 simp[List.getD,h]
theorem w9{c:Prop}[Decidable c]{x:Option AV}{r:AV}(hc:c)(h:x=some r):(if c then x else none)=some r:=by rw[if_pos hc];exact h
theorem yo{k:IntKind}{n:Int}:AV.cells (.int k n)=[.int k n]:=rfl
end Go.Abs
namespace Go.Abs
open Go.RowKit
def Dat(x:AV):Prop:=∀H,Snap H x x
theorem Dat.int{k:IntKind}{n:Int}:Dat (.int k n):=λ_=>.int _ _
theorem Dat.bool{b:Bool}:Dat (.bool b):=λ_=>.bool _
theorem Dat.str{s:ByteArray}:Dat (.str s):=λ_=>.str _
theorem Dat.esl:Dat .esl:=λ_=>.esl
theorem Dat.nilp:Dat .nilp:=λ_=>.nilp
theorem Dat.nilf:Dat .nilf:=λ_=>.nilf
theorem Dat.sl{sz:Nat}{l:List AV}(h:∀x∈l,∀c∈x.cells,Dat c):Dat (.sl sz l):=λH=>
 .sl sz l l rfl (fun i x y hx hy=>by rw [hx] at hy; cases hy; rfl) (fun i j x y a b hx hy ha hb=>by
  rw[hx] at hy;cases hy;rw[ha] at hb;cases hb;exact h x (gG hx) a (gG ha) H)
theorem Dat.agg{l:List AV}(h:∀x∈l,Dat x):Dat (.agg l):=λH=>
 .agg l l rfl (λi a c ha hc=>by rw[ha] at hc;cases hc;exact h a (gG ha) H)
theorem Dat.tup{l:List AV}(h:∀x∈l,Dat x):Dat (.tup l):=λH=>
 .tup l l rfl (λi a c ha hc=>by rw[ha] at hc;cases hc;exact h a (gG ha) H)
theorem Dat.func{f:FuncId}{l:List AV}(h:∀x∈l,Dat x):Dat (.func f l):=λH=>
 .func f l l rfl (λi a c ha hc=>by rw[ha] at hc;cases hc;exact h a (gG ha) H)
def be(l:List Int):AV:=.sl 1 (l.map (AV.int .i64))
def aF(l:List (List Int)):AV:=.sl 1 (l.map be)
theorem cW (l:List Int):Dat (be l):=Dat.sl (fun x hx c hc=>by
 obtain⟨n,_,rfl⟩:=gL.1 hx;simp only[AV.cells,qZ] at hc;subst hc;exact .int)
theorem de (l:List (List Int)):Dat (aF l):=Dat.sl (fun x hx c hc=>by
 obtain⟨n,_,rfl⟩:=gL.1 hx;simp only[be,AV.cells,qZ] at hc;subst hc;exact cW n)
theorem wy{l:List Int}:(be l).cells=[be l]:=rfl
theorem ar{H:Hp}:aQ H [] []:=aQ.nil
theorem ay{H:Hp}{x:AV}{xs ys:List AV}(h:Dat x)(hs:aQ H xs ys):aQ H (x::xs) (x::ys):=aQ.cons (h H) hs
class DatI(x:AV):Prop where
 d:Dat x
instance datI_int{k:IntKind}{n:Int}:DatI (.int k n):=⟨.int⟩
instance datI_bool{b:Bool}:DatI (.bool b):=⟨.bool⟩
instance datI_str{s:ByteArray}:DatI (.str s):=⟨.str⟩
instance datI_esl:DatI .esl:=⟨.esl⟩
instance datI_nilf:DatI .nilf:=⟨.nilf⟩
instance datI_encV{l:List Int}:DatI (be l):=⟨cW l⟩
instance datI_encVV{l:List (List Int)}:DatI (aF l):=⟨de l⟩
theorem aO{H:Hp}{x:AV}{xs ys:List AV}[h:DatI x](hs:aQ H xs ys):aQ H (x::xs) (x::ys):=ay h.d hs
variable{P:Program}{T:Tm}{H:Hp}{nx:Nat}
theorem mo{dm:DM}{K:SP}{l:List Op2}{d:Option Nat}{f:Opd}{args:List Opd}{g:FuncId}{caps xs ys:List AV}{r:AV}(hf:ov T f=.func g caps)(ha:args.map (ov T)++caps=xs)
    (hp:Pure P g ys r) (hs:ax H xs ys r) (k:ak P dm l (aD T d r) H nx K):ak P dm (⟨d,none,.call f args⟩::l) T H nx K:=by
 subst ha;cases hd:dm.isText with
 |false=>exact AM hd hf (bD.of_pure hp hs k)
 |true=>
  cases dm with
  |text=>exact zr hf (Fn.of_pure hp hs k)
  |draw=>cases hd
  |fresh m=>cases hd
theorem xn{dm:DM}{K:SP}{l:List Op2}{d:Option Nat}{f:Opd}{args:List Opd}{g:FuncId}{caps xs:List AV}{r:AV}(hf:ov T f=.func g caps)(ha:args.map (ov T)++caps=xs)
    (hp:Pure P g xs r) (hs:ax H xs xs r) (k:ak P dm l (aD T d r) H nx K):ak P dm (⟨d,none,.call f args⟩::l) T H nx K:=mo hf ha hp hs k
theorem az{xs ys:List AV}{r:AV}{H:Hp}(h:aQ bi xs ys):ax H xs ys r:=.inl h
theorem aq{xs ys:List AV}{r:AV}{H:Hp}(h:aQ H xs ys)(hr:r.sca=true):ax H xs ys r:=.inr ⟨h,hr⟩
theorem pG{α:Type}[Inhabited α]{f:α->AV}{l:List α}{sz:Nat}{k:IntKind}{n:Int}:ja sz (.sl sz (l.map f)) (.int k n)=if 0<=n/\n<l.length then some (.iptr (f (l.getD n.toNat default)).cells 0) else none:=by
 simp only[ja,true_and,eG];split
 ·rename_i h;rw[uQ default (by omega)]
 ·rfl
theorem nS{α:Type}{f:α->AV}{l:List α}{sz:Nat}:ef (.sl sz (l.map f))=some (.int .i64 l.length):=by simp[ef]
theorem rJ{l:List Int}{k:IntKind}{n:Int}:ja 1 (be l) (.int k n)=if 0<=n/\n<l.length then some (.iptr [.int .i64 (l.getD n.toNat default)] 0) else none:=pG
theorem wC{l:List (List Int)}{k:IntKind}{n:Int}:ja 1 (aF l) (.int k n)=if 0<=n/\n<l.length then some (.iptr [be (l.getD n.toNat default)] 0) else none:=pG
theorem qW{l:List Int}:ef (be l)=some (.int .i64 l.length):=nS
theorem uu{l:List (List Int)}:ef (aF l)=some (.int .i64 l.length):=nS
end Go.Abs
namespace Go.Abs
theorem SA:(∀(T:Tm)(n:Nat),ov T (.t n)=T n)/\(∀(T:Tm)(v:AV),ov T (.c v)=v)/\(∀(T:Tm)(d t:Nat)(v:AV),upd T d v t=if t=d then v else T t)/\(∀(T:Tm)(d:Nat)(v:AV),aD T (some d) v=upd T d v)/\
    (∀(T:Tm)(v:AV),aD T none v=T)/\(∀(x:AV)(l:List AV),T0 (x::l) 0=x)/\(∀(x:AV)(l:List AV)(n:Nat),T0 (x::l) (n+1)=T0 l n)/\(∀n:Nat,T0 [] n=.undef)/\
    (∀(d t:Nat)(v:AV)(l:List (Nat×AV)),tl ((d,v)::l) t=if t=d then v else tl l t)/\(∀t:Nat,tl [] t=.undef)/\
    (∀(T:Tm)(t:Nat)(ts:List Nat)(x:AV)(xs:List AV),ky T (t::ts) (x::xs)=ky (upd T t x) ts xs)/\(∀(T:Tm)(xs:List AV),ky T [] xs=T):=
 ⟨λ_ _=>rfl,λ_ _=>rfl,λ_ _ _ _=>rfl,λ_ _ _=>rfl,λ_ _=>rfl,λ_ _=>rfl,λ_ _ _=>rfl,λ_=>rfl,λ_ _ _ _=>rfl,λ_=>rfl,λ_ _ _ _ _=>rfl,λ_ xs=>by cases xs<;>rfl⟩
theorem wQ{H:Hp}{b n off:Nat}{cs:List AV}(h:H b=some cs)(hn:cs.length=n):rd1 H (.ptr b n off)=cs[off]?:=by
 simp only[rd1,h,hn,if_true]
theorem SV:(∀(T:Tm)(H:Hp)(x:Opd),bo T H (.mov x)=some (ov T x))/\
    (∀(T:Tm)(H:Hp)(c a b:Opd),bo T H (.pick c a b)=match ov T c with|.bool t=>some (if t=true then ov T a else ov T b)|_=>none)/\
    (∀(T:Tm)(H:Hp)(a:Opd),bo T H (.ld1 a)=rd1 H (ov T a))/\(∀(T:Tm)(H:Hp)(k:Nat)(a:Opd),bo T H (.ldn k a)=(rd H k (ov T a)).map .agg)/\
    (∀(T:Tm)(H:Hp)(op:BinOp)(tb tf:Bool)(x y:Opd),bo T H (.bin op tb tf x y)=aX op tb tf (ov T x) (ov T y))/\
    (∀(T:Tm)(H:Hp)(op:UnOp)(x:Opd),bo T H (.un op x)=aun op (ov T x))/\
    (∀(T:Tm)(H:Hp)(f:FuncId)(caps:List Opd),bo T H (.mkfn f caps)=some (.func f (caps.map (ov T))))/\
    (∀(T:Tm)(H:Hp)(k:Nat)(p:Opd),bo T H (.fa k p)=kf k (ov T p))/\
    (∀(T:Tm)(H:Hp)(sz:Nat)(x i:Opd),bo T H (.ixaS sz x i)=ja sz (ov T x) (ov T i))/\
    (∀(T:Tm)(H:Hp)(x:Opd)(i:Nat),bo T H (.ext x i)=gC (ov T x) i)/\
    (∀(T:Tm)(H:Hp)(x:Opd),bo T H (.lenS x)=ef (ov T x))/\
    (∀(T:Tm)(H:Hp)(z:List AV)(parts:List (Nat×Nat×Opd)),bo T H (.bld z parts)=(ej z (parts.map λp=>(p.1,p.2.1,ov T p.2.2))).map .agg)/\
    (∀(T:Tm)(H:Hp)(x:Opd)(l:List Opd),bo T H (.mx x l)=gr mY (ov T x) (l.map (ov T)))/\
    (∀(T:Tm)(H:Hp)(x:Opd)(l:List Opd),bo T H (.mn x l)=gr mQ (ov T x) (l.map (ov T)))/\
    (∀(T:Tm)(H:Hp)(k:IntKind)(x:Opd),bo T H (.conv k x)=lH (ov T x) λn=>some (.int k (k.wrap n)))/\
    (∀(T:Tm)(H:Hp)(sz:Nat)(x:Opd)(lo hi mx:Option Opd),bo T H (.sls sz x lo hi mx)=xz sz (ov T x) (lo.map (ov T)) (hi.map (ov T)) (mx.map (ov T)))/\
    (∀(T:Tm)(H:Hp)(off:Nat)(x:Opd),bo T H (.part1 off x)=dS (ov T x) λcs=>cs[off]?)/\
    (∀(T:Tm)(H:Hp)(op:BinOp)(ks:List TK)(x y:Opd),bo T H (.binS op ks x y)=dS (ov T x) λxs=>dS (ov T y) λys=>pC op ks xs ys):=
 ⟨fun _ _ _=>rfl,fun _ _ _ _ _=>rfl,fun _ _ _=>rfl,fun _ _ _ _=>rfl,fun _ _ _ _ _ _ _=>rfl,fun _ _ _ _=>rfl,fun _ _ _ _=>rfl,fun _ _ _ _=>rfl,fun _ _ _ _ _=>rfl,fun _ _ _ _=>rfl,fun _ _ _=>rfl,
  λ_ _ _ _=>rfl,λ_ _ _ _=>rfl,λ_ _ _ _=>rfl,λ_ _ _ _=>rfl,λ_ _ _ _ _ _ _=>rfl,λ_ _ _ _=>rfl,λ_ _ _ _ _ _=>rfl⟩
def lA:AV->Option AV
 |.str s=>some (.int .i64 s.size)
 |_=>none
def kI:AV->AV->Option AV
 |.str s,.int _ n=>if 0<=n/\n<s.size then some (.int .u8 (s[n.toNat]?.getD 0).toNat) else none
 |_,_=>none
theorem SV2:(∀(T:Tm)(H:Hp)(n:Nat)(x:Opd)(lo hi:Option Opd),bo T H (.slsA n x lo hi)=lS n (ov T x) (lo.map (ov T)) (hi.map (ov T)) none)/\
    (∀(T:Tm)(H:Hp)(f:FuncId)(l:List Opd),bo T H (.mkbf f l)=some (.bfn f (l.map (ov T))))/\
    (∀(T:Tm)(H:Hp)(x:Opd),bo T H (.lenStr x)=lA (ov T x))/\
    (∀(T:Tm)(H:Hp)(x i:Opd),bo T H (.ixStr x i)=kI (ov T x) (ov T i))/\
    (∀(T:Tm)(H:Hp)(x:Opd)(lo hi:Option Opd),bo T H (.slstr x lo hi)=fw (ov T x) (lo.map (ov T)) (hi.map (ov T)))/\
    (∀(T:Tm)(H:Hp)(off k:Nat)(x:Opd),bo T H (.partn off k x)=dS (ov T x) λcs=>if off+k<=cs.length then some (.agg ((cs.drop off).take k)) else none)/\
    (∀(T:Tm)(H:Hp)(n:Nat),bo T H (.lenC n)=some (.int .i64 n))/\
    (∀(s:ByteArray),lA (.str s)=some (.int .i64 s.size))/\
    (∀(s:ByteArray)(k:IntKind)(n:Int),kI (.str s) (.int k n)=if 0<=n/\n<s.size then some (.int .u8 (s[n.toNat]?.getD 0).toNat) else none):=
 ⟨fun _ _ _ _ _ _=>rfl,fun _ _ _ _=>rfl,fun T H x=>by
  simp only[bo];cases ov T x<;>rfl,λT H x i=>by
  simp only[bo];cases ov T x<;>cases ov T i<;>rfl,λ_ _ _ _ _=>rfl,λ_ _ _ _ _=>rfl,λ_ _ _=>rfl,λ_=>rfl,λ_ _ _=>rfl⟩
theorem SN:(∀(k:IntKind)(a b:Int)(tb tf:Bool),aX .lss tb tf (.int k a) (.int k b)=some (.bool (decide (a<b))))/\(∀(k:IntKind)(a b:Int)(tb tf:Bool),aX .leq tb tf (.int k a) (.int k b)=some (.bool (decide (a<=b))))/\
    (∀(k:IntKind)(a b:Int)(tb tf:Bool),aX .gtr tb tf (.int k a) (.int k b)=some (.bool (decide (b<a))))/\(∀(k:IntKind)(a b:Int)(tb tf:Bool),aX .geq tb tf (.int k a) (.int k b)=some (.bool (decide (b<=a))))/\
    (∀(k:IntKind)(a b:Int)(tb tf:Bool),aX .eql tb tf (.int k a) (.int k b)=some (.bool (decide (a=b))))/\(∀(k:IntKind)(a b:Int)(tb tf:Bool),aX .neq tb tf (.int k a) (.int k b)=some (.bool (decide (a≠b))))/\
    (∀(k:IntKind)(a b:Int)(tb tf:Bool),aX .add tb tf (.int k a) (.int k b)=some (.int k (k.wrap (a+b))))/\(∀(k:IntKind)(a b:Int)(tb tf:Bool),aX .sub tb tf (.int k a) (.int k b)=some (.int k (k.wrap (a-b))))/\
    (∀(k:IntKind)(a b:Int)(tb tf:Bool),aX .mul tb tf (.int k a) (.int k b)=some (.int k (k.wrap (a*b))))/\
    (∀(a b:Bool)(tf:Bool),aX .eql true tf (.bool a) (.bool b)=some (.bool (a==b)))/\(∀(a b:Bool)(tf:Bool),aX .neq true tf (.bool a) (.bool b)=some (.bool (!(a==b))))/\
    (∀tb:Bool,aX .eql tb true .nilf .nilf=some (.bool true))/\(∀tb:Bool,aX .neq tb true .nilf .nilf=some (.bool false))/\
    (∀(tb:Bool)(f:FuncId)(c:List AV),aX .eql tb true (.func f c) .nilf=some (.bool false))/\(∀(tb:Bool)(f:FuncId)(c:List AV),aX .neq tb true (.func f c) .nilf=some (.bool true))/\
    (∀b:Bool,aun .not (.bool b)=some (.bool (!b)))/\
    (∀(k:IntKind)(a b:Int),mY (.int k a) (.int k b)=some (.int k (max a b)))/\(∀(k:IntKind)(a b:Int),mQ (.int k a) (.int k b)=some (.int k (min a b)))/\
    (∀(f:AV->AV->Option AV)(x:AV),gr f x []=some x)/\(∀(f:AV->AV->Option AV)(x y:AV)(l:List AV),gr f x (y::l)=match f x y with|some z=>gr f z l|none=>none)/\
    (∀(k:Nat)(b n off:Nat),kf k (.ptr b n off)=some (.ptr b n (off+k)))/\(∀(k:Nat)(cs:List AV)(off:Nat),kf k (.iptr cs off)=some (.iptr cs (off+k)))/\
    (∀(cs:List AV)(off:Nat),rd1 bi (.iptr cs off)=cs[off]?):=
 ⟨fun _ _ _ _ _=>AP,fun _ _ _ _ _=>AO,fun _ _ _ _ _=>Ah,fun _ _ _ _ _=>AU,fun _ _ _ _ _=>AE,fun _ _ _ _ _=>Aa,fun _ _ _ _ _=>AC,fun _ _ _ _ _=>AN,fun _ _ _ _ _=>Ak,
  λ_ _ _=>rfl,λ_ _ _=>rfl,λ_=>rfl,λ_=>rfl,λ_ _ _=>rfl,λ_ _ _=>rfl,λ_=>rfl,
  λk a b=>by simp only[mY,Int.max_def];split<;>split<;>simp <;>omega,λk a b=>by simp only[mQ,Int.min_def];split<;>split<;>simp <;>omega,λ_ _=>rfl,λ_ _ _ _=>rfl,λ_ _ _ _=>rfl,λ_ _ _=>rfl,λ_ _=>rfl⟩
theorem SL:(∀(a:AV)(l:List AV),(a::l)[0]?=some a)/\(∀(a:AV)(l:List AV)(n:Nat),(a::l)[n+1]?=l[n]?)/\(∀(l:List AV),l.drop 0=l)/\(∀(a:AV)(l:List AV)(n:Nat),(a::l).drop (n+1)=l.drop n)/\(∀n:Nat,([]:List AV).drop n=[])/\
    (∀(l:List AV),l.take 0=[])/\(∀(a:AV)(l:List AV)(n:Nat),(a::l).take (n+1)=a::l.take n)/\(∀n:Nat,([]:List AV).take n=[])/\(∀(l:List AV),[]++l=l)/\(∀(l:List AV),l++[]=l)/\(∀(a:AV)(l m:List AV),(a::l)++m=a::(l++m))/\
    (∀(cs:List AV)(off:Nat)(new:List AV),dr cs off new=cs.take off++new++cs.drop (off+new.length))/\(([]:List AV).length=0)/\(∀(a:AV)(l:List AV),(a::l).length=l.length+1)/\
    (∀(k:IntKind)(n:Int),(AV.int k n).cells=[.int k n])/\(∀b:Bool,(AV.bool b).cells=[.bool b])/\(∀s:ByteArray,(AV.str s).cells=[.str s])/\(∀(k:Nat)(l:List AV),(AV.sl k l).cells=[.sl k l])/\(∀l:List AV,(AV.agg l).cells=l)/\(AV.esl.cells=[.esl])/\(AV.nilf.cells=[.nilf])/\
    (∀(f:FuncId)(c:List AV),(AV.func f c).cells=[.func f c])/\(∀(b n off:Nat),(AV.ptr b n off).cells=[.ptr b n off])/\(∀(c:List AV)(off:Nat),(AV.iptr c off).cells=[.iptr c off])/\(∀(b n sz off len:Nat),(AV.msl b n sz off len).cells=[.msl b n sz off len])/\(∀b:Nat,(AV.yld b).cells=[.yld b])/\(∀b:Nat,(AV.mp b).cells=[.mp b])/\(AV.nilp.cells=[.nilp])/\(∀(f:FuncId)(c:List AV),(AV.bfn f c).cells=[.bfn f c]):=
 ⟨fun _ _=>rfl,fun _ _ _=>rfl,fun _=>rfl,fun _ _ _=>rfl,fun n=>by cases n <;> rfl,fun _=>rfl,fun _ _ _=>rfl,fun n=>by cases n <;> rfl,fun _=>rfl,fun l=>kp l,fun _ _ _=>rfl,fun _ _ _=>rfl,rfl,fun _ _=>rfl,
  λ_ _=>rfl,λ_=>rfl,λ_=>rfl,λ_ _=>rfl,λ_=>rfl,rfl,rfl,λ_ _=>rfl,λ_ _ _=>rfl,λ_ _=>rfl,λ_ _ _ _ _=>rfl,λ_=>rfl,λ_=>rfl,rfl,λ_ _=>rfl⟩
def AV.ones(l:List AV):Bool:=l.all AV.one
theorem lX{x:AV}:x.flat=AV.ones x.cells:=rfl
theorem SO:(AV.ones []=true)/\(∀(a:AV)(l:List AV),AV.ones (a::l)=(a.one&&AV.ones l))/\(∀(k:IntKind)(n:Int),(AV.int k n).one=true)/\(∀b:Bool,(AV.bool b).one=true)/\(∀s:ByteArray,(AV.str s).one=true)/\(∀(k:Nat)(l:List AV),(AV.sl k l).one=true)/\(AV.esl.one=true)/\(AV.nilf.one=true)/\
    (∀(f:FuncId)(c:List AV),(AV.func f c).one=true)/\(∀(b n off:Nat),(AV.ptr b n off).one=true)/\(∀(c:List AV)(off:Nat),(AV.iptr c off).one=true)/\(∀(b n sz off len:Nat),(AV.msl b n sz off len).one=true)/\(∀b:Nat,(AV.yld b).one=true)/\(∀b:Nat,(AV.mp b).one=true)/\(AV.nilp.one=true)/\(∀l:List AV,l.all AV.one=AV.ones l):=
 ⟨rfl,λ_ _=>by simp[AV.ones],λ_ _=>rfl,λ_=>rfl,λ_=>rfl,λ_ _=>rfl,rfl,rfl,λ_ _=>rfl,λ_ _ _=>rfl,λ_ _=>rfl,λ_ _ _ _ _=>rfl,λ_=>rfl,λ_=>rfl,rfl,λ_=>rfl⟩
variable{P:Program}{T:Tm}{H:Hp}{nx:Nat}
theorem wU{dm:DM}{K:SP}{l:List Op2}{d:Option Nat}{z:AV}{cs:List AV}(hd:dm2 dm T (.alloc z)=true)(hc:z.cells=cs)(ho:AV.ones cs=true)(k:ak P dm l (aD T d (.ptr nx cs.length 0)) (ah H nx cs) (nx+1) K):ak P dm (⟨d,none,.alloc z⟩::l) T H nx K:=by
 subst hc;refine qT rfl hd ?_ k;simp only[jW,rk];rw[if_pos (show z.flat=true from ho)]
theorem CA{dm:DM}{K:SP}{l:List Op2}{d:Option Nat}{x:Opd}{v:AV}{cs:List AV}(hd:dm2 dm T (.box x)=true)(hx:ov T x=v)(hc:v.cells=cs)(ho:AV.ones cs=true)(k:ak P dm l (aD T d (.ptr nx cs.length 0)) (ah H nx cs) (nx+1) K):ak P dm (⟨d,none,.box x⟩::l) T H nx K:=by
 subst hc hx;refine qT rfl hd ?_ k;simp only[jW,rk];rw[if_pos (show(ov T x).flat=true from ho)]
theorem tp{dm:DM}{K:SP}{l:List Op2}{d:Option Nat}{sz:Nat}{p x:Opd}{b n off:Nat}{v:AV}{cs vs:List AV}(hd:dm2 dm T (.st sz p x)=true)(hp:ov T p=.ptr b n off)(hx:ov T x=v)(hb:H b=some cs)(hc:v.cells=vs)(ho:AV.ones vs=true)(hn:cs.length=n)(hl:vs.length=sz)(hf:off+sz<=n)
    (k:ak P dm l (aD T d (.tup [])) (ah H b (dr cs off vs)) nx K):ak P dm (⟨d,none,.st sz p x⟩::l) T H nx K:=by
 subst hc hx;refine qT rfl hd ?_ k;simp only[jW,hp,hb];rw[if_pos ⟨hn,ho,hl,hf⟩]
theorem Co{dm:DM}{K:SP}{l:List Op2}{d:Option Nat}{sz bytes:Nat}{z:List AV}{x y:Opd}{k1 k2:IntKind}{n m:Int}(hd:dm2 dm T (.mks sz bytes z x y)=true)(hx:ov T x=.int k1 n)(hy:ov T y=.int k2 m)(h0:0<=n)(h1:n<=m)(h2:m<=9223372036854775807)(h3:bytes*m<=281474976710656)
    (k:ak P dm l (aD T d (.msl nx (m.toNat*sz) sz 0 n.toNat)) (ah H nx (bC (.agg z) m.toNat)) (nx+1) K):ak P dm (⟨d,none,.mks sz bytes z x y⟩::l) T H nx K:=by
 refine qT rfl hd ?_ k;simp only[jW,hx,hy];rw[if_pos ⟨h0,h1,h2,h3⟩]
theorem Bc{dm:DM}{K:SP}{l:List Op2}{d:Option Nat}{sz len:Nat}{z:List AV}{parts:List (Nat×Nat×Opd)}{pv:List (Nat×Nat×AV)}{cs:List AV}(hd:dm2 dm T (.bldS sz len z parts)=true)(hl:len≠0)(hp:parts.map (λp=>(p.1,p.2.1,ov T p.2.2))=pv)(hc:ej (bC (.agg z) len) pv=some cs)
    (k:ak P dm l (aD T d (.msl nx cs.length sz 0 len)) (ah H nx cs) (nx+1) K):ak P dm (⟨d,none,.bldS sz len z parts⟩::l) T H nx K:=by
 refine qT rfl hd ?_ k;simp only[jW,hl,if_false,hp,hc]
theorem BU{dm:DM}{K:SP}{l:List Op2}{d:Option Nat}{sz bytes n:Nat}{s x:Opd}{v:AV}{new:List AV}(hd:dm2 dm T (.app sz bytes s x)=true)(hs:ov T s=.esl)(hx:ov T x=v)(hsrc:fV sz H v=some (n,new))(ho:AV.ones new=true)(h1:n*bytes<=140737488355328)(h2:n<=9223372036854775807)
    (k:ak P dm l (aD T d (.msl nx (n*sz) sz 0 n)) (ah H nx new) (nx+1) K):ak P dm (⟨d,none,.app sz bytes s x⟩::l) T H nx K:=by
 subst hx;refine qT rfl hd ?_ k;simp only[jW,Cf,hs,hsrc];rw[if_pos (show new.all AV.one=true from ho),if_pos ⟨h1,h2⟩]
theorem CI{dm:DM}{K:SP}{l:List Op2}{d:Option Nat}{sz bytes n:Nat}{s x:Opd}{v:AV}{new cs:List AV}{b m len:Nat}(hd:dm2 dm T (.app sz bytes s x)=true)(hs:ov T s=.msl b m sz 0 len)(hb:H b=some cs)(hx:ov T x=v)(hsrc:fV sz H v=some (n,new))(ho:AV.ones new=true)(hm:cs.length=m)(hl:m=len*sz)
    (h1:(len+n)*bytes<=140737488355328) (h2:len+n<=9223372036854775807)
    (k:ak P dm l (aD T d (.msl b ((len+n)*sz) sz 0 (len+n))) (ah H b (cs++new)) nx K):ak P dm (⟨d,none,.app sz bytes s x⟩::l) T H nx K:=by
 subst hx;refine qT rfl hd ?_ k;simp only[jW,Cf,hs,hsrc,hb];rw[if_pos (show new.all AV.one=true from ho),if_pos ⟨hm,trivial⟩,if_pos ⟨trivial,hl,h1,h2⟩]
theorem wN{sz:Nat}{l:List AV}:fV sz H (.sl sz l)=some (l.length,l.flatMap AV.cells):=by simp[fV]
theorem jB{sz b n off len:Nat}{cs:List AV}(h:H b=some cs)(hn:cs.length=n)(hf:off+len*sz<=n):fV sz H (.msl b n sz off len)=some (len,(cs.drop off).take (len*sz)):=by
 simp only[fV];split
 ·rename_i h0;subst h0;simp
 ·simp only[h,hn,true_and,hf,if_true]
theorem SR:(∀(H:Hp)(b n off:Nat),rd1 H (.ptr b n off)=match H b with|some cs=>if cs.length=n then cs[off]? else none|none=>none)/\
    (∀(H:Hp)(k b n off:Nat),rd H k (.ptr b n off)=match H b with|some cs=>if cs.length=n/\off+k<=n then some ((cs.drop off).take k) else none|none=>none)/\
    (∀(H:Hp)(cs:List AV)(off:Nat),rd1 H (.iptr cs off)=cs[off]?)/\(∀(H:Hp)(cs:List AV)(off k:Nat),rd H k (.iptr cs off)=if off+k<=cs.length then some ((cs.drop off).take k) else none)/\
    (∀(l:List AV)(i:Nat),gC (.tup l) i=l[i]?)/\(∀(l:List AV)(f:List AV->Option AV),dS (.agg l) f=f l)/\(∀(k:IntKind)(n:Int)(f:Int->Option AV),lH (.int k n) f=f n)/\
    (∀(cs:List AV),ej cs []=some cs)/\
    (∀(cs:List AV)(off sz:Nat)(x:AV)(r:List (Nat×Nat×AV)),ej cs ((off,sz,x)::r)=if AV.ones x.cells=true/\x.cells.length=sz/\off+sz<=cs.length then ej (dr cs off x.cells) r else none)/\
    (∀(b n sz off len:Nat),ef (.msl b n sz off len)=some (.int .i64 len))/\(ef .esl=some (.int .i64 0))/\(∀(sz:Nat)(l:List AV),ef (.sl sz l)=some (.int .i64 l.length))/\
    (∀(z:AV),bC z 0=[])/\(∀(z:AV)(n:Nat),bC z (n+1)=z.cells++bC z n):=
 ⟨λ_ _ _ _=>rfl,λ_ _ _ _ _=>rfl,λ_ _ _=>rfl,λ_ _ _ _=>rfl,λl i=>by cases l<;>rfl,λ_ _=>rfl,λ_ _ _=>rfl,λ_=>rfl,λ_ _ _ _ _=>rfl,λ_ _ _ _ _=>rfl,rfl,λ_ _=>rfl,λ_=>rfl,λz n=>by simp[bC,List.replicate_succ]⟩
end Go.Abs
namespace Go.Abs
theorem ap{H:Hp}{a b:Bool}(h:a=b):Snap H (.bool a) (.bool b):=by subst h;exact .bool _
theorem bE{H:Hp}{k:IntKind}{a b:Int}(h:a=b):Snap H (.int k a) (.int k b):=by subst h;exact .int _ _
theorem zu{H:Hp}{l m:List AV}(h:aQ H l m):Snap H (.tup l) (.tup m):=.tup l m h.1 h.2
theorem vE{H:Hp}{l m:List AV}(h:aQ H l m):Snap H (.agg l) (.agg m):=.agg l m h.1 h.2
theorem aV{H:Hp}{x y:AV}{xs ys:List AV}(h:Snap H x y)(hs:aQ H xs ys):aQ H (x::xs) (y::ys):=aQ.cons h hs
theorem Dat.snap{H:Hp}{x:AV}(h:Dat x):Snap H x x:=h H
theorem dL{P:Program}{b:C2}{T:Tm}{H:Hp}{nx:Nat}{K:CP}{X:Type}(L:X->List (Nat×AV))(I:X->Hp->Nat->Prop)(μ:X->Nat)(x0:X)(h0:I x0 H nx)(hT:agr T (L x0))
    (step:∀x H nx,I x H nx->aJ P b (tl (L x)) H nx λe T H' nx'=>bl e (∃y,μ y<μ x/\I y H' nx'/\agr T (L y)) (K e T H' nx')):bA (aJ P b) T H nx K:=by
 refine yT (X:=X×Hp×Nat) (λx=>tl (L x.1)) (λx=>x.2.1) (λx=>x.2.2) (λx=>I x.1 x.2.1 x.2.2) (λx=>μ x.1) ⟨(x0,H,nx),h0,_,Gh.weak (qG hT)⟩ (λx hx=>dJ b (step x.1 x.2.1 x.2.2 hx) (λe T H' nx' h=>?_));cases e with
 |normal=>
  obtain⟨y,h1,h2,h3⟩:=h;exact⟨(y,H',nx'),h2,h1,_,Gh.weak (qG h3)⟩
 |exit i=>exact h
 |ret=>exact h
def av(Hf:Hp)(cs cs':List AV):Prop:=cs'.length=cs.length/\∀(i:Nat)(x x':AV),cs[i]?=some x->cs'[i]?=some x'->x'=x\/Snap Hf x x'
theorem av.refl(Hf:Hp)(cs:List AV):av Hf cs cs:=⟨rfl,λi x x' h1 h2=>.inl (by rw[h1] at h2;cases h2;rfl)⟩
theorem av.snoc{Hf:Hp}{cs:List AV}{x x':AV}(h:Snap Hf x x'):av Hf (cs++[x]) (cs++[x']):=by
 refine⟨by simp,λi y y' h1 h2=>?_⟩;by_cases hi:i<cs.length
 ·rw[gH hi] at h1 h2;rw[h1] at h2;cases h2;exact .inl rfl
 ·rw[ij (by omega)] at h1 h2;cases hj:i-cs.length with
  |zero=>rw[hj] at h1 h2;simp at h1 h2;subst h1 h2;exact .inr h
  |succ j=>rw[hj] at h1;simp at h1
structure Fz(Hf H H':Hp):Prop where
 sub:∀b cs,Hf b=some cs->H b=some cs
 to:∀b cs',H' b=some cs'->∃cs,H b=some cs/\Hf b=none/\av Hf cs cs'
def uf(Hf:Hp)(T:Tm):List (Nat×AV)->Prop
 |[]=>True
 |(d,v)::l=>(T d=v\/Snap Hf (T d) v)/\uf Hf T l
theorem xd{Hf:Hp}{T:Tm}:∀{l:List (Nat×AV)},uf Hf T l->∀t,tl l t=.undef\/tl l t=T t\/Snap Hf (T t) (tl l t)
 |[],_,t=>.inl rfl
 |(d,v)::l,h,t=>by
  simp only[tl];split
  ·rename_i e;subst e;rcases h.1 with h1|h1
   ·exact .inr (.inl h1.symm)
   ·exact .inr (.inr h1)
  ·exact xd h.2 t
theorem Fz.gh{Hf H H':Hp}{T:Tm}{l:List (Nat×AV)}{nx:Nat}(h:Fz Hf H H')(ha:uf Hf T l):Gh T H nx (tl l) H' nx Hf:=
 ⟨h.sub,bj _,fun b cs' hb=>by
  obtain⟨cs,h1,h2,h3,h4⟩:=h.to b cs' hb;exact .inl ⟨cs,h1,h2,h3,λi x x' hx hx'=>(h4 i x x' hx hx').imp id .inl⟩,λt=>by
  rcases xd ha t with h1|h1|h1
  ·exact .inl h1
  ·exact .inr (.inl h1)
  ·exact .inr (.inr (.inl h1))⟩
def only(b:Nat)(cs:List AV):Hp:=λx=>if x=b then some cs else none
theorem j7{b:Nat}{cs:List AV}:only b cs b=some cs:=by simp[only]
theorem eJ{P:Program}{T:Tm}{H:Hp}{nx:Nat}{K:CP}{l:List Op2}(Hf H':Hp)(L:List (Nat×AV))(hf:Fz Hf H H')(ha:uf Hf T L)(h:ak P .text l (tl L) H' nx λT H nx=>K .normal T H nx):aJ P (.ops 0 l) T H nx K:=⟨_,H',nx,Hf,hf.gh ha,h⟩
theorem Fz.one{H:Hp}{b:Nat}{cs:List AV}(hb:H b=some cs):Fz (only b cs) H (e8 H b):=
 ⟨fun x c h=>by unfold only at h; split at h <;> cases h; subst_vars; exact hb,fun x c h=>by
  have:=lw h;exact⟨c,this.2,by simp[only,this.1],av.refl _ _⟩⟩
theorem Fz.all{H:Hp}:Fz H H bi:=⟨λ_ _ h=>h,λ_ _ h=>(by cases h)⟩
theorem bz{T:Tm}{Hf:Hp}:∀{l:List (Nat×AV)},agr T l->uf Hf T l
 |[],_=>trivial
 |(_,_)::_,h=>⟨.inl h.1,bz h.2⟩
theorem iV{P:Program}{b:C2}{T:Tm}{H:Hp}{nx:Nat}{K:CP}{X:Type}(L:X->List (Nat×AV))(I:X->Hp->Nat->Prop)(μ:X->Nat)(x0:X)(h0:∃Hf H',Fz Hf H H'/\I x0 H' nx/\uf Hf T (L x0))
    (step:∀x H nx,I x H nx->aJ P b (tl (L x)) H nx λe T H' nx'=>bl e (∃y,μ y<μ x/\∃Hf H'',Fz Hf H' H''/\I y H'' nx'/\uf Hf T (L y)) (K e T H' nx')):bA (aJ P b) T H nx K:=by
 obtain⟨Hf,H0,hf,hI,ha⟩:=h0;refine yT (X:=X×Hp×Nat) (λx=>tl (L x.1)) (λx=>x.2.1) (λx=>x.2.2) (λx=>I x.1 x.2.1 x.2.2) (λx=>μ x.1) ⟨(x0,H0,nx),hI,_,hf.gh ha⟩ (λx hx=>dJ b (step x.1 x.2.1 x.2.2 hx) (λe T H' nx' h=>?_));cases e with
 |normal=>
  obtain⟨y,h1,Hf,H'',h2,h3,h4⟩:=h;exact⟨(y,H'',nx'),h3,h1,_,h2.gh h4⟩
 |exit i=>exact h
 |ret=>exact h
theorem Fz.none{H:Hp}:Fz bi H H:=⟨λ_ _ h=>(by cases h),λb cs h=>⟨cs,h,rfl,av.refl _ _⟩⟩
theorem rV{α:Type}[DecidableEq α](k:MK)(enc:α->AV)(h:∀a b,mV k (enc a) (enc b)=some (decide (a=b)))(v:α):∀ks:List α,dE k (enc v) (ks.map enc)=some (if v∈ks then some (ks.idxOf v) else none)
 |[]=>rfl
 |x::l=>by
  simp only[gD,dE,h];by_cases e:v=x
  ·subst e;simp
  ·have e':x≠v:=λh=>e h.symm;simp only[e,decide_false,rV k enc h v l,ko,nj,false_or];by_cases hm:v∈l
   ·simp only[hm,if_true,ko];simp[List.idxOf_cons,beq_eq_false_iff_ne.2 e']
   ·simp[hm]
theorem nP{α:Type}{l:List α}{n k:Nat}{d:α}(h:k<n):(l.take n).getD k d=l.getD k d:=by
 simp only[List.getD,jb,if_pos h]
theorem bT{α:Type}[Inhabited α]{l:List α}{k:Nat}(h:k<l.length):l.take (k+1)=l.take k++[l.getD k default]:=by
 rw[List.take_add_one];simp[List.getD,h]
theorem cP{α:Type}[Inhabited α]{l:List α}{k:Nat}(h:k<l.length):l.drop k=l.getD k default::l.drop (k+1):=by
 rw[List.drop_eq_getElem_cons h];simp[List.getD,h]
theorem ag{H:Hp}{b:Nat}{cs:List AV}:ah H b cs b=some cs:=if_pos rfl
theorem sb{H:Hp}{f:FuncId}{l m:List AV}(h:aQ H l m):Snap H (.func f l) (.func f m):=.func f l m h.1 h.2
theorem gu{H:Hp}{b n off:Nat}{cs cs':List AV}(hb:H b=some cs)(hn:cs.length=n)(h:aQ H cs cs'):Snap H (.ptr b n off) (.iptr cs' off):=.ptr b n off cs cs' hb hn (by rw[h.1,hn]) h.2
theorem xC{H:Hp}{cs cs':List AV}{off:Nat}(h:aQ H cs cs'):Snap H (.iptr cs off) (.iptr cs' off):=.iptr cs cs' off h.1 h.2
theorem Dat.iptr{cs:List AV}{off:Nat}(h:∀x∈cs,Dat x):Dat (.iptr cs off):=λH=>.iptr cs cs off rfl (λi a c ha hc=>by rw[ha] at hc;cases hc;exact h a (gG ha) H)
theorem DatL.nil:∀x∈([]:List AV),Dat x:=by simp
theorem DatL.cons{x:AV}{l:List AV}(h:Dat x)(hl:∀y∈l,Dat y):∀y∈x::l,Dat y:=λy hy=>(nj.1 hy).elim (λe=>e▸h) (hl y)
theorem qm{H:Hp}{b n off len:Nat}{cs:List AV}{l:List AV}(hb:H b=some cs)(hn:cs.length=n)(hf:off+len<=n)(hl:l.length=len)(hc:∀y∈l,y.cells=[y])(h:∀(i:Nat)(a c:AV),cs[off+i]?=some a->l[i]?=some c->Snap H a c):Snap H (.msl b n 1 off len) (.sl 1 l):=by
 refine .msl b n 1 off len cs l hb hn (by omega) hl (λy hy=>by rw[hc y hy];rfl) (λi j y a c hy hc' ha=>?_);rw[hc y (gG hy)] at hc';cases j with
 |zero=>simp at hc';subst hc';exact h i a y (by simpa using ha) hy
 |succ j=>simp at hc'
theorem f5{H:Hp}{b n len:Nat}{l:List Int}(hb:H b=some (l.map (AV.int .i64)))(hn:n=len)(hl:l.length=len):Snap H (.msl b n 1 0 len) (be l):=by
 subst hn;refine qm hb (by simp[hl]) (by omega) (by simp[hl]) (λy hy=>by simp at hy;obtain⟨n,_,rfl⟩:=hy;rfl) (λi a c ha hc=>?_);rw[eF] at ha;rw[ha] at hc;cases hc;simp at ha;obtain⟨n,_,rfl⟩:=ha;exact .int _ _
theorem dV{H:Hp}:∀{l:List AV},(∀x∈l,Dat x)->aQ H l l
 |[],_=>aQ.nil
 |x::l,h=>aQ.cons (h x (by simp) H) (dV (λy hy=>h y (by simp[hy])))
theorem aj{α:Type}[Inhabited α]{l:List α}{k:Nat}(h:k<l.length):l.getD k default∈l:=by
 have:l.getD k default=l[k]:=by simp[List.getD,h]
 rw[this];exact nH h
theorem iJ{l:List Int}:(be l).one=true:=rfl
theorem gd{l:List (List Int)}:(aF l).one=true:=rfl
theorem uJ{H:Hp}{l:List Int}(h:l.length=0):Snap H .esl (be l):=by
 have:l=[]:=fI.1 h;subst this;exact .eslsl 1
theorem xI{H:Hp}{b n len:Nat}{l:List AV}(hb:H b=some l)(hn:n=len)(hl:l.length=len)(hc:∀y∈l,y.cells=[y]/\Dat y):Snap H (.msl b n 1 0 len) (.sl 1 l):=by
 subst hn;refine qm hb hl (by omega) hl (λy hy=>(hc y hy).1) (λi a c ha hc'=>?_);rw[eF] at ha;rw[ha] at hc';cases hc';exact(hc a (gG ha)).2 H
theorem r_0{T:Tm}{H:Hp}{K:AV->Prop}(h:K (.tup [])):cb T H K []:=h
theorem getElem?_map_lt{α:Type}[Inhabited α]{f:α->AV}{l:List α}{k:Nat}(h:k<l.length):(l.map f)[k]?=some (f (l.getD k default)):=by
 simp[List.getD,h]
theorem ve{sz b m off len:Nat}{k:IntKind}{n:Int}:ja sz (.msl b m sz off len) (.int k n)=if 0<=n/\n<len then some (.ptr b m (off+n.toNat*sz)) else none:=by simp[ja]
end Go.Abs
namespace Go.Abs
inductive Row(H:Hp)(sz:Nat):AV->List AV->Prop
 |nil:Row H sz .esl []
 |box (b len:Nat) (cs:List AV) (hb:H b=some cs) (hl:cs.length=len*sz):Row H sz (.msl b (len*sz) sz 0 len) cs
def aY:AV->Option Nat
 |.msl b _ _ _ _=>some b
 |_=>none
theorem Row.len{H:Hp}{sz:Nat}{s:AV}{cs:List AV}(h:Row H sz s cs):∃n:Nat,ef s=some (.int .i64 n)/\cs.length=n*sz:=by
 cases h with
 |nil=>exact⟨0,rfl,by simp⟩
 |box b len cs hb hl=>exact⟨len,rfl,hl⟩
theorem Row.lenS{H:Hp}{sz n:Nat}{s:AV}{cs:List AV}(h:Row H sz s cs)(hl:cs.length=n*sz)(hz:0<sz):ef s=some (.int .i64 n):=by
 obtain⟨m,h1,h2⟩:=h.len;have:m=n:=Nat.eq_of_mul_eq_mul_right hz (by omega);subst this;exact h1
theorem Row.same{H H':Hp}{sz:Nat}{s:AV}{cs:List AV}(h:Row H sz s cs)(hs:∀b,aY s=some b->H' b=H b):Row H' sz s cs:=by
 cases h with
 |nil=>exact .nil
 |box b len cs hb hl=>exact .box b len cs ((hs b rfl).trans hb) hl
theorem Row.one{H:Hp}{sz:Nat}{s:AV}{cs:List AV}(h:Row H sz s cs):s.one=true/\s.cells=[s]:=by
 cases h<;>exact⟨rfl,rfl⟩
theorem ac{H:Hp}{b x:Nat}{cs:List AV}(h:x≠b):ah H b cs x=H x:=if_neg h
theorem nf{H:Hp}{b x:Nat}(h:x≠b):e8 H b x=H x:=if_neg h
variable{P:Program}{T:Tm}{H:Hp}{nx:Nat}
theorem eL{dm:DM}{K:SP}{l:List Op2}{d:Option Nat}{sz bytes k:Nat}{s x:Opd}{sv xv:AV}{cs new:List AV}(hd:dm2 dm T (.app sz bytes s x)=true)(hs:ov T s=sv)(hrow:Row H sz sv cs)(hx:ov T x=xv)(hsrc:fV sz H xv=some (k,new))(ho:AV.ones new=true)(hk:new.length=k*sz)
    (hz:0<sz) (h1:(cs.length+k)*bytes<=140737488355328) (h2:cs.length+k<=9223372036854775807)
    (next:∀(sv':AV)(H':Hp)(nx':Nat),Row H' sz sv' (cs++new)->nx<=nx'->nx'<=nx+1->(∀i,i<nx->aY sv≠some i->H' i=H i)->(∀b,aY sv'=some b->aY sv=some b\/b=nx/\nx'=nx+1)->ak P dm l (aD T d sv') H' nx' K):
    ak P dm (⟨d,none,.app sz bytes s x⟩::l) T H nx K:=by
 cases hrow with
 |nil=>
  refine BU hd hs hx hsrc ho (by simpa using h1) (by simpa using h2) ?_;exact next _ _ _ (.box nx k new ag hk) (Nat.le_succ _) (bj _) (λi hi _=>ac (by omega)) (λb hb=>by cases hb;exact .inr ⟨rfl,rfl⟩)
 |box b len cs hb hl=>
  have hle:len<=cs.length:=by rw[hl];exact Nat.le_mul_of_pos_right _ hz
  have hb1:(len+k)*bytes<=140737488355328:=gK (gF _ (by omega)) h1;refine CI hd hs hb hx hsrc ho hl rfl hb1 (by omega) ?_;exact next _ _ _ (.box b (len+k) (cs++new) ag (by rw[cm,hl,hk,fi])) (bj _) (Nat.le_succ _) (λi hi hne=>ac (λe=>hne (by rw[e];rfl))) (λb' hb'=>by cases hb';exact .inl rfl)
theorem Row.snap{H:Hp}{sz:Nat}{s:AV}{elems:List AV}(h:Row H sz s (elems.flatMap AV.cells))(hc:∀y∈elems,y.cells.length=sz)(hz:0<sz)(hd:∀y∈elems,∀c∈y.cells,Dat c):Snap H s (.sl sz elems):=by
 obtain⟨f1,f2⟩:=eH elems hc;generalize he:elems.flatMap AV.cells=cs at h;cases h with
 |nil=>
  have:elems.length*sz=0:=by rw[<-f1,he];rfl
  have:elems=[]:=fI.1 (by
   rcases Nat.mul_eq_zero.1 this with h|h
   ·exact h
   ·omega)
  subst this;exact .eslsl sz
 |box b len cs hb hl=>
  have hlen:elems.length=len:=Nat.eq_of_mul_eq_mul_right hz (by rw[<-f1,he,hl]);refine .msl b (len*sz) sz 0 len cs elems hb hl (by omega) hlen hc (λi j y a c hy hc' ha=>?_);have hj:j<sz:=by rw[<-hc y (gG hy)];exact(bJ.1 hc').1
  have key:∀(l:List AV)(i j:Nat)(y c:AV),(∀z∈l,z.cells.length=sz)->l[i]?=some y->y.cells[j]?=some c->j<sz->(l.flatMap AV.cells)[i*sz+j]?=some c:=by
   intro l
   induction l with
   |nil=>intro i j y c _ h;simp at h
   |cons x l ih=>
    intro i j y c hl hy hc hj;rw[rh];cases i with
    |zero=>
     simp at hy;subst hy;rw[tx,eF,gH (by rw[hl x (by simp)];exact hj)];exact hc
    |succ i=>
     rw[ij (by rw[hl x (by simp),fi];omega),hl x (by simp)];have:=ih i j y c (λz hz=>hl z (by simp[hz])) (by simpa using hy) hc hj;rw[<-this];congr 1;rw[fi];omega
  have:=key elems i j y c hc hy hc' hj;rw[he,<-eF (i*sz)] at this;rw[this] at ha;cases ha;exact hd y (gG hy) a (gG hc') H
theorem i6{α:Type}{f:α->AV}(h:∀x,(f x).cells=[f x])(l:List α):(l.map f).flatMap AV.cells=l.map f:=by
 induction l with
 |nil=>rfl
 |cons a l ih=>rw[gD,rh,ih,h];rfl
theorem Row.snapV{H:Hp}{s:AV}{l:List (List Int)}(h:Row H 1 s (l.map be)):Snap H s (aF l):=by
 refine Row.snap (elems:=l.map be) (by rw[i6 (λ_=>rfl)];exact h) (λy hy=>?_) f6 (λy hy c hc=>?_)
 ·simp at hy;obtain⟨n,_,rfl⟩:=hy;rfl
 ·simp at hy;obtain⟨n,_,rfl⟩:=hy;simp only[wy,qZ] at hc;subst hc;exact cW n
theorem Row.snapI{H:Hp}{s:AV}{l:List Int}(h:Row H 1 s (l.map (AV.int .i64))):Snap H s (be l):=by
 refine Row.snap (elems:=l.map (AV.int .i64)) (by rw[i6 (λ_=>rfl)];exact h) (λy hy=>?_) f6 (λy hy c hc=>?_)
 ·simp at hy;obtain⟨n,_,rfl⟩:=hy;rfl
 ·simp at hy;obtain⟨n,_,rfl⟩:=hy;simp only[yo,qZ] at hc;subst hc;exact .int
theorem cw{K:CP}{x y:C2}(M:SP)(h1:aJ P x T H nx λe T H nx=>bl e (M T H nx) (K e T H nx))(h2:∀T H nx,M T H nx->aJ P y T H nx K):aJ P (.seq x y) T H nx K:=by
 refine bW (dJ x h1 (λe T H nx h=>?_));cases e with
 |normal=>exact h2 T H nx h
 |exit i=>exact h
 |ret=>exact h
end Go.Abs
namespace Go.Abs
theorem CK:(∀l:List Int,(be l).cells=[be l])/\(∀l:List (List Int),(aF l).cells=[aF l])/\(∀x:Nat,bi x=none)/\
    (∀(α β:Type)(f:α->β)(a:α)(l:List α),(a::l).map f=f a::l.map f)/\(∀(α β:Type)(f:α->β),([]:List α).map f=[])/\(∀(α β:Type)(f:α->β)(a:α),(some a).map f=some (f a))/\(∀(α β:Type)(f:α->β),(none:Option α).map f=none)/\
    (∀n:Nat,0+n=n)/\(∀n:Nat,n+0=n)/\(∀p:Prop,(p/\p)=p)/\(∀p:Prop,(p/\True)=p)/\(∀p:Prop,(True/\p)=p)/\((!true)=false)/\((!false)=true)/\
    (∀(α:Type)(a:α)(l m:List α),(a::l)++m=a::(l++m))/\(∀(α:Type)(l:List α),[]++l=l)/\(∀(α:Type)(l:List α),l++[]=l):=
 ⟨λ_=>rfl,λ_=>rfl,λ_=>rfl,λ_ _ _ _ _=>rfl,λ_ _ _=>rfl,λ_ _ _ _=>rfl,λ_ _ _=>rfl,eF,rB,and_self,and_true,true_and,rfl,rfl,λ_ _ _ _=>rfl,λ_ _=>rfl,λ_ l=>kp l⟩
theorem zz(p:Prop):(p/\p)=p:=and_self p
theorem bS:(∀(H:Hp)(b x:Nat)(cs:List AV),ah H b cs x=if x=b then some cs else H x)/\(∀(H:Hp)(b x:Nat),e8 H b x=if x=b then none else H x):=⟨λ_ _ _ _=>rfl,λ_ _ _=>rfl⟩
theorem eW:(∀(H:Hp)(b:Nat)(cs:List AV),ah H b cs b=some cs)/\(∀(H:Hp)(b x:Nat)(cs:List AV),x≠b->ah H b cs x=H x)/\(∀(H:Hp)(b:Nat),e8 H b b=none)/\(∀(H:Hp)(b x:Nat),x≠b->e8 H b x=H x)/\(∀a b c:Nat,a+b+c=a+(b+c)):=
 ⟨λ_ _ _=>ag,λ_ _ _ _ h=>ac h,λ_ _=>gm,λ_ _ _ h=>nf h,qi⟩
theorem ZA:((∀ l:List Int,(be l).cells=[be l])∧(∀ l:List (List Int),(aF l).cells=[aF l])∧(∀ x:Nat,bi x=none) ∧
    (∀(α β:Type)(f:α->β)(a:α)(l:List α),(a::l).map f=f a::l.map f)/\(∀(α β:Type)(f:α->β),([]:List α).map f=[])/\(∀(α β:Type)(f:α->β)(a:α),(some a).map f=some (f a))/\(∀(α β:Type)(f:α->β),(none:Option α).map f=none)/\
    (∀n:Nat,0+n=n)/\(∀n:Nat,n+0=n)/\(∀p:Prop,(p/\p)=p)/\(∀p:Prop,(p/\True)=p)/\(∀p:Prop,(True/\p)=p)/\((!true)=false)/\((!false)=true)/\
    (∀(α:Type)(a:α)(l m:List α),(a::l)++m=a::(l++m))/\(∀(α:Type)(l:List α),[]++l=l)/\(∀(α:Type)(l:List α),l++[]=l))/\
    ((∀ (T:Tm) (n:Nat),ov T (.t n)=T n)∧(∀ (T:Tm) (v:AV),ov T (.c v)=v)∧(∀ (T:Tm) (d t:Nat) (v:AV),upd T d v t=if t=d then v else T t)∧(∀ (T:Tm) (d:Nat) (v:AV),aD T (some d) v=upd T d v) ∧
    (∀(T:Tm)(v:AV),aD T none v=T)/\(∀(x:AV)(l:List AV),T0 (x::l) 0=x)/\(∀(x:AV)(l:List AV)(n:Nat),T0 (x::l) (n+1)=T0 l n)/\(∀n:Nat,T0 [] n=.undef)/\
    (∀(d t:Nat)(v:AV)(l:List (Nat×AV)),tl ((d,v)::l) t=if t=d then v else tl l t)/\(∀t:Nat,tl [] t=.undef)/\
    (∀(T:Tm)(t:Nat)(ts:List Nat)(x:AV)(xs:List AV),ky T (t::ts) (x::xs)=ky (upd T t x) ts xs)/\(∀(T:Tm)(xs:List AV),ky T [] xs=T))/\
    ((∀ (T:Tm) (H:Hp) (x:Opd),bo T H (.mov x)=some (ov T x)) ∧
    (∀(T:Tm)(H:Hp)(c a b:Opd),bo T H (.pick c a b)=match ov T c with|.bool t=>some (if t=true then ov T a else ov T b)|_=>none)/\
    (∀(T:Tm)(H:Hp)(a:Opd),bo T H (.ld1 a)=rd1 H (ov T a))/\(∀(T:Tm)(H:Hp)(k:Nat)(a:Opd),bo T H (.ldn k a)=(rd H k (ov T a)).map .agg)/\
    (∀(T:Tm)(H:Hp)(op:BinOp)(tb tf:Bool)(x y:Opd),bo T H (.bin op tb tf x y)=aX op tb tf (ov T x) (ov T y))/\
    (∀(T:Tm)(H:Hp)(op:UnOp)(x:Opd),bo T H (.un op x)=aun op (ov T x))/\
    (∀(T:Tm)(H:Hp)(f:FuncId)(caps:List Opd),bo T H (.mkfn f caps)=some (.func f (caps.map (ov T))))/\
    (∀(T:Tm)(H:Hp)(k:Nat)(p:Opd),bo T H (.fa k p)=kf k (ov T p))/\
    (∀(T:Tm)(H:Hp)(sz:Nat)(x i:Opd),bo T H (.ixaS sz x i)=ja sz (ov T x) (ov T i))/\
    (∀(T:Tm)(H:Hp)(x:Opd)(i:Nat),bo T H (.ext x i)=gC (ov T x) i)/\
    (∀(T:Tm)(H:Hp)(x:Opd),bo T H (.lenS x)=ef (ov T x))/\
    (∀(T:Tm)(H:Hp)(z:List AV)(parts:List (Nat×Nat×Opd)),bo T H (.bld z parts)=(ej z (parts.map λp=>(p.1,p.2.1,ov T p.2.2))).map .agg)/\
    (∀(T:Tm)(H:Hp)(x:Opd)(l:List Opd),bo T H (.mx x l)=gr mY (ov T x) (l.map (ov T)))/\
    (∀(T:Tm)(H:Hp)(x:Opd)(l:List Opd),bo T H (.mn x l)=gr mQ (ov T x) (l.map (ov T)))/\
    (∀(T:Tm)(H:Hp)(k:IntKind)(x:Opd),bo T H (.conv k x)=lH (ov T x) λn=>some (.int k (k.wrap n)))/\
    (∀(T:Tm)(H:Hp)(sz:Nat)(x:Opd)(lo hi mx:Option Opd),bo T H (.sls sz x lo hi mx)=xz sz (ov T x) (lo.map (ov T)) (hi.map (ov T)) (mx.map (ov T)))/\
    (∀(T:Tm)(H:Hp)(off:Nat)(x:Opd),bo T H (.part1 off x)=dS (ov T x) λcs=>cs[off]?)/\
    (∀(T:Tm)(H:Hp)(op:BinOp)(ks:List TK)(x y:Opd),bo T H (.binS op ks x y)=dS (ov T x) λxs=>dS (ov T y) λys=>pC op ks xs ys))/\
    ((∀ (T:Tm) (H:Hp) (n:Nat) (x:Opd) (lo hi:Option Opd),bo T H (.slsA n x lo hi)=lS n (ov T x) (lo.map (ov T)) (hi.map (ov T)) none) ∧
    (∀(T:Tm)(H:Hp)(f:FuncId)(l:List Opd),bo T H (.mkbf f l)=some (.bfn f (l.map (ov T))))/\
    (∀(T:Tm)(H:Hp)(x:Opd),bo T H (.lenStr x)=lA (ov T x))/\
    (∀(T:Tm)(H:Hp)(x i:Opd),bo T H (.ixStr x i)=kI (ov T x) (ov T i))/\
    (∀(T:Tm)(H:Hp)(x:Opd)(lo hi:Option Opd),bo T H (.slstr x lo hi)=fw (ov T x) (lo.map (ov T)) (hi.map (ov T)))/\
    (∀(T:Tm)(H:Hp)(off k:Nat)(x:Opd),bo T H (.partn off k x)=dS (ov T x) λcs=>if off+k<=cs.length then some (.agg ((cs.drop off).take k)) else none)/\
    (∀(T:Tm)(H:Hp)(n:Nat),bo T H (.lenC n)=some (.int .i64 n))/\
    (∀(s:ByteArray),lA (.str s)=some (.int .i64 s.size))/\
    (∀(s:ByteArray)(k:IntKind)(n:Int),kI (.str s) (.int k n)=if 0<=n/\n<s.size then some (.int .u8 (s[n.toNat]?.getD 0).toNat) else none))/\
    ((∀ (k:IntKind) (a b:Int) (tb tf:Bool),aX .lss tb tf (.int k a) (.int k b)=some (.bool (decide (a < b))))∧(∀ (k:IntKind) (a b:Int) (tb tf:Bool),aX .leq tb tf (.int k a) (.int k b)=some (.bool (decide (a ≤ b)))) ∧
    (∀(k:IntKind)(a b:Int)(tb tf:Bool),aX .gtr tb tf (.int k a) (.int k b)=some (.bool (decide (b<a))))/\(∀(k:IntKind)(a b:Int)(tb tf:Bool),aX .geq tb tf (.int k a) (.int k b)=some (.bool (decide (b<=a))))/\
    (∀(k:IntKind)(a b:Int)(tb tf:Bool),aX .eql tb tf (.int k a) (.int k b)=some (.bool (decide (a=b))))/\(∀(k:IntKind)(a b:Int)(tb tf:Bool),aX .neq tb tf (.int k a) (.int k b)=some (.bool (decide (a≠b))))/\
    (∀(k:IntKind)(a b:Int)(tb tf:Bool),aX .add tb tf (.int k a) (.int k b)=some (.int k (k.wrap (a+b))))/\(∀(k:IntKind)(a b:Int)(tb tf:Bool),aX .sub tb tf (.int k a) (.int k b)=some (.int k (k.wrap (a-b))))/\
    (∀(k:IntKind)(a b:Int)(tb tf:Bool),aX .mul tb tf (.int k a) (.int k b)=some (.int k (k.wrap (a*b))))/\
    (∀(a b:Bool)(tf:Bool),aX .eql true tf (.bool a) (.bool b)=some (.bool (a==b)))/\(∀(a b:Bool)(tf:Bool),aX .neq true tf (.bool a) (.bool b)=some (.bool (!(a==b))))/\
    (∀tb:Bool,aX .eql tb true .nilf .nilf=some (.bool true))/\(∀tb:Bool,aX .neq tb true .nilf .nilf=some (.bool false))/\
    (∀(tb:Bool)(f:FuncId)(c:List AV),aX .eql tb true (.func f c) .nilf=some (.bool false))/\(∀(tb:Bool)(f:FuncId)(c:List AV),aX .neq tb true (.func f c) .nilf=some (.bool true))/\
    (∀b:Bool,aun .not (.bool b)=some (.bool (!b)))/\
    (∀(k:IntKind)(a b:Int),mY (.int k a) (.int k b)=some (.int k (max a b)))/\(∀(k:IntKind)(a b:Int),mQ (.int k a) (.int k b)=some (.int k (min a b)))/\
    (∀(f:AV->AV->Option AV)(x:AV),gr f x []=some x)/\(∀(f:AV->AV->Option AV)(x y:AV)(l:List AV),gr f x (y::l)=match f x y with|some z=>gr f z l|none=>none)/\
    (∀(k:Nat)(b n off:Nat),kf k (.ptr b n off)=some (.ptr b n (off+k)))/\(∀(k:Nat)(cs:List AV)(off:Nat),kf k (.iptr cs off)=some (.iptr cs (off+k)))/\
    (∀(cs:List AV)(off:Nat),rd1 bi (.iptr cs off)=cs[off]?))/\
    ((∀ (H:Hp) (b n off:Nat),rd1 H (.ptr b n off)=match H b with | some cs=>if cs.length=n then cs[off]? else none | none=>none) ∧
    (∀(H:Hp)(k b n off:Nat),rd H k (.ptr b n off)=match H b with|some cs=>if cs.length=n/\off+k<=n then some ((cs.drop off).take k) else none|none=>none)/\
    (∀(H:Hp)(cs:List AV)(off:Nat),rd1 H (.iptr cs off)=cs[off]?)/\(∀(H:Hp)(cs:List AV)(off k:Nat),rd H k (.iptr cs off)=if off+k<=cs.length then some ((cs.drop off).take k) else none)/\
    (∀(l:List AV)(i:Nat),gC (.tup l) i=l[i]?)/\(∀(l:List AV)(f:List AV->Option AV),dS (.agg l) f=f l)/\(∀(k:IntKind)(n:Int)(f:Int->Option AV),lH (.int k n) f=f n)/\
    (∀(cs:List AV),ej cs []=some cs)/\
    (∀(cs:List AV)(off sz:Nat)(x:AV)(r:List (Nat×Nat×AV)),ej cs ((off,sz,x)::r)=if AV.ones x.cells=true/\x.cells.length=sz/\off+sz<=cs.length then ej (dr cs off x.cells) r else none)/\
    (∀(b n sz off len:Nat),ef (.msl b n sz off len)=some (.int .i64 len))/\(ef .esl=some (.int .i64 0))/\(∀(sz:Nat)(l:List AV),ef (.sl sz l)=some (.int .i64 l.length))/\
    (∀(z:AV),bC z 0=[])/\(∀(z:AV)(n:Nat),bC z (n+1)=z.cells++bC z n))/\
    ((∀ (a:AV) (l:List AV),(a :: l)[0]?=some a)∧(∀ (a:AV) (l:List AV) (n:Nat),(a :: l)[n + 1]?=l[n]?)∧(∀ (l:List AV),l.drop 0=l)∧(∀ (a:AV) (l:List AV) (n:Nat),(a :: l).drop (n + 1)=l.drop n)∧(∀ n:Nat,([]:List AV).drop n=[]) ∧
    (∀(l:List AV),l.take 0=[])/\(∀(a:AV)(l:List AV)(n:Nat),(a::l).take (n+1)=a::l.take n)/\(∀n:Nat,([]:List AV).take n=[])/\(∀(l:List AV),[]++l=l)/\(∀(l:List AV),l++[]=l)/\(∀(a:AV)(l m:List AV),(a::l)++m=a::(l++m))/\
    (∀(cs:List AV)(off:Nat)(new:List AV),dr cs off new=cs.take off++new++cs.drop (off+new.length))/\(([]:List AV).length=0)/\(∀(a:AV)(l:List AV),(a::l).length=l.length+1)/\
    (∀(k:IntKind)(n:Int),(AV.int k n).cells=[.int k n])/\(∀b:Bool,(AV.bool b).cells=[.bool b])/\(∀s:ByteArray,(AV.str s).cells=[.str s])/\(∀(k:Nat)(l:List AV),(AV.sl k l).cells=[.sl k l])/\(∀l:List AV,(AV.agg l).cells=l)/\(AV.esl.cells=[.esl])/\(AV.nilf.cells=[.nilf])/\
    (∀(f:FuncId)(c:List AV),(AV.func f c).cells=[.func f c])/\(∀(b n off:Nat),(AV.ptr b n off).cells=[.ptr b n off])/\(∀(c:List AV)(off:Nat),(AV.iptr c off).cells=[.iptr c off])/\(∀(b n sz off len:Nat),(AV.msl b n sz off len).cells=[.msl b n sz off len])/\(∀b:Nat,(AV.yld b).cells=[.yld b])/\(∀b:Nat,(AV.mp b).cells=[.mp b])/\(AV.nilp.cells=[.nilp])/\(∀(f:FuncId)(c:List AV),(AV.bfn f c).cells=[.bfn f c]))/\
    ((∀(b:Bool)(x y:AV),(match (AV.bool b:AV) with|.bool t=>some (if t=true then x else y)|_=>none)=some (if b=true then x else y))):=
 ⟨CK,SA,SV,SV2,SN,SR,SL,λ_ _ _=>rfl⟩
theorem ZV:((AV.ones []=true)∧(∀ (a:AV) (l:List AV),AV.ones (a :: l)=(a.one && AV.ones l))∧(∀ (k:IntKind) (n:Int),(AV.int k n).one=true)∧(∀ b:Bool,(AV.bool b).one=true)∧(∀ s:ByteArray,(AV.str s).one=true)∧(∀ (k:Nat) (l:List AV),(AV.sl k l).one=true)∧(AV.esl.one=true)∧(AV.nilf.one=true) ∧
    (∀(f:FuncId)(c:List AV),(AV.func f c).one=true)/\(∀(b n off:Nat),(AV.ptr b n off).one=true)/\(∀(c:List AV)(off:Nat),(AV.iptr c off).one=true)/\(∀(b n sz off len:Nat),(AV.msl b n sz off len).one=true)/\(∀b:Nat,(AV.yld b).one=true)/\(∀b:Nat,(AV.mp b).one=true)/\(AV.nilp.one=true)/\(∀l:List AV,l.all AV.one=AV.ones l))/\(∀l:List Int,(be l).one=true)/\(∀l:List (List Int),(aF l).one=true)/\(∀b:Bool,(b&&b)=b)/\((false=true)=False)/\(∀a:Int,-9223372036854775808<=a->a<=9223372036854775807->IntKind.wrap .i64 a=a)/\
    (∀(l:List Int)(k:IntKind)(n:Int),ja 1 (be l) (.int k n)=if 0<=n/\n<l.length then some (.iptr [.int .i64 (l.getD n.toNat default)] 0) else none)/\(∀(l:List (List Int))(k:IntKind)(n:Int),ja 1 (aF l) (.int k n)=if 0<=n/\n<l.length then some (.iptr [be (l.getD n.toNat default)] 0) else none)/\
    (∀l:List Int,ef (be l)=some (.int .i64 l.length))/\(∀l:List (List Int),ef (aF l)=some (.int .i64 l.length))/\(∀n:Nat,(n:Int).toNat=n)/\(∀(α β:Type)(f:α->β)(l:List α),(l.map f).length=l.length)/\
    (∀(sz b m off len:Nat)(k:IntKind)(n:Int),ja sz (.msl b m sz off len) (.int k n)=if 0<=n/\n<len then some (.ptr b m (off+n.toNat*sz)) else none)/\(∀(α:Type)(_:Inhabited α)(f:α->AV)(l:List α)(k:Nat),k<l.length->(l.map f)[k]?=some (f (l.getD k default)))/\(∀n:Nat,n*1=n):=
 ⟨SO,λ_=>rfl,λ_=>rfl,Bool.and_self,bm,λ_=>tr,λ_ _ _=>rJ,λ_ _ _=>wC,λ_=>qW,λ_=>uu,kK,λ_ _ _ _=>eG _,λ_ _ _ _ _ _ _=>ve,λ_ _ _ _ _ h=>getElem?_map_lt h,Nat.mul_one⟩
theorem ZG:((∀ (T:Tm) (n:Nat),ov T (.t n)=T n)∧(∀ (T:Tm) (v:AV),ov T (.c v)=v)∧(∀ (T:Tm) (d t:Nat) (v:AV),upd T d v t=if t=d then v else T t)∧(∀ (T:Tm) (d:Nat) (v:AV),aD T (some d) v=upd T d v) ∧
    (∀(T:Tm)(v:AV),aD T none v=T)/\(∀(x:AV)(l:List AV),T0 (x::l) 0=x)/\(∀(x:AV)(l:List AV)(n:Nat),T0 (x::l) (n+1)=T0 l n)/\(∀n:Nat,T0 [] n=.undef)/\
    (∀(d t:Nat)(v:AV)(l:List (Nat×AV)),tl ((d,v)::l) t=if t=d then v else tl l t)/\(∀t:Nat,tl [] t=.undef)/\
    (∀(T:Tm)(t:Nat)(ts:List Nat)(x:AV)(xs:List AV),ky T (t::ts) (x::xs)=ky (upd T t x) ts xs)/\(∀(T:Tm)(xs:List AV),ky T [] xs=T))/\(∀a:Int,-9223372036854775808<=a->a<=9223372036854775807->IntKind.wrap .i64 a=a)/\(∀a b:Nat,((a+b:Nat):Int)=(a:Int)+(b:Int))/\(((1:Nat):Int)=1)/\(((0:Nat):Int)=0)/\(∀p:Prop,(p/\True)=p)/\(∀p:Prop,(p/\p)=p):=
 ⟨SA,λ_=>tr,Int.natCast_add,rfl,rfl,and_true,and_self⟩
theorem ee{P:Program}{b:C2}{T:Tm}{H:Hp}{nx:Nat}{K:CP}(L:Nat->List (Nat×AV))(n:Nat)(p:Nat->Prop)(hT:agr T (L 0))
    (step:∀k,k<=n->(∀i,i<k->p i)->aJ P b (tl (L k)) H nx λe T H' nx'=>bl e (k<n/\p k/\agr T (L (k+1))/\H'=H/\nx'=nx) (K e T H' nx')):bA (aJ P b) T H nx K:=by
 refine fg (X:=Nat) L (λk=>k<=n/\∀i,i<k->p i) (λk=>n-k) 0 ⟨bZ _,λi h=>(by omega)⟩ hT ?_;rintro k ⟨h1,h2⟩;refine dJ b (step k h1 h2) (λe T H' nx' h=>?_);cases e with
 |normal=>
  obtain⟨g1,g2,g3,g4,g5⟩:=h;refine⟨k+1,⟨by omega,λi hi=>?_⟩,by omega,g3,g4,g5⟩;rcases sP.1 hi with h|rfl
  ·exact h2 i h
  ·exact g2
 |exit i=>exact h
 |ret=>exact h
theorem eP{α:Type}[Inhabited α]{l:List α}{p:α->Bool}(h:∀i,i<l.length->p (l.getD i default)=true):l.all p=true:=by
 rw[cV];intro x hx;obtain⟨i,hi,e⟩:=wh hx;have:=h i hi
 rwa [show l.getD i default=x by simp[List.getD,hi,e]] at this
theorem eC{α:Type}[Inhabited α]{l:List α}{p:α->Bool}{k:Nat}(hk:k<l.length)(h:p (l.getD k default)=false):l.all p=false:=by
 rw[Bool.eq_false_iff,ne_eq,cV];intro hh;have:=hh _ (aj hk);rw[h] at this;cases this
theorem cu{n:Nat}{p:Nat->Bool}(h:∀i,i<n->p i=true):(List.range n).all p=true:=cV.2 λi hi=>h i (gJ.1 hi)
theorem bb{n k:Nat}{p:Nat->Bool}(hk:k<n)(h:p k=false):(List.range n).all p=false:=by
 rw[Bool.eq_false_iff,ne_eq,cV];intro hh;have:=hh _ (gJ.2 hk);rw[h] at this;cases this
def iK{α:Type}(sz:Nat)(f:α->AV)(l:List α):AV:=.sl sz (l.map f)
section
variable{α:Type}{sz:Nat}{f:α->AV}{l:List α}
theorem tU (h:∀ x ∈ l,∀ c ∈ (f x).cells,Dat c):Dat (iK sz f l):=Dat.sl (fun x hx c hc=>by
 obtain⟨y,hy,rfl⟩:=gL.1 hx;exact h y hy c hc)
theorem ss (hc:∀ x,(f x).cells=[f x]) (h:∀ x,Dat (f x)):Dat (iK sz f l):=tU (fun x _ c hx=>by
 rw[hc,qZ] at hx;subst hx;exact h x)
theorem io[Inhabited α]{k:IntKind}{n:Int}:ja sz (iK sz f l) (.int k n)=if 0<=n/\n<l.length then some (.iptr (f (l.getD n.toNat default)).cells 0) else none:=pG
theorem gg:ef (iK sz f l)=some (.int .i64 l.length):=nS
theorem sK{k:Nat}(h:k<=l.length):xz sz (iK sz f l) (some (.int .i64 k)) none none=some (iK sz f (l.drop k)):=by
 simp[xz,bB,iK,h];rw[gP (by simp)]
theorem zG(h:∀x,(f x).one=true):AV.ones (l.map f)=true:=by
 simp[AV.ones,h]
theorem Row.snapL'{H:Hp}{s:AV}(h:Row H 1 s (l.map f))(hc:∀x,(f x).cells=[f x])(hd:∀x∈l,Dat (f x)):Snap H s (iK 1 f l):=by
 refine Row.snap (elems:=l.map f) (by rw[i6 hc];exact h) (λy hy=>?_) f6 (λy hy c hx=>?_)
 ·obtain⟨n,_,rfl⟩:=gL.1 hy;rw[hc];rfl
 ·obtain⟨n,hn,rfl⟩:=gL.1 hy;rw[hc,qZ] at hx;subst hx;exact hd n hn
end
theorem nY{a:Int}:IntKind.wrap .u8 a=a%256:=by
 simp only[IntKind.wrap,IntKind.bits,IntKind.signed];simp
theorem bits_nat{k:IntKind}{a:Nat}(h:a<2^k.bits):(BitVec.ofInt k.bits (a:Int)).toNat=a:=by
 rw[BitVec.toNat_ofInt];have:((2^k.bits:Nat):Int)=(2:Int)^k.bits:=by simp
 rw[Int.emod_eq_of_lt (by omega) (by omega)];simp
theorem AF{k:IntKind}{a b:Nat}{tb tf:Bool}(ha:a<2^(k.bits-1))(hb:b<2^(k.bits-1)):aX .and tb tf (.int k a) (.int k b)=some (.int k ((a &&& b:Nat):Int)):=by
 have h1:2^(k.bits-1)<=2^k.bits:=Nat.pow_le_pow_right (by omega) (by omega)
 have h2:(BitVec.ofInt k.bits (a:Int) &&& BitVec.ofInt k.bits (b:Int)).toNat=a &&& b:=by
  rw[BitVec.toNat_and,bits_nat (by omega),bits_nat (by omega)]
 show(if (k=k) then dA .and k a b else none)=_;rw[if_pos rfl];simp only[dA,h2];have h3:a &&& b<2^(k.bits-1):=Nat.lt_of_le_of_lt Nat.and_le_left ha
 congr 2
 generalize a &&& b=c at h3;cases k<;>(simp only[IntKind.bits,IntKind.wrap,IntKind.signed] at h3 |-;simp at h3 |-;omega)
theorem wx{k:IntKind}{a b:Nat}{tb tf:Bool}(ha:a<2^(k.bits-1))(hb:b<2^(k.bits-1)):aX .or tb tf (.int k a) (.int k b)=some (.int k ((a ||| b:Nat):Int)):=by
 have h1:2^(k.bits-1)<=2^k.bits:=Nat.pow_le_pow_right (by omega) (by omega)
 have h2:(BitVec.ofInt k.bits (a:Int) ||| BitVec.ofInt k.bits (b:Int)).toNat=a ||| b:=by
  rw[BitVec.toNat_or,bits_nat (by omega),bits_nat (by omega)]
 show(if (k=k) then dA .or k a b else none)=_;rw[if_pos rfl];simp only[dA,h2];have h3:a ||| b<2^(k.bits-1):=Nat.or_lt_two_pow ha hb
 congr 2
 generalize a ||| b=c at h3;cases k<;>(simp only[IntKind.bits,IntKind.wrap,IntKind.signed] at h3 |-;simp at h3 |-;omega)
theorem wR{k:IntKind}{a b:Nat}{tb tf:Bool}{k':IntKind}(hb:b<=k.bits):aX .shr tb tf (.int k a) (.int k' b)=some (.int k ((a/2^b:Nat):Int)):=by
 have h:¬((b:Int)<0):=by omega
 simp only[aX,nL,h,if_false,or_true,if_true,kK,Nat.min_eq_left hb]
 congr 2
 rw[Int.fdiv_eq_ediv_of_nonneg _ (Int.le_of_lt (Int.pow_pos (by omega)))];simp
theorem xa{k:IntKind}{a b:Nat}{tb tf:Bool}{k':IntKind}(hb:b<=k.bits)(h:a*2^b<2^(k.bits-1)):aX .shl tb tf (.int k a) (.int k' b)=some (.int k ((a*2^b:Nat):Int)):=by
 have h0:¬((b:Int)<0):=by omega
 simp only[aX,nL,h0,if_false,true_or,if_true,kK,Nat.min_eq_left hb]
 congr 2
 have e:(a:Int)*2^b=((a*2^b:Nat):Int):=by simp
 rw[e];generalize a*2^b=c at h;cases k<;>(simp only[IntKind.bits,IntKind.wrap,IntKind.signed] at h |-;simp at h |-;omega)
theorem uT{n k:Nat}:n &&& (2^k-1)=n%2^k:=Nat.and_two_pow_sub_one_eq_mod n k
theorem lr{k:IntKind}{a b:Int}{tb tf:Bool}(ha:0<=a)(hb:0<b):aX .rem tb tf (.int k a) (.int k b)=some (.int k (a%b)):=by
 show(if (k=k) then dA .rem k a b else none)=_;rw[if_pos rfl];simp only[dA,if_neg (show ¬b=0 by omega),Int.tmod_eq_emod_of_nonneg ha]
theorem w6{a b:Int}{tb tf:Bool}(ha:0<=a)(h2:a<=9223372036854775807)(hb:0<b):aX .quo tb tf (.int .i64 a) (.int .i64 b)=some (.int .i64 (a/b)):=by
 show(if (IntKind.i64=IntKind.i64) then dA .quo .i64 a b else none)=_;rw[if_pos rfl];have h3:0<=a/b:=Int.ediv_nonneg ha (by omega);have h4:a/b<=a:=Int.ediv_le_self _ ha;simp only[dA,if_neg (show ¬b=0 by omega),Int.tdiv_eq_ediv_of_nonneg ha];rw[tr (by omega) (by omega)]
theorem vj{P:Program}{T:Tm}{H:Hp}{nx:Nat}{K:CP}{l:List Op2}{C:List (Nat×Nat)}(Hf H':Hp)(L:List (Nat×AV))(hf:Fz Hf H H')(ha:uf Hf T L)(h:ak P .draw l (tl L) H' nx λT H nx=>K .normal T H nx):aJ P (.mixS 1 l C) T H nx K:=.inl ⟨by decide,_,H',nx,Hf,hf.gh ha,h⟩
theorem aK{P:Program}{T:Tm}{H:Hp}{nx:Nat}{K:SP}{l:List Op2}{d:Option Nat}{f:Opd}{args:List Opd}{g:FuncId}{caps xs:List AV}{R:AV->Hp->Nat->Prop}(hf:ov T f=.func g caps)(ha:args.map (ov T)++caps=xs)(hc:Fn P g xs H nx R)
    (k:∀r H' nx',R r H' nx'->ak P .text l (aD T d r) H' nx' K):ak P .text (⟨d,none,.call f args⟩::l) T H nx K:=by
 subst ha;exact zr hf (Fn.mono hc k)
def aW(l:List UInt8):AV:=.str ⟨l.toArray⟩
def bN(l:List UInt8):AV:=iK 1 dW l
theorem dg{l:List UInt8}:(⟨l.toArray⟩:ByteArray).size=l.length:=by simp[ByteArray.size]
theorem jy{l:List UInt8}:(⟨l.toArray⟩:ByteArray).data.toList=l:=rfl
theorem bv(l:List UInt8):Dat (aW l):=.str
instance datI_encS{l:List UInt8}:DatI (aW l):=⟨bv l⟩
theorem aB{l:List UInt8}:(aW l).cells=[aW l]:=rfl
theorem aP{l:List UInt8}:(aW l).one=true:=rfl
theorem kw{l:List UInt8}:(bN l).cells=[bN l]:=rfl
theorem np{l:List UInt8}:(bN l).one=true:=rfl
theorem aH{l:List UInt8}:lA (aW l)=some (.int .i64 l.length):=by simp[lA,aW,ByteArray.size]
theorem wH{l:List UInt8}{k:IntKind}{n:Int}:ja 1 (bN l) (.int k n)=if 0<=n/\n<l.length then some (.iptr [dW (l.getD n.toNat default)] 0) else none:=io
theorem eN{l:List UInt8}:ef (bN l)=some (.int .i64 l.length):=gg
theorem iO{l:List UInt8}{k:IntKind}{n:Int}(h1:0<=n)(h2:n<l.length):kI (aW l) (.int k n)=some (dW (l.getD n.toNat default)):=by
 have h3:n.toNat<l.length:=by omega
 simp only[kI,aW,dg,h1,h2,and_self,if_true,dW]
 have e:(⟨l.toArray⟩:ByteArray)[n.toNat]?=some (l[n.toNat]):=by
  rw[getElem?_pos (⟨l.toArray⟩:ByteArray) n.toNat (by simpa[ByteArray.size] using h3)];rfl
 rw[e];simp[List.getD,h3]
theorem jz{l:List UInt8}{k:Nat}(h:k<=l.length):fw (aW l) none (some (.int .i64 k))=some (aW (l.take k)):=by
 simp[fw,aW,bB,ByteArray.size,h];apply ByteArray.ext;simp[ByteArray.data_extract]
theorem rH{l:List UInt8}{k:Nat}(h:k<=l.length):fw (aW l) (some (.int .i64 k)) none=some (aW (l.drop k)):=by
 simp[fw,aW,bB,ByteArray.size,h];apply ByteArray.ext;simp[ByteArray.data_extract];exact gP (by simp)
theorem gi{H:Hp}{b n:Nat}{l:List UInt8}(hb:H b=some (l.map dW))(hn:n=l.length):fV 1 H (.msl b n 1 0 n)=some (n,l.map dW):=by
 subst hn;rw[jB hb (by simp) (by omega)]
 congr 2
 rw[List.drop_zero,gP (by simp)]
theorem qq{l:List UInt8}:AV.ones (l.map dW)=true:=zG (λ_=>rfl)
theorem ll(b:UInt8):(b.toNat:Int)<256:=by
 have:=UInt8.toNat_lt b;omega
end Go.Abs
namespace Go.Abs
open Go.RowKit
variable{P:Program}{T:Tm}{H:Hp}{nx:Nat}
theorem aI{a b:Prop}(x:a)(y:b):a/\b:=⟨x,y⟩
theorem ev0{α:Type}{a b:α}(h:a=b:=by(try simp only[bS,ZA,Nat.reduceEqDiff,↓reduceIte,Nat.reduceAdd,Nat.reduceLeDiff]);(try with_reducible rfl);first|done|fail):a=b:=h
theorem evZ{α:Type}{a b:α}(h:a=b:=by(try simp only[bS,ZA,Nat.reduceEqDiff,↓reduceIte,Nat.reduceAdd,Nat.reduceLeDiff,zz]);(try with_reducible rfl);first|done|fail):a=b:=h
theorem ag0{T:Tm}{l:List (Nat×AV)}(h:agr T l:=by simp (disch:=omega) only[agr,ZG,Nat.reduceEqDiff,↓reduceIte];first|done|fail):agr T l:=h
theorem agZ{T:Tm}{l:List (Nat×AV)}(h:agr T l:=by simp (disch:=omega) only[agr,ZG,Nat.reduceEqDiff,↓reduceIte,zz];first|done|fail):agr T l:=h
theorem vZ{dm:DM}{K:SP}{l:List Op2}{d:Option Nat}{i:Ins}{r:AV}(k:ak P dm l (aD T d r) H nx K)(hi:ic i=.val:=by rfl)(hd:dm2 dm T i=true:=by rfl)(h:bo T H i=some r:=by(try simp (disch:=omega) only[bS,ZA,Nat.reduceEqDiff,↓reduceIte,Nat.reduceAdd,Nat.reduceLeDiff,ZV,reduceCtorEq,zz]);first|with_reducible rfl|(apply w9;(focus omega);with_reducible rfl)):ak P dm (⟨d,none,i⟩::l) T H nx K:=lQ hi hd h k
theorem nvZ{S:Hp}{K:SP}{l:List (Op2×Nat)}{d:Option Nat}{i:Ins}{r:AV}(k:aU P S l (aD T d r) H nx K)(h:bo T S i=some r:=by(try simp (disch:=omega) only[bS,ZA,Nat.reduceEqDiff,↓reduceIte,Nat.reduceAdd,Nat.reduceLeDiff,ZV,reduceCtorEq,zz]);first|with_reducible rfl|(apply w9;(focus omega);with_reducible rfl)):aU P S ((⟨d,none,i⟩,0)::l) T H nx K:=uG h k
theorem cZ{dm:DM}{K:SP}{l:List Op2}{d:Option Nat}{f:Opd}{args:List Opd}{g:FuncId}{caps xs:List AV}{r:AV}(k:ak P dm l (aD T d r) H nx K)(hf:ov T f=.func g caps:=by(try simp only[bS,ZA,Nat.reduceEqDiff,↓reduceIte,Nat.reduceAdd,Nat.reduceLeDiff,zz]);(try with_reducible rfl);first|done|fail)(ha:args.map (ov T)++caps=xs:=by(try simp only[bS,ZA,Nat.reduceEqDiff,↓reduceIte,Nat.reduceAdd,Nat.reduceLeDiff,zz]);(try with_reducible rfl);first|done|fail)(hp:Pure P g xs r)(hs:ax H xs xs r:=by(first|refine aq ?_ rfl|apply az);(repeat' (first|exact ar|apply aO|(apply ay;(focus with_reducible assumption))));first|done|fail):ak P dm (⟨d,none,.call f args⟩::l) T H nx K:=xn hf ha hp hs k
theorem alZ{dm:DM}{K:SP}{l:List Op2}{d:Option Nat}{z:AV}{cs:List AV}(k:ak P dm l (aD T d (.ptr nx cs.length 0)) (ah H nx cs) (nx+1) K)(hd:dm2 dm T (.alloc z)=true:=by rfl)(hc:z.cells=cs:=by(try simp only[bS,ZA,Nat.reduceEqDiff,↓reduceIte,Nat.reduceAdd,Nat.reduceLeDiff,zz]);(try with_reducible rfl);first|done|fail)(ho:AV.ones cs=true:=by simp only[SO,Bool.and_self,iJ,gd,zz];first|done|fail):ak P dm (⟨d,none,.alloc z⟩::l) T H nx K:=wU hd hc ho k
theorem bxZ{dm:DM}{K:SP}{l:List Op2}{d:Option Nat}{x:Opd}{v:AV}{cs:List AV}(k:ak P dm l (aD T d (.ptr nx cs.length 0)) (ah H nx cs) (nx+1) K)(hd:dm2 dm T (.box x)=true:=by rfl)(hx:ov T x=v:=by(try simp only[bS,ZA,Nat.reduceEqDiff,↓reduceIte,Nat.reduceAdd,Nat.reduceLeDiff,zz]);(try with_reducible rfl);first|done|fail)(hc:v.cells=cs:=by(try simp only[bS,ZA,Nat.reduceEqDiff,↓reduceIte,Nat.reduceAdd,Nat.reduceLeDiff,zz]);(try with_reducible rfl);first|done|fail)(ho:AV.ones cs=true:=by simp only[SO,Bool.and_self,iJ,gd,zz];first|done|fail):ak P dm (⟨d,none,.box x⟩::l) T H nx K:=CA hd hx hc ho k
theorem stZ{dm:DM}{K:SP}{l:List Op2}{d:Option Nat}{sz:Nat}{p x:Opd}{b n off:Nat}{v:AV}{cs vs:List AV}(k:ak P dm l (aD T d (.tup [])) (ah H b (dr cs off vs)) nx K)(hd:dm2 dm T (.st sz p x)=true:=by rfl)(hp:ov T p=.ptr b n off:=by(try simp only[bS,ZA,Nat.reduceEqDiff,↓reduceIte,Nat.reduceAdd,Nat.reduceLeDiff,zz]);(try with_reducible rfl);first|done|fail)(hx:ov T x=v:=by(try simp only[bS,ZA,Nat.reduceEqDiff,↓reduceIte,Nat.reduceAdd,Nat.reduceLeDiff,zz]);(try with_reducible rfl);first|done|fail)(hb:H b=some cs:=by(try simp only[bS,ZA,Nat.reduceEqDiff,↓reduceIte,Nat.reduceAdd,Nat.reduceLeDiff,zz]);(try with_reducible rfl);first|done|fail)(hc:v.cells=vs:=by(try simp only[bS,ZA,Nat.reduceEqDiff,↓reduceIte,Nat.reduceAdd,Nat.reduceLeDiff,zz]);(try with_reducible rfl);first|done|fail)(ho:AV.ones vs=true:=by simp only[SO,Bool.and_self,iJ,gd,zz];first|done|fail)(hn:cs.length=n:=by(try simp only[SL,Nat.reduceAdd,Nat.reduceMul,eG]);first|done|omega)(hl:vs.length=sz:=by(try simp only[SL,Nat.reduceAdd,Nat.reduceMul,eG]);first|done|omega)(hf:off+sz<=n:=by(try simp only[SL,Nat.reduceAdd,Nat.reduceMul,eG]);first|done|omega):ak P dm (⟨d,none,.st sz p x⟩::l) T H nx K:=tp hd hp hx hb hc ho hn hl hf k
theorem blZ{dm:DM}{K:SP}{l:List Op2}{d:Option Nat}{sz len:Nat}{z:List AV}{parts:List (Nat×Nat×Opd)}{pv:List (Nat×Nat×AV)}{cs:List AV}(k:ak P dm l (aD T d (.msl nx cs.length sz 0 len)) (ah H nx cs) (nx+1) K)(hd:dm2 dm T (.bldS sz len z parts)=true:=by rfl)(hl:len≠0:=by exact Nat.succ_ne_zero _)(hp:parts.map (λp=>(p.1,p.2.1,ov T p.2.2))=pv:=by(try simp only[bS,ZA,Nat.reduceEqDiff,↓reduceIte,Nat.reduceAdd,Nat.reduceLeDiff,zz]);(try with_reducible rfl);first|done|fail)(hc:ej (bC (.agg z) len) pv=some cs:=by(try simp only[bS,ZA,Nat.reduceEqDiff,↓reduceIte,Nat.reduceAdd,Nat.reduceLeDiff,SO,Bool.and_self,iJ,gd,zz]);(try with_reducible rfl);first|done|fail):ak P dm (⟨d,none,.bldS sz len z parts⟩::l) T H nx K:=Bc hd hl hp hc k
theorem gTZ{dm:DM}{K:SP}{l:List Op2}{d:Option Nat}{i:Ins}{t:Nat}{w:Bool}(k:ak P dm (⟨d,none,i⟩::l) T H nx K)(h:T t=.bool w:=by simp only[bS,ZA,Nat.reduceEqDiff,↓reduceIte,Nat.reduceAdd,Nat.reduceLeDiff,zz];first|done|fail):ak P dm (⟨d,some (t,w),i⟩::l) T H nx K:=B7 h k
theorem gFZ{dm:DM}{K:SP}{l:List Op2}{d:Option Nat}{i:Ins}{t:Nat}{w:Bool}(k:ak P dm l (aD T d (.tup [])) H nx K)(h:T t=.bool (!w)\/T t=.tup []:=by simp only[bS,ZA,Nat.reduceEqDiff,↓reduceIte,Nat.reduceAdd,Nat.reduceLeDiff,or_true,true_or,zz];first|done|fail):ak P dm (⟨d,some (t,w),i⟩::l) T H nx K:=Cn h k
theorem cTZ{K:CP}{c:Opd}{x y:C2}(h1:aJ P x T H nx K)(hc:ov T c=.bool true:=by simp only[bS,ZA,Nat.reduceEqDiff,↓reduceIte,Nat.reduceAdd,Nat.reduceLeDiff,zz];first|done|fail):aJ P (.cond c x y) T H nx K:=xe hc h1
theorem cFZ{K:CP}{c:Opd}{x y:C2}(h2:aJ P y T H nx K)(hc:ov T c=.bool false:=by simp only[bS,ZA,Nat.reduceEqDiff,↓reduceIte,Nat.reduceAdd,Nat.reduceLeDiff,zz];first|done|fail):aJ P (.cond c x y) T H nx K:=xo hc h2
theorem r1Z{K:AV->Prop}{a:RV}{x:AV}(h:K x)(ha:rv T H a=some x:=by simp only[rv,bS,ZA,Nat.reduceEqDiff,↓reduceIte,Nat.reduceAdd,Nat.reduceLeDiff,zz];with_reducible rfl):cb T H K [a]:=r_1 ha h
theorem r2Z{K:AV->Prop}{a b:RV}{x y:AV}(h:K (.tup [x,y]))(ha:rv T H a=some x:=by simp only[rv,bS,ZA,Nat.reduceEqDiff,↓reduceIte,Nat.reduceAdd,Nat.reduceLeDiff,zz];with_reducible rfl)(hb:rv T H b=some y:=by simp only[rv,bS,ZA,Nat.reduceEqDiff,↓reduceIte,Nat.reduceAdd,Nat.reduceLeDiff,zz];with_reducible rfl):cb T H K [a,b]:=r_2 ha hb h
theorem vY{dm:DM}{K:SP}{l:List Op2}{d:Option Nat}{i:Ins}{r:AV}(k:ak P dm l (aD T d r) H nx K)(hi:ic i=.val:=by rfl)(hd:dm2 dm T i=true:=by first|rfl|(simp (disch:=omega) only[dm2,uo,xX,eW,ZA,Nat.reduceEqDiff,↓reduceIte,Nat.reduceAdd,Nat.reduceLeDiff,zz,lc];first|done|omega))(h:bo T H i=some r:=by(try simp (disch:=omega) only[eW,ZA,Nat.reduceEqDiff,↓reduceIte,Nat.reduceAdd,Nat.reduceLeDiff,ZV,reduceCtorEq,zz]);first|with_reducible rfl|(apply w9;(focus omega);with_reducible rfl)):ak P dm (⟨d,none,i⟩::l) T H nx K:=lQ hi hd h k
theorem nvY{S:Hp}{K:SP}{l:List (Op2×Nat)}{d:Option Nat}{i:Ins}{r:AV}(k:aU P S l (aD T d r) H nx K)(h:bo T S i=some r:=by(try simp (disch:=omega) only[eW,ZA,Nat.reduceEqDiff,↓reduceIte,Nat.reduceAdd,Nat.reduceLeDiff,ZV,reduceCtorEq,zz]);first|with_reducible rfl|(apply w9;(focus omega);with_reducible rfl)):aU P S ((⟨d,none,i⟩,0)::l) T H nx K:=uG h k
theorem cY{dm:DM}{K:SP}{l:List Op2}{d:Option Nat}{f:Opd}{args:List Opd}{g:FuncId}{caps xs:List AV}{r:AV}(k:ak P dm l (aD T d r) H nx K)(hf:ov T f=.func g caps:=by(try simp (disch:=omega) only[eW,ZA,Nat.reduceEqDiff,↓reduceIte,Nat.reduceAdd,Nat.reduceLeDiff,zz]);(try with_reducible rfl);first|done|fail)(ha:args.map (ov T)++caps=xs:=by(try simp (disch:=omega) only[eW,ZA,Nat.reduceEqDiff,↓reduceIte,Nat.reduceAdd,Nat.reduceLeDiff,zz]);(try with_reducible rfl);first|done|fail)(hp:Pure P g xs r)(hs:ax H xs xs r:=by(first|refine aq ?_ rfl|apply az);(repeat' (first|exact ar|apply aO|(apply ay;(focus with_reducible assumption))));first|done|fail):ak P dm (⟨d,none,.call f args⟩::l) T H nx K:=xn hf ha hp hs k
theorem alY{dm:DM}{K:SP}{l:List Op2}{d:Option Nat}{z:AV}{cs:List AV}(k:ak P dm l (aD T d (.ptr nx cs.length 0)) (ah H nx cs) (nx+1) K)(hd:dm2 dm T (.alloc z)=true:=by first|rfl|(simp (disch:=omega) only[dm2,uo,xX,eW,ZA,Nat.reduceEqDiff,↓reduceIte,Nat.reduceAdd,Nat.reduceLeDiff,zz,lc];first|done|omega))(hc:z.cells=cs:=by(try simp (disch:=omega) only[eW,ZA,Nat.reduceEqDiff,↓reduceIte,Nat.reduceAdd,Nat.reduceLeDiff,zz]);(try with_reducible rfl);first|done|fail)(ho:AV.ones cs=true:=by simp (disch:=omega) only[SO,Bool.and_self,iJ,gd,zz];first|done|fail):ak P dm (⟨d,none,.alloc z⟩::l) T H nx K:=wU hd hc ho k
theorem stY{dm:DM}{K:SP}{l:List Op2}{d:Option Nat}{sz:Nat}{p x:Opd}{b n off:Nat}{v:AV}{cs vs:List AV}(k:ak P dm l (aD T d (.tup [])) (ah H b (dr cs off vs)) nx K)(hd:dm2 dm T (.st sz p x)=true:=by first|rfl|(simp (disch:=omega) only[dm2,uo,xX,eW,ZA,Nat.reduceEqDiff,↓reduceIte,Nat.reduceAdd,Nat.reduceLeDiff,zz,lc];first|done|omega))(hp:ov T p=.ptr b n off:=by(try simp (disch:=omega) only[eW,ZA,Nat.reduceEqDiff,↓reduceIte,Nat.reduceAdd,Nat.reduceLeDiff,zz]);(try with_reducible rfl);first|done|fail)(hx:ov T x=v:=by(try simp (disch:=omega) only[eW,ZA,Nat.reduceEqDiff,↓reduceIte,Nat.reduceAdd,Nat.reduceLeDiff,zz]);(try with_reducible rfl);first|done|fail)(hb:H b=some cs:=by(try simp (disch:=omega) only[eW,ZA,Nat.reduceEqDiff,↓reduceIte,Nat.reduceAdd,Nat.reduceLeDiff,zz]);(try with_reducible rfl);first|done|fail)(hc:v.cells=vs:=by(try simp (disch:=omega) only[eW,ZA,Nat.reduceEqDiff,↓reduceIte,Nat.reduceAdd,Nat.reduceLeDiff,zz]);(try with_reducible rfl);first|done|fail)(ho:AV.ones vs=true:=by simp (disch:=omega) only[SO,Bool.and_self,iJ,gd,zz];first|done|fail)(hn:cs.length=n:=by(try simp only[SL,Nat.reduceAdd,Nat.reduceMul,eG]);first|done|omega)(hl:vs.length=sz:=by(try simp only[SL,Nat.reduceAdd,Nat.reduceMul,eG]);first|done|omega)(hf:off+sz<=n:=by(try simp only[SL,Nat.reduceAdd,Nat.reduceMul,eG]);first|done|omega):ak P dm (⟨d,none,.st sz p x⟩::l) T H nx K:=tp hd hp hx hb hc ho hn hl hf k
theorem blY{dm:DM}{K:SP}{l:List Op2}{d:Option Nat}{sz len:Nat}{z:List AV}{parts:List (Nat×Nat×Opd)}{pv:List (Nat×Nat×AV)}{cs:List AV}(k:ak P dm l (aD T d (.msl nx cs.length sz 0 len)) (ah H nx cs) (nx+1) K)(hd:dm2 dm T (.bldS sz len z parts)=true:=by first|rfl|(simp (disch:=omega) only[dm2,uo,xX,eW,ZA,Nat.reduceEqDiff,↓reduceIte,Nat.reduceAdd,Nat.reduceLeDiff,zz,lc];first|done|omega))(hl:len≠0:=by exact Nat.succ_ne_zero _)(hp:parts.map (λp=>(p.1,p.2.1,ov T p.2.2))=pv:=by(try simp (disch:=omega) only[eW,ZA,Nat.reduceEqDiff,↓reduceIte,Nat.reduceAdd,Nat.reduceLeDiff,zz]);(try with_reducible rfl);first|done|fail)(hc:ej (bC (.agg z) len) pv=some cs:=by(try simp (disch:=omega) only[eW,ZA,Nat.reduceEqDiff,↓reduceIte,Nat.reduceAdd,Nat.reduceLeDiff,SO,Bool.and_self,iJ,gd,zz]);(try with_reducible rfl);first|done|fail):ak P dm (⟨d,none,.bldS sz len z parts⟩::l) T H nx K:=Bc hd hl hp hc k
theorem gTY{dm:DM}{K:SP}{l:List Op2}{d:Option Nat}{i:Ins}{t:Nat}{w:Bool}(k:ak P dm (⟨d,none,i⟩::l) T H nx K)(h:T t=.bool w:=by simp (disch:=omega) only[eW,ZA,Nat.reduceEqDiff,↓reduceIte,Nat.reduceAdd,Nat.reduceLeDiff,zz];first|done|fail):ak P dm (⟨d,some (t,w),i⟩::l) T H nx K:=B7 h k
theorem gFY{dm:DM}{K:SP}{l:List Op2}{d:Option Nat}{i:Ins}{t:Nat}{w:Bool}(k:ak P dm l (aD T d (.tup [])) H nx K)(h:T t=.bool (!w)\/T t=.tup []:=by simp (disch:=omega) only[eW,ZA,Nat.reduceEqDiff,↓reduceIte,Nat.reduceAdd,Nat.reduceLeDiff,or_true,true_or,zz];first|done|fail):ak P dm (⟨d,some (t,w),i⟩::l) T H nx K:=Cn h k
theorem cTY{K:CP}{c:Opd}{x y:C2}(h1:aJ P x T H nx K)(hc:ov T c=.bool true:=by simp (disch:=omega) only[eW,ZA,Nat.reduceEqDiff,↓reduceIte,Nat.reduceAdd,Nat.reduceLeDiff,zz];first|done|fail):aJ P (.cond c x y) T H nx K:=xe hc h1
theorem cFY{K:CP}{c:Opd}{x y:C2}(h2:aJ P y T H nx K)(hc:ov T c=.bool false:=by simp (disch:=omega) only[eW,ZA,Nat.reduceEqDiff,↓reduceIte,Nat.reduceAdd,Nat.reduceLeDiff,zz];first|done|fail):aJ P (.cond c x y) T H nx K:=xo hc h2
theorem r1Y{K:AV->Prop}{a:RV}{x:AV}(h:K x)(ha:rv T H a=some x:=by simp (disch:=omega) only[rv,eW,ZA,Nat.reduceEqDiff,↓reduceIte,Nat.reduceAdd,Nat.reduceLeDiff,zz];with_reducible rfl):cb T H K [a]:=r_1 ha h
theorem r2Y{K:AV->Prop}{a b:RV}{x y:AV}(h:K (.tup [x,y]))(ha:rv T H a=some x:=by simp (disch:=omega) only[rv,eW,ZA,Nat.reduceEqDiff,↓reduceIte,Nat.reduceAdd,Nat.reduceLeDiff,zz];with_reducible rfl)(hb:rv T H b=some y:=by simp (disch:=omega) only[rv,eW,ZA,Nat.reduceEqDiff,↓reduceIte,Nat.reduceAdd,Nat.reduceLeDiff,zz];with_reducible rfl):cb T H K [a,b]:=r_2 ha hb h
class StW(A:Prop)(B:outParam Prop):Prop where st:B->A
class StO(A:Prop)(B:outParam Prop):Prop where st:B->A
class StM(A:Prop)(B:outParam Prop):Prop where st:B->A
theorem zW{A B:Prop}[i:StW A B](h:B):A:=i.st h
theorem zO{A B:Prop}[i:StO A B](h:B):A:=i.st h
theorem zM{A B:Prop}[i:StM A B](h:B):A:=i.st h
instance{K:CP}{x y:C2}:StW (aJ P (.seq x y) T H nx K) (aJ P x T H nx λe T H nx=>bl e (aJ P y T H nx K) (K e T H nx)):=⟨bW⟩
instance{K:CP}{i:Nat}{b:C2}:StW (aJ P (.block i b) T H nx K) (aJ P b T H nx λe T H nx=>K (nN i e) T H nx):=⟨pn⟩
instance{K:CP}{b:C2}:StW (aJ P (.loop b) T H nx K) (bA (aJ P b) T H nx K):=⟨BL⟩
instance{K:CP}:StO (aJ P .skip T H nx K) (K .normal T H nx):=⟨BK⟩
instance{K:CP}{i:Nat}:StO (aJ P (.exit i) T H nx K) (K (.exit i) T H nx):=⟨BX⟩
instance{K:CP}:StO (aJ P .ret T H nx K) (K .ret T H nx):=⟨CG⟩
instance{K:CP}{l:List Op2}:StO (aJ P (.ops 0 l) T H nx K) (ak P .text l T H nx λT H nx=>K .normal T H nx):=⟨BJ⟩
instance{K:CP}{l:List Op2}:StO (aJ P (.ops 1 l) T H nx K) (ak P .draw l T H nx λT H nx=>K .normal T H nx):=⟨Ch⟩
instance{K:CP}{l:List Op2}:StO (aJ P (.ops 2 l) T H nx K) (ak P (.fresh nx) l T H nx λT H nx=>K .normal T H nx):=⟨BC⟩
instance{K:CP}{l:List Op2}{C:List Nat}:StO (aJ P (.mix 1 l C) T H nx K) (ak P .draw l T H nx λT H nx=>K .normal T H nx):=⟨BN⟩
instance{K:CP}{l:List Op2}{C:List Nat}:StO (aJ P (.mix 2 l C) T H nx K) (ak P (.fresh nx) l T H nx λT H nx=>K .normal T H nx):=⟨Bz⟩
instance{dm:DM}{K:SP}:StO (ak P dm [] T H nx K) (K T H nx):=⟨zb⟩
instance{S:Hp}{K:SP}:StO (aU P S [] T H nx K) (K T H nx):=⟨Cq⟩
instance{S:Hp}{K:SP}{l:List (Op2×Nat)}{d:Option Nat}{i:Ins}:StO (aU P S ((⟨d,none,i⟩,2)::l) T H nx K) (ak P .text [⟨d,none,i⟩] T H nx λT H nx=>aU P S l T H nx K):=⟨rI⟩
instance{K:AV->Prop}:StO (cb T H K []) (K (.tup [])):=⟨r_0⟩
instance{K:CP}{l:List Op2}{C:List (Nat×Nat)}:StM (aJ P (.mixS 1 l C) T H nx K) (ak P .draw l T H nx λT H nx=>K .normal T H nx):=⟨Am⟩
instance{K:CP}{l:List Op2}{C:List (Nat×Nat)}:StM (aJ P (.mixS 2 l C) T H nx K) (ak P (.fresh nx) l T H nx λT H nx=>K .normal T H nx):=⟨zX⟩
class NZ(b w:Bool)(p q:outParam Prop):Prop where
 t:b=w->p
 f:b=!w->q
instance(priority:=10){b:Bool}:NZ b true (b=true) (b=false):=⟨id,id⟩
instance(priority:=10){b:Bool}:NZ b false (b=false) (b=true):=⟨id,id⟩
instance{p:Prop}{i:Decidable p}:NZ (decide p) true p (¬p):=⟨gU,of_decide_eq_false⟩
instance{p:Prop}{i:Decidable p}:NZ (decide p) false (¬p) p:=⟨of_decide_eq_false,gU⟩
instance(priority:=2000):NZ true true True False:=⟨λ_=>trivial,λh=>by cases h⟩
instance(priority:=2000):NZ true false False True:=⟨λh=>(by cases h),λ_=>trivial⟩
instance(priority:=2000):NZ false true False True:=⟨λh=>(by cases h),λ_=>trivial⟩
instance(priority:=2000):NZ false false True False:=⟨λ_=>trivial,λh=>by cases h⟩
instance(priority:=2000){i:Decidable True}:NZ (decide True) true True False:=⟨λ_=>trivial,λh=>of_decide_eq_false h trivial⟩
instance(priority:=2000){i:Decidable True}:NZ (decide True) false False True:=⟨λh=>of_decide_eq_false h trivial,λ_=>trivial⟩
instance(priority:=2000){i:Decidable False}:NZ (decide False) true False True:=⟨gU,λ_=>trivial⟩
instance(priority:=2000){i:Decidable False}:NZ (decide False) false True False:=⟨λ_=>trivial,gU⟩
instance{b w:Bool}{p q:Prop}[i:NZ b w p q]:NZ (!b) w q p:=⟨λh=>i.f (by cases b<;>cases w<;>simp_all),λh=>i.t (by cases b<;>cases w<;>simp_all)⟩
class StG(A:Prop)(v:outParam AV)(w:outParam Bool)(B C:outParam Prop):Prop where
 st:∀b:Bool,v=.bool b->(b=w->B)->(b=!w->C)->A
instance{K:CP}{c:Opd}{x y:C2}:StG (aJ P (.cond c x y) T H nx K) (ov T c) true (aJ P x T H nx K) (aJ P y T H nx K):=⟨λ_ h k1 k2=>vS h k1 k2⟩
instance{dm:DM}{K:SP}{l:List Op2}{d:Option Nat}{i:Ins}{t:Nat}:StG (ak P dm (⟨d,some (t,true),i⟩::l) T H nx K) (T t) true (ak P dm (⟨d,none,i⟩::l) (upd T t (.bool true)) H nx K) (ak P dm l (aD (upd T t (.bool false)) d (.tup [])) H nx K):=⟨λ_ h k1 k2=>CF h k1 k2⟩
instance{dm:DM}{K:SP}{l:List Op2}{d:Option Nat}{i:Ins}{t:Nat}:StG (ak P dm (⟨d,some (t,false),i⟩::l) T H nx K) (T t) false (ak P dm (⟨d,none,i⟩::l) (upd T t (.bool false)) H nx K) (ak P dm l (aD (upd T t (.bool true)) d (.tup [])) H nx K):=⟨λ_ h k1 k2=>CF h k1 k2⟩
theorem zGZ{A:Prop}{v:AV}{w b:Bool}{B C p q:Prop}[i:StG A v w B C][n:NZ b w p q](k1:p->B)(k2:q->C)(h:v=.bool b:=by(try simp only[bS,ZA,Nat.reduceEqDiff,↓reduceIte,Nat.reduceAdd,Nat.reduceLeDiff,zz]);(try with_reducible rfl);first|done|fail):A:=i.st b h (λh=>k1 (n.t h)) (λh=>k2 (n.f h))
theorem zGY{A:Prop}{v:AV}{w b:Bool}{B C p q:Prop}[i:StG A v w B C][n:NZ b w p q](k1:p->B)(k2:q->C)(h:v=.bool b:=by(try simp (disch:=omega) only[eW,ZA,Nat.reduceEqDiff,↓reduceIte,Nat.reduceAdd,Nat.reduceLeDiff,zz]);(try with_reducible rfl);first|done|fail):A:=i.st b h (λh=>k1 (n.t h)) (λh=>k2 (n.f h))
structure WkQ(B:Prop):Prop where
 q:B
class DatLI(l:List AV):Prop where
 d:∀x∈l,Dat x
instance:DatLI []:=⟨λ_ h=>(by cases h)⟩
instance{x:AV}{l:List AV}[h:DatI x][k:DatLI l]:DatLI (x::l):=⟨DatL.cons h.d k.d⟩
instance{l:List AV}[k:DatLI l]:DatI (.agg l):=⟨Dat.agg k.d⟩
instance{f:FuncId}{l:List AV}[k:DatLI l]:DatI (.func f l):=⟨Dat.func k.d⟩
instance{l:List AV}{n:Nat}[k:DatLI l]:DatI (.iptr l n):=⟨Dat.iptr k.d⟩
end Go.Abs
namespace Go.Abs
open Go Go.RowKit
def o9(W:World):Nat->Prop:=λb=>b<W.heap.size
theorem x9{W:World}{a:Addr}{v:Value}(h:W.cell? a=some v):o9 W a.block/\a.spot=none:=by
 unfold World.cell? at h;unfold o9;cases hb:W.heap[a.block]? with
 |none=>simp[hb] at h
 |some o=>
  refine⟨(gR.1 hb).1,?_⟩;cases hs:a.spot with
  |none=>rfl
  |some s=>cases o<;>simp[hb,hs] at h
section
variable{H:Type}{enc:TypeId×Value->H}{P:Program}{W:World}
def dY(enc:TypeId×Value->H)(P:Program)(W:World)(t:TypeId){α:Type}(f:α->AV)(good:α->Prop):Prop:=
 ∀(n:Nat)(cs:List Value)(x:DataW H×List MemPlace),DataW.trod enc P W 0 (λ_=>true) true n t cs=some x->(∀k∈x.1.weights P t,k<=reachBytes)->∃a:α,good a/\cX (E0 (o9 W)) W (f a).cells cs
theorem dY.mono{t:TypeId}{α:Type}{f:α->AV}{good good':α->Prop}(h:dY enc P W t f good)(hg:∀a,good a->good' a):dY enc P W t f good':=
 λn cs x hx hw=>let ⟨a,h1,h2⟩:=h n cs x hx hw;⟨a,hg a h1,h2⟩
theorem pz {E:Env} {w:World} {x:AV} {y:Value} (h:Rel E w x y):cX E w [x] [y]:=⟨rfl,fun i a b ha hb=>by
 cases i with
 |zero=>simp at ha hb;subst ha hb;exact h
 |succ i=>simp at ha⟩
theorem cX.app{E:Env}{w:World}{xs xs':List AV}{ys ys':List Value}(h:cX E w xs ys)(h':cX E w xs' ys'):cX E w (xs++xs') (ys++ys'):=by
 have hl:xs.length=ys.length:=h.1.symm;refine⟨by simp[h.1,h'.1],λi a b ha hb=>?_⟩;by_cases hi:i<xs.length
 ·rw[gH hi] at ha;rw[gH (by omega)] at hb;exact h.2 i a b ha hb
 ·rw[ij (by omega)] at ha;rw[ij (by omega)] at hb;rw[hl] at ha;exact h'.2 _ a b ha hb
theorem yn{t:TypeId}{k:IntKind}(ht:P.underlying t=some (.int k)):dY enc P W t (AV.int k) (λn=>(Lit.int k n).wf=true):=λn cs x hx _=>by
 obtain⟨a,rfl,rfl,hw⟩:=DataW.trod_int ht hx;exact⟨a,hw,pz (.int _ _)⟩
theorem kX{e:TypeId}{l:List (DataW H)}{d:DataW H}(h:d∈l){k:Nat}(hk:k∈d.weights P e):k∈DataW.weightsAll P e l:=by
 induction l with
 |nil=>cases h
 |cons a l ih=>
  unfold DataW.weightsAll;rcases nj.1 h with rfl|h
  ·exact rn _ hk
  ·exact uV _ (ih h)
theorem oD{α:Type}{len:Nat}{Q:Nat->α->Prop}(h:∀i,i<len->∃a,Q i a):∃l:List α,l.length=len/\∀i a,l[i]?=some a->Q i a:=by
 induction len with
 |zero=>exact⟨[],rfl,λi a h=>by simp at h⟩
 |succ n ih=>
  obtain⟨l,h1,h2⟩:=ih (λi hi=>h i (by omega));obtain⟨a,ha⟩:=h n (by omega);refine⟨l++[a],by simp[h1],λi b hb=>?_⟩;by_cases hi:i<l.length
  ·rw[gH hi] at hb;exact h2 i b hb
  ·rw[ij (by omega)] at hb
   have:i-l.length=0:=by
    by_cases h0:i-l.length=0
    ·exact h0
    ·rw[List.getElem?_eq_none (by simp;omega)] at hb;cases hb
   rw[this] at hb;simp at hb;subst hb;have:i=n:=by omega
   subst this;exact ha
theorem gz{t e:TypeId}{sz by_:Nat}{α:Type}{f:α->AV}{good:α->Prop}(ht:P.underlying t=some (.slice e))(hsz:P.cellsOf e=sz)(hby:P.bytesOf e=by_)(hpos:0<sz)(hc:∀a,(f a).cells.length=sz)
    (he:dY enc P W e f good):dY enc P W t (iK sz f) (λl=>(∀a∈l,good a)/\l.length<=9223372036854775807/\l.length*by_<=140737488351232):=λn cs x hx hw=>by
 rcases Go.Deep.open_slice ht hx with⟨rfl,rfl⟩|⟨a,len,cap,m,n',D,Pl,rfl,hb,hlc,hcm,hm,hxe,hel⟩
 ·exact⟨[],⟨λ_ h=>(by cases h),by simp,by simp⟩,pz (.slnil _)⟩
 simp only[if_true] at hm;subst hxe;subst hm;have hw':∀k∈((DataW.slice (H:=H) ((List.range len).map D) ((List.range (m-len)).map λj=>D (len+j))).weights P t),k<=reachBytes:=hw;simp only[DataW.weights,ht] at hw';have hlen:(((List.range len).map D).length+((List.range (m-len)).map λj=>D (len+j)).length)*P.bytesOf e<=reachBytes:=hw' _ (List.mem_cons_self ..)
 have hbd:len*by_<=140737488351232:=by
  rw[hby] at hlen;simp only[eG,List.length_range] at hlen;have h1:len*by_<=(len+(m-len))*by_:=gF _ (by omega);have h2:reachBytes=140737488351232:=rfl;omega
 have hlm:len<=9223372036854775807:=gK hlc hcm
 have key:∀i,i<len->∃a':α,good a'/\∃cs',W.cells? 0 (a.add (i*sz)) sz=some cs'/\cX (E0 (o9 W)) W (f a').cells cs':=λi hi=>by
  obtain⟨cs',h1,h2⟩:=hel i (by omega);rw[hsz] at h1;obtain⟨a',g1,g2⟩:=he n' cs' _ h2 (λk hk=>hw' k (List.mem_cons_of_mem _ (rn _ (kX (gL.2 ⟨i,gJ.2 hi,rfl⟩) hk))));exact⟨a',g1,cs',h1,g2⟩
 obtain⟨l,hl,hq⟩:=oD key;refine⟨l,⟨λx hx=>?_,by omega,by rw[hl];exact hbd⟩,pz ?_⟩
 ·obtain⟨i,hi⟩:=sR hx;exact(hq i x hi).1
 by_cases h0:len=0
 ·subst h0;have:l=[]:=fI.1 hl;subst this;exact .slempty _ _ _
 have hcell:∀i j,i<len->j<sz->∃v,W.cell? ((a.add (i*sz)).add j)=some v:=λi j hi hj=>by
  obtain⟨a',_,cs',h1,h2⟩:=key i hi;unfold World.cells? at h1;rw[if_pos (bZ _)] at h1;have h3:=mapM_some_get h1 j j (by simp[hj])
  have h4:j<cs'.length:=by
   have:=mapM_some_length h1;simp at this;omega
  exact⟨cs'[j],by rw[h3];simp[h4]⟩
 obtain⟨v0,hv0⟩:=hcell 0 0 (by omega) hpos;have ho:=x9 hv0;simp only[tx,Addr.add,if_true] at ho;obtain⟨blk,off,sp⟩:=a;obtain⟨ho,hsp⟩:=ho;simp only at hsp ho;subst hsp
 have hadd:∀i j,((⟨blk,off,none⟩:Addr).add (i*sz)).add j=⟨blk,off+(i*sz+j),none⟩:=λi j=>by
  rw[bX,bX,qi]
 have hcell':∀k,k<len*sz->∃v,W.cell? ⟨blk,off+k,none⟩=some v:=λk hk=>by
  have h1:k/sz<len:=Nat.div_lt_of_lt_mul (by rw[Nat.mul_comm];exact hk);have h2:k%sz<sz:=Nat.mod_lt _ hpos;obtain⟨v,hv⟩:=hcell (k/sz) (k%sz) h1 h2;rw[hadd,Nat.div_add_mod'] at hv;exact⟨v,hv⟩
 have hlen2:(l.map f).length=len:=by simp[hl]
 have:=Rel.sl (E:=E0 (o9 W)) (w:=W) sz (l.map f) blk off m (λk=>(W.cell? ⟨blk,off+k,none⟩).getD Go.undef) ho (by rw[hlen2];exact hlc)
  (λx hx=>by obtain⟨b,_,rfl⟩:=gL.1 hx;exact hc b)
  (fun k hk=>by
   rw[hlen2] at hk;obtain⟨v,hv⟩:=hcell' k hk;simp only[hv,u5])
  (fun i j x y hx hy=>by
   rw[nJ,Option.map_eq_some_iff] at hx;obtain⟨a',ha',rfl⟩:=hx;obtain⟨_,cs',h1,h2⟩:=hq i a' ha'
   have hj:j<sz:=by
    have:=(bJ.1 hy).1
    rwa [hc] at this
   have hi:i<len:=by
    have:=(bJ.1 ha').1;omega
   unfold World.cells? at h1;rw[if_pos (bZ _)] at h1;have h3:=mapM_some_get h1 j j (by simp[hj])
   have h4:j<cs'.length:=by
    have:=mapM_some_length h1;simp at this;omega
   rw[hadd] at h3;have h5:cs'[j]?=some cs'[j]:=by simp[h4]
   rw[h5] at h3;simp only[h3,u5];exact h2.2 j y _ hy h5)
 rw[hlen2] at this;exact this
def sX(enc:TypeId×Value->H)(P:Program)(W:World)(fs:List Field)(off:Nat){α:Type}(g:α->List AV)(good:α->Prop):Prop:=
 ∀(n tot:Nat)(cs:List Value)(ys:List (DataW H×List MemPlace)),ys.length=fs.length->(∀(i:Nat)(f:Field),fs[i]?=some f->DataW.trod enc P W 0 (λ_=>true) true n f.type ((cs.drop f.offset).take (P.cellsOf f.type))=ys[i]?)->
  (∀k∈DataW.weightsEach P (fs.map λf:Field=>f.type) (ys.map (·.1)),k<=reachBytes)->cs.length=tot->tot=off+(fs.map λf:Field=>P.cellsOf f.type).sum->∃a:α,good a/\cX (E0 (o9 W)) W (g a) (cs.drop off)
theorem q9{off:Nat}:sX enc P W [] off (λ_:Unit=>[]) (λ_=>True):=λn tot cs ys _ _ _ h1 h2=>by
 refine⟨(),trivial,?_⟩;rw[ml (by simp at h2;omega)];exact⟨rfl,λi a b h=>by simp at h⟩
theorem cC{fd:Field}{fs:List Field}{off off':Nat}{α β:Type}{f:α->AV}{g:β->List AV}{good:α->Prop}{good':β->Prop}(ho:fd.offset=off)(ho':off+P.cellsOf fd.type=off')
    (h:dY enc P W fd.type f good) (h':sX enc P W fs off' g good'):sX enc P W (fd::fs) off (λa:α×β=>(f a.1).cells++g a.2) (λa=>good a.1/\good' a.2):=λn tot cs ys hl hy hw h1 h2=>by
 obtain⟨y,ys,rfl⟩:∃y ys',ys=y::ys':=by
  cases ys with
  |nil=>simp at hl
  |cons y ys=>exact⟨y,ys,rfl⟩
 have hy0:=hy 0 fd rfl;simp only[nC] at hy0;rw[ho] at hy0;simp only[gD,DataW.weightsEach] at hw;obtain⟨a,g1,g2⟩:=h n _ y hy0 (λk hk=>hw k (rn _ hk));simp only[gD,List.sum_cons] at h2
 obtain ⟨b,g3,g4⟩:=h' n tot cs ys (by simpa using hl) (fun i f hf=>by
  have:=hy (i+1) f (by simpa using hf);simpa using this) (λk hk=>hw k (uV _ hk)) h1 (by omega)
 refine⟨(a,b),⟨g1,g3⟩,?_⟩
 have e:cs.drop off=(cs.drop off).take (P.cellsOf fd.type)++cs.drop off':=by
  rw[<-ho',<-List.drop_drop,wq]
 rw[e];exact cX.app g2 g4
theorem mi{t:TypeId}{fs:Array Field}{α:Type}{g:α->List AV}{good:α->Prop}(ht:P.underlying t=some (.struct fs))(hsum:P.cellsOf t=(fs.toList.map λf:Field=>P.cellsOf f.type).sum)
    (h:sX enc P W fs.toList 0 g good):dY enc P W t (λa=>.agg (g a)) good:=λn cs x hx hw=>by
 obtain⟨ys,n',rfl,rfl,hl,hs,hy⟩:=DataW.trod_struct ht hx
 obtain ⟨a,g1,g2⟩:=h n' _ cs ys (by rw [hs]; simp) (fun i f hf=>hy i f (by simpa using hf)) (fun k hk=>hw k (by
  simp only[DataW.weights,ht];exact hk)) hl (by rw[eF,hsum])
 exact⟨a,g1,by rw[List.drop_zero] at g2;exact g2⟩
theorem ym{t e:TypeId}{sz m:Nat}{α:Type}{f:α->AV}{good:α->Prop}(ht:P.underlying t=some (.array m e))(hsz:P.cellsOf e=sz)(htot:P.cellsOf t=m*sz)
    (he:dY enc P W e f good):dY enc P W t (λl:List α=>.agg (l.flatMap λa=>(f a).cells)) (λl=>l.length=m/\∀a∈l,good a):=λn cs x hx hw=>by
 cases n with
 |zero=>simp[DataW.trod] at hx
 |succ n=>
  unfold DataW.trod at hx;rw[ht] at hx
  have hx:(if cs.length=P.cellsOf t then((List.range m).mapM λi=>DataW.trod enc P W 0 (λ_=>true) true n e ((cs.drop (i*P.cellsOf e)).take (P.cellsOf e))).map λxs=>(DataW.agg (xs.map (·.1)),xs.flatMap (·.2)) else none)=some x:=by
   cases cs<;>exact hx
  split at hx
  case isFalse=>cases hx
  case isTrue hl=>
  rw[Option.map_eq_some_iff] at hx;obtain⟨ys,hy,rfl⟩:=hx;rw[hsz] at hy;have hyl:=mapM_some_length hy;simp at hyl
  have hget:∀i,i<m->∃y,ys[i]?=some y/\DataW.trod enc P W 0 (λ_=>true) true n e ((cs.drop (i*sz)).take sz)=some y:=λi hi=>by
   have h1:i<ys.length:=by omega
   exact⟨ys[i],by simp[h1],by rw[mapM_some_get hy i i (by simp[hi])];simp[h1]⟩
  have key:∀i,i<m->∃a,good a/\cX (E0 (o9 W)) W (f a).cells ((cs.drop (i*sz)).take sz):=λi hi=>by
   obtain⟨y,h1,h2⟩:=hget i hi
   exact he n _ y h2 (fun k hk=>hw k (by
    simp only[DataW.weights,ht];exact kX (gL.2 ⟨y,gG h1,rfl⟩) hk))
  obtain⟨l,h1,h2⟩:=oD key;refine⟨l,⟨h1,λa ha=>?_⟩,?_⟩
  ·obtain⟨i,hi⟩:=sR ha;exact(h2 i a hi).1
  rw[htot] at hl
  have gen:∀(l:List α)(k:Nat),k+l.length=m->(∀i a,l[i]?=some a->cX (E0 (o9 W)) W (f a).cells ((cs.drop ((k+i)*sz)).take sz))->cX (E0 (o9 W)) W (l.flatMap λa=>(f a).cells) (cs.drop (k*sz)):=by
   intro l
   induction l with
   |nil=>
    intro k hk _;rw[ml (by simp at hk;subst hk;omega)];exact⟨rfl,λi a b h=>by simp at h⟩
   |cons a l ih=>
    intro k hk hq
    have e:cs.drop (k*sz)=(cs.drop (k*sz)).take sz++cs.drop ((k+1)*sz):=by
     rw[fi,Nat.one_mul,<-List.drop_drop,wq]
    rw[e,rh];refine cX.app (hq 0 a rfl) (ih (k+1) (by simp at hk;omega) (λi b hb=>?_));have:=hq (i+1) b (by simpa using hb)
    rwa [show k+(i+1)=k+1+i by omega] at this
  have:=gen l 0 (by omega) (λi a ha=>by rw[eF];exact(h2 i a ha).2)
  rwa [tx,List.drop_zero] at this
theorem dY.map{t:TypeId}{α β:Type}{f:α->AV}{good:α->Prop}{f':β->AV}{good':β->Prop}(h:dY enc P W t f good)(φ:α->β)(hg:∀a,good a->good' (φ a))(hf:∀a,good a->(f' (φ a)).cells=(f a).cells):dY enc P W t f' good':=λn cs x hx hw=>by
 obtain⟨a,h1,h2⟩:=h n cs x hx hw;exact⟨φ a,hg a h1,by rw[hf a h1];exact h2⟩
theorem dY.at{t u:TypeId}{α:Type}{f:α->AV}{good:α->Prop}(e:t=u)(h:dY enc P W u f good):dY enc P W t f good:=e▸h
theorem dY.argA{t:TypeId}{α:Type}{f:α->AV}{good:α->Prop}(h:dY enc P W t f good){r:Reach}{base:Nat}{v:Value}{d:DataW H}{ps:List MemPlace}(ht:pe P t=true)(hf:∀a,∃cs,f a=.agg cs)
    (hval:Value.okWide P W r base t v) (hd:DataW.Trod enc P W 0 (λ_=>true) true t v d ps) (hw:∀k∈d.weights P t,k<=reachBytes):∃a,good a/\Rel (E0 (o9 W)) W (f a) v:=by
 obtain⟨n,hn⟩:=hd;obtain⟨a,h1,h2⟩:=h n _ _ hn hw;refine⟨a,h1,?_⟩
 obtain⟨cs,hcs,_⟩:∃cs,v=.agg cs/\True:=by
  unfold Value.okWide at hval;unfold pe at ht;split at hval
  ·obtain⟨cs,h,_⟩:=hval;exact⟨cs,h,trivial⟩
  ·obtain⟨cs,h,_⟩:=hval;exact⟨cs,h,trivial⟩
  ·rename_i k1 k2;revert ht;cases hu:P.underlying t with
   |none=>simp
   |some u=>
    cases u with
    |struct fs=>exact absurd hu (k1 fs)
    |array m e=>exact absurd hu (k2 m e)
    |_=>simp
 subst hcs;obtain⟨xs,hx⟩:=hf a;rw[hx] at h2 |-;exact .agg xs cs.toList h2.1 h2.2
theorem lV(hl:laidOutB P=true){W':World}(hb:Below W.heap.size W W'){sp:Nat->Bool}:∀{ts:List TypeId}{vs:List Value}{ds:List (DataW H)}{ps:List MemPlace},(∀t∈ts,P.readableRec t=true/\t<P.types.size)->
    DataW.TrodAll enc P W 0 (λ_=>true) true ts vs ds ps->(∀p∈ps,p.block<W.heap.size)->(∀p∈ps,sp p.block=true)->DataW.TrodAll enc P W' 0 sp true ts vs ds ps
 |[],[],[],ps,_,h,_,_=>h
 |t::ts,v::vs,d::ds,ps,hr,⟨p,q,h1,h2,e⟩,hlt,hsp=>by
  subst e
  exact ⟨p,q,WideElems.Trod_stays hl (hr t (List.mem_cons_self ..)).1 (hr t (List.mem_cons_self ..)).2 h1 (fun x hx=>hb.same (hlt x (rn _ hx))) (fun x hx=>hsp x (rn _ hx)),
   lV hl hb (λt ht=>hr t (List.mem_cons_of_mem _ ht)) h2 (λx hx=>hlt x (uV _ hx)) (λx hx=>hsp x (uV _ hx)),rfl⟩
 |[],_::_,_,_,_,h,_,_=>h.elim
 |[],[],_::_,_,_,h,_,_=>h.elim
 |_::_,[],_,_,_,h,_,_=>h.elim
 |_::_,_::_,[],_,_,h,_,_=>h.elim
theorem lk:∀{ts:List TypeId}{ds:List (DataW H)}{i:Nat}{t:TypeId}{d:DataW H},ts[i]?=some t->ds[i]?=some d->∀k∈d.weights P t,k∈DataW.weightsEach P ts ds
 |t::ts,d::ds,0,_,_,h1,h2,k,hk=>by
  simp at h1 h2;subst h1 h2;unfold DataW.weightsEach;exact rn _ hk
 |t::ts,d::ds,i+1,_,_,h1,h2,k,hk=>by
  unfold DataW.weightsEach;exact uV _ (lk (ts:=ts) (ds:=ds) (by simpa using h1) (by simpa using h2) k hk)
 |[],_,i,_,_,h1,_,_,_=>by simp at h1
 |_::_,[],i,_,_,_,h2,_,_=>by simp at h2
end
end Go.Abs
namespace Go.Proofs.Ytpbjhjkfobapeaa
open Go Go.Abs Go.Abs.C2 Go.Abs.Ins Go.Abs.Opd Go.Abs.TK Go.Abs.MK
def cO(d:Nat)(i:Ins):Op2:=Op2.mk (some d) none i
def cG(d g:Nat)(b:Bool)(i:Ins):Op2:=Op2.mk (some d) (some (g,b)) i
def cN(k:Int):Opd:=Opd.c (AV.int IntKind.i64 k)
def cM(n:Nat):Ins:=Ins.mov (Opd.t n)
def cD(n:Nat):Ins:=Ins.ld1 (Opd.t n)
def cF(n:Nat):Opd:=Opd.c (AV.func n [])
def cB(o:BinOp)(x y:Opd):Ins:=Ins.bin o false false x y
def zj:Opd:=Opd.c (AV.bool false)
def z7:Opd:=Opd.c (AV.bool true)
def aa(d s:Nat):Op2:=Op2.mk (some d) none (Ins.mov (Opd.t s))
def af(d s:Nat):Op2:=Op2.mk (some d) none (Ins.ld1 (Opd.t s))
def bO(d n s:Nat):Op2:=Op2.mk (some d) none (Ins.ldn n (Opd.t s))
def bu(d s:Nat):Op2:=Op2.mk (some d) none (Ins.lenS (Opd.t s))
def an(d n s:Nat):Op2:=Op2.mk (some d) none (Ins.fa n (Opd.t s))
def cq(d s n:Nat):Op2:=Op2.mk (some d) none (Ins.ext (Opd.t s) n)
def aA(d f:Nat)(l:List Opd):Op2:=Op2.mk (some d) none (Ins.call (Opd.c (AV.func f [])) l)
def aR(d:Nat)(o:BinOp)(x y:Nat):Op2:=Op2.mk (some d) none (Ins.bin o false false (Opd.t x) (Opd.t y))
def aM(d:Nat)(o:BinOp)(x:Nat)(y:Int):Op2:=Op2.mk (some d) none (Ins.bin o false false (Opd.t x) (Opd.c (AV.int IntKind.i64 y)))
def cU(n p v:Nat):Op2:=Op2.mk none none (Ins.st n (Opd.t p) (Opd.t v))
def ai(d g:Nat)(i:Ins):Op2:=Op2.mk (some d) (some (g,false)) i
def al(d g:Nat)(i:Ins):Op2:=Op2.mk (some d) (some (g,true)) i
def ct(n:Nat)(x y:C2):C2:=C2.cond (Opd.t n) x y
def ab(l:List Op2)(x:C2):C2:=C2.seq (C2.ops 0 l) x
def dH(k b:Nat):C2:=C2.ops 0 [Op2.mk (some k) none (Ins.bin BinOp.add false false (Opd.t b) (Opd.c (AV.int IntKind.i64 1))),Op2.mk (some b) none (Ins.mov (Opd.t k))]
def CD(k n:Nat)(x:C2):C2:=C2.seq (C2.cond (Opd.t k) C2.skip (C2.exit n)) x
def dI(k a b n:Nat)(x:C2):C2:=C2.seq (C2.ops 0 [Op2.mk (some k) none (Ins.bin BinOp.lss false false (Opd.t a) (Opd.t b))]) (C2.seq (C2.cond (Opd.t k) C2.skip (C2.exit n)) x)
def aw(d:Nat)(k:Int):Op2:=Op2.mk (some d) none (Ins.mov (Opd.c (AV.int IntKind.i64 k)))
def cr(d p a:Nat):Op2:=Op2.mk (some d) none (Ins.pick (Opd.t p) (Opd.c (AV.bool true)) (Opd.t a))
def dn(d p a:Nat):Op2:=Op2.mk (some d) none (Ins.pick (Opd.t p) (Opd.t a) (Opd.c (AV.bool false)))
def dj(d s:Nat):Op2:=Op2.mk (some d) none (Ins.box (Opd.t s))
def ba(d n s i:Nat):Op2:=Op2.mk (some d) none (Ins.ixaS n (Opd.t s) (Opd.t i))
def eY(d s:Nat):Op2:=Op2.mk (some d) none (Ins.un UnOp.not (Opd.t s))
def i7(d n b s x:Nat):Op2:=Op2.mk (some d) none (Ins.app n b (Opd.t s) (Opd.t x))
def kj(d:Nat):Op2:=Op2.mk (some d) none (Ins.mov (Opd.c AV.esl))
def bH(d:Nat):Op2:=Op2.mk (some d) none (Ins.mov (Opd.c (AV.bool false)))
def lF(d:Nat):Op2:=Op2.mk (some d) none (Ins.mov (Opd.c (AV.bool true)))
def au(l:List Op2):C2:=C2.seq (C2.ops 0 l) C2.ret
def bc(n:Nat)(x:C2):C2:=C2.cond (Opd.t n) x C2.skip
def am:AV:=AV.int IntKind.i64 0
theorem aS:(∀(d:Nat)(i:Ins),cO d i=Op2.mk (some d) none i)/\(∀(d g:Nat)(b:Bool)(i:Ins),cG d g b i=Op2.mk (some d) (some (g,b)) i)/\(∀(k:Int),cN k=Opd.c (AV.int IntKind.i64 k))/\(∀(n:Nat),cM n=Ins.mov (Opd.t n))/\(∀(n:Nat),cD n=Ins.ld1 (Opd.t n))/\(∀(n:Nat),cF n=Opd.c (AV.func n []))/\(∀(o:BinOp)(x y:Opd),cB o x y=Ins.bin o false false x y)/\(zj=Opd.c (AV.bool false))/\(z7=Opd.c (AV.bool true))/\(∀(d s:Nat),aa d s=Op2.mk (some d) none (Ins.mov (Opd.t s)))/\(∀(d s:Nat),af d s=Op2.mk (some d) none (Ins.ld1 (Opd.t s)))/\(∀(d n s:Nat),bO d n s=Op2.mk (some d) none (Ins.ldn n (Opd.t s)))/\(∀(d s:Nat),bu d s=Op2.mk (some d) none (Ins.lenS (Opd.t s)))/\(∀(d n s:Nat),an d n s=Op2.mk (some d) none (Ins.fa n (Opd.t s)))/\(∀(d s n:Nat),cq d s n=Op2.mk (some d) none (Ins.ext (Opd.t s) n))/\(∀(d f:Nat)(l:List Opd),aA d f l=Op2.mk (some d) none (Ins.call (Opd.c (AV.func f [])) l))/\(∀(d:Nat)(o:BinOp)(x y:Nat),aR d o x y=Op2.mk (some d) none (Ins.bin o false false (Opd.t x) (Opd.t y)))/\(∀(d:Nat)(o:BinOp)(x:Nat)(y:Int),aM d o x y=Op2.mk (some d) none (Ins.bin o false false (Opd.t x) (Opd.c (AV.int IntKind.i64 y))))/\(∀(n p v:Nat),cU n p v=Op2.mk none none (Ins.st n (Opd.t p) (Opd.t v)))/\(∀(d g:Nat)(i:Ins),ai d g i=Op2.mk (some d) (some (g,false)) i)/\(∀(d g:Nat)(i:Ins),al d g i=Op2.mk (some d) (some (g,true)) i)/\(∀(n:Nat)(x y:C2),ct n x y=C2.cond (Opd.t n) x y)/\(∀(l:List Op2)(x:C2),ab l x=C2.seq (C2.ops 0 l) x)/\(∀(k b:Nat),dH k b=C2.ops 0 [Op2.mk (some k) none (Ins.bin BinOp.add false false (Opd.t b) (Opd.c (AV.int IntKind.i64 1))),Op2.mk (some b) none (Ins.mov (Opd.t k))])/\(∀(k n:Nat)(x:C2),CD k n x=C2.seq (C2.cond (Opd.t k) C2.skip (C2.exit n)) x)/\(∀(k a b n:Nat)(x:C2),dI k a b n x=C2.seq (C2.ops 0 [Op2.mk (some k) none (Ins.bin BinOp.lss false false (Opd.t a) (Opd.t b))]) (C2.seq (C2.cond (Opd.t k) C2.skip (C2.exit n)) x))/\(∀(d:Nat)(k:Int),aw d k=Op2.mk (some d) none (Ins.mov (Opd.c (AV.int IntKind.i64 k))))/\(∀(d p a:Nat),cr d p a=Op2.mk (some d) none (Ins.pick (Opd.t p) (Opd.c (AV.bool true)) (Opd.t a)))/\(∀(d p a:Nat),dn d p a=Op2.mk (some d) none (Ins.pick (Opd.t p) (Opd.t a) (Opd.c (AV.bool false))))/\(∀(d s:Nat),dj d s=Op2.mk (some d) none (Ins.box (Opd.t s)))/\(∀(d n s i:Nat),ba d n s i=Op2.mk (some d) none (Ins.ixaS n (Opd.t s) (Opd.t i)))/\(∀(d s:Nat),eY d s=Op2.mk (some d) none (Ins.un UnOp.not (Opd.t s)))/\(∀(d n b s x:Nat),i7 d n b s x=Op2.mk (some d) none (Ins.app n b (Opd.t s) (Opd.t x)))/\(∀(d:Nat),kj d=Op2.mk (some d) none (Ins.mov (Opd.c AV.esl)))/\(∀(d:Nat),bH d=Op2.mk (some d) none (Ins.mov (Opd.c (AV.bool false))))/\(∀(d:Nat),lF d=Op2.mk (some d) none (Ins.mov (Opd.c (AV.bool true))))/\(∀(l:List Op2),au l=C2.seq (C2.ops 0 l) C2.ret)/\(∀(n:Nat)(x:C2),bc n x=C2.cond (Opd.t n) x C2.skip)/\(am=AV.int IntKind.i64 0):=⟨λ_ _=>rfl,λ_ _ _ _=>rfl,λ_=>rfl,λ_=>rfl,λ_=>rfl,λ_=>rfl,λ_ _ _=>rfl,rfl,rfl,λ_ _=>rfl,λ_ _=>rfl,λ_ _ _=>rfl,λ_ _=>rfl,λ_ _ _=>rfl,λ_ _ _=>rfl,λ_ _ _=>rfl,λ_ _ _ _=>rfl,λ_ _ _ _=>rfl,λ_ _ _=>rfl,λ_ _ _=>rfl,λ_ _ _=>rfl,λ_ _ _=>rfl,λ_ _=>rfl,λ_ _=>rfl,λ_ _ _=>rfl,λ_ _ _ _ _=>rfl,λ_ _=>rfl,λ_ _ _=>rfl,λ_ _ _=>rfl,λ_ _=>rfl,λ_ _ _ _=>rfl,λ_ _=>rfl,λ_ _ _ _ _=>rfl,λ_=>rfl,λ_=>rfl,λ_=>rfl,λ_=>rfl,λ_ _=>rfl,rfl⟩
theorem mkI{P:Program}{f:FuncId}{F:F2}{fn:Func}(h1:P.funcs[f]?=some fn)(h2:tM P fn=some F:=by kernel_rfl):Is P f F:=Is.mk' h1 h2
theorem follows:Try.prog.follows .mixedOrders=true:=by rfl
abbrev pU:=@Go.Abs.Pure Try.prog
theorem pO{f:FuncId}{F:F2}{args:List AV}{r:AV}(hf:Is Try.prog f F)(hb:aJ Try.prog F.body (T0 args) bi 0 λe T H nx=>bf e.ends (cb T H (λx=>Snap H x r) F.res))(hl:args.length<=F.n:=by exact Nat.le_of_ble_eq_true rfl):Go.Abs.Pure Try.prog f args r:=Go.Abs.Pure.of_c2 follows hf hl hb
theorem fO{f:FuncId}{F:F2}{args:List AV}{H:Hp}{nx:Nat}{K:AV->Hp->Nat->Prop}(hf:Is Try.prog f F)(hb:aJ Try.prog F.body (T0 args) H nx λe T H nx=>bf e.ends (cb T H (λx=>K x H nx) F.res))(hl:args.length<=F.n:=by exact Nat.le_of_ble_eq_true rfl):Go.Abs.Fn Try.prog f args H nx K:=Go.Abs.Fn.of_c2 follows hf hl hb
def b3:F2:=(F2.mk 131 [RV.t 6] (ab [dj 3 0,dj 4 1,bH 6] ((ab [bO 19 8 3,aA 20 11 [t 19],eY 21 20,aa 22 21,ai 23 22 (cM 2),ai 24 22 (lenStr (t 23)),ai 25 22 (cB .gtr (t 24) (cN 200)),cr 26 22 25] (bc 26 (au [aA 27 12 [],aa 6 27]))).seq (ab [bO 29 8 3,an 30 0 4,af 31 30,an 32 1 4,af 33 32,an 34 2 4,af 35 34,an 36 3 4,af 37 36,aA 38 13 [t 29,t 31,t 33,t 35,t 37],aa 28 38,cq 39 28 0,cq 40 28 1,aa 7 39,aa 8 40] (ab [bO 42 8 3,an 43 0 4,af 44 43,an 45 1 4,af 46 45,an 47 2 4,af 48 47,an 49 3 4,af 50 49,aA 51 14 [t 42,t 44,t 46,t 48,t 50],aa 41 51,cq 52 41 0,cq 53 41 1,aa 9 52,aa 10 53] (ab [bO 55 8 3,an 56 0 4,af 57 56,an 58 1 4,af 59 58,an 60 2 4,af 61 60,aA 62 15 [t 55,t 57,t 59,t 61],aa 54 62,cq 63 54 0,cq 64 54 1,aa 11 63,aa 12 64] (ab [bO 66 8 3,an 67 0 4,af 68 67,an 69 1 4,af 70 69,an 71 2 4,af 72 71,aA 73 16 [t 66,t 68,t 70,t 72],aa 65 73,cq 74 65 0,cq 75 65 1,aa 13 74,aa 14 75] (ab [bO 77 8 3,an 78 0 4,af 79 78,an 80 1 4,af 81 80,an 82 2 4,af 83 82,aa 84 2,aA 85 17 [t 77,t 79,t 81,t 83,t 84],aa 76 85,cq 86 76 0,cq 87 76 1,aa 15 86,aa 16 87] (ab [bO 89 8 3,an 90 0 4,af 91 90,an 92 1 4,af 93 92,an 94 2 4,af 95 94,aa 96 2,aA 97 18 [t 89,t 91,t 93,t 95,t 96],aa 88 97,cq 98 88 0,cq 99 88 1,aa 17 98,aa 18 99] (au [aA 100 12 [],aa 101 100,al 102 101 (cM 7),al 103 101 (cM 9),al 104 101 (cB .eql (t 102) (t 103)),dn 105 101 104,aa 106 105,al 107 106 (cM 8),al 108 106 (cM 10),al 109 106 (cB .eql (t 107) (t 108)),dn 110 106 109,aa 111 110,al 112 111 (cM 11),al 113 111 (cM 13),al 114 111 (cB .eql (t 112) (t 113)),dn 115 111 114,aa 116 115,al 117 116 (cM 12),al 118 116 (cM 14),al 119 116 (cB .eql (t 117) (t 118)),dn 120 116 119,aa 121 120,al 122 121 (cM 15),al 123 121 (cM 17),al 124 121 (cB .eql (t 122) (t 123)),dn 125 121 124,aa 126 125,al 127 126 (cM 16),al 128 126 (cM 18),al 129 126 (cB .eql (t 127) (t 128)),dn 130 126 129,aa 6 130]))))))))))
def b4:F2:=(F2.mk 68 [RV.t 4] (ab [dj 2 0,bH 4] ((ab [bO 13 8 2,aA 14 11 [t 13],eY 15 14,aa 16 15,ai 17 16 (cM 1),ai 18 16 (lenStr (t 17)),ai 19 16 (cB .gtr (t 18) (cN 3000)),ai 20 16 (cM 19),al 21 20 (cM 1),al 22 20 (lenStr (t 21)),al 23 20 (cB .leq (t 22) (cN 65536)),ai 24 16 (pick (t 20) (t 23) zj),cr 25 16 24] (bc 25 (au [aA 26 12 [],aa 4 26]))).seq (ab [bO 28 8 2,aA 29 19 [t 28],aa 27 29,cq 30 27 0,cq 31 27 1,aa 5 30,aa 6 31] (ab [bO 33 8 2,aA 34 20 [t 33],aa 32 34,cq 35 32 0,cq 36 32 1,aa 7 35,aa 8 36] (ab [aa 38 1,aA 39 21 [t 38],aa 37 39,cq 40 37 0,cq 41 37 1,cO 9 (alloc (AV.agg [am,am,am,am,AV.esl,AV.esl,AV.esl,AV.esl])),cU 8 9 40,aa 10 41] (ab [aa 43 1,aA 44 22 [t 43],aa 42 44,cq 45 42 0,cq 46 42 1,cO 11 (alloc (AV.agg [am,am,am,am,AV.esl,AV.esl,AV.esl,AV.esl])),cU 8 11 45,aa 12 46] (au [aA 47 12 [],aa 48 47,al 49 48 (cM 5),al 50 48 (cM 7),al 51 48 (cB .eql (t 49) (t 50)),dn 52 48 51,aa 53 52,al 54 53 (cM 6),al 55 53 (cM 8),al 56 53 (cB .eql (t 54) (t 55)),dn 57 53 56,aa 58 57,al 59 58 (ldn 8 (t 9)),al 60 58 (ldn 8 (t 11)),al 61 58 (call (cF 23) [t 59,t 60]),dn 62 58 61,aa 63 62,al 64 63 (cM 10),al 65 63 (cM 12),al 66 63 (cB .eql (t 64) (t 65)),dn 67 63 66,aa 4 67]))))))))
theorem is4:Is Try.prog 4 b4:=mkI Try.func4
def b5:F2:=(F2.mk 37 [RV.t 2] (ab [bH 2] ((ab [aa 5 0,cO 6 (lenStr (t 5)),aM 7 .gtr 6 5000] (bc 7 (au [aA 8 12 [],aa 2 8]))).seq (ab [aa 9 0,cO 10 (lenStr (t 9)),cO 11 (conv IntKind.u64 (t 10)),aa 3 11] ((ab [aa 12 0,cO 13 (lenStr (t 12)),aw 14 0] (block 0 ((dI 15 14 13 0 ((block 1 (ab [aa 16 14,aa 4 16] (ops 0 [aa 17 3,aa 18 4,aM 19 .add 18 1,cO 20 (conv IntKind.u64 (t 19)),aa 21 0,aa 22 4,cO 23 (ixStr (t 21) (t 22)),cO 24 (conv IntKind.u64 (t 23)),aR 25 .mul 20 24,aR 26 .add 17 25,aa 3 26]))).seq (dH 27 14)))).loop)).seq (au [aa 28 0,aA 29 24 [t 28],cO 30 (conv IntKind.u64 (t 29)),aa 31 3,cO 32 (cB .rem (t 31) (c (AV.int IntKind.u64 (65521)))),aR 33 .eql 30 32,aa 34 33,al 35 34 (call (cF 12) []),dn 36 34 35,aa 2 36]))))))
def b6:F2:=(F2.mk 80 [RV.t 6] (ab [bH 6] ((ab [aa 9 0,cO 10 (lenStr (t 9)),aM 11 .gtr 10 5000,aa 12 11,ai 13 12 (cM 0),ai 14 12 (lenStr (t 13)),ai 15 12 (cB .eql (t 14) (cN 0)),cr 16 12 15] (bc 16 (au [aA 17 12 [],aa 6 17]))).seq (ab [aa 18 1,cO 19 (conv IntKind.i64 (t 18)),aa 20 0,cO 21 (lenStr (t 20)),aR 22 .rem 19 21,aa 7 22] (ab [aa 23 0,cO 24 (s2b (t 23)),aa 8 24] (ab [aa 25 8,aa 26 7,ba 27 1 25 26,af 28 27,aa 29 2,aR 30 .xor 28 29,ba 31 1 25 26,cU 1 31 30] ((ab [aa 32 8,cO 33 (b2s (t 32)),aA 34 24 [t 33],aa 35 0,aA 36 24 [t 35],aR 37 .eql 34 36,aa 38 2,cO 39 (cB .eql (t 38) (c (AV.int IntKind.u8 (0)))),cO 40 (bin BinOp.neq true false (t 37) (t 39))] (bc 40 (au [bH 6]))).seq ((ab [aa 41 7,aM 42 .eql 41 0] (bc 42 (au [aA 43 12 [],aa 6 43]))).seq (ab [aa 44 0,cO 45 (s2b (t 44)),aa 8 45] ((ops 1 [aa 46 8,aa 47 7,aM 48 .sub 47 1,aa 49 8,aa 50 7,aa 51 8,aa 52 7,ba 53 1 51 52,af 54 53,aa 55 8,aa 56 7,aM 57 .sub 56 1,ba 58 1 55 57,af 59 58,ba 60 1 46 48,cU 1 60 54,ba 61 1 49 50,cU 1 61 59]).seq ((mix 9 [aa 62 8,cO 63 (b2s (t 62)),aA 64 24 [t 63],aa 65 0,aA 66 24 [t 65],aR 67 .eql 64 66,aa 68 0,aa 69 7,aM 70 .sub 69 1,cO 71 (ixStr (t 68) (t 70)),aa 72 0,aa 73 7,cO 74 (ixStr (t 72) (t 73)),aR 75 .eql 71 74,cO 76 (bin BinOp.eql true false (t 67) (t 75)),aa 77 76,al 78 77 (call (cF 12) []),dn 79 77 78,aa 6 79] [0,3,6,7,8,9,10,11,12,13,1,2,4,5,14,15,16,17,18]).seq ret)))))))))))
def b7:F2:=(F2.mk 156 [RV.t 4] (ab [dj 2 0,dj 3 1,bH 4] ((ab [bO 16 8 2,bO 17 4 3,aA 18 25 [t 16,t 17],eY 19 18] (bc 19 (au [aA 20 12 [],aa 4 20]))).seq ((ops 1 [an 21 5 2,af 22 21,an 23 0 3,af 24 23,ba 25 1 22 24,af 26 25,an 27 1 3,af 28 27,ba 29 1 26 28,af 30 29,an 31 2 3,af 32 31,ba 33 1 30 32,af 34 33,an 35 3 3,af 36 35,ba 37 1 34 36,af 38 37,aa 5 38]).seq (ab [bO 40 8 2,an 41 0 3,af 42 41,an 43 1 3,af 44 43,an 45 2 3,af 46 45,an 47 3 3,af 48 47,aA 49 13 [t 40,t 42,t 44,t 46,t 48],aa 39 49,cq 50 39 0,cq 51 39 1,aa 6 50,aa 7 51] (ab [bO 53 8 2,an 54 0 3,af 55 54,an 56 1 3,af 57 56,an 58 2 3,af 59 58,aa 60 6,aA 61 17 [t 53,t 55,t 57,t 59,t 60],aa 52 61,cq 62 52 0,cq 63 52 1,aa 8 62,aa 9 63] (ab [bO 65 8 2,an 66 0 3,af 67 66,an 68 1 3,af 69 68,an 70 2 3,af 71 70,aA 72 15 [t 65,t 67,t 69,t 71],aa 64 72,cq 73 64 0,cq 74 64 1,aa 10 73,aa 11 74] ((ab [aa 75 7,aa 76 9,aR 77 .add 75 76,aa 78 11,aR 79 .add 77 78,aM 80 .neq 79 0,aa 81 80,ai 82 81 (cM 8),ai 83 81 (cM 5),ai 84 81 (cB .neq (t 82) (t 83)),cr 85 81 84,aa 86 85,ai 87 86 (cM 6),ai 88 86 (lenStr (t 87)),ai 89 86 (cB .lss (t 88) (cN 6)),cr 90 86 89,aa 91 90,ai 92 91 (cM 6),ai 93 91 (lenStr (t 92)),ai 94 91 (cM 10),ai 95 91 (cB .gtr (t 93) (t 94)),cr 96 91 95] (bc 96 (au [bH 4]))).seq (ab [bO 98 8 2,an 99 0 3,af 100 99,an 101 2 3,af 102 101,an 103 1 3,af 104 103,aa 105 6,aA 106 17 [t 98,t 100,t 102,t 104,t 105],aa 97 106,cq 107 97 0,cq 108 97 1,aa 7 108] ((ab [aa 109 7,aM 110 .neq 109 22] (bc 110 (au [bH 4]))).seq (((ops 1 [an 111 5 2,af 112 111,an 113 0 3,af 114 113,ba 115 1 112 114,af 116 115,an 117 1 3,af 118 117,ba 119 1 116 118,af 120 119,an 121 2 3,af 122 121,ba 123 1 120 122,af 124 123,bu 125 124,aw 126 0]).seq (block 0 ((dI 127 126 125 0 ((block 1 (ab [aa 128 126,ba 129 1 124 126,af 130 129,aa 12 128,aa 13 130] (ab [bO 132 8 2,an 133 0 3,af 134 133,an 135 1 3,af 136 135,an 137 2 3,af 138 137,aa 139 12,aA 140 13 [t 132,t 134,t 136,t 138,t 139],aa 131 140,cq 141 131 0,cq 142 131 1,aa 14 141,aa 15 142] (ab [aa 143 15,aM 144 .neq 143 0,aa 145 144,ai 146 145 (cM 6),ai 147 145 (cM 14),ai 148 145 (cB .eql (t 146) (t 147)),ai 149 145 (cM 5),ai 150 145 (cM 13),ai 151 145 (cB .eql (t 149) (t 150)),ai 152 145 (bin BinOp.neq true false (t 148) (t 151)),cr 153 145 152] (bc 153 (au [bH 4])))))).seq (dH 154 126)))).loop)).seq (au [aA 155 12 [],aa 4 155]))))))))))))
def b8:F2:=(F2.mk 101 [RV.t 6] (ab [dj 3 0,dj 4 1,dj 5 2,bH 6] ((ab [bO 14 8 3,bO 15 4 4,aA 16 25 [t 14,t 15],eY 17 16,aa 18 17,ai 19 18 (ixaA 2 1 (t 5) (cN 1)),ai 20 18 (cD 19),ai 21 18 (cB .eql (t 20) (c (AV.int IntKind.u8 (0)))),cr 22 18 21] (bc 22 (au [aA 23 12 [],aa 6 23]))).seq (ab [bO 25 8 3,an 26 0 4,af 27 26,an 28 1 4,af 29 28,an 30 2 4,af 31 30,an 32 3 4,af 33 32,aA 34 13 [t 25,t 27,t 29,t 31,t 33],aa 24 34,cq 35 24 0,cq 36 24 1,aa 7 35,aa 8 36] ((ab [aa 37 8,aM 38 .neq 37 0,aa 39 38,ai 40 39 (cM 7),ai 41 39 (lenStr (t 40)),ai 42 39 (cB .eql (t 41) (cN 0)),cr 43 39 42] (bc 43 (au [bH 6]))).seq (ab [aa 44 7,cO 45 (s2b (t 44)),aa 9 45] ((ops 1 [aa 46 9,cO 47 (ixaA 2 1 (t 5) (cN 0)),af 48 47,cO 49 (conv IntKind.i64 (t 48)),aa 50 9,bu 51 50,aR 52 .rem 49 51,ba 53 1 46 52,af 54 53,cO 55 (ixaA 2 1 (t 5) (cN 1)),af 56 55,aR 57 .xor 54 56,ba 58 1 46 52,cU 1 58 57]).seq (ab [bO 60 8 3,an 61 0 4,af 62 61,an 63 1 4,af 64 63,an 65 2 4,af 66 65,aa 67 9,cO 68 (b2s (t 67)),aA 69 17 [t 60,t 62,t 64,t 66,t 68],aa 59 69,cq 70 59 0,cq 71 59 1,aa 10 70,aa 11 71] ((mixS 1 [bO 73 8 3,an 74 0 4,af 75 74,an 76 1 4,af 77 76,an 78 2 4,af 79 78,aa 80 7,aa 81 7,cO 82 (lenStr (t 81)),aM 83 .sub 82 1,cO 84 (slstr (t 80) none (some (t 83))),aA 85 17 [t 73,t 75,t 77,t 79,t 84],aa 72 85,cq 86 72 0,cq 87 72 1,aa 12 86,aa 13 87] [(0,0),(1,0),(2,0),(3,0),(4,0),(5,0),(6,0),(7,0),(8,0),(9,0),(10,0),(11,0),(12,2),(13,0),(14,0),(15,0),(16,0),(17,0)]).seq (au [aa 88 11,aM 89 .eql 88 24,aa 90 89,al 91 90 (cM 10),al 92 90 (cB .eql (t 91) (cN 0)),dn 93 90 92,aa 94 93,al 95 94 (cM 13),al 96 94 (cB .neq (t 95) (cN 0)),dn 97 94 96,aa 98 97,al 99 98 (call (cF 12) []),dn 100 98 99,aa 6 100]))))))))))
def b11:F2:=(F2.mk 66 [RV.t 2] (ab [dj 1 0,bH 2] ((ab [an 5 4 1,af 6 5,bu 7 6,aM 8 .gtr 7 20,aa 9 8,ai 10 9 (fa 7 (t 1)),ai 11 9 (cD 10),ai 12 9 (lenS (t 11)),ai 13 9 (cB .gtr (t 12) (cN 20)),cr 14 9 13,aa 15 14,ai 16 15 (fa 5 (t 1)),ai 17 15 (cD 16),ai 18 15 (lenS (t 17)),ai 19 15 (cB .gtr (t 18) (cN 20)),cr 20 15 19,aa 21 20,ai 22 21 (fa 6 (t 1)),ai 23 21 (cD 22),ai 24 21 (lenS (t 23)),ai 25 21 (cB .gtr (t 24) (cN 400)),cr 26 21 25,aa 27 26,ai 28 27 (ldn 8 (t 1)),ai 29 27 (call (cF 28) [t 28]),ai 30 27 (cB .gtr (t 29) (cN 400)),cr 31 27 30] (bc 31 (au [bH 2]))).seq ((ab [aw 3 0] (block 0 ((ab [aa 32 3,an 33 5 1,af 34 33,bu 35 34,aR 36 .lss 32 35] (ct 36 skip (exit 0))).seq ((block 1 ((ab [an 39 5 1,af 40 39,aa 41 3,ba 42 1 40 41,af 43 42,bu 44 43,aM 45 .gtr 44 20] (bc 45 (au [bH 2]))).seq (ab [aw 4 0] (block 2 ((ab [aa 46 4,an 47 5 1,af 48 47,aa 49 3,ba 50 1 48 49,af 51 50,bu 52 51,aR 53 .lss 46 52] (ct 53 skip (exit 2))).seq ((block 3 (ab [an 56 5 1,af 57 56,aa 58 3,ba 59 1 57 58,af 60 59,aa 61 4,ba 62 1 60 61,af 63 62,bu 64 63,aM 65 .gtr 64 20] (bc 65 (au [bH 2])))).seq (ops 0 [aa 54 4,aM 55 .add 54 1,aa 4 55]))).loop)))).seq (ops 0 [aa 37 3,aM 38 .add 37 1,aa 3 38]))).loop)).seq (au [lF 2])))))
theorem Dr:Is Try.prog 11 b11:=mkI Try.func11
def b12:F2:=(F2.mk 100 [RV.t 0] (ab [bH 0] (ab [aA 11 29 [],cO 1 (alloc (AV.agg [am,am,am,am,AV.esl,AV.esl,AV.esl,AV.esl])),cU 8 1 11] (ab [bO 13 8 1,aA 14 13 ([t 13,cN ((0)),cN ((1)),cN ((0)),cN ((1))]),aa 12 14,cq 15 12 0,cq 16 12 1,aa 2 15,aa 3 16] (ab [bO 18 8 1,aA 19 15 ([t 18,cN ((0)),cN ((1)),cN ((0))]),aa 17 19,cq 20 17 0,cq 21 17 1,aa 4 20,aa 5 21] (ab [bO 23 8 1,aA 24 17 ([t 23,cN ((0)),cN ((1)),cN ((0)),c (AV.str (ByteArray.mk (Array.mk [0,1,0,0,0,6])))]),aa 22 24,cq 25 22 0,cq 26 22 1,aa 6 25,aa 7 26] ((ab [aA 27 24 ([c (AV.str (ByteArray.mk (Array.mk [1,2,3])))]),aM 28 .neq 27 17,aa 29 28,ai 30 29 (call (cF 24) [c (AV.str (ByteArray.mk (Array.mk [])))]),ai 31 29 (cB .neq (t 30) (cN 0)),cr 32 29 31,aa 33 32,ai 34 33 (cM 3),ai 35 33 (cM 5),ai 36 33 (cB .add (t 34) (t 35)),ai 37 33 (cM 7),ai 38 33 (cB .add (t 36) (t 37)),ai 39 33 (cB .neq (t 38) (cN 0)),cr 40 33 39,aa 41 40,ai 42 41 (cM 2),ai 43 41 (cB .neq (t 42) (c (AV.str (ByteArray.mk (Array.mk [0,1,0,0,0,6]))))),cr 44 41 43,aa 45 44,ai 46 45 (cM 4),ai 47 45 (cB .neq (t 46) (cN 6)),cr 48 45 47,aa 49 48,ai 50 49 (cM 6),ai 51 49 (cB .neq (t 50) (cN 0)),cr 52 49 51] (bc 52 (au [bH 0]))).seq (ab [bO 54 8 1,aA 55 17 ([t 54,cN ((0)),cN ((1)),cN ((0)),c (AV.str (ByteArray.mk (Array.mk [0,1,0,0,0,7])))]),aa 53 55,cq 56 53 0,cq 57 53 1,aa 3 57] (ab [bO 59 8 1,aA 60 17 ([t 59,cN ((0)),cN ((0)),cN ((1)),c (AV.str (ByteArray.mk (Array.mk [0,1,0,0,0,6])))]),aa 58 60,cq 61 58 0,cq 62 58 1,aa 5 62] (ab [bO 64 8 1,aA 65 19 [t 64],aa 63 65,cq 66 63 0,cq 67 63 1,aa 8 66,aa 7 67] (ab [aa 69 8,aA 70 21 [t 69],aa 68 70,cq 71 68 0,cq 72 68 1,cO 9 (alloc (AV.agg [am,am,am,am,AV.esl,AV.esl,AV.esl,AV.esl])),cU 8 9 71,aa 10 72] (au [aa 73 3,aM 74 .eql 73 24,aa 75 74,al 76 75 (cM 5),al 77 75 (cB .eql (t 76) (cN 22)),dn 78 75 77,aa 79 78,al 80 79 (cM 7),al 81 79 (cM 10),al 82 79 (cB .add (t 80) (t 81)),al 83 79 (cB .eql (t 82) (cN 0)),dn 84 79 83,aa 85 84,al 86 85 (ldn 8 (t 9)),al 87 85 (ldn 8 (t 1)),al 88 85 (call (cF 27) [t 86,t 87]),dn 89 85 88,aa 90 89,al 91 90 (cM 8),al 92 90 (lenStr (t 91)),al 93 90 (cB .gtr (t 92) (cN 6)),dn 94 90 93,aa 95 94,al 96 95 (cM 8),al 97 95 (slstr (t 96) none (some (cN 4))),al 98 95 (cB .eql (t 97) (c (AV.str (ByteArray.mk (Array.mk [82,84,77,1]))))),dn 99 95 98,aa 0 99]))))))))))))
theorem DU:Is Try.prog 12 b12:=mkI Try.func12
def b13:F2:=(F2.mk 42 [RV.t 10,RV.t 11] (ab [dj 5 0,cO 10 (mov (c (AV.str (ByteArray.mk (Array.mk []))))),aw 11 0] (ab [aa 15 1,aa 16 2,aa 17 3,cO 18 (bld [am,am,am] [(0,1,t 15),(1,1,t 16),(2,1,t 17)]),cO 12 (alloc (AV.agg [am,am,am])),cU 3 12 18] ((ab [bO 19 3 12,bO 20 8 5,aA 21 30 [t 19,t 20],aa 13 21] (ab [aa 22 13,aM 23 .neq 22 0] (bc 23 (au [aa 24 13,cO 10 (mov (c (AV.str (ByteArray.mk (Array.mk []))))),aa 11 24])))).seq (ab [bO 25 8 5,bO 26 3 12,aA 27 31 [t 25,t 26],aa 14 27] ((ab [aa 28 4,aM 29 .lss 28 0,aa 30 29,ai 31 30 (cM 4),ai 32 30 (cM 14),ai 33 30 (lenS (t 32)),ai 34 30 (cB .geq (t 31) (t 33)),cr 35 30 34] (bc 35 (au [cO 10 (mov (c (AV.str (ByteArray.mk (Array.mk []))))),aw 11 6]))).seq ((mixS 1 [bO 36 3 12,aa 37 14,aa 38 4,ba 39 1 37 38,af 40 39,aA 41 32 [t 36,t 40],aa 10 41,aw 11 0] [(0,0),(1,0),(2,0),(3,0),(4,0),(5,2),(6,0),(7,0)]).seq ret)))))))
theorem Dm:Is Try.prog 13 b13:=mkI Try.func13
def b15:F2:=(F2.mk 41 [RV.t 8,RV.t 9] (ab [dj 4 0,aw 8 0,aw 9 0] (ab [aa 15 1,aa 16 2,aa 17 3,cO 18 (bld [am,am,am] [(0,1,t 15),(1,1,t 16),(2,1,t 17)]),cO 10 (alloc (AV.agg [am,am,am])),cU 3 10 18] ((ab [bO 19 3 10,bO 20 8 4,aA 21 30 [t 19,t 20],aa 11 21] (ab [aa 22 11,aM 23 .neq 22 0] (bc 23 (au [aa 24 11,aw 8 0,aa 9 24])))).seq (ab [aw 12 0] ((ab [bO 25 8 4,bO 26 3 10,aA 27 31 [t 25,t 26],bu 28 27,aw 29 0] (block 0 ((dI 30 29 28 0 ((block 1 (ab [ba 31 1 27 29,af 32 31,aa 14 32] (ops 0 [aa 33 12,bO 34 3 10,aa 35 14,aA 36 32 [t 34,t 35],cO 37 (lenStr (t 36)),cO 38 (mx (t 33) [t 37]),aa 12 38]))).seq (dH 39 29)))).loop)).seq (au [aa 40 12,aa 8 40,aw 9 0])))))))
theorem Dl:Is Try.prog 15 b15:=mkI Try.func15
def b17:F2:=(F2.mk 81 [RV.t 10,RV.t 11] (ab [dj 5 0,aw 10 0,aw 11 0] (ab [aa 18 1,aa 19 2,aa 20 3,cO 21 (bld [am,am,am] [(0,1,t 18),(1,1,t 19),(2,1,t 20)]),cO 12 (alloc (AV.agg [am,am,am])),cU 3 12 21] ((ab [bO 22 3 12,bO 23 8 5,aA 24 30 [t 22,t 23],aa 13 24] (ab [aa 25 13,aM 26 .neq 25 0] (bc 26 (au [aa 27 13,aw 10 0,aa 11 27])))).seq (ab [aa 29 4,aA 30 35 [t 29],aa 28 30,cq 31 28 0,cq 32 28 1,aa 14 31,aa 15 32] ((ab [aa 33 15,aM 34 .neq 33 0] (bc 34 (au [aa 35 15,aw 10 0,aa 11 35]))).seq (ab [aa 36 14,cO 37 (slstr (t 36) (some (cN 3)) none),cO 38 (s2b (t 37)),cO 39 (bld [AV.esl,AV.bool false] [(0,1,t 38)]),dj 40 39,aa 16 40] (ab [aa 41 16,aA 42 36 [t 41],aa 17 42] ((block 0 (ab [aa 44 16,cO 45 (nilck (t 44)),an 46 1 45,af 47 46,aa 48 47,ai 49 48 (cM 16),ai 50 48 (nilck (t 49)),ai 51 48 (fa 0 (t 50)),ai 52 48 (cD 51),ai 53 48 (lenS (t 52)),ai 54 48 (cB .gtr (t 53) (cN 0)),cr 55 48 54,aa 56 55,ai 57 56 (cM 17),ai 58 56 (cB .gtr (t 57) (cN 1048576)),cr 59 56 58,aa 43 59] (ct 43 (au [aw 10 0,aw 11 3]) (ab [aa 61 14,cO 62 (slstr (t 61) none (some (cN 3))),cO 63 (s2b (t 62)),aa 64 1,cO 65 (conv IntKind.u8 (t 64)),aa 66 2,cO 67 (conv IntKind.u8 (t 66)),aa 68 3,cO 69 (conv IntKind.u8 (t 68)),cO 70 (bldS 1 3 [AV.int IntKind.u8 (0)] [(0,1,t 65),(1,1,t 67),(2,1,t 69)]),aA 71 37 [t 63,t 70],eY 72 71,aa 60 72] (ct 60 (au [aw 10 0,aw 11 22]) (ab [bO 74 8 5,bO 75 3 12,aA 76 31 [t 74,t 75],aa 77 17,aA 78 38 [t 76,t 77],eY 79 78,aa 73 79] (bc 73 (au [aw 10 0,aw 11 6])))))))).seq (au [aa 80 17,aa 10 80,aw 11 0]))))))))))
theorem Dw:Is Try.prog 17 b17:=mkI Try.func17
def b19:F2:=(F2.mk 17 [RV.t 2,RV.t 3] (ab [dj 1 0,cO 2 (mov (c (AV.str (ByteArray.mk (Array.mk []))))),aw 3 0] ((ab [bO 6 8 1,aA 7 26 [t 6],aa 4 7] (ab [aa 8 4,aM 9 .neq 8 0] (bc 9 (au [aa 10 4,cO 2 (mov (c (AV.str (ByteArray.mk (Array.mk []))))),aa 3 10])))).seq (ab [bO 11 8 1,aA 12 42 [t 11],aa 5 12] ((ab [aa 13 5,cO 14 (lenStr (t 13)),aM 15 .gtr 14 65536] (bc 15 (au [cO 2 (mov (c (AV.str (ByteArray.mk (Array.mk []))))),aw 3 13]))).seq (au [aa 16 5,aa 2 16,aw 3 0]))))))
theorem Dn:Is Try.prog 19 b19:=mkI Try.func19
def b20:F2:=(F2.mk 24 [RV.t 2,RV.t 3] (ab [dj 1 0,cO 2 (mov (c (AV.str (ByteArray.mk (Array.mk []))))),aw 3 0] ((ab [bO 6 8 1,aA 7 43 [t 6],aa 4 7] (ab [aa 8 4,aM 9 .neq 8 0] (bc 9 (au [aa 10 4,cO 2 (mov (c (AV.str (ByteArray.mk (Array.mk []))))),aa 3 10])))).seq ((mixS 1 [bO 11 8 1,aA 12 45 [t 11],bO 13 8 1,aA 14 46 [t 13],aR 15 .add 12 14,bO 16 8 1,aA 17 47 [t 16],aR 18 .add 15 17,aA 19 44 [t 18],aa 5 19] [(0,0),(2,0),(5,0),(1,1),(3,1),(4,0),(6,2),(7,0),(8,2),(9,0)]).seq ((ab [aa 20 5,cO 21 (lenStr (t 20)),aM 22 .gtr 21 65536] (bc 22 (au [cO 2 (mov (c (AV.str (ByteArray.mk (Array.mk []))))),aw 3 13]))).seq (au [aa 23 5,aa 2 23,aw 3 0]))))))
theorem DW:Is Try.prog 20 b20:=mkI Try.func20
def b21:F2:=(F2.mk 74 [RV.cn 2 8,RV.t 3] (ab [cO 2 (alloc (AV.agg [am,am,am,am,AV.esl,AV.esl,AV.esl,AV.esl])),aw 3 0] ((ab [aa 8 0,cO 9 (lenStr (t 8)),aM 10 .gtr 9 65536] (bc 10 (au [cO 11 (bld [am,am,am,am,AV.esl,AV.esl,AV.esl,AV.esl] []),cU 8 2 11,aw 3 13]))).seq (ab [aa 13 0,aA 14 35 [t 13],aa 12 14,cq 15 12 0,cq 16 12 1,aa 4 15,aa 5 16] ((ab [aa 17 5,aM 18 .neq 17 0] (bc 18 (au [cO 19 (bld [am,am,am,am,AV.esl,AV.esl,AV.esl,AV.esl] []),aa 20 5,cU 8 2 19,aa 3 20]))).seq (ab [aa 21 4,cO 22 (slstr (t 21) (some (cN 4)) none),cO 23 (s2b (t 22)),cO 24 (bld [AV.esl,AV.bool false] [(0,1,t 23)]),dj 25 24,aa 6 25] (ab [aa 26 6,aA 27 36 [t 26],aa 28 6,aA 29 36 [t 28],aa 30 6,aA 31 36 [t 30],aa 32 6,aA 33 36 [t 32],cO 34 (bld [am,am,am,am,AV.esl,AV.esl,AV.esl,AV.esl] [(0,1,t 27),(1,1,t 29),(2,1,t 31),(3,1,t 33)]),cO 7 (alloc (AV.agg [am,am,am,am,AV.esl,AV.esl,AV.esl,AV.esl])),cU 8 7 34] ((ab [aa 35 6,cO 36 (nilck (t 35)),an 37 1 36,af 38 37,aa 39 38,ai 40 39 (fa 0 (t 7)),ai 41 39 (cD 40),ai 42 39 (cB .gtr (t 41) (cN 5)),cr 43 39 42,aa 44 43,ai 45 44 (fa 1 (t 7)),ai 46 44 (cD 45),ai 47 44 (cB .gtr (t 46) (cN 6)),cr 48 44 47,aa 49 48,ai 50 49 (fa 2 (t 7)),ai 51 49 (cD 50),ai 52 49 (cB .gtr (t 51) (cN 8)),cr 53 49 52] (bc 53 (au [cO 54 (bld [am,am,am,am,AV.esl,AV.esl,AV.esl,AV.esl] []),cU 8 2 54,aw 3 3]))).seq (ab [aa 55 6,aA 56 48 [t 55,t 7]] ((ab [aa 57 6,cO 58 (nilck (t 57)),an 59 1 58,af 60 59,aa 61 60,ai 62 61 (ldn 8 (t 7)),ai 63 61 (call (cF 26) [t 62]),ai 64 61 (cB .neq (t 63) (cN 0)),cr 65 61 64,aa 66 65,ai 67 66 (ldn 8 (t 7)),ai 68 66 (call (cF 42) [t 67]),ai 69 66 (cM 0),ai 70 66 (cB .neq (t 68) (t 69)),cr 71 66 70] (bc 71 (au [cO 72 (bld [am,am,am,am,AV.esl,AV.esl,AV.esl,AV.esl] []),cU 8 2 72,aw 3 3]))).seq (au [bO 73 8 7,cU 8 2 73,aw 3 0])))))))))))
theorem CN:Is Try.prog 21 b21:=mkI Try.func21
def b22:F2:=(F2.mk 52 [RV.cn 2 8,RV.t 3] (ab [cO 2 (alloc (AV.agg [am,am,am,am,AV.esl,AV.esl,AV.esl,AV.esl])),aw 3 0] ((ab [aa 8 0,cO 9 (lenStr (t 8)),aM 10 .gtr 9 65536] (bc 10 (au [cO 11 (bld [am,am,am,am,AV.esl,AV.esl,AV.esl,AV.esl] []),cU 8 2 11,aw 3 13]))).seq ((ab [aa 12 0,aA 13 39 [t 12],eY 14 13] (bc 14 (au [cO 15 (bld [am,am,am,am,AV.esl,AV.esl,AV.esl,AV.esl] []),cU 8 2 15,aw 3 24]))).seq (ab [aa 16 0,aa 17 0,cO 18 (lenStr (t 17)),aM 19 .sub 18 2,cO 20 (slstr (t 16) none (some (t 19))),cO 21 (bld [AV.str (ByteArray.mk (Array.mk [])),am,AV.bool false] [(0,1,t 20),(1,1,cN ((4)))]),cO 4 (alloc (AV.agg [AV.str (ByteArray.mk (Array.mk [])),am,AV.bool false])),cU 3 4 21] (ab [aA 22 49 [t 4],cO 5 (alloc (AV.agg [am,am,am,am,AV.esl,AV.esl,AV.esl,AV.esl])),cU 8 5 22] (ab [bO 23 8 5,aA 24 50 [t 4,t 23],an 25 7 5,cU 1 25 24] ((ab [an 26 2 4,af 27 26,eY 28 27] (bc 28 (ab [bO 29 8 5,aA 30 51 [t 4,t 29],an 31 5 5,cU 1 31 30] (ops 0 [bO 32 8 5,aA 33 52 [t 4,t 32],an 34 6 5,cU 1 34 33])))).seq ((ab [an 35 2 4,af 36 35] (bc 36 (au [cO 37 (bld [am,am,am,am,AV.esl,AV.esl,AV.esl,AV.esl] []),cU 8 2 37,aw 3 3]))).seq ((ab [bO 39 8 5,aA 40 20 [t 39],aa 38 40,cq 41 38 0,cq 42 38 1,aa 6 41,aa 7 42] (ab [aa 43 7,aM 44 .neq 43 0,aa 45 44,ai 46 45 (cM 6),ai 47 45 (cM 0),ai 48 45 (cB .neq (t 46) (t 47)),cr 49 45 48] (bc 49 (au [cO 50 (bld [am,am,am,am,AV.esl,AV.esl,AV.esl,AV.esl] []),cU 8 2 50,aw 3 3])))).seq (au [bO 51 8 5,cU 8 2 51,aw 3 0])))))))))))
theorem DA:Is Try.prog 22 b22:=mkI Try.func22
def b23:F2:=(F2.mk 104 [RV.t 4] (ab [dj 2 0,dj 3 1,bH 4] ((ab [an 7 0 2,af 8 7,an 9 0 3,af 10 9,aR 11 .neq 8 10,aa 12 11,ai 13 12 (fa 1 (t 2)),ai 14 12 (cD 13),ai 15 12 (fa 1 (t 3)),ai 16 12 (cD 15),ai 17 12 (cB .neq (t 14) (t 16)),cr 18 12 17,aa 19 18,ai 20 19 (fa 2 (t 2)),ai 21 19 (cD 20),ai 22 19 (fa 2 (t 3)),ai 23 19 (cD 22),ai 24 19 (cB .neq (t 21) (t 23)),cr 25 19 24,aa 26 25,ai 27 26 (fa 3 (t 2)),ai 28 26 (cD 27),ai 29 26 (fa 3 (t 3)),ai 30 26 (cD 29),ai 31 26 (cB .neq (t 28) (t 30)),cr 32 26 31,aa 33 32,ai 34 33 (fa 4 (t 2)),ai 35 33 (cD 34),ai 36 33 (fa 4 (t 3)),ai 37 33 (cD 36),ai 38 33 (call (cF 53) [t 35,t 37]),ai 39 33 (un UnOp.not (t 38)),cr 40 33 39,aa 41 40,ai 42 41 (fa 7 (t 2)),ai 43 41 (cD 42),ai 44 41 (fa 7 (t 3)),ai 45 41 (cD 44),ai 46 41 (call (cF 54) [t 43,t 45]),ai 47 41 (un UnOp.not (t 46)),cr 48 41 47,aa 49 48,ai 50 49 (fa 5 (t 2)),ai 51 49 (cD 50),ai 52 49 (lenS (t 51)),ai 53 49 (fa 5 (t 3)),ai 54 49 (cD 53),ai 55 49 (lenS (t 54)),ai 56 49 (cB .neq (t 52) (t 55)),cr 57 49 56,aa 58 57,ai 59 58 (fa 6 (t 2)),ai 60 58 (cD 59),ai 61 58 (lenS (t 60)),ai 62 58 (fa 6 (t 3)),ai 63 58 (cD 62),ai 64 58 (lenS (t 63)),ai 65 58 (cB .neq (t 61) (t 64)),cr 66 58 65] (bc 66 (au [bH 4]))).seq ((ab [aw 5 0] (block 0 ((ab [aa 67 5,an 68 5 2,af 69 68,bu 70 69,aR 71 .lss 67 70] (ct 71 skip (exit 0))).seq ((block 1 ((mixS 1 [an 74 5 2,af 75 74,aa 76 5,ba 77 1 75 76,af 78 77,an 79 5 3,af 80 79,aa 81 5,ba 82 1 80 81,af 83 82,aA 84 54 [t 78,t 83],eY 85 84] [(0,0),(1,0),(2,0),(3,0),(4,0),(5,0),(6,0),(7,0),(8,0),(9,0),(10,2),(11,0)]).seq (bc 85 (au [bH 4])))).seq (ops 0 [aa 72 5,aM 73 .add 72 1,aa 5 73]))).loop)).seq ((ab [aw 6 0] (block 2 ((ab [aa 86 6,an 87 6 2,af 88 87,bu 89 88,aR 90 .lss 86 89] (ct 90 skip (exit 2))).seq ((block 3 ((ops 1 [an 93 6 2,af 94 93,aa 95 6,ba 96 8 94 95,bO 97 8 96,an 98 6 3,af 99 98,aa 100 6,ba 101 8 99 100,bO 102 8 101,cO 103 (binS BinOp.neq [int,int,int,int,int,int,int,int] (t 97) (t 102))]).seq (bc 103 (au [bH 4])))).seq (ops 0 [aa 91 6,aM 92 .add 91 1,aa 6 92]))).loop)).seq (au [lF 4]))))))
theorem DK:Is Try.prog 23 b23:=mkI Try.func23
def b24:F2:=(F2.mk 28 [RV.t 2] (ab [aw 2 0] (ab [aa 6 0,cO 7 (lenStr (t 6)),aM 8 .rem 7 65521,aa 3 8] ((ab [aa 9 0,cO 10 (s2b (t 9)),bu 11 10,aw 12 0] (block 0 ((dI 13 12 11 0 ((block 1 (ab [aa 14 12,ba 15 1 10 12,af 16 15,aa 4 14,aa 5 16] (ops 0 [aa 17 3,aa 18 4,aM 19 .add 18 1,aM 20 .rem 19 65521,aa 21 5,cO 22 (conv IntKind.i64 (t 21)),aR 23 .mul 20 22,aR 24 .add 17 23,aM 25 .rem 24 65521,aa 3 25]))).seq (dH 26 12)))).loop)).seq (au [aa 27 3,aa 2 27])))))
theorem Eb:Is Try.prog 24 b24:=mkI Try.func24
def b26:F2:=(F2.mk 75 [RV.t 2] (ab [dj 1 0,aw 2 0] ((block 0 (ab [an 7 0 1,af 8 7,aA 9 55 ([t 8,cN ((1)),cN ((5))]),eY 10 9,aa 11 10,ai 12 11 (fa 1 (t 1)),ai 13 11 (cD 12),ai 14 11 (call (cF 55) [t 13,cN ((0)),cN ((6))]),ai 15 11 (un UnOp.not (t 14)),cr 16 11 15,aa 17 16,ai 18 17 (fa 2 (t 1)),ai 19 17 (cD 18),ai 20 17 (call (cF 55) [t 19,cN ((1)),cN ((8))]),ai 21 17 (un UnOp.not (t 20)),cr 22 17 21,aa 23 22,ai 24 23 (fa 3 (t 1)),ai 25 23 (cD 24),ai 26 23 (call (cF 55) [t 25,cN ((1)),cN ((8))]),ai 27 23 (un UnOp.not (t 26)),cr 28 23 27,aa 6 28] (ct 6 (au [aw 2 2]) (ab [bO 30 8 1,aA 31 56 [t 30],eY 32 31,aa 29 32] (ct 29 (au [aw 2 15]) (ab [bO 34 8 1,aA 35 57 [t 34],aM 36 .gtr 35 8192,aa 37 36,ai 38 37 (fa 6 (t 1)),ai 39 37 (cD 38),ai 40 37 (lenS (t 39)),ai 41 37 (cB .gtr (t 40) (cN 65536)),cr 42 37 41,aa 33 42] (ct 33 (au [aw 2 5]) (ab [bO 44 8 1,aA 45 58 [t 44],eY 46 45,aa 43 46] (bc 43 (au [aw 2 2])))))))))).seq ((ab [an 47 6 1,af 48 47,bu 49 48,aw 50 0] (block 1 ((dI 51 50 49 1 ((block 2 (ab [aa 52 50,ba 53 8 48 50,bO 54 8 53,cO 4 (alloc (AV.agg [am,am,am,am,am,am,am,am])),aa 3 52,cU 8 4 54] ((ab [bO 55 8 1,bO 56 8 4,aA 57 59 [t 55,t 56],aa 5 57] (ab [aa 58 5,aM 59 .neq 58 0] (bc 59 (au [aa 60 5,aa 2 60])))).seq ((mixS 1 [aa 61 3,aM 62 .gtr 61 0,aa 63 62,al 64 63 (fa 6 (t 1)),al 65 63 (cD 64),al 66 63 (cM 3),al 67 63 (cB .sub (t 66) (cN 1)),al 68 63 (ixaS 8 (t 65) (t 67)),al 69 63 (ldn 8 (t 68)),al 70 63 (ldn 8 (t 4)),al 71 63 (call (cF 60) [t 69,t 70]),al 72 63 (cB .geq (t 71) (cN 0)),dn 73 63 72] [(0,0),(1,0),(2,0),(3,0),(4,0),(5,0),(6,0),(7,0),(8,0),(9,0),(10,2),(11,0),(12,0)]).seq (bc 73 (au [aw 2 14])))))).seq (dH 74 50)))).loop)).seq (au [aw 2 0])))))
theorem CT:Is Try.prog 26 b26:=mkI Try.func26
def b27:F2:=(F2.mk 59 [RV.t 4] (ab [dj 2 0,dj 3 1,bH 4] (au [an 5 0 2,af 6 5,an 7 0 3,af 8 7,aR 9 .eql 6 8,aa 10 9,al 11 10 (fa 1 (t 2)),al 12 10 (cD 11),al 13 10 (fa 1 (t 3)),al 14 10 (cD 13),al 15 10 (cB .eql (t 12) (t 14)),dn 16 10 15,aa 17 16,al 18 17 (fa 2 (t 2)),al 19 17 (cD 18),al 20 17 (fa 2 (t 3)),al 21 17 (cD 20),al 22 17 (cB .eql (t 19) (t 21)),dn 23 17 22,aa 24 23,al 25 24 (fa 3 (t 2)),al 26 24 (cD 25),al 27 24 (fa 3 (t 3)),al 28 24 (cD 27),al 29 24 (cB .eql (t 26) (t 28)),dn 30 24 29,aa 31 30,al 32 31 (fa 4 (t 2)),al 33 31 (cD 32),al 34 31 (fa 4 (t 3)),al 35 31 (cD 34),al 36 31 (call (cF 61) [t 33,t 35]),dn 37 31 36,aa 38 37,al 39 38 (fa 7 (t 2)),al 40 38 (cD 39),al 41 38 (fa 7 (t 3)),al 42 38 (cD 41),al 43 38 (call (cF 62) [t 40,t 42]),dn 44 38 43,aa 45 44,al 46 45 (fa 5 (t 2)),al 47 45 (cD 46),al 48 45 (fa 5 (t 3)),al 49 45 (cD 48),al 50 45 (call (cF 63) [t 47,t 49,c (AV.func 62 [])]),dn 51 45 50,aa 52 51,al 53 52 (fa 6 (t 2)),al 54 52 (cD 53),al 55 52 (fa 6 (t 3)),al 56 52 (cD 55),al 57 52 (call (cF 64) [t 54,t 56]),dn 58 52 57,aa 4 58])))
theorem CS:Is Try.prog 27 b27:=mkI Try.func27
def b28:F2:=(F2.mk 35 [RV.t 2] (ab [dj 1 0,aw 2 0] (ab [aw 3 0] ((ab [aw 4 0] (block 0 ((ab [aa 6 4,an 7 7 1,af 8 7,bu 9 8,aR 10 .lss 6 9] (ct 10 skip (exit 0))).seq ((block 1 (ab [aw 5 0] (block 2 ((ab [aa 13 5,an 14 7 1,af 15 14,aa 16 4,ba 17 1 15 16,af 18 17,bu 19 18,aR 20 .lss 13 19] (ct 20 skip (exit 2))).seq ((block 3 (ops 0 [aa 23 3,an 24 7 1,af 25 24,aa 26 4,ba 27 1 25 26,af 28 27,aa 29 5,ba 30 1 28 29,af 31 30,bu 32 31,aR 33 .add 23 32,aa 3 33])).seq (ops 0 [aa 21 5,aM 22 .add 21 1,aa 5 22]))).loop))).seq (ops 0 [aa 11 4,aM 12 .add 11 1,aa 4 12]))).loop)).seq (au [aa 34 3,aa 2 34])))))
theorem CL:Is Try.prog 28 b28:=mkI Try.func28
def b29:F2:=(F2.mk 27 [RV.cn 0 8] (ab [cO 0 (alloc (AV.agg [am,am,am,am,AV.esl,AV.esl,AV.esl,AV.esl]))] (au [cO 1 (bldS 1 2 [am] [(0,1,cN ((0))),(1,1,cN ((-1)))]),cO 2 (bldS 1 2 [am] [(0,1,cN ((0))),(1,1,cN ((1)))]),cO 3 (bldS 1 2 [AV.esl] [(0,1,t 1),(1,1,t 2)]),cO 4 (bldS 1 1 [am] [(0,1,cN ((0)))]),cO 5 (bldS 1 2 [AV.esl] [(0,1,c AV.esl),(1,1,t 4)]),cO 6 (bldS 1 2 [am] [(0,1,cN ((0))),(1,1,cN ((0)))]),cO 7 (bldS 1 2 [AV.esl] [(0,1,t 6),(1,1,c AV.esl)]),cO 8 (bldS 1 2 [AV.esl] [(0,1,t 5),(1,1,t 7)]),cO 9 (bldS 1 1 [AV.esl] [(0,1,t 8)]),aA 10 65 ([cN ((0)),cN ((-1))]),cO 11 (bld [am,am,am,am,am,am,am,am] [(2,5,t 10)]),aA 12 65 ([cN ((0)),cN ((0))]),cO 13 (bld [am,am,am,am,am,am,am,am] [(2,5,t 12)]),aA 14 65 ([cN ((0)),cN ((0))]),cO 15 (bld [am,am,am,am,am,am,am,am] [(1,1,cN ((1))),(2,5,t 14)]),aA 16 65 ([cN ((0)),cN ((1))]),cO 17 (bld [am,am,am,am,am,am,am,am] [(1,1,cN ((1))),(2,5,t 16),(7,1,cN ((1)))]),cO 18 (bldS 8 4 [am,am,am,am,am,am,am,am] [(0,8,t 11),(8,8,t 13),(16,8,t 15),(24,8,t 17)]),cO 19 (bldS 1 1 [am] [(0,1,cN ((-1)))]),cO 20 (bldS 1 2 [am] [(0,1,cN ((-1))),(1,1,cN ((-1)))]),cO 21 (bldS 1 2 [AV.esl] [(0,1,t 19),(1,1,t 20)]),cO 22 (bldS 1 1 [am] [(0,1,cN ((-1)))]),cO 23 (bldS 1 2 [am] [(0,1,cN ((-1))),(1,1,cN ((1)))]),cO 24 (bldS 1 2 [AV.esl] [(0,1,t 22),(1,1,t 23)]),cO 25 (bldS 1 2 [AV.esl] [(0,1,t 21),(1,1,t 24)]),cO 26 (bld [am,am,am,am,AV.esl,AV.esl,AV.esl,AV.esl] [(0,1,cN ((2))),(1,1,cN ((1))),(2,1,cN ((2))),(3,1,cN ((2))),(4,1,t 3),(5,1,t 9),(6,1,t 18),(7,1,t 25)]),cU 8 0 26])))
theorem C4:Is Try.prog 29 b29:=mkI Try.func29
def b30:F2:=(F2.mk 48 [RV.t 4] (ab [dj 2 0,dj 3 1,aw 4 0] ((ab [bO 6 8 3,aA 7 26 [t 6],aa 5 7] (ab [aa 8 5,aM 9 .neq 8 0] (bc 9 (au [aa 10 5,aa 4 10])))).seq ((block 0 ((ab [an 12 0 2,af 13 12,aM 14 .lss 13 0,aa 15 14,ai 16 15 (fa 0 (t 2)),ai 17 15 (cD 16),ai 18 15 (fa 1 (t 3)),ai 19 15 (cD 18),ai 20 15 (cB .geq (t 17) (t 19)),cr 21 15 20,aa 11 21] (ct 11 skip (ab [an 22 1 2,af 23 22,aM 24 .lss 23 0,aa 25 24,ai 26 25 (fa 1 (t 2)),ai 27 25 (cD 26),ai 28 25 (fa 0 (t 3)),ai 29 25 (cD 28),ai 30 25 (cB .geq (t 27) (t 29)),cr 31 25 30,aa 11 31] (ct 11 skip (ops 0 [an 32 2 2,af 33 32,aM 34 .lss 33 0,aa 35 34,ai 36 35 (fa 2 (t 2)),ai 37 35 (cD 36),ai 38 35 (fa 0 (t 3)),ai 39 35 (cD 38),ai 40 35 (cB .geq (t 37) (t 39)),cr 41 35 40,aa 11 41]))))).seq (ct 11 (au [aw 4 2]) (ab [an 43 1 2,af 44 43,an 45 2 2,af 46 45,aR 47 .eql 44 46,aa 42 47] (bc 42 (au [aw 4 11])))))).seq (au [aw 4 0])))))
theorem DF:Is Try.prog 30 b30:=mkI Try.func30
def b31:F2:=(F2.mk 47 [RV.t 4] (ab [dj 2 0,dj 3 1,kj 4] (ab [cO 12 (mkm none),aa 5 12] ((ab [an 13 5 2,af 14 13,bu 15 14,aw 16 0] (block 0 ((dI 17 16 15 0 ((block 1 (ab [aa 18 16,ba 19 1 14 16,af 20 19,aa 6 18,aa 7 20] (ab [aa 21 7,bu 22 21,aw 23 0] (block 2 ((dI 24 23 22 2 ((block 3 (ab [aa 25 23,ba 26 1 21 23,af 27 26,aa 8 25,aa 9 27] (ab [aa 28 9,bu 29 28,aw 30 0] (block 4 ((dI 31 30 29 4 ((block 5 (ab [aa 32 30,ba 33 1 28 30,af 34 33,aa 10 32,aa 11 34] (ops 0 [aa 35 5,aa 36 6,aa 37 8,aa 38 10,cO 39 (bld [am,am,am] [(0,1,t 36),(1,1,t 37),(2,1,t 38)]),aa 40 11,Op2.mk none none (mput (MK.st [int,int,int]) (t 35) (t 39) (t 40))]))).seq (dH 41 30)))).loop)))).seq (dH 42 23)))).loop)))).seq (dH 43 16)))).loop)).seq (au [aa 44 5,bO 45 3 3,cO 46 (Ins.mget (MK.st [int,int,int]) AV.esl false (t 44) (t 45)),aa 4 46])))))
theorem D5:Is Try.prog 31 b31:=mkI Try.func31
def b32:F2:=(F2.mk 29 [RV.t 4] (ab [dj 2 0,cO 4 (mov (c (AV.str (ByteArray.mk (Array.mk [])))))] (ab [an 8 0 2,af 9 8,cO 10 (conv IntKind.u8 (t 9)),an 11 1 2,af 12 11,cO 13 (conv IntKind.u8 (t 12)),an 14 2 2,af 15 14,cO 16 (conv IntKind.u8 (t 15)),cO 17 (bldS 1 3 [AV.int IntKind.u8 (0)] [(0,1,t 10),(1,1,t 13),(2,1,t 16)]),cO 18 (b2s (t 17)),aA 19 66 [t 18],aa 7 19,cq 20 7 0,cq 21 7 1,aa 5 20,aa 6 21] (ab [aa 22 5,aa 23 1,cO 24 (bldS 1 1 [am] [(0,1,t 23)]),cO 25 (call (t 22) [cN ((0)),t 24])] (au [aa 26 6,cO 27 (call (t 26) []),aA 28 67 [t 27],aa 4 28])))))
theorem CX:Is Try.prog 32 b32:=mkI Try.func32
def b35:F2:=(F2.mk 31 [RV.t 2,RV.t 3] (ab [cO 2 (mov (c (AV.str (ByteArray.mk (Array.mk []))))),aw 3 0] (ab [aa 5 0,cO 6 (lenStr (t 5)),aM 7 .sub 6 2,aa 4 7] (((mix 1 [aa 8 4,aM 9 .lss 8 4,aa 10 9,ai 11 10 (cM 0),ai 12 10 (cM 4),ai 13 10 (slstr (t 11) none (some (t 12))),ai 14 10 (call (cF 24) [t 13]),ai 15 10 (cM 0),ai 16 10 (cM 4),ai 17 10 (ixStr (t 15) (t 16)),ai 18 10 (conv IntKind.i64 (t 17)),ai 19 10 (cB .shl (t 18) (c (AV.int IntKind.u64 (8)))),ai 20 10 (cM 0),ai 21 10 (cM 4),ai 22 10 (cB .add (t 21) (cN 1)),ai 23 10 (ixStr (t 20) (t 22)),ai 24 10 (conv IntKind.i64 (t 23)),ai 25 10 (cB .or (t 19) (t 24)),ai 26 10 (cB .neq (t 14) (t 25)),cr 27 10 26] [0,1,2,3,4,5,7,8,9,10,11,12,13,14,15,16,17,6,18,19]).seq (bc 27 (au [cO 2 (mov (c (AV.str (ByteArray.mk (Array.mk []))))),aw 3 24]))).seq (au [aa 28 0,aa 29 4,cO 30 (slstr (t 28) none (some (t 29))),aa 2 30,aw 3 0])))))
theorem Df:Is Try.prog 35 b35:=mkI Try.func35
def b36:F2:=(F2.mk 63 [RV.t 2] (ab [aw 2 0] (ab [aw 3 0] ((ab [aw 4 0] (block 0 ((ab [aa 6 4,aM 7 .lss 6 4,aa 8 7,al 9 8 (cM 4),al 10 8 (cM 0),al 11 8 (nilck (t 10)),al 12 8 (fa 0 (t 11)),al 13 8 (cD 12),al 14 8 (lenS (t 13)),al 15 8 (cB .lss (t 9) (t 14)),dn 16 8 15,aa 17 16,al 18 17 (cM 0),al 19 17 (nilck (t 18)),al 20 17 (fa 1 (t 19)),al 21 17 (cD 20),al 22 17 (un UnOp.not (t 21)),dn 23 17 22] (ct 23 skip (exit 0))).seq ((block 1 (ab [aa 26 0,cO 27 (nilck (t 26)),an 28 0 27,af 29 28,aa 30 4,ba 31 1 29 30,af 32 31,aa 5 32] (ab [aa 33 3,aa 34 5,cO 35 (cB .and (t 34) (c (AV.int IntKind.u8 (127)))),cO 36 (conv IntKind.i64 (t 35)),aa 37 4,cO 38 (cB .mul (cN 7) (t 37)),aR 39 .shl 36 38,aR 40 .or 33 39,aa 3 40] (ab [aa 41 5,cO 42 (cB .lss (t 41) (c (AV.int IntKind.u8 (128))))] (bc 42 ((ab [aa 43 4,aM 44 .gtr 43 0,aa 45 44,al 46 45 (cM 5),al 47 45 (cB .eql (t 46) (c (AV.int IntKind.u8 (0)))),dn 48 45 47] (bc 48 (exit 0))).seq (ab [aa 49 0,aa 50 0,cO 51 (nilck (t 50)),an 52 0 51,af 53 52,aa 54 4,aM 55 .add 54 1,cO 56 (sls 1 (t 53) (some (t 55)) none none),cO 57 (nilck (t 49)),an 58 0 57,cU 1 58 56] (au [aa 59 3,aa 2 59])))))))).seq (ops 0 [aa 24 4,aM 25 .add 24 1,aa 4 25]))).loop)).seq (ab [aa 60 0,cO 61 (nilck (t 60)),an 62 1 61,Op2.mk none none (Ins.st 1 (t 62) z7)] (au [aw 2 0]))))))
theorem CQ:Is Try.prog 36 b36:=mkI Try.func36
def b37:F2:=(F2.mk 10 [RV.t 4] (ab [bH 4] (au [aa 5 0,cO 6 (b2s (t 5)),aa 7 1,cO 8 (b2s (t 7)),aR 9 .eql 6 8,aa 4 9])))
theorem Dh:Is Try.prog 37 b37:=mkI Try.func37
def b38:F2:=(F2.mk 9 [RV.t 4] (ab [bH 4] (au [aa 5 0,aa 6 1,aA 7 69 [t 5,t 6],aM 8 .geq 7 0,aa 4 8])))
theorem CO:Is Try.prog 38 b38:=mkI Try.func38
def b39:F2:=(F2.mk 16 [RV.t 2] (ab [bH 2] (au [aa 3 0,cO 4 (lenStr (t 3)),aM 5 .geq 4 6,aa 6 5,al 7 6 (cM 0),al 8 6 (cM 0),al 9 6 (lenStr (t 8)),al 10 6 (cB .sub (t 9) (cN 2)),al 11 6 (slstr (t 7) none (some (t 10))),al 12 6 (call (cF 44) [t 11]),al 13 6 (cM 0),al 14 6 (cB .eql (t 12) (t 13)),dn 15 6 14,aa 2 15])))
theorem Ee:Is Try.prog 39 b39:=mkI Try.func39
def b40:F2:=(F2.mk 81 [RV.t 2] (ab [aw 2 0] (ab [aw 3 0,aw 4 1] ((ab [aw 5 0] (block 0 (((ops 1 [aa 7 5,aM 8 .lss 7 4,aa 9 8,al 10 9 (cM 0),al 11 9 (nilck (t 10)),al 12 9 (fa 1 (t 11)),al 13 9 (cD 12),al 14 9 (cM 0),al 15 9 (nilck (t 14)),al 16 9 (fa 0 (t 15)),al 17 9 (cD 16),al 18 9 (lenStr (t 17)),al 19 9 (cB .lss (t 13) (t 18)),dn 20 9 19,aa 21 20,al 22 21 (cM 0),al 23 21 (nilck (t 22)),al 24 21 (fa 2 (t 23)),al 25 21 (cD 24),al 26 21 (un UnOp.not (t 25)),dn 27 21 26]).seq (ct 27 skip (exit 0))).seq ((block 1 ((ops 1 [aa 30 0,cO 31 (nilck (t 30)),an 32 0 31,af 33 32,aa 34 0,cO 35 (nilck (t 34)),an 36 1 35,af 37 36,cO 38 (ixStr (t 33) (t 37)),cO 39 (conv IntKind.i64 (t 38)),aa 6 39]).seq (ab [aa 40 0,cO 41 (nilck (t 40)),an 42 1 41,af 43 42,aM 44 .add 43 1,cO 45 (nilck (t 40)),an 46 1 45,cU 1 46 44] ((ab [aa 47 6,aM 48 .lss 47 128] (bc 48 (ab [aa 49 3,aa 50 6,aa 51 4,aR 52 .mul 50 51,aR 53 .add 49 52,aa 3 53] (ab [aa 54 0,aa 55 0,cO 56 (nilck (t 55)),an 57 2 56,af 58 57,aa 59 58,ai 60 59 (cM 5),ai 61 59 (cB .gtr (t 60) (cN 0)),ai 62 59 (cM 61),al 63 62 (cM 6),al 64 62 (cB .eql (t 63) (cN 0)),ai 65 59 (pick (t 62) (t 64) zj),cr 66 59 65,cO 67 (nilck (t 54)),an 68 2 67,cU 1 68 66] (au [aa 69 3,aa 2 69]))))).seq (ops 0 [aa 70 3,aa 71 6,aM 72 .sub 71 128,aa 73 4,aR 74 .mul 72 73,aR 75 .add 70 74,aa 76 4,aM 77 .mul 76 128,aa 3 75,aa 4 77]))))).seq (ops 0 [aa 28 5,aM 29 .add 28 1,aa 5 29]))).loop)).seq (ab [aa 78 0,cO 79 (nilck (t 78)),an 80 2 79,Op2.mk none none (Ins.st 1 (t 80) z7)] (au [aw 2 0]))))))
theorem Dq:Is Try.prog 40 b40:=mkI Try.func40
def b41:F2:=(F2.mk 7 [RV.t 2] (ab [cO 2 (mov (c (AV.str (ByteArray.mk (Array.mk [])))))] (au [aa 3 0,cO 4 (conv IntKind.u8 (t 3)),cO 5 (bldS 1 1 [AV.int IntKind.u8 (0)] [(0,1,t 4)]),cO 6 (b2s (t 5)),aa 2 6])))
theorem DN:Is Try.prog 41 b41:=mkI Try.func41
def b42:F2:=(F2.mk 128 [RV.t 2] (ab [dj 1 0,cO 2 (mov (c (AV.str (ByteArray.mk (Array.mk [])))))] (ab [aA 20 66 ([c (AV.str (ByteArray.mk (Array.mk [82,84,77,1])))]),aa 19 20,cq 21 19 0,cq 22 19 1,aa 3 21,aa 4 22] (ab [aa 23 3,an 24 0 1,af 25 24,an 26 1 1,af 27 26,an 28 2 1,af 29 28,an 30 3 1,af 31 30,cO 32 (bldS 1 4 [am] [(0,1,t 25),(1,1,t 27),(2,1,t 29),(3,1,t 31)]),cO 33 (call (t 23) [cN ((0)),t 32])] ((ab [an 34 4 1,af 35 34,bu 36 35,aw 37 0] (block 0 ((dI 38 37 36 0 ((block 1 (ab [ba 39 1 35 37,af 40 39,aa 6 40] (ops 0 [aa 41 3,aa 42 6,cO 43 (call (t 41) [cN ((1)),t 42])]))).seq (dH 44 37)))).loop)).seq ((ab [an 45 7 1,af 46 45,bu 47 46,aw 48 0] (block 2 ((dI 49 48 47 2 ((block 3 (ab [ba 50 1 46 48,af 51 50,aa 8 51] (ab [aa 52 8,bu 53 52,aw 54 0] (block 4 ((dI 55 54 53 4 ((block 5 (ab [ba 56 1 52 54,af 57 56,aa 10 57] (ab [aa 58 3,aa 59 10,bu 60 59,cO 61 (bldS 1 1 [am] [(0,1,t 60)]),cO 62 (call (t 58) [cN ((0)),t 61])] (ops 0 [aa 63 3,aa 64 10,cO 65 (call (t 63) [cN ((1)),t 64])])))).seq (dH 66 54)))).loop)))).seq (dH 67 48)))).loop)).seq ((ab [an 68 5 1,af 69 68,bu 70 69,aw 71 0] (block 6 ((dI 72 71 70 6 ((block 7 (ab [ba 73 1 69 71,af 74 73,aa 12 74] (ab [aa 75 12,bu 76 75,aw 77 0] (block 8 ((dI 78 77 76 8 ((block 9 (ab [ba 79 1 75 77,af 80 79,aa 14 80] (ab [aa 81 14,bu 82 81,aw 83 0] (block 10 ((dI 84 83 82 10 ((block 11 (ab [ba 85 1 81 83,af 86 85,aa 16 86] (ops 0 [aa 87 3,aa 88 16,cO 89 (call (t 87) [cN ((0)),t 88])]))).seq (dH 90 83)))).loop)))).seq (dH 91 77)))).loop)))).seq (dH 92 71)))).loop)).seq (ab [aa 93 3,an 94 6 1,af 95 94,bu 96 95,cO 97 (bldS 1 1 [am] [(0,1,t 96)]),cO 98 (call (t 93) [cN ((0)),t 97])] ((ab [an 99 6 1,af 100 99,bu 101 100,aw 102 0] (block 12 ((dI 103 102 101 12 ((block 13 (ab [ba 104 8 100 102,bO 105 8 104,cO 18 (alloc (AV.agg [am,am,am,am,am,am,am,am])),cU 8 18 105] (ab [aa 106 3,an 107 0 18,af 108 107,an 109 1 18,af 110 109,cO 111 (bldS 1 2 [am] [(0,1,t 108),(1,1,t 110)]),cO 112 (call (t 106) [cN ((0)),t 111])] (ab [aa 113 3,an 114 2 18,an 115 0 1,af 116 115,cO 117 (slsA 5 (t 114) none (some (t 116))),cO 118 (call (t 113) [cN ((1)),t 117])] (ops 0 [aa 119 3,an 120 7 18,af 121 120,cO 122 (bldS 1 1 [am] [(0,1,t 121)]),cO 123 (call (t 119) [cN ((0)),t 122])]))))).seq (dH 124 102)))).loop)).seq (au [aa 125 4,cO 126 (call (t 125) []),aA 127 67 [t 126],aa 2 127]))))))))))
theorem D0:Is Try.prog 42 b42:=mkI Try.func42
def b43:F2:=(F2.mk 80 [RV.t 2] (ab [dj 1 0,aw 2 0] ((block 0 (ab [an 6 0 1,af 7 6,aA 8 70 ([t 7,cN ((1)),cN ((5))]),eY 9 8,aa 10 9,ai 11 10 (fa 1 (t 1)),ai 12 10 (cD 11),ai 13 10 (call (cF 70) [t 12,cN ((0)),cN ((6))]),ai 14 10 (un UnOp.not (t 13)),cr 15 10 14,aa 16 15,ai 17 16 (fa 2 (t 1)),ai 18 16 (cD 17),ai 19 16 (call (cF 70) [t 18,cN ((1)),cN ((8))]),ai 20 16 (un UnOp.not (t 19)),cr 21 16 20,aa 22 21,ai 23 22 (fa 3 (t 1)),ai 24 22 (cD 23),ai 25 22 (call (cF 70) [t 24,cN ((1)),cN ((8))]),ai 26 22 (un UnOp.not (t 25)),cr 27 22 26,aa 5 27] (ct 5 (au [aw 2 2]) (ab [bO 29 8 1,aA 30 71 [t 29],eY 31 30,aa 28 31] (ct 28 (au [aw 2 15]) (ab [bO 33 8 1,aA 34 28 [t 33],aM 35 .gtr 34 8192,aa 36 35,ai 37 36 (fa 6 (t 1)),ai 38 36 (cD 37),ai 39 36 (lenS (t 38)),ai 40 36 (cB .gtr (t 39) (cN 65536)),cr 41 36 40,aa 32 41] (ct 32 (au [aw 2 5]) (ab [bO 43 8 1,aA 44 72 [t 43],eY 45 44,aa 42 45] (bc 42 (au [aw 2 2])))))))))).seq ((ab [aw 3 0] (block 1 ((ab [aa 46 3,an 47 6 1,af 48 47,bu 49 48,aR 50 .lss 46 49] (ct 50 skip (exit 1))).seq ((block 2 (((mixS 1 [bO 53 8 1,an 54 6 1,af 55 54,aa 56 3,ba 57 8 55 56,bO 58 8 57,aA 59 73 [t 53,t 58],aa 4 59] [(0,0),(1,0),(2,0),(3,0),(4,0),(5,0),(6,2),(7,0)]).seq (ab [aa 60 4,aM 61 .neq 60 0] (bc 61 (au [aa 62 4,aa 2 62])))).seq ((mixS 1 [aa 63 3,aM 64 .gtr 63 0,aa 65 64,al 66 65 (fa 6 (t 1)),al 67 65 (cD 66),al 68 65 (cM 3),al 69 65 (cB .sub (t 68) (cN 1)),al 70 65 (ixaS 8 (t 67) (t 69)),al 71 65 (ldn 8 (t 70)),al 72 65 (fa 6 (t 1)),al 73 65 (cD 72),al 74 65 (cM 3),al 75 65 (ixaS 8 (t 73) (t 74)),al 76 65 (ldn 8 (t 75)),al 77 65 (call (cF 74) [t 71,t 76]),al 78 65 (cB .geq (t 77) (cN 0)),dn 79 65 78] [(0,0),(1,0),(2,0),(3,0),(4,0),(5,0),(6,0),(7,0),(8,0),(9,0),(10,0),(11,0),(12,0),(13,0),(14,2),(15,0),(16,0)]).seq (bc 79 (au [aw 2 14]))))).seq (ops 0 [aa 51 3,aM 52 .add 51 1,aa 3 52]))).loop)).seq (au [aw 2 0])))))
theorem C3:Is Try.prog 43 b43:=mkI Try.func43
def b44:F2:=(F2.mk 15 [RV.t 2] (ab [cO 2 (mov (c (AV.str (ByteArray.mk (Array.mk [])))))] (ab [aa 4 0,aA 5 75 [t 4],aa 3 5] (au [aa 6 0,aa 7 3,aM 8 .quo 7 256,aA 9 41 [t 8],aR 10 .add 6 9,aa 11 3,aM 12 .rem 11 256,aA 13 41 [t 12],aR 14 .add 10 13,aa 2 14]))))
theorem C8:Is Try.prog 44 b44:=mkI Try.func44
def b45:F2:=(F2.mk 33 [RV.t 2] (ab [dj 1 0,cO 2 (mov (c (AV.str (ByteArray.mk (Array.mk [])))))] ((ops 1 [aA 5 41 ([cN ((1))]),cO 6 (cB .add (c (AV.str (ByteArray.mk (Array.mk [82,84,77])))) (t 5)),an 7 0 1,af 8 7,an 9 1 1,af 10 9,an 11 2 1,af 12 11,an 13 3 1,af 14 13,cO 15 (bldS 1 4 [am] [(0,1,t 8),(1,1,t 10),(2,1,t 12),(3,1,t 14)]),aA 16 76 ([t 15,cN ((0))]),aR 17 .add 6 16,aa 3 17]).seq ((ab [aw 4 0] (block 0 ((ab [aa 18 4,an 19 0 1,af 20 19,aR 21 .lss 18 20] (ct 21 skip (exit 0))).seq ((block 1 (ops 0 [aa 24 3,an 25 4 1,af 26 25,aa 27 4,ba 28 1 26 27,af 29 28,aA 30 76 ([t 29,cN ((1))]),aR 31 .add 24 30,aa 3 31])).seq (ops 0 [aa 22 4,aM 23 .add 22 1,aa 4 23]))).loop)).seq (au [aa 32 3,aa 2 32])))))
theorem CV:Is Try.prog 45 b45:=mkI Try.func45
def b46:F2:=(F2.mk 76 [RV.t 2] (ab [dj 1 0,cO 2 (mov (c (AV.str (ByteArray.mk (Array.mk [])))))] (ab [cO 3 (mov (c (AV.str (ByteArray.mk (Array.mk [])))))] ((ab [aw 4 0] (block 0 ((ab [aa 9 4,an 10 1 1,af 11 10,aR 12 .leq 9 11] (ct 12 skip (exit 0))).seq ((block 1 (ab [aw 5 0] (block 2 ((ab [aa 15 5,an 16 0 1,af 17 16,aR 18 .lss 15 17] (ct 18 skip (exit 2))).seq ((block 3 (mixS 1 [aa 21 3,an 22 7 1,af 23 22,aa 24 4,ba 25 1 23 24,af 26 25,aa 27 5,ba 28 1 26 27,af 29 28,bu 30 29,aA 31 68 [t 30],an 32 7 1,af 33 32,aa 34 4,ba 35 1 33 34,af 36 35,aa 37 5,ba 38 1 36 37,af 39 38,aA 40 76 ([t 39,cN ((1))]),aR 41 .add 31 40,aR 42 .add 21 41,aa 3 42] [(0,0),(1,0),(2,0),(3,0),(4,0),(5,0),(6,0),(7,0),(8,0),(9,0),(11,0),(12,0),(13,0),(14,0),(15,0),(16,0),(17,0),(18,0),(10,1),(19,2),(20,0),(21,0),(22,0)])).seq (ops 0 [aa 19 5,aM 20 .add 19 1,aa 5 20]))).loop))).seq (ops 0 [aa 13 4,aM 14 .add 13 1,aa 4 14]))).loop)).seq ((ab [aw 6 0] (block 4 ((ab [aa 43 6,an 44 1 1,af 45 44,aR 46 .lss 43 45] (ct 46 skip (exit 4))).seq ((block 5 (ab [aw 7 0] (block 6 ((ab [aa 49 7,an 50 0 1,af 51 50,aR 52 .lss 49 51] (ct 52 skip (exit 6))).seq ((block 7 (ab [aw 8 0] (block 8 ((ab [aa 55 8,an 56 0 1,af 57 56,aR 58 .lss 55 57] (ct 58 skip (exit 8))).seq ((block 9 (ops 0 [aa 61 3,an 62 5 1,af 63 62,aa 64 6,ba 65 1 63 64,af 66 65,aa 67 7,ba 68 1 66 67,af 69 68,aa 70 8,ba 71 1 69 70,af 72 71,aA 73 76 ([t 72,cN ((0))]),aR 74 .add 61 73,aa 3 74])).seq (ops 0 [aa 59 8,aM 60 .add 59 1,aa 8 60]))).loop))).seq (ops 0 [aa 53 7,aM 54 .add 53 1,aa 7 54]))).loop))).seq (ops 0 [aa 47 6,aM 48 .add 47 1,aa 6 48]))).loop)).seq (au [aa 75 3,aa 2 75]))))))
theorem CW:Is Try.prog 46 b46:=mkI Try.func46
def b47:F2:=(F2.mk 42 [RV.t 2] (ab [dj 1 0,cO 2 (mov (c (AV.str (ByteArray.mk (Array.mk [])))))] (ab [an 6 6 1,af 7 6,bu 8 7,aA 9 68 [t 8],aa 3 9] ((ab [aw 4 0] (block 0 ((ab [aa 10 4,an 11 6 1,af 12 11,bu 13 12,aR 14 .lss 10 13] (ct 14 skip (exit 0))).seq ((block 1 (ab [an 17 6 1,af 18 17,aa 19 4,ba 20 8 18 19,bO 21 8 20,cO 5 (alloc (AV.agg [am,am,am,am,am,am,am,am])),cU 8 5 21] (mixS 1 [aa 22 3,an 23 0 5,af 24 23,aA 25 68 [t 24],an 26 1 5,af 27 26,aA 28 68 [t 27],aR 29 .add 25 28,an 30 2 5,an 31 0 1,af 32 31,cO 33 (slsA 5 (t 30) none (some (t 32))),aA 34 76 ([t 33,cN ((1))]),aR 35 .add 29 34,an 36 7 5,af 37 36,aA 38 68 [t 37],aR 39 .add 35 38,aR 40 .add 22 39,aa 3 40] [(0,0),(1,0),(2,0),(4,0),(5,0),(8,0),(9,0),(10,0),(11,0),(14,0),(15,0),(3,1),(6,1),(7,0),(12,1),(13,0),(16,2),(17,0),(18,0),(19,0)]))).seq (ops 0 [aa 15 4,aM 16 .add 15 1,aa 4 16]))).loop)).seq (au [aa 41 3,aa 2 41])))))
theorem D7:Is Try.prog 47 b47:=mkI Try.func47
def b48:F2:=(F2.mk 182 [] ((ab [aa 13 1,cO 14 (nilck (t 13)),an 15 0 14,af 16 15,aw 17 0] (block 0 ((dI 18 17 16 0 ((block 1 (mixS 1 [aa 19 1,aa 20 1,cO 21 (nilck (t 20)),an 22 4 21,af 23 22,aa 24 0,aa 25 1,cO 26 (nilck (t 25)),an 27 2 26,af 28 27,aa 29 0,cO 30 (mkbf 78 [t 29]),aA 31 77 [t 24,t 28,t 30],cO 32 (bldS 1 1 [AV.esl] [(0,1,t 31)]),i7 33 1 24 23 32,cO 34 (nilck (t 19)),an 35 4 34,cU 1 35 33] [(0,0),(1,0),(2,0),(3,0),(4,0),(5,0),(6,0),(7,0),(8,0),(9,0),(10,0),(11,0),(12,1),(13,1),(14,2),(15,0),(16,0),(17,2)])).seq (dH 36 17)))).loop)).seq ((ab [aa 37 1,cO 38 (nilck (t 37)),an 39 1 38,af 40 39,aM 41 .add 40 1,aw 42 0] (block 2 ((dI 43 42 41 2 ((block 3 (ab [kj 4] ((ab [aa 44 1,cO 45 (nilck (t 44)),an 46 0 45,af 47 46,aw 48 0] (block 4 ((dI 49 48 47 4 ((block 5 (ops 0 [aa 50 4,aa 51 0,aa 52 0,aA 53 36 [t 52],aa 54 0,cO 55 (mkbf 78 [t 54]),aA 56 77 [t 51,t 53,t 55],cO 57 (bldS 1 1 [AV.esl] [(0,1,t 56)]),i7 58 1 24 50 57,aa 4 58])).seq (dH 59 48)))).loop)).seq (ops 0 [aa 60 1,aa 61 1,cO 62 (nilck (t 61)),an 63 7 62,af 64 63,aa 65 4,cO 66 (bldS 1 1 [AV.esl] [(0,1,t 65)]),i7 67 1 24 64 66,cO 68 (nilck (t 60)),an 69 7 68,cU 1 69 67])))).seq (dH 70 42)))).loop)).seq ((ab [aa 71 1,cO 72 (nilck (t 71)),an 73 1 72,af 74 73,aw 75 0] (block 6 ((dI 76 75 74 6 ((block 7 (ab [aa 77 75,aa 5 77] (ab [kj 6] ((ab [aa 78 1,cO 79 (nilck (t 78)),an 80 0 79,af 81 80,aw 82 0] (block 8 ((dI 83 82 81 8 ((block 9 (ab [aa 84 82,aa 7 84] (ab [aa 85 1,cO 86 (nilck (t 85)),an 87 0 86,af 88 87,cO 89 (mks 1 24 [AV.esl] (t 88) (t 88)),aa 8 89] ((ab [aa 90 8,bu 91 90,aw 92 0] (block 10 ((dI 93 92 91 10 ((block 11 (ab [aa 94 92,aa 9 94] (ab [aa 95 7,aa 96 9,aR 97 .neq 95 96] (bc 97 (ops 0 [aa 98 8,aa 99 9,aa 100 0,aa 101 1,cO 102 (nilck (t 101)),an 103 7 102,af 104 103,aa 105 5,ba 106 1 104 105,af 107 106,aa 108 7,ba 109 1 107 108,af 110 109,bu 111 110,aa 112 0,cO 113 (mkbf 36 [t 112]),aA 114 77 [t 100,t 111,t 113],ba 115 1 98 99,cU 1 115 114]))))).seq (dH 116 92)))).loop)).seq (ops 0 [aa 117 6,aa 118 8,cO 119 (bldS 1 1 [AV.esl] [(0,1,t 118)]),i7 120 1 24 117 119,aa 6 120]))))).seq (dH 121 82)))).loop)).seq (ops 0 [aa 122 1,aa 123 1,cO 124 (nilck (t 123)),an 125 5 124,af 126 125,aa 127 6,cO 128 (bldS 1 1 [AV.esl] [(0,1,t 127)]),i7 129 1 24 126 128,cO 130 (nilck (t 122)),an 131 5 130,cU 1 131 129]))))).seq (dH 132 75)))).loop)).seq (ab [aa 133 0,aA 134 36 [t 133],aa 10 134] (block 12 ((ab [aa 135 10,aM 136 .gtr 135 0,aa 137 136,al 138 137 (cM 0),al 139 137 (nilck (t 138)),al 140 137 (fa 1 (t 139)),al 141 137 (cD 140),al 142 137 (un UnOp.not (t 141)),dn 143 137 142] (ct 143 skip (exit 12))).seq ((block 13 (ab [aa 146 0,aA 147 36 [t 146],aa 148 0,aA 149 36 [t 148],cO 150 (bld [am,am,am,am,am,am,am,am] [(0,1,t 147),(1,1,t 149)]),cO 11 (alloc (AV.agg [am,am,am,am,am,am,am,am])),cU 8 11 150] ((ab [aw 151 0] (block 14 (ab [aM 152 .lss 151 5] (CD 152 14 ((block 15 (ab [aa 153 151,aa 12 153] (ab [aa 154 12,an 155 2 11,cO 156 (ixaA 5 1 (t 155) (t 154)),Op2.mk none none (Ins.st 1 (t 156) (cN ((-1))))] (ab [aa 157 12,aa 158 1,cO 159 (nilck (t 158)),an 160 0 159,af 161 160,aR 162 .lss 157 161] (bc 162 (ops 0 [aa 163 12,aa 164 0,aA 165 78 [t 164],an 166 2 11,cO 167 (ixaA 5 1 (t 166) (t 163)),cU 1 167 165])))))).seq (dH 168 151)))).loop)).seq (ab [aa 169 0,aA 170 36 [t 169],an 171 7 11,cU 1 171 170] (ops 1 [aa 172 1,aa 173 1,cO 174 (nilck (t 173)),an 175 6 174,af 176 175,bO 177 8 11,cO 178 (bldS 8 1 [am,am,am,am,am,am,am,am] [(0,8,t 177)]),i7 179 8 64 176 178,cO 180 (nilck (t 172)),an 181 6 180,cU 1 181 179]))))).seq (ops 0 [aa 144 10,aM 145 .sub 144 1,aa 10 145]))).loop))))))
theorem Ef:Is Try.prog 48 b48:=mkI Try.func48
def b49:F2:=(F2.mk 53 [RV.cn 2 8] (ab [cO 2 (alloc (AV.agg [am,am,am,am,AV.esl,AV.esl,AV.esl,AV.esl]))] (ab [aa 5 0,aA 6 40 [t 5],aa 7 0,aA 8 40 [t 7],aa 9 0,aA 10 40 [t 9],aa 11 0,aA 12 40 [t 11],cO 13 (bld [am,am,am,am,AV.esl,AV.esl,AV.esl,AV.esl] [(0,1,t 6),(1,1,t 8),(2,1,t 10),(3,1,t 12)]),cO 3 (alloc (AV.agg [am,am,am,am,AV.esl,AV.esl,AV.esl,AV.esl])),cU 8 3 13] ((ab [an 14 0 3,af 15 14,aM 16 .gtr 15 5,aa 17 16,ai 18 17 (fa 1 (t 3)),ai 19 17 (cD 18),ai 20 17 (cB .gtr (t 19) (cN 6)),cr 21 17 20,aa 22 21,ai 23 22 (fa 2 (t 3)),ai 24 22 (cD 23),ai 25 22 (cB .gtr (t 24) (cN 8)),cr 26 22 25] (bc 26 (ops 0 [aa 27 0,cO 28 (nilck (t 27)),an 29 2 28,Op2.mk none none (Ins.st 1 (t 29) z7)]))).seq ((ab [aw 4 0] (block 0 ((ab [aa 30 4,an 31 0 3,af 32 31,aR 33 .lss 30 32,aa 34 33,al 35 34 (cM 0),al 36 34 (nilck (t 35)),al 37 34 (fa 2 (t 36)),al 38 34 (cD 37),al 39 34 (un UnOp.not (t 38)),dn 40 34 39] (ct 40 skip (exit 0))).seq ((block 1 (mixS 1 [an 43 4 3,af 44 43,aa 45 0,an 46 2 3,af 47 46,aA 48 79 ([t 45,t 47,cN ((1))]),cO 49 (bldS 1 1 [AV.esl] [(0,1,t 48)]),i7 50 1 24 44 49,an 51 4 3,cU 1 51 50] [(0,0),(1,0),(2,0),(3,0),(4,0),(5,1),(6,1),(7,2),(8,0),(9,2)])).seq (ops 0 [aa 41 4,aM 42 .add 41 1,aa 4 42]))).loop)).seq (au [bO 52 8 3,cU 8 2 52]))))))
theorem DR:Is Try.prog 49 b49:=mkI Try.func49
def b50:F2:=(F2.mk 47 [RV.t 4] (ab [dj 3 1,kj 4] (ab [kj 5] ((ab [aw 6 0] (block 0 ((ab [aa 9 6,an 10 1 3,af 11 10,aR 12 .leq 9 11,aa 13 12,al 14 13 (cM 0),al 15 13 (nilck (t 14)),al 16 13 (fa 2 (t 15)),al 17 13 (cD 16),al 18 13 (un UnOp.not (t 17)),dn 19 13 18] (ct 19 skip (exit 0))).seq ((block 1 (ab [kj 7] ((ab [aw 8 0] (block 2 ((ab [aa 22 8,an 23 0 3,af 24 23,aR 25 .lss 22 24,aa 26 25,al 27 26 (cM 0),al 28 26 (nilck (t 27)),al 29 26 (fa 2 (t 28)),al 30 26 (cD 29),al 31 26 (un UnOp.not (t 30)),dn 32 26 31] (ct 32 skip (exit 2))).seq ((block 3 (ops 0 [aa 35 7,aa 36 0,aa 37 0,aA 38 40 [t 37],aA 39 79 ([t 36,t 38,cN ((1))]),cO 40 (bldS 1 1 [AV.esl] [(0,1,t 39)]),i7 41 1 24 35 40,aa 7 41])).seq (ops 0 [aa 33 8,aM 34 .add 33 1,aa 8 34]))).loop)).seq (ops 0 [aa 42 5,aa 43 7,cO 44 (bldS 1 1 [AV.esl] [(0,1,t 43)]),i7 45 1 24 42 44,aa 5 45])))).seq (ops 0 [aa 20 6,aM 21 .add 20 1,aa 6 21]))).loop)).seq (au [aa 46 5,aa 4 46])))))
theorem Dv:Is Try.prog 50 b50:=mkI Try.func50
def b51:F2:=(F2.mk 78 [RV.t 4] (ab [dj 3 1,kj 4] (ab [kj 5] ((ab [aw 6 0] (block 0 ((ab [aa 12 6,an 13 1 3,af 14 13,aR 15 .lss 12 14,aa 16 15,al 17 16 (cM 0),al 18 16 (nilck (t 17)),al 19 16 (fa 2 (t 18)),al 20 16 (cD 19),al 21 16 (un UnOp.not (t 20)),dn 22 16 21] (ct 22 skip (exit 0))).seq ((block 1 (ab [kj 7] ((ab [aw 8 0] (block 2 ((ab [aa 25 8,an 26 0 3,af 27 26,aR 28 .lss 25 27,aa 29 28,al 30 29 (cM 0),al 31 29 (nilck (t 30)),al 32 29 (fa 2 (t 31)),al 33 29 (cD 32),al 34 29 (un UnOp.not (t 33)),dn 35 29 34] (ct 35 skip (exit 2))).seq ((block 3 (ab [kj 9] ((ab [aw 10 0] (block 4 ((ab [aa 38 10,an 39 0 3,af 40 39,aR 41 .lss 38 40,aa 42 41,al 43 42 (cM 0),al 44 42 (nilck (t 43)),al 45 42 (fa 2 (t 44)),al 46 42 (cD 45),al 47 42 (un UnOp.not (t 46)),dn 48 42 47] (ct 48 skip (exit 4))).seq ((block 5 (ab [an 51 7 3,af 52 51,aa 53 6,ba 54 1 52 53,af 55 54,aa 56 8,ba 57 1 55 56,af 58 57,bu 59 58,aa 11 59] ((ab [aa 60 8,aa 61 10,aR 62 .eql 60 61] (bc 62 (ops 0 [aw 11 0]))).seq (ops 0 [aa 63 9,aa 64 0,aa 65 11,aA 66 79 ([t 64,t 65,cN ((0))]),cO 67 (bldS 1 1 [AV.esl] [(0,1,t 66)]),i7 68 1 24 63 67,aa 9 68])))).seq (ops 0 [aa 49 10,aM 50 .add 49 1,aa 10 50]))).loop)).seq (ops 0 [aa 69 7,aa 70 9,cO 71 (bldS 1 1 [AV.esl] [(0,1,t 70)]),i7 72 1 24 69 71,aa 7 72])))).seq (ops 0 [aa 36 8,aM 37 .add 36 1,aa 8 37]))).loop)).seq (ops 0 [aa 73 5,aa 74 7,cO 75 (bldS 1 1 [AV.esl] [(0,1,t 74)]),i7 76 1 24 73 75,aa 5 76])))).seq (ops 0 [aa 23 6,aM 24 .add 23 1,aa 6 24]))).loop)).seq (au [aa 77 5,aa 4 77])))))
theorem CR:Is Try.prog 51 b51:=mkI Try.func51
def b52:F2:=(F2.mk 54 [RV.t 4] (ab [dj 3 1,kj 4] (ab [aa 10 0,aA 11 40 [t 10],aa 5 11] (ab [kj 6] ((ab [aw 7 0] (block 0 ((ab [aa 12 7,aa 13 5,aR 14 .lss 12 13,aa 15 14,al 16 15 (cM 0),al 17 15 (nilck (t 16)),al 18 15 (fa 2 (t 17)),al 19 15 (cD 18),al 20 15 (un UnOp.not (t 19)),dn 21 15 20] (ct 21 skip (exit 0))).seq ((block 1 (ab [aa 24 0,aA 25 40 [t 24],aa 26 0,aA 27 40 [t 26],cO 28 (bld [am,am,am,am,am,am,am,am] [(0,1,t 25),(1,1,t 27)]),cO 8 (alloc (AV.agg [am,am,am,am,am,am,am,am])),cU 8 8 28] ((ab [aw 9 0] (block 2 ((ab [aa 29 9,aM 30 .lss 29 5] (ct 30 skip (exit 2))).seq ((block 3 (ab [aa 33 9,an 34 2 8,cO 35 (ixaA 5 1 (t 34) (t 33)),Op2.mk none none (Ins.st 1 (t 35) (cN ((-1))))] (ab [aa 36 9,an 37 0 3,af 38 37,aR 39 .lss 36 38] (bc 39 (ops 0 [aa 40 9,aa 41 0,aA 42 40 [t 41],aM 43 .sub 42 1,an 44 2 8,cO 45 (ixaA 5 1 (t 44) (t 40)),cU 1 45 43]))))).seq (ops 0 [aa 31 9,aM 32 .add 31 1,aa 9 32]))).loop)).seq (ab [aa 46 0,aA 47 40 [t 46],an 48 7 8,cU 1 48 47] (ops 0 [aa 49 6,bO 50 8 8,cO 51 (bldS 8 1 [am,am,am,am,am,am,am,am] [(0,8,t 50)]),i7 52 8 64 49 51,aa 6 52]))))).seq (ops 0 [aa 22 7,aM 23 .add 22 1,aa 7 23]))).loop)).seq (au [aa 53 6,aa 4 53]))))))
theorem Ed:Is Try.prog 52 b52:=mkI Try.func52
def b53:F2:=(F2.mk 27 [RV.t 4] (ab [bH 4] ((ab [aa 6 0,bu 7 6,aa 8 1,bu 9 8,aR 10 .neq 7 9] (bc 10 (au [bH 4]))).seq ((ab [aw 5 0] (block 0 ((ab [aa 11 5,aa 12 0,bu 13 12,aR 14 .lss 11 13] (ct 14 skip (exit 0))).seq ((block 1 ((mixS 1 [aa 17 0,aa 18 5,ba 19 1 17 18,af 20 19,aa 21 1,aa 22 5,ba 23 1 21 22,af 24 23,aA 25 80 [t 20,t 24],eY 26 25] [(0,0),(1,0),(2,0),(3,0),(4,0),(5,0),(6,0),(7,0),(8,2),(9,0)]).seq (bc 26 (au [bH 4])))).seq (ops 0 [aa 15 5,aM 16 .add 15 1,aa 5 16]))).loop)).seq (au [lF 4])))))
theorem DY:Is Try.prog 53 b53:=mkI Try.func53
def b54:F2:=(F2.mk 27 [RV.t 4] (ab [bH 4] ((ab [aa 6 0,bu 7 6,aa 8 1,bu 9 8,aR 10 .neq 7 9] (bc 10 (au [bH 4]))).seq ((ab [aw 5 0] (block 0 ((ab [aa 11 5,aa 12 0,bu 13 12,aR 14 .lss 11 13] (ct 14 skip (exit 0))).seq ((block 1 ((mixS 1 [aa 17 0,aa 18 5,ba 19 1 17 18,af 20 19,aa 21 1,aa 22 5,ba 23 1 21 22,af 24 23,aA 25 53 [t 20,t 24],eY 26 25] [(0,0),(1,0),(2,0),(3,0),(4,0),(5,0),(6,0),(7,0),(8,2),(9,0)]).seq (bc 26 (au [bH 4])))).seq (ops 0 [aa 15 5,aM 16 .add 15 1,aa 5 16]))).loop)).seq (au [lF 4])))))
theorem DE:Is Try.prog 54 b54:=mkI Try.func54
def b55:F2:=(F2.mk 15 [RV.t 6] (ab [bH 6] (au [aa 7 0,aa 8 1,aR 9 .geq 7 8,aa 10 9,al 11 10 (cM 0),al 12 10 (cM 2),al 13 10 (cB .leq (t 11) (t 12)),dn 14 10 13,aa 6 14])))
theorem Dd:Is Try.prog 55 b55:=mkI Try.func55
def b56:F2:=(F2.mk 114 [RV.t 2] (ab [dj 1 0,bH 2] ((ab [an 14 4 1,af 15 14,bu 16 15,an 17 0 1,af 18 17,aR 19 .neq 16 18,aa 20 19,ai 21 20 (fa 7 (t 1)),ai 22 20 (cD 21),ai 23 20 (lenS (t 22)),ai 24 20 (fa 1 (t 1)),ai 25 20 (cD 24),ai 26 20 (cB .add (t 25) (cN 1)),ai 27 20 (cB .neq (t 23) (t 26)),cr 28 20 27,aa 29 28,ai 30 29 (fa 5 (t 1)),ai 31 29 (cD 30),ai 32 29 (lenS (t 31)),ai 33 29 (fa 1 (t 1)),ai 34 29 (cD 33),ai 35 29 (cB .neq (t 32) (t 34)),cr 36 29 35] (bc 36 (au [bH 2]))).seq ((ab [an 37 4 1,af 38 37,bu 39 38,aw 40 0] (block 0 ((dI 41 40 39 0 ((block 1 (ab [ba 42 1 38 40,af 43 42,aa 4 43] (ab [aa 44 4,bu 45 44,an 46 2 1,af 47 46,aR 48 .neq 45 47] (bc 48 (au [bH 2]))))).seq (dH 49 40)))).loop)).seq ((ab [an 50 7 1,af 51 50,bu 52 51,aw 53 0] (block 2 ((dI 54 53 52 2 ((block 3 (ab [ba 55 1 51 53,af 56 55,aa 6 56] (ab [aa 57 6,bu 58 57,an 59 0 1,af 60 59,aR 61 .neq 58 60] (bc 61 (au [bH 2]))))).seq (dH 62 53)))).loop)).seq ((ab [an 63 5 1,af 64 63,bu 65 64,aw 66 0] (block 4 ((dI 67 66 65 4 ((block 5 (ab [aa 68 66,ba 69 1 64 66,af 70 69,aa 7 68,aa 8 70] ((ab [aa 71 8,bu 72 71,an 73 0 1,af 74 73,aR 75 .neq 72 74] (bc 75 (au [bH 2]))).seq (ab [aa 76 8,bu 77 76,aw 78 0] (block 6 ((dI 79 78 77 6 ((block 7 (ab [aa 80 78,ba 81 1 76 78,af 82 81,aa 9 80,aa 10 82] ((ab [aa 83 10,bu 84 83,an 85 0 1,af 86 85,aR 87 .neq 84 86] (bc 87 (au [bH 2]))).seq (ab [aa 88 10,bu 89 88,aw 90 0] (block 8 ((dI 91 90 89 8 ((block 9 (ab [aa 92 90,ba 93 1 88 90,af 94 93,aa 11 92,aa 12 94] (ab [an 95 7 1,af 96 95,aa 97 7,ba 98 1 96 97,af 99 98,aa 100 9,ba 101 1 99 100,af 102 101,bu 103 102,aa 13 103] ((ab [aa 104 9,aa 105 11,aR 106 .eql 104 105] (bc 106 (ops 0 [aw 13 0]))).seq (ab [aa 107 12,bu 108 107,aa 109 13,aR 110 .neq 108 109] (bc 110 (au [bH 2]))))))).seq (dH 111 90)))).loop))))).seq (dH 112 78)))).loop))))).seq (dH 113 66)))).loop)).seq (au [lF 2])))))))
theorem DX:Is Try.prog 56 b56:=mkI Try.func56
def b57:F2:=(F2.mk 28 [RV.t 2] (ab [dj 1 0,aw 2 0] (ab [aw 3 0] ((ab [an 8 7 1,af 9 8,bu 10 9,aw 11 0] (block 0 ((dI 12 11 10 0 ((block 1 (ab [ba 13 1 9 11,af 14 13,aa 5 14] (ab [aa 15 5,bu 16 15,aw 17 0] (block 2 ((dI 18 17 16 2 ((block 3 (ab [ba 19 1 15 17,af 20 19,aa 7 20] (ops 0 [aa 21 3,aa 22 7,bu 23 22,aR 24 .add 21 23,aa 3 24]))).seq (dH 25 17)))).loop)))).seq (dH 26 11)))).loop)).seq (au [aa 27 3,aa 2 27])))))
theorem DQ:Is Try.prog 57 b57:=mkI Try.func57
def b58:F2:=(F2.mk 60 [RV.t 2] (ab [dj 1 0,bH 2] ((ab [an 11 4 1,af 12 11,bu 13 12,aw 14 0] (block 0 ((dI 15 14 13 0 ((block 1 (ab [aa 16 14,ba 17 1 12 14,af 18 17,aa 3 16,aa 4 18] (ab [aa 19 4,an 20 7 1,af 21 20,cO 22 (ixaS 1 (t 21) (cN 0)),af 23 22,aa 24 3,ba 25 1 23 24,af 26 25,bu 27 26,aM 28 .sub 27 1,aA 29 81 ([t 19,cN ((-1)),t 28]),eY 30 29] (bc 30 (au [bH 2]))))).seq (dH 31 14)))).loop)).seq ((ab [an 32 7 1,af 33 32,bu 34 33,aw 35 0] (block 2 ((dI 36 35 34 2 ((block 3 (ab [ba 37 1 33 35,af 38 37,aa 6 38] (ab [aa 39 6,cO 40 (mkfn 83 [t 1]),aA 41 82 [t 39,t 40]] (bc 41 (au [bH 2]))))).seq (dH 42 35)))).loop)).seq ((ab [an 43 5 1,af 44 43,bu 45 44,aw 46 0] (block 4 ((dI 47 46 45 4 ((block 5 (ab [ba 48 1 44 46,af 49 48,aa 8 49] (ab [aa 50 8,bu 51 50,aw 52 0] (block 6 ((dI 53 52 51 6 ((block 7 (ab [ba 54 1 50 52,af 55 54,aa 10 55] (ab [aa 56 10,aA 57 82 ([t 56,c (AV.func 84 [])])] (bc 57 (au [bH 2]))))).seq (dH 58 52)))).loop)))).seq (dH 59 46)))).loop)).seq (au [lF 2]))))))
theorem De:Is Try.prog 58 b58:=mkI Try.func58
def b59:F2:=(F2.mk 90 [RV.t 4] (ab [dj 2 0,dj 3 1,aw 4 0] (((mixS 1 [an 7 0 3,af 8 7,an 9 1 2,af 10 9,aM 11 .sub 10 1,aA 12 55 ([t 8,cN ((0)),t 11]),eY 13 12,aa 14 13,ai 15 14 (fa 1 (t 3)),ai 16 14 (cD 15),ai 17 14 (fa 0 (t 2)),ai 18 14 (cD 17),ai 19 14 (cB .sub (t 18) (cN 1)),ai 20 14 (call (cF 55) [t 16,cN ((0)),t 19]),ai 21 14 (un UnOp.not (t 20)),cr 22 14 21,aa 23 22,ai 24 23 (fa 7 (t 3)),ai 25 23 (cD 24),ai 26 23 (fa 7 (t 2)),ai 27 23 (cD 26),ai 28 23 (fa 0 (t 3)),ai 29 23 (cD 28),ai 30 23 (cB .add (t 29) (cN 1)),ai 31 23 (ixaS 1 (t 27) (t 30)),ai 32 23 (cD 31),ai 33 23 (fa 1 (t 3)),ai 34 23 (cD 33),ai 35 23 (ixaS 1 (t 32) (t 34)),ai 36 23 (cD 35),ai 37 23 (lenS (t 36)),ai 38 23 (cB .sub (t 37) (cN 1)),ai 39 23 (call (cF 55) [t 25,cN ((0)),t 38]),ai 40 23 (un UnOp.not (t 39)),cr 41 23 40] [(0,0),(1,0),(2,0),(3,0),(4,0),(5,1),(6,0),(7,0),(8,0),(9,0),(10,0),(11,0),(12,0),(13,1),(14,0),(15,0),(16,0),(17,0),(18,0),(19,0),(20,0),(21,0),(22,0),(23,0),(24,0),(25,0),(26,0),(27,0),(28,0),(29,0),(30,0),(31,0),(32,2),(33,0),(34,0)]).seq (bc 41 (au [aw 4 2]))).seq ((ab [an 42 2 3,an 43 0 2,af 44 43,cO 45 (slsA 5 (t 42) (some (t 44)) none),aA 46 81 ([t 45,cN ((-1)),cN ((-1))]),eY 47 46] (bc 47 (au [aw 4 3]))).seq ((ab [an 48 2 3,an 49 0 2,af 50 49,cO 51 (slsA 5 (t 48) none (some (t 50))),bu 52 51,aw 53 0] (block 0 ((dI 54 53 52 0 ((block 1 (ab [aa 55 53,ba 56 1 51 53,af 57 56,aa 5 55,aa 6 57] (ab [aa 58 5,an 59 1 3,af 60 59,aR 61 .eql 58 60,aa 62 61,al 63 62 (cM 6),al 64 62 (fa 7 (t 2)),al 65 62 (cD 64),al 66 62 (fa 0 (t 3)),al 67 62 (cD 66),al 68 62 (ixaS 1 (t 65) (t 67)),al 69 62 (cD 68),al 70 62 (cM 5),al 71 62 (ixaS 1 (t 69) (t 70)),al 72 62 (cD 71),al 73 62 (lenS (t 72)),al 74 62 (cB .sub (t 73) (cN 1)),al 75 62 (call (cF 55) [t 63,cN ((0)),t 74]),al 76 62 (un UnOp.not (t 75)),dn 77 62 76,aa 78 77,ai 79 78 (cM 5),ai 80 78 (fa 1 (t 3)),ai 81 78 (cD 80),ai 82 78 (cB .neq (t 79) (t 81)),ai 83 78 (cM 82),al 84 83 (cM 6),al 85 83 (call (cF 55) [t 84,cN ((-1)),cN ((1048576))]),al 86 83 (un UnOp.not (t 85)),ai 87 78 (pick (t 83) (t 86) zj),cr 88 78 87] (bc 88 (au [aw 4 2]))))).seq (dH 89 53)))).loop)).seq (au [aw 4 0]))))))
theorem D6:Is Try.prog 59 b59:=mkI Try.func59
def b60:F2:=(F2.mk 22 [RV.t 4] (ab [dj 2 0,dj 3 1,aw 4 0] ((mixS 1 [an 5 0 2,af 6 5,an 7 0 3,af 8 7,aA 9 86 [t 6,t 8],an 10 1 2,af 11 10,an 12 1 3,af 13 12,aA 14 86 [t 11,t 13],an 15 2 2,cO 16 (slsA 5 (t 15) none none),an 17 2 3,cO 18 (slsA 5 (t 17) none none),aA 19 87 [t 16,t 18],cO 20 (bldS 1 3 [am] [(0,1,t 9),(1,1,t 14),(2,1,t 19)]),aA 21 85 [t 20],aa 4 21] [(0,0),(1,0),(2,0),(3,0),(5,0),(6,0),(7,0),(8,0),(10,0),(11,0),(12,0),(13,0),(4,1),(9,2),(14,2),(15,2),(16,2),(17,0)]).seq ret)))
theorem Dt:Is Try.prog 60 b60:=mkI Try.func60
def b61:F2:=(F2.mk 8 [RV.t 4] (ab [bH 4] (au [aa 5 0,aa 6 1,aA 7 88 ([t 5,t 6,c (AV.func 89 [])]),aa 4 7])))
theorem Db:Is Try.prog 61 b61:=mkI Try.func61
def b62:F2:=(F2.mk 8 [RV.t 4] (ab [bH 4] (au [aa 5 0,aa 6 1,aA 7 90 ([t 5,t 6,c (AV.func 61 [])]),aa 4 7])))
theorem C1:Is Try.prog 62 b62:=mkI Try.func62
def b63:F2:=(F2.mk 11 [RV.t 6] (ab [bH 6] (au [aa 7 0,aa 8 1,aa 9 2,aA 10 91 [t 7,t 8,t 9],aa 6 10])))
theorem Dj:Is Try.prog 63 b63:=mkI Try.func63
def b64:F2:=(F2.mk 26 [RV.t 4] (ab [bH 4] ((ab [aa 6 0,bu 7 6,aa 8 1,bu 9 8,aR 10 .neq 7 9] (bc 10 (au [bH 4]))).seq ((ab [aa 11 0,bu 12 11,aw 13 0] (block 0 ((dI 14 13 12 0 ((block 1 (ab [aa 15 13,aa 5 15] ((ops 1 [aa 16 0,aa 17 5,ba 18 8 16 17,bO 19 8 18,aa 20 1,aa 21 5,ba 22 8 20 21,bO 23 8 22,cO 24 (binS BinOp.neq [int,int,int,int,int,int,int,int] (t 19) (t 23))]).seq (bc 24 (au [bH 4]))))).seq (dH 25 13)))).loop)).seq (au [lF 4])))))
theorem CU:Is Try.prog 64 b64:=mkI Try.func64
def b65:F2:=(F2.mk 8 [RV.cn 4 5] (ab [cO 4 (alloc (AV.agg [am,am,am,am,am]))] (au [aa 5 0,aa 6 1,cO 7 (bld [am,am,am,am,am] [(0,1,t 5),(1,1,t 6),(2,1,cN ((-1))),(3,1,cN ((-1))),(4,1,cN ((-1)))]),cU 5 4 7])))
theorem C9:Is Try.prog 65 b65:=mkI Try.func65
def b66:F2:=(F2.mk 11 [RV.t 2,RV.t 3] (ab [cO 2 (mov (c AV.nilf)),cO 3 (mov (c AV.nilf))] (ab [aa 6 0,cO 7 (s2b (t 6)),cO 4 (alloc AV.esl),cU 1 4 7] (ab [cO 8 (mkfn 92 [t 4]),aa 5 8] (au [aa 9 5,cO 10 (mkfn 93 [t 4]),aa 2 9,aa 3 10])))))
theorem D8:Is Try.prog 66 b66:=mkI Try.func66
def b67:F2:=(F2.mk 16 [RV.t 2] (ab [cO 2 (mov (c (AV.str (ByteArray.mk (Array.mk [])))))] (ab [aa 4 0,cO 5 (b2s (t 4)),aA 6 24 [t 5],aa 3 6] (au [aa 7 0,aa 8 3,cO 9 (cB .shr (t 8) (c (AV.int IntKind.u64 (8)))),cO 10 (conv IntKind.u8 (t 9)),aa 11 3,cO 12 (conv IntKind.u8 (t 11)),cO 13 (bldS 1 2 [AV.int IntKind.u8 (0)] [(0,1,t 10),(1,1,t 12)]),i7 14 1 1 7 13,cO 15 (b2s (t 14)),aa 2 15]))))
theorem D1:Is Try.prog 67 b67:=mkI Try.func67
def b68:F2:=(F2.mk 18 [RV.t 2] (ab [cO 2 (mov (c (AV.str (ByteArray.mk (Array.mk [])))))] (ab [cO 3 (mov (c (AV.str (ByteArray.mk (Array.mk [])))))] ((block 0 ((ab [aa 4 0,aM 5 .gtr 4 127] (ct 5 skip (exit 0))).seq (block 1 (ab [aa 6 3,aa 7 0,aM 8 .rem 7 128,aM 9 .add 8 128,aA 10 41 [t 9],aR 11 .add 6 10,aa 3 11] (ops 0 [aa 12 0,aM 13 .quo 12 128,aa 0 13])))).loop).seq (au [aa 14 3,aa 15 0,aA 16 41 [t 15],aR 17 .add 14 16,aa 2 17])))))
theorem DI:Is Try.prog 68 b68:=mkI Try.func68
def b69:F2:=(F2.mk 19 [RV.t 4] (ab [aw 4 0] ((ab [aa 6 0,bu 7 6,aw 8 0] (block 0 ((dI 9 8 7 0 ((block 1 (ab [aa 10 8,aa 5 10] (ab [aa 11 1,aa 12 0,aa 13 5,ba 14 1 12 13,af 15 14,aR 16 .eql 11 15] (bc 16 (au [aa 17 5,aa 4 17]))))).seq (dH 18 8)))).loop)).seq (au [cO 4 (mov (cN ((-1))))]))))
theorem DZ:Is Try.prog 69 b69:=mkI Try.func69
def b70:F2:=(F2.mk 15 [RV.t 6] (ab [bH 6] (au [aa 7 0,aa 8 1,aR 9 .geq 7 8,aa 10 9,al 11 10 (cM 0),al 12 10 (cM 2),al 13 10 (cB .leq (t 11) (t 12)),dn 14 10 13,aa 6 14])))
theorem Ea:Is Try.prog 70 b70:=mkI Try.func70
def b71:F2:=(F2.mk 147 [RV.t 2] (ab [dj 1 0,bH 2] ((ab [an 8 4 1,af 9 8,bu 10 9,an 11 0 1,af 12 11,aR 13 .neq 10 12,aa 14 13,ai 15 14 (fa 7 (t 1)),ai 16 14 (cD 15),ai 17 14 (lenS (t 16)),ai 18 14 (fa 1 (t 1)),ai 19 14 (cD 18),ai 20 14 (cB .add (t 19) (cN 1)),ai 21 14 (cB .neq (t 17) (t 20)),cr 22 14 21,aa 23 22,ai 24 23 (fa 5 (t 1)),ai 25 23 (cD 24),ai 26 23 (lenS (t 25)),ai 27 23 (fa 1 (t 1)),ai 28 23 (cD 27),ai 29 23 (cB .neq (t 26) (t 28)),cr 30 23 29] (bc 30 (au [bH 2]))).seq ((ab [aw 3 0] (block 0 ((ab [aa 31 3,an 32 0 1,af 33 32,aR 34 .lss 31 33] (ct 34 skip (exit 0))).seq ((block 1 ((ops 1 [an 37 4 1,af 38 37,aa 39 3,ba 40 1 38 39,af 41 40,bu 42 41,an 43 2 1,af 44 43,aR 45 .neq 42 44]).seq (bc 45 (au [bH 2])))).seq (ops 0 [aa 35 3,aM 36 .add 35 1,aa 3 36]))).loop)).seq ((ab [aw 4 0] (block 2 ((ab [aa 46 4,an 47 1 1,af 48 47,aR 49 .leq 46 48] (ct 49 skip (exit 2))).seq ((block 3 ((ops 1 [an 52 7 1,af 53 52,aa 54 4,ba 55 1 53 54,af 56 55,bu 57 56,an 58 0 1,af 59 58,aR 60 .neq 57 59]).seq (bc 60 (au [bH 2])))).seq (ops 0 [aa 50 4,aM 51 .add 50 1,aa 4 51]))).loop)).seq ((ab [aw 5 0] (block 4 ((ab [aa 61 5,an 62 1 1,af 63 62,aR 64 .lss 61 63] (ct 64 skip (exit 4))).seq ((block 5 (((ops 1 [an 67 5 1,af 68 67,aa 69 5,ba 70 1 68 69,af 71 70,bu 72 71,an 73 0 1,af 74 73,aR 75 .neq 72 74]).seq (bc 75 (au [bH 2]))).seq (ab [aw 6 0] (block 6 ((ab [aa 76 6,an 77 0 1,af 78 77,aR 79 .lss 76 78] (ct 79 skip (exit 6))).seq ((block 7 (((ops 1 [an 82 5 1,af 83 82,aa 84 5,ba 85 1 83 84,af 86 85,aa 87 6,ba 88 1 86 87,af 89 88,bu 90 89,an 91 0 1,af 92 91,aR 93 .neq 90 92]).seq (bc 93 (au [bH 2]))).seq (ab [aw 7 0] (block 8 ((ab [aa 94 7,an 95 0 1,af 96 95,aR 97 .lss 94 96] (ct 97 skip (exit 8))).seq ((block 9 ((ops 1 [aa 100 6,aa 101 7,aR 102 .eql 100 101,aa 103 102,al 104 103 (fa 5 (t 1)),al 105 103 (cD 104),al 106 103 (cM 5),al 107 103 (ixaS 1 (t 105) (t 106)),al 108 103 (cD 107),al 109 103 (cM 6),al 110 103 (ixaS 1 (t 108) (t 109)),al 111 103 (cD 110),al 112 103 (cM 7),al 113 103 (ixaS 1 (t 111) (t 112)),al 114 103 (cD 113),al 115 103 (lenS (t 114)),al 116 103 (cB .gtr (t 115) (cN 0)),dn 117 103 116,aa 118 117,ai 119 118 (cM 6),ai 120 118 (cM 7),ai 121 118 (cB .neq (t 119) (t 120)),ai 122 118 (cM 121),al 123 122 (fa 5 (t 1)),al 124 122 (cD 123),al 125 122 (cM 5),al 126 122 (ixaS 1 (t 124) (t 125)),al 127 122 (cD 126),al 128 122 (cM 6),al 129 122 (ixaS 1 (t 127) (t 128)),al 130 122 (cD 129),al 131 122 (cM 7),al 132 122 (ixaS 1 (t 130) (t 131)),al 133 122 (cD 132),al 134 122 (lenS (t 133)),al 135 122 (fa 7 (t 1)),al 136 122 (cD 135),al 137 122 (cM 5),al 138 122 (ixaS 1 (t 136) (t 137)),al 139 122 (cD 138),al 140 122 (cM 6),al 141 122 (ixaS 1 (t 139) (t 140)),al 142 122 (cD 141),al 143 122 (lenS (t 142)),al 144 122 (cB .neq (t 134) (t 143)),ai 145 118 (pick (t 122) (t 144) zj),cr 146 118 145]).seq (bc 146 (au [bH 2])))).seq (ops 0 [aa 98 7,aM 99 .add 98 1,aa 7 99]))).loop)))).seq (ops 0 [aa 80 6,aM 81 .add 80 1,aa 6 81]))).loop)))).seq (ops 0 [aa 65 5,aM 66 .add 65 1,aa 5 66]))).loop)).seq (au [lF 2])))))))
theorem C5:Is Try.prog 71 b71:=mkI Try.func71
def b72:F2:=(F2.mk 72 [RV.t 2] (ab [dj 1 0,bH 2] ((ab [aw 3 0] (block 0 ((ab [aa 6 3,an 7 0 1,af 8 7,aR 9 .lss 6 8] (ct 9 skip (exit 0))).seq ((block 1 (((mixS 1 [an 12 4 1,af 13 12,aa 14 3,ba 15 1 13 14,af 16 15,an 17 7 1,af 18 17,cO 19 (ixaS 1 (t 18) (cN 0)),af 20 19,aa 21 3,ba 22 1 20 21,af 23 22,bu 24 23,aM 25 .sub 24 1,aA 26 94 ([t 16,cN ((-1)),t 25]),eY 27 26] [(0,0),(1,0),(2,0),(3,0),(4,0),(5,0),(6,0),(7,0),(8,0),(9,0),(10,0),(11,0),(12,0),(13,0),(14,2),(15,0)]).seq (bc 27 (au [bH 2]))).seq (ab [aw 4 0] (block 2 ((ab [aa 28 4,an 29 1 1,af 30 29,aR 31 .leq 28 30] (ct 31 skip (exit 2))).seq ((block 3 (((mixS 1 [an 34 7 1,af 35 34,aa 36 4,ba 37 1 35 36,af 38 37,aa 39 3,ba 40 1 38 39,af 41 40,an 42 3 1,af 43 42,aM 44 .sub 43 1,aA 45 94 ([t 41,cN ((-1)),t 44]),eY 46 45] [(0,0),(1,0),(2,0),(3,0),(4,0),(5,0),(6,0),(7,0),(8,0),(9,0),(10,0),(11,2),(12,0)]).seq (bc 46 (au [bH 2]))).seq (ab [aw 5 0] (block 4 ((ab [aa 47 5,an 48 0 1,af 49 48,aR 50 .lss 47 49,aa 51 50,al 52 51 (cM 4),al 53 51 (fa 1 (t 1)),al 54 51 (cD 53),al 55 51 (cB .lss (t 52) (t 54)),dn 56 51 55] (ct 56 skip (exit 4))).seq ((block 5 (ab [an 59 5 1,af 60 59,aa 61 4,ba 62 1 60 61,af 63 62,aa 64 3,ba 65 1 63 64,af 66 65,aa 67 5,ba 68 1 66 67,af 69 68,aA 70 94 ([t 69,cN ((0)),cN ((1048576))]),eY 71 70] (bc 71 (au [bH 2])))).seq (ops 0 [aa 57 5,aM 58 .add 57 1,aa 5 58]))).loop)))).seq (ops 0 [aa 32 4,aM 33 .add 32 1,aa 4 33]))).loop)))).seq (ops 0 [aa 10 3,aM 11 .add 10 1,aa 3 11]))).loop)).seq (au [lF 2]))))
theorem DC:Is Try.prog 72 b72:=mkI Try.func72
def b73:F2:=(F2.mk 84 [RV.t 4] (ab [dj 2 0,dj 3 1,aw 4 0] (((mixS 1 [an 9 0 3,af 10 9,an 11 1 2,af 12 11,aM 13 .sub 12 1,aA 14 70 ([t 10,cN ((0)),t 13]),eY 15 14,aa 16 15,ai 17 16 (fa 1 (t 3)),ai 18 16 (cD 17),ai 19 16 (fa 0 (t 2)),ai 20 16 (cD 19),ai 21 16 (cB .sub (t 20) (cN 1)),ai 22 16 (call (cF 70) [t 18,cN ((0)),t 21]),ai 23 16 (un UnOp.not (t 22)),cr 24 16 23,aa 25 24,ai 26 25 (fa 7 (t 3)),ai 27 25 (cD 26),ai 28 25 (fa 7 (t 2)),ai 29 25 (cD 28),ai 30 25 (fa 0 (t 3)),ai 31 25 (cD 30),ai 32 25 (cB .add (t 31) (cN 1)),ai 33 25 (ixaS 1 (t 29) (t 32)),ai 34 25 (cD 33),ai 35 25 (fa 1 (t 3)),ai 36 25 (cD 35),ai 37 25 (ixaS 1 (t 34) (t 36)),ai 38 25 (cD 37),ai 39 25 (lenS (t 38)),ai 40 25 (cB .sub (t 39) (cN 1)),ai 41 25 (call (cF 70) [t 27,cN ((0)),t 40]),ai 42 25 (un UnOp.not (t 41)),cr 43 25 42] [(0,0),(1,0),(2,0),(3,0),(4,0),(5,1),(6,0),(7,0),(8,0),(9,0),(10,0),(11,0),(12,0),(13,1),(14,0),(15,0),(16,0),(17,0),(18,0),(19,0),(20,0),(21,0),(22,0),(23,0),(24,0),(25,0),(26,0),(27,0),(28,0),(29,0),(30,0),(31,0),(32,2),(33,0),(34,0)]).seq (bc 43 (au [aw 4 2]))).seq ((ab [an 44 0 2,af 45 44,aa 5 45] (block 0 ((ab [aa 46 5,aM 47 .lss 46 5] (ct 47 skip (exit 0))).seq ((block 1 (ab [aa 50 5,an 51 2 3,cO 52 (ixaA 5 1 (t 51) (t 50)),af 53 52,cO 54 (cB .neq (t 53) (cN ((-1))))] (bc 54 (au [aw 4 3])))).seq (ops 0 [aa 48 5,aM 49 .add 48 1,aa 5 49]))).loop)).seq ((ab [aw 6 0] (block 2 ((ab [aa 55 6,an 56 0 2,af 57 56,aR 58 .lss 55 57] (ct 58 skip (exit 2))).seq ((block 3 (ab [cO 7 (mov (cN ((-1)))),aw 8 1048576] ((ab [aa 61 6,an 62 1 3,af 63 62,aR 64 .eql 61 63] (bc 64 (ops 1 [an 65 7 2,af 66 65,an 67 0 3,af 68 67,ba 69 1 66 68,af 70 69,aa 71 6,ba 72 1 70 71,af 73 72,bu 74 73,aM 75 .sub 74 1,aw 7 0,aa 8 75]))).seq (ab [aa 76 6,an 77 2 3,cO 78 (ixaA 5 1 (t 77) (t 76)),af 79 78,aa 80 7,aa 81 8,aA 82 70 [t 79,t 80,t 81],eY 83 82] (bc 83 (au [aw 4 2])))))).seq (ops 0 [aa 59 6,aM 60 .add 59 1,aa 6 60]))).loop)).seq (au [aw 4 0]))))))
theorem Dp:Is Try.prog 73 b73:=mkI Try.func73
def b74:F2:=(F2.mk 61 [RV.t 4] (ab [dj 2 0,dj 3 1,aw 4 0] (ab [an 9 0 2,af 10 9,an 11 1 2,af 12 11,cO 13 (bldS 1 2 [am] [(0,1,t 10),(1,1,t 12)]),aa 5 13] (ab [an 14 0 3,af 15 14,an 16 1 3,af 17 16,cO 18 (bldS 1 2 [am] [(0,1,t 15),(1,1,t 17)]),aa 6 18] ((ab [aw 7 0] (block 0 ((ab [aa 19 7,aM 20 .lss 19 5] (ct 20 skip (exit 0))).seq ((block 1 (mixS 9 [aa 23 5,aa 24 7,an 25 2 2,cO 26 (ixaA 5 1 (t 25) (t 24)),af 27 26,cO 28 (bldS 1 1 [am] [(0,1,t 27)]),i7 29 1 8 23 28,aa 30 6,aa 31 7,an 32 2 3,cO 33 (ixaA 5 1 (t 32) (t 31)),af 34 33,cO 35 (bldS 1 1 [am] [(0,1,t 34)]),i7 36 1 8 30 35,aa 5 29,aa 6 36] [(0,0),(1,0),(2,0),(3,0),(4,0),(5,3),(7,0),(8,0),(9,0),(10,0),(11,0),(12,3),(6,1),(13,2),(14,0),(15,0)])).seq (ops 0 [aa 21 7,aM 22 .add 21 1,aa 7 22]))).loop)).seq ((ab [aw 8 0] (block 2 ((ab [aa 37 8,aa 38 5,bu 39 38,aR 40 .lss 37 39] (ct 40 skip (exit 2))).seq ((block 3 (((ops 1 [aa 43 5,aa 44 8,ba 45 1 43 44,af 46 45,aa 47 6,aa 48 8,ba 49 1 47 48,af 50 49,aR 51 .lss 46 50]).seq (bc 51 (au [cO 4 (mov (cN ((-1))))]))).seq ((ops 1 [aa 52 5,aa 53 8,ba 54 1 52 53,af 55 54,aa 56 6,aa 57 8,ba 58 1 56 57,af 59 58,aR 60 .gtr 55 59]).seq (bc 60 (au [aw 4 1]))))).seq (ops 0 [aa 41 8,aM 42 .add 41 1,aa 8 42]))).loop)).seq (au [aw 4 0])))))))
theorem CY:Is Try.prog 74 b74:=mkI Try.func74
def b75:F2:=(F2.mk 26 [RV.t 2] (ab [aw 2 0] (ab [aa 5 0,cO 6 (lenStr (t 5)),aM 7 .rem 6 65521,aa 3 7] ((ab [aw 4 0] (block 0 ((ab [aa 8 4,aa 9 0,cO 10 (lenStr (t 9)),aR 11 .lss 8 10] (ct 11 skip (exit 0))).seq ((block 1 (ops 0 [aa 14 3,aa 15 4,aM 16 .add 15 1,aM 17 .rem 16 65521,aa 18 0,aa 19 4,cO 20 (ixStr (t 18) (t 19)),cO 21 (conv IntKind.i64 (t 20)),aR 22 .mul 17 21,aR 23 .add 14 22,aM 24 .rem 23 65521,aa 3 24])).seq (ops 0 [aa 12 4,aM 13 .add 12 1,aa 4 13]))).loop)).seq (au [aa 25 3,aa 2 25])))))
theorem C0:Is Try.prog 75 b75:=mkI Try.func75
def b76:F2:=(F2.mk 23 [RV.t 4] (ab [cO 4 (mov (c (AV.str (ByteArray.mk (Array.mk [])))))] (ab [cO 5 (mov (c (AV.str (ByteArray.mk (Array.mk [])))))] ((ab [aw 6 0] (block 0 ((ab [aa 7 6,aa 8 0,bu 9 8,aR 10 .lss 7 9] (ct 10 skip (exit 0))).seq ((block 1 (ops 0 [aa 13 5,aa 14 0,aa 15 6,ba 16 1 14 15,af 17 16,aa 18 1,aR 19 .add 17 18,aA 20 68 [t 19],aR 21 .add 13 20,aa 5 21])).seq (ops 0 [aa 11 6,aM 12 .add 11 1,aa 6 12]))).loop)).seq (au [aa 22 5,aa 4 22])))))
theorem Dx:Is Try.prog 76 b76:=mkI Try.func76
def b77:F2:=(F2.mk 27 [RV.t 6] (ab [kj 6] (ab [kj 7] ((ab [aw 8 0] (block 0 ((ab [aa 9 8,aa 10 1,aR 11 .lss 9 10,aa 12 11,al 13 12 (cM 0),al 14 12 (nilck (t 13)),al 15 12 (fa 1 (t 14)),al 16 12 (cD 15),al 17 12 (un UnOp.not (t 16)),dn 18 12 17] (ct 18 skip (exit 0))).seq ((block 1 (ops 0 [aa 21 7,aa 22 2,cO 23 (call (t 22) []),cO 24 (bldS 1 1 [am] [(0,1,t 23)]),i7 25 1 8 21 24,aa 7 25])).seq (ops 0 [aa 19 8,aM 20 .add 19 1,aa 8 20]))).loop)).seq (au [aa 26 7,aa 6 26])))))
theorem DD:Is Try.prog 77 b77:=mkI Try.func77
def b78:F2:=(F2.mk 6 [RV.t 2] (ab [aw 2 0] (au [aa 3 0,aA 4 36 [t 3],aM 5 .sub 4 1,aa 2 5])))
theorem DV:Is Try.prog 78 b78:=mkI Try.func78
def b79:F2:=(F2.mk 29 [RV.t 6] (ab [kj 6] (ab [kj 7] ((ab [aw 8 0] (block 0 ((ab [aa 9 8,aa 10 1,aR 11 .lss 9 10,aa 12 11,al 13 12 (cM 0),al 14 12 (nilck (t 13)),al 15 12 (fa 2 (t 14)),al 16 12 (cD 15),al 17 12 (un UnOp.not (t 16)),dn 18 12 17] (ct 18 skip (exit 0))).seq ((block 1 (ops 0 [aa 21 7,aa 22 0,aA 23 40 [t 22],aa 24 2,aR 25 .sub 23 24,cO 26 (bldS 1 1 [am] [(0,1,t 25)]),i7 27 1 8 21 26,aa 7 27])).seq (ops 0 [aa 19 8,aM 20 .add 19 1,aa 8 20]))).loop)).seq (au [aa 28 7,aa 6 28])))))
theorem C7:Is Try.prog 79 b79:=mkI Try.func79
def b80:F2:=(F2.mk 26 [RV.t 4] (ab [bH 4] ((ab [aa 6 0,bu 7 6,aa 8 1,bu 9 8,aR 10 .neq 7 9] (bc 10 (au [bH 4]))).seq ((ab [aw 5 0] (block 0 ((ab [aa 11 5,aa 12 0,bu 13 12,aR 14 .lss 11 13] (ct 14 skip (exit 0))).seq ((block 1 ((ops 1 [aa 17 0,aa 18 5,ba 19 1 17 18,af 20 19,aa 21 1,aa 22 5,ba 23 1 21 22,af 24 23,aR 25 .neq 20 24]).seq (bc 25 (au [bH 4])))).seq (ops 0 [aa 15 5,aM 16 .add 15 1,aa 5 16]))).loop)).seq (au [lF 4])))))
theorem DB:Is Try.prog 80 b80:=mkI Try.func80
def b81:F2:=(F2.mk 11 [RV.t 6] (ab [dj 4 1,dj 5 2,bH 6] (au [aa 7 0,cO 8 (mkfn 96 [t 4,t 5]),aA 9 95 [t 7,t 8],eY 10 9,aa 6 10])))
theorem CZ:Is Try.prog 81 b81:=mkI Try.func81
def b82:F2:=(F2.mk 9 [RV.t 4] (ab [bH 4] (au [aa 5 0,aa 6 1,aA 7 97 [t 5,t 6],aM 8 .geq 7 0,aa 4 8])))
theorem DJ:Is Try.prog 82 b82:=mkI Try.func82
def b83:F2:=(F2.mk 10 [RV.t 3] (ab [bH 3] (au [aa 4 0,an 5 3 1,af 6 5,aM 7 .sub 6 1,aA 8 81 ([t 4,cN ((-1)),t 7]),eY 9 8,aa 3 9])))
theorem DH:Is Try.prog 83 b83:=mkI Try.func83
def b84:F2:=(F2.mk 6 [RV.t 2] (ab [bH 2] (au [aa 3 0,aA 4 81 ([t 3,cN ((0)),cN ((1048576))]),eY 5 4,aa 2 5])))
theorem Di:Is Try.prog 84 b84:=mkI Try.func84
def b85:F2:=(F2.mk 18 [RV.t 2] (ab [aw 2 0] (ab [aw 3 0] ((ab [aa 6 0,bu 7 6,aw 8 0] (block 0 ((dI 9 8 7 0 ((block 1 (ab [ba 10 1 6 8,af 11 10,aa 5 11] (ab [aa 12 5,aa 13 3,aR 14 .neq 12 13] (bc 14 (au [aa 15 5,aa 2 15]))))).seq (dH 16 8)))).loop)).seq (au [aa 17 3,aa 2 17])))))
theorem D9:Is Try.prog 85 b85:=mkI Try.func85
def b86:F2:=(F2.mk 20 [RV.t 4] (ab [aw 4 0] (ab [aa 7 0,aA 8 98 [t 7],aa 5 8] (ab [aa 9 1,aA 10 98 [t 9],aa 6 10] ((ab [aa 11 5] (bc 11 ((ab [aa 12 6] (bc 12 (au [aw 4 0]))).seq (au [cO 4 (mov (cN ((-1))))])))).seq ((ab [aa 13 6] (bc 13 (au [aw 4 1]))).seq ((ab [aa 14 0,aa 15 1,aR 16 .lss 14 15] (bc 16 (au [cO 4 (mov (cN ((-1))))]))).seq ((ab [aa 17 0,aa 18 1,aR 19 .gtr 17 18] (bc 19 (au [aw 4 1]))).seq (au [aw 4 0])))))))))
theorem Dg:Is Try.prog 86 b86:=mkI Try.func86
def b87:F2:=(F2.mk 36 [RV.t 4] (ab [aw 4 0] ((ab [aa 9 0,bu 10 9,aw 11 0] (block 0 ((dI 12 11 10 0 ((block 1 (ab [aa 13 11,ba 14 1 9 11,af 15 14,aa 5 13,aa 6 15] ((ab [aa 16 5,aa 17 1,bu 18 17,aR 19 .geq 16 18] (bc 19 (au [aw 4 1]))).seq (ab [aa 20 1,aa 21 5,ba 22 1 20 21,af 23 22,aa 7 23] (ab [aa 24 6,aa 25 7,aA 26 86 [t 24,t 25],aa 8 26] (ab [aa 27 8,aM 28 .neq 27 0] (bc 28 (au [aa 29 8,aa 4 29])))))))).seq (dH 30 11)))).loop)).seq ((ab [aa 31 0,bu 32 31,aa 33 1,bu 34 33,aR 35 .lss 32 34] (bc 35 (au [cO 4 (mov (cN ((-1))))]))).seq (au [aw 4 0])))))
theorem Dy:Is Try.prog 87 b87:=mkI Try.func87
def b88:F2:=(F2.mk 11 [RV.t 6] (ab [bH 6] (au [aa 7 0,aa 8 1,aa 9 2,aA 10 99 [t 7,t 8,t 9],aa 6 10])))
theorem C6:Is Try.prog 88 b88:=mkI Try.func88
def b89:F2:=(F2.mk 26 [RV.t 4] (ab [bH 4] ((ab [aa 6 0,bu 7 6,aa 8 1,bu 9 8,aR 10 .neq 7 9] (bc 10 (au [bH 4]))).seq ((ab [aa 11 0,bu 12 11,aw 13 0] (block 0 ((dI 14 13 12 0 ((block 1 (ab [aa 15 13,aa 5 15] ((ops 1 [aa 16 0,aa 17 5,ba 18 1 16 17,af 19 18,aa 20 1,aa 21 5,ba 22 1 20 21,af 23 22,aR 24 .neq 19 23]).seq (bc 24 (au [bH 4]))))).seq (dH 25 13)))).loop)).seq (au [lF 4])))))
theorem Dz:Is Try.prog 89 b89:=mkI Try.func89
def b90:F2:=(F2.mk 11 [RV.t 6] (ab [bH 6] (au [aa 7 0,aa 8 1,aa 9 2,aA 10 100 [t 7,t 8,t 9],aa 6 10])))
theorem DL:Is Try.prog 90 b90:=mkI Try.func90
def b91:F2:=(F2.mk 32 [RV.t 6] (ab [bH 6] ((ab [aa 10 0,bu 11 10,aa 12 1,bu 13 12,aR 14 .neq 11 13] (bc 14 (au [bH 6]))).seq ((ab [aa 15 0,bu 16 15,aw 17 0] (block 0 ((dI 18 17 16 0 ((block 1 (ab [aa 19 17,ba 20 1 15 17,af 21 20,aa 7 19,aa 8 21] (ab [aa 22 1,aa 23 7,ba 24 1 22 23,af 25 24,aa 9 25] (ab [aa 26 2,aa 27 8,aa 28 9,cO 29 (call (t 26) [t 27,t 28]),eY 30 29] (bc 30 (au [bH 6])))))).seq (dH 31 17)))).loop)).seq (au [lF 6])))))
theorem DP:Is Try.prog 91 b91:=mkI Try.func91
def b92:F2:=(F2.mk 33 [] (ab [aa 7 1,bu 8 7,aw 9 0] (block 0 ((dI 10 9 8 0 ((block 1 (ab [ba 11 1 7 9,af 12 11,aa 6 12] ((ab [aa 13 6,aa 14 0,aR 15 .add 13 14,aa 6 15] (block 2 ((ab [aa 16 6,aM 17 .gtr 16 127] (ct 17 skip (exit 2))).seq ((block 3 (ops 0 [af 20 2,aa 21 6,aM 22 .and 21 127,aM 23 .or 22 128,cO 24 (conv IntKind.u8 (t 23)),cO 25 (bldS 1 1 [AV.int IntKind.u8 (0)] [(0,1,t 24)]),i7 26 1 1 20 25,cU 1 2 26])).seq (ops 0 [aa 18 6,cO 19 (cB .shr (t 18) (c (AV.int IntKind.u64 (7)))),aa 6 19]))).loop)).seq (ops 0 [af 27 2,aa 28 6,cO 29 (conv IntKind.u8 (t 28)),cO 30 (bldS 1 1 [AV.int IntKind.u8 (0)] [(0,1,t 29)]),i7 31 1 1 27 30,cU 1 2 31])))).seq (dH 32 9)))).loop)))
theorem DS:Is Try.prog 92 b92:=mkI Try.func92
def b93:F2:=(F2.mk 3 [RV.t 1] (ab [kj 1] (au [af 2 0,aa 1 2])))
theorem DT:Is Try.prog 93 b93:=mkI Try.func93
def b94:F2:=(F2.mk 22 [RV.t 6] (ab [bH 6] ((ab [aw 7 0] (block 0 ((ab [aa 8 7,aa 9 0,bu 10 9,aR 11 .lss 8 10] (ct 11 skip (exit 0))).seq ((block 1 (ab [aa 14 0,aa 15 7,ba 16 1 14 15,af 17 16,aa 18 1,aa 19 2,aA 20 70 [t 17,t 18,t 19],eY 21 20] (bc 21 (au [bH 6])))).seq (ops 0 [aa 12 7,aM 13 .add 12 1,aa 7 13]))).loop)).seq (au [lF 6]))))
theorem Da:Is Try.prog 94 b94:=mkI Try.func94
def b95:F2:=(F2.mk 9 [RV.t 4] (ab [bH 4] (au [aa 5 0,aa 6 1,aA 7 101 [t 5,t 6],aM 8 .geq 7 0,aa 4 8])))
theorem D4:Is Try.prog 95 b95:=mkI Try.func95
def b96:F2:=(F2.mk 10 [RV.t 4] (ab [bH 4] (au [aa 5 0,af 6 1,af 7 2,aA 8 55 [t 5,t 6,t 7],eY 9 8,aa 4 9])))
theorem DG:Is Try.prog 96 b96:=mkI Try.func96
def b97:F2:=(F2.mk 19 [RV.t 4] (ab [aw 4 0] ((ab [aa 6 0,bu 7 6,aw 8 0] (block 0 ((dI 9 8 7 0 ((block 1 (ab [aa 10 8,aa 5 10] (ab [aa 11 1,aa 12 0,aa 13 5,ba 14 1 12 13,af 15 14,cO 16 (call (t 11) [t 15])] (bc 16 (au [aa 17 5,aa 4 17]))))).seq (dH 18 8)))).loop)).seq (au [cO 4 (mov (cN ((-1))))]))))
theorem Ds:Is Try.prog 97 b97:=mkI Try.func97
def b98:F2:=(F2.mk 6 [RV.t 2] (ab [bH 2] (au [aa 3 0,aa 4 0,aR 5 .neq 3 4,aa 2 5])))
theorem D2:Is Try.prog 98 b98:=mkI Try.func98
def b99:F2:=(F2.mk 32 [RV.t 6] (ab [bH 6] ((ab [aa 10 0,bu 11 10,aa 12 1,bu 13 12,aR 14 .neq 11 13] (bc 14 (au [bH 6]))).seq ((ab [aa 15 0,bu 16 15,aw 17 0] (block 0 ((dI 18 17 16 0 ((block 1 (ab [aa 19 17,ba 20 1 15 17,af 21 20,aa 7 19,aa 8 21] (ab [aa 22 1,aa 23 7,ba 24 1 22 23,af 25 24,aa 9 25] (ab [aa 26 2,aa 27 8,aa 28 9,cO 29 (call (t 26) [t 27,t 28]),eY 30 29] (bc 30 (au [bH 6])))))).seq (dH 31 17)))).loop)).seq (au [lF 6])))))
theorem Dc:Is Try.prog 99 b99:=mkI Try.func99
def Du:F2:=(F2.mk 32 [RV.t 6] (ab [bH 6] ((ab [aa 10 0,bu 11 10,aa 12 1,bu 13 12,aR 14 .neq 11 13] (bc 14 (au [bH 6]))).seq ((ab [aa 15 0,bu 16 15,aw 17 0] (block 0 ((dI 18 17 16 0 ((block 1 (ab [aa 19 17,ba 20 1 15 17,af 21 20,aa 7 19,aa 8 21] (ab [aa 22 1,aa 23 7,ba 24 1 22 23,af 25 24,aa 9 25] (ab [aa 26 2,aa 27 8,aa 28 9,cO 29 (call (t 26) [t 27,t 28]),eY 30 29] (bc 30 (au [bH 6])))))).seq (dH 31 17)))).loop)).seq (au [lF 6])))))
theorem Cz:Is Try.prog 100 Du:=mkI Try.func100
def CE:F2:=(F2.mk 19 [RV.t 4] (ab [aw 4 0] ((ab [aa 6 0,bu 7 6,aw 8 0] (block 0 ((dI 9 8 7 0 ((block 1 (ab [aa 10 8,aa 5 10] (ab [aa 11 1,aa 12 0,aa 13 5,ba 14 1 12 13,af 15 14,cO 16 (call (t 11) [t 15])] (bc 16 (au [aa 17 5,aa 4 17]))))).seq (dH 18 8)))).loop)).seq (au [cO 4 (mov (cN ((-1))))]))))
theorem CB:Is Try.prog 101 CE:=mkI Try.func101
end Go.Proofs.Ytpbjhjkfobapeaa
namespace Go.Proofs.Ytpbjhjkfobapeaa
open Go Go.Abs
open Nat (reduceEqDiff reduceAdd reduceLeDiff)
theorem qL(c:UInt8):dW c=.int .u8 (c.toNat:Int):=rfl
def jo:Nat->Nat->List UInt8
 |0,n=>[UInt8.ofNat n]
 |k+1,n=>if 127<n then UInt8.ofNat (n%128+128)::jo k (n/128) else [UInt8.ofNat n]
def dq(n:Nat):List UInt8:=jo 9 n
def aL(add:Int)(l:List Int):List UInt8:=l.flatMap λx=>dq (x+add).toNat
theorem pN:∀(k n:Nat),n<128^(k+1)->jo (k+1) n=jo k n
 |0,n,h=>by simp only[jo];rw[if_neg (by simpa using Nat.lt_succ_iff.1 h)]
 |k+1,n,h=>by
  have h2:n/128<128^(k+1):=by
   rw[Nat.div_lt_iff_lt_mul (by omega),<-Nat.pow_succ];exact h
  show(if 127<n then UInt8.ofNat (n%128+128)::jo (k+1) (n/128) else [UInt8.ofNat n])=(if 127<n then UInt8.ofNat (n%128+128)::jo k (n/128) else [UInt8.ofNat n]);rw[pN k _ h2]
theorem ua{n:Nat}(h:127<n)(h2:n<128^9):dq n=UInt8.ofNat (n%128+128)::dq (n/128):=by
 unfold dq;rw[jo,if_pos h]
 congr 1
 have h3:n/128<128^9:=Nat.lt_of_le_of_lt (Nat.div_le_self _ _) h2;exact(pN 8 _ h3).symm
theorem qy{n:Nat}(h:¬127<n):dq n=[UInt8.ofNat n]:=by
 unfold dq;rw[jo,if_neg h]
theorem sj:∀(k n:Nat),(jo k n).length<=k+1
 |0,n=>by simp[jo]
 |k+1,n=>by
  simp only[jo];split
  ·have:=sj k (n/128);simp;omega
  ·simp
theorem mC(n:Nat):(dq n).length<=10:=sj 9 n
theorem dh(add:Int):∀l:List Int,(aL add l).length<=10*l.length
 |[]=>by simp[aL]
 |x::l=>by
  have h1:=dh add l;have h2:=mC (x+add).toNat;unfold aL at *;rw[rh,cm,gI];omega
theorem pY(add:Int)(l:List Int)(x:Int):aL add (l++[x])=aL add l++dq (x+add).toNat:=by simp[aL]
structure OutI(b:Nat)(bs:List UInt8)(H:Hp)(nx:Nat)(s:AV):Prop where
 box:H b=some [s]
 row:Row H 1 s (bs.map dW)
 ne:aY s≠some b
 lt:∀r,aY s=some r->r<nx
 blt:b<nx
def tq(H0:Hp)(nx0:Nat)(s0:AV)(b:Nat)(bs:List UInt8)(H:Hp)(nx:Nat):Prop:=
 ∃s,OutI b bs H nx s/\nx0<=nx/\(aY s=aY s0\/ ∀r,aY s=some r->nx0<=r)/\∀i,i<nx0->i≠b->aY s0≠some i->H i=H0 i
theorem tq.refl{H0:Hp}{nx0:Nat}{s0:AV}{b:Nat}{bs:List UInt8}(h:OutI b bs H0 nx0 s0):tq H0 nx0 s0 b bs H0 nx0:=⟨s0,h,bj _,.inl rfl,λ_ _ _ _=>rfl⟩
structure Reads(H0:Hp)(nx0:Nat)(s0:AV)(b:Nat)(x:AV)(l:List Int):Prop where
 len:ef x=some (.int .i64 l.length)
 ix:∀k:Nat,k<l.length->∃p,ja 1 x (.int .i64 k)=some p/\∀H:Hp,(∀i,i<nx0->i≠b->aY s0≠some i->H i=H0 i)->rd1 H p=some (.int .i64 (l.getD k default))
theorem Reads.data{H0:Hp}{nx0:Nat}{s0:AV}{b:Nat}(l:List Int):Reads H0 nx0 s0 b (be l) l:=
 ⟨qW,λk hk=>⟨.iptr [.int .i64 (l.getD k default)] 0,by rw[rJ,if_pos ⟨by omega,by omega⟩];rfl,λH _=>rfl⟩⟩
theorem Reads.box{H0:Hp}{nx0:Nat}{s0:AV}{b bx n:Nat}{l:List Int}(hb:H0 bx=some (l.map (AV.int .i64)))(hlt:bx<nx0)(h1:bx≠b)(h2:aY s0≠some bx)(hn:n=l.length):Reads H0 nx0 s0 b (.msl bx n 1 0 n) l:=
 ⟨by subst hn; rfl,fun k hk=>⟨.ptr bx n k,by rw [ve,if_pos ⟨by omega,by omega⟩]; simp,fun H hH=>by
  have:=hH bx hlt h1 h2;simp only[rd1,this,hb];rw[if_pos (by simp[hn]),getElem?_map_lt hk]⟩⟩
theorem rN{H:Hp}{b:Nat}{v:UInt8}(hb:H b=some [dW v]):fV 1 H (.msl b 1 1 0 1)=some (1,[v].map dW):=gi (l:=[v]) hb rfl
section
attribute [local irreducible] aJ ak bI bA bl bf aC bn bF cb Go.Abs.Fn bD Go.Abs.Pure ax aQ Yl
abbrev Sh{α:Type}(l:List α):Prop:=l.length<=9223372036854775807
def ckT(l:List UInt8):Nat->Int
 |0=>(l.length:Int)%65521
 |k+1=>(ckT l k+((k:Int)+1)%65521*((l.getD k default).toNat:Int))%65521
def f7(l:List UInt8):Int:=ckT l l.length
theorem Bi(l:List UInt8):ckT l 0=(l.length:Int)%65521:=rfl
theorem wu(l:List UInt8):∀k,0<=ckT l k/\ckT l k<65521
 |0=>by simp only[ckT];omega
 |k+1=>by simp only[ckT];omega
theorem j0(l:List UInt8)(hl:Sh l):pU 24 [aW l] (.int .i64 (f7 l)):=by
 refine pO Eb ?_;simp only[b24,aS];have hl':l.length<=9223372036854775807:=hl;have zz:=aI @aH @lr;repeat' (first|refine zW ?_|apply a_n|refine zO ?_|refine vZ ?_|fail)
 refine tJ (bs:=⟨l.toArray⟩) (by((try simp only[bS,ZA,reduceEqDiff,↓reduceIte,reduceAdd,reduceLeDiff]);(try with_reducible rfl));rfl) (λh0=>?_) (λh0=>?_)
 all_goals rw[dg] at h0
 ·have hn:l=[]:=fI.1 h0
  repeat' (first|refine zW ?_|apply a_n|refine zO ?_|refine vZ ?_|fail)
  refine fg (X:=Unit) (λk=>[(3,.int .i64 ((l.length:Int)%65521)),(11,.int .i64 0),(12,.int .i64 0)]) (λ_=>True) (λk=>0) () trivial (by simp (disch:=omega) only[agr,ZG,reduceEqDiff,↓reduceIte,my,Int.natCast_zero]) ?_;rintro k _
  repeat' (first|refine zW ?_|apply a_n|apply a_x|refine zO ?_|refine vZ ?_|(refine zGZ ?_ ?_<;>(intro _hg;try (exfalso;omega)))|refine ae rfl ?_|refine r1Z ?_|fail)
  subst hn;exact .int _ _
 ·rw[dg];rw[jy]
  repeat' (first|refine zW ?_|apply a_n|refine zO ?_|refine vZ ?_|fail)
  refine dL (X:=Nat) (λk=>[(3,.int .i64 (ckT l k)),(10,.msl 0 l.length 1 0 l.length),(11,.int .i64 l.length),(12,.int .i64 k)]) (λk H nx=>k<=l.length/\H 0=some (l.map dW)) (λk=>l.length-k) 0 ⟨bZ _,ag⟩ (by simp (disch:=omega) only[agr,ZG,reduceEqDiff,↓reduceIte,Bi]) ?_;rintro k H nx ⟨h1,hH⟩;have hb:=wu l k;have hc:=ll (l.getD k default);have hm:0<=((k:Int)+1)%65521*((l.getD k default).toNat:Int):=Int.mul_nonneg (by omega) (by omega);have hm2:((k:Int)+1)%65521*((l.getD k default).toNat:Int)<=65520*255:=Int.mul_le_mul (by omega) (by omega) (by omega) (by omega);clear zz;have zz:=aI @hH (aI @qL @lr);repeat' (first|refine zW ?_|apply a_n|apply a_x|refine zO ?_|refine vZ ?_|(refine zGZ ?_ ?_<;>(intro _hg;try (exfalso;omega)))|refine ae rfl ?_|refine r1Z ?_|fail)
  ·refine⟨k+1,by omega,⟨by omega,hH⟩,?_⟩;simp only[ckT];simp (disch:=omega) only[agr,ZG,reduceEqDiff,↓reduceIte]
  ·rw[show k=l.length by omega];exact .int _ _
theorem uA{H0:Hp}{nx0:Nat}{s0 s:AV}{b:Nat}{bs:List UInt8}{H:Hp}{nx:Nat}{v:UInt8}{P:Program}{T:Tm}{K:SP}{l:List Op2}{d:Option Nat}{sx x:Opd}{bytes:Nat}(hI:OutI b bs H nx s)(hle:nx0<=nx)(hr:aY s=aY s0\/ ∀r,aY s=some r->nx0<=r)(hfr:∀i,i<nx0->i≠b->aY s0≠some i->H i=H0 i)
    (hs:ov T sx=s) (hx:ov T x=.msl nx 1 1 0 1) (hb1:bytes=1) (hlen:bs.length<=1099511627776)
    (k:∀(s':AV)(H':Hp)(nx':Nat),s'.one=true->s'.cells=[s']->H' b=some [s]->tq H0 nx0 s0 b (bs++[v]) (ah H' b [s']) nx'->ak P .text l (aD T d s') H' nx' K):
    ak P .text (⟨d,none,.app 1 bytes sx x⟩::l) T (ah H nx [dW v]) (nx+1) K:=by
 subst hb1;obtain⟨i1,i2,i3,i4,i5⟩:=hI;refine eL rfl hs (i2.same λr hr=>ac (by have:=i4 r hr;omega)) hx (rN ag) qq rfl f6 (by simp;omega) (by simp;omega) ?_;rintro s' H' nx' hrow h1 h2 h3 h4
 have hbb:H' b=some [s]:=by
  rw[h3 b (by omega) i3,ac (by omega),i1]
 refine k s' H' nx' hrow.one.1 hrow.one.2 hbb ⟨s',⟨ag,?_,?_,?_,by omega⟩,by omega,?_,?_⟩
 ·rw[eU];refine hrow.same λr hr=>ac ?_;rcases h4 r hr with h|h
  ·exact λe=>i3 (by rw[h,e])
  ·omega
 ·intro h;rcases h4 b h with h|h
  ·exact i3 h
  ·omega
 ·intro r hr;rcases h4 r hr with h|h
  ·have:=i4 r h;omega
  ·omega
 ·rcases hr with hr|hr
  ·cases hs':aY s' with
   |none=>exact .inr (λr h=>by cases h)
   |some r=>
    rcases h4 r hs' with h|h
    ·left;rw[<-hr,h]
    ·right;intro r' hr';cases hr';omega
  ·right;intro r hr';rcases h4 r hr' with h|h
   ·exact hr r h
   ·omega
 ·intro i hi hne hne2;rw[ac hne,h3 i (by omega) (λh=>?_),ac (by omega),hfr i hi hne hne2];rcases hr with hr|hr
  ·exact hne2 (by rw[<-hr,h])
  ·have:=hr i h;omega
theorem wl{n:Int}(h:0<=n):IntKind.wrap .u8 n=((UInt8.ofNat n.toNat).toNat:Int):=by
 rw[nY,UInt8.toNat_ofNat'];have:(2:Nat)^8=256:=rfl;omega
theorem B6{n:Int}{tb tf:Bool}(h0:0<=n)(h:n<9223372036854775808):aX .and tb tf (.int .i64 n) (.int .i64 127)=some (.int .i64 (n%128)):=by
 obtain⟨m,rfl⟩:∃m:Nat,n=m:=⟨n.toNat,by omega⟩
 have:=AF (k:=.i64) (a:=m) (b:=127) (tb:=tb) (tf:=tf) (by simp[IntKind.bits];omega) (by simp[IntKind.bits]);rw[show((127:Nat):Int)=127 from rfl] at this;rw[this,show(127:Nat)=2^7-1 from rfl,uT];simp
theorem CJ{n:Int}{tb tf:Bool}(h0:0<=n)(h:n<128):aX .or tb tf (.int .i64 n) (.int .i64 128)=some (.int .i64 (n+128)):=by
 obtain⟨m,rfl⟩:∃m:Nat,n=m:=⟨n.toNat,by omega⟩
 have:=wx (k:=.i64) (a:=m) (b:=128) (tb:=tb) (tf:=tf) (by simp[IntKind.bits];omega) (by simp[IntKind.bits]);rw[show((128:Nat):Int)=128 from rfl] at this;rw[this]
 congr 2
 have h2:m ||| 128=m+128:=by
  have:=Nat.two_pow_add_eq_or_of_lt (i:=7) (b:=m) (by omega) 1;rw[Nat.or_comm,show(128:Nat)=2^7*1 from rfl,<-this];omega
 rw[h2];simp
theorem Dk{n:Int}{tb tf:Bool}{k':IntKind}(h0:0<=n):aX .shr tb tf (.int .i64 n) (.int k' 7)=some (.int .i64 (n/128)):=by
 obtain⟨m,rfl⟩:∃m:Nat,n=m:=⟨n.toNat,by omega⟩
 have:=wR (k:=.i64) (a:=m) (b:=7) (tb:=tb) (tf:=tf) (k':=k') (by simp[IntKind.bits]);rw[show((7:Nat):Int)=7 from rfl] at this;rw[this];simp
theorem sW(add:Int)(l:List Int)(x s0:AV)(b:Nat)(bs:List UInt8)(H:Hp)(nx:Nat)(hI:OutI b bs H nx s0)(hx:Reads H nx s0 b x l)(hl:bs.length+10*l.length<=1099511627776)(hn:∀n∈l,0<=n+add/\n+add<=4611686018427387904)(ha:-1000<=add/\add<=1000):
    Abs.Fn Try.prog 92 [.int .i64 add,x,.ptr b 1 0] H nx λ_ H' nx'=>tq H nx s0 b (bs++aL add l) H' nx':=by
 refine fO DS ?_;simp only[b92,aS];have hlen:=hx.len;have zz:=@hlen;repeat' (first|refine zW ?_|apply a_n|refine zO ?_|refine vZ ?_|fail)
 refine dL (X:=Nat) (λk=>[(0,.int .i64 add),(2,.ptr b 1 0),(7,x),(8,.int .i64 l.length),(9,.int .i64 k)]) (λk H' nx'=>k<=l.length/\tq H nx s0 b (bs++aL add (l.take k)) H' nx') (λk=>l.length-k) 0 ⟨bZ _,by simpa[aL] using tq.refl hI⟩ ag0 ?_;rintro k H1 nx1 ⟨h1,hO⟩;by_cases hk:k<l.length
 rotate_left
 ·clear zz;have zz:=@hlen;repeat' (first|refine zW ?_|apply a_n|apply a_x|refine zO ?_|refine vZ ?_|(refine zGZ ?_ ?_<;>(intro _hg;try (exfalso;omega)))|refine ae rfl ?_|fail)
  rw[gP (by omega)] at hO;exact hO
 obtain⟨p,hp,hrd⟩:=hx.ix k hk;have hmem:=hn _ (aj hk);have hvl:=dh add (l.take k);rw[gN] at hvl;obtain⟨s,hs,hle,hrow,hfr⟩:=hO;have hrd:=hrd H1 hfr;generalize hv:l.getD k default=v at *;clear zz;have zz:=aI @hlen (aI @hp @hrd);repeat' (first|refine zW ?_|apply a_n|refine zO ?_|refine vZ ?_|(refine zGZ ?_ ?_<;>(intro _hg;try (exfalso;omega)))|fail)
 refine dL (X:=Nat×List UInt8) (λy=>[(0,.int .i64 add),(2,.ptr b 1 0),(6,.int .i64 y.1),(7,x),(8,.int .i64 l.length),(9,.int .i64 k)])
  (λy H' nx'=>(y.1:Int)<=v+add/\y.2.length<=bs.length+10*l.length/\bs++aL add (l.take k)++dq (v+add).toNat=y.2++dq y.1/\tq H nx s0 b y.2 H' nx') (λy=>y.1) ((v+add).toNat,bs++aL add (l.take k)) ⟨by omega,by simp;omega,rfl,⟨s,hs,hle,hrow,hfr⟩⟩ (by simp (disch:=omega) only[agr,ZG,reduceEqDiff,↓reduceIte,show(((v+add).toNat:Nat):Int)=v+add by omega]) ?_
 clear zz;clear hs hle hrow hfr hrd s;rintro⟨m,cs⟩ H2 nx2 ⟨k1,k2,k3,s,hs,hle,hrow,hfr⟩;dsimp only at k1 k2 k3 hs |-;have hbx:=hs.box;have h9:m<128^9:=by omega
 by_cases hm:127<m
 ·have hw:IntKind.wrap .u8 ((m:Int)%128+128)=((UInt8.ofNat (m%128+128)).toNat:Int):=by
    rw[wl (by omega)];rw[show((m:Int)%128+128).toNat=m%128+128 by omega]
  have a1:=λtb tf=>B6 (n:=m) (tb:=tb) (tf:=tf) (by omega) (by omega);have a2:=λtb tf=>CJ (n:=(m:Int)%128) (tb:=tb) (tf:=tf) (by omega) (by omega);have a3:=λtb tf(k':IntKind)=>Dk (n:=m) (tb:=tb) (tf:=tf) (k':=k') (by omega);have zz:=aI @hlen (aI @hbx (aI @a1 (aI @a2 (aI @a3 @hw))));repeat' (first|refine zW ?_|apply a_n|refine zO ?_|refine vY ?_|refine blY ?_|(refine zGY ?_ ?_<;>(intro _hg;try (exfalso;omega)))|fail)
  refine uA (v:=UInt8.ofNat (m%128+128)) hs (by omega) hrow hfr ev0 ev0 rfl (by omega) ?_;rintro s' H' nx' c1 c2 hbb hO;clear zz;have zz:=aI @hlen (aI @hbb (aI @a1 (aI @a2 (aI @a3 (aI @hw (aI @c1 @c2))))));repeat' (first|apply a_n|refine zO ?_|refine vY ?_|refine stY ?_|fail)
  have e:=ua hm h9
  have hlm:1<=(dq (m/128)).length:=by
   unfold dq jo;split<;>simp
  have htot:=congrArg List.length k3;rw[e] at htot;have hv10:=mC (v+add).toNat;simp only[cm,gI] at htot;refine⟨(m/128,cs++[UInt8.ofNat (m%128+128)]),by dsimp only;omega,⟨by dsimp only;omega,?_,?_,hO⟩,by simp (disch:=omega) only[agr,ZG,reduceEqDiff,↓reduceIte,show((m/128:Nat):Int)=(m:Int)/128 by omega]⟩
  ·dsimp only;rw[cm,List.length_singleton];omega
  ·dsimp only;rw[k3,e,f8];rfl
 ·have e:=qy hm
  have hw:IntKind.wrap .u8 (m:Int)=((UInt8.ofNat m).toNat:Int):=by
   rw[wl (by omega),kK]
  have zz:=aI @hlen (aI @hbx @hw);repeat' (first|refine zW ?_|apply a_n|apply a_x|refine zO ?_|refine vY ?_|refine blY ?_|(refine zGY ?_ ?_<;>(intro _hg;try (exfalso;omega)))|fail)
  refine uA (v:=UInt8.ofNat m) hs (by omega) hrow hfr ev0 ev0 rfl (by omega) ?_;rintro s' H' nx' c1 c2 hbb hO;clear zz;have zz:=aI @hlen (aI @hbb (aI @hw (aI @c1 @c2)));repeat' (first|apply a_n|refine zO ?_|refine vY ?_|refine stY ?_|fail)
  refine⟨k+1,by omega,⟨by omega,?_⟩,ag0⟩;rw[e] at k3;rw[bT hk,hv,pY,<-f8,k3];exact hO
end
def kB(l:List UInt8):List UInt8:=l++[UInt8.ofNat (f7 l/256).toNat,UInt8.ofNat (f7 l%256).toNat]
def iw(r f t symbol:Int):List UInt8:=kB ([UInt8.ofNat (r%256).toNat,UInt8.ofNat (f%256).toNat,UInt8.ofNat (t%256).toNat]++dq symbol.toNat)
theorem pg(l:List UInt8):0<=f7 l/\f7 l<65521:=wu l _
theorem Row.bytes{H:Hp}{s:AV}{l:List UInt8}(h:Row H 1 s (l.map dW)):fV 1 H s=some (l.length,l.map dW):=by
 generalize hc:l.map dW=cs at h;cases h with
 |nil=>
  have:l=[]:=by simpa using hc
  subst this;rfl
 |box b len cs hb hl=>
  subst hc;have:len=l.length:=by simpa using hl.symm
  subst this;rw[Nat.mul_one];exact gi hb rfl
theorem OutI.more{b:Nat}{bs:List UInt8}{H:Hp}{nx:Nat}{s:AV}{cs:List AV}(h:OutI b bs H nx s):OutI b bs (ah H nx cs) (nx+1) s:=by
 obtain⟨h1,h2,h3,h4,h5⟩:=h;exact⟨by rw[ac (by omega),h1],h2.same λr hr=>ac (by have:=h4 r hr;omega),h3,λr hr=>by have:=h4 r hr;omega,by omega⟩
theorem tq.out{H0:Hp}{nx0:Nat}{s0:AV}{b:Nat}{bs:List UInt8}{H:Hp}{nx:Nat}(h:tq H0 nx0 s0 b bs H nx):∃s,OutI b bs H nx s:=by
 obtain⟨s,h,_⟩:=h;exact⟨s,h⟩
def idx(l:List Int)(v:Int):Int:=if v∈l then(l.idxOf v:Nat) else-1
theorem BV{l:List Int}{v:Int}{k:Nat}(hk:k<l.length)(h:∀i,i<k->l.getD i default≠v)(hv:v=l.getD k default):idx l v=k:=by
 have e:l.getD k default=l[k]:=by simp[List.getD,hk]
 have hm:v∈l:=by rw[hv,e];exact nH hk
 unfold idx;rw[if_pos hm]
 have h1:l.idxOf v<=k:=by
  by_cases hlt:l.idxOf v<=k
  ·exact hlt
  ·exfalso;have:=List.not_of_lt_findIdx (xs:=l) (p:=(· ==v)) (i:=k) (by simp only[List.idxOf] at hlt;omega);rw[e] at hv;subst hv;simp at this
 have h2:k<=l.idxOf v:=by
  by_cases hlt:k<=l.idxOf v
  ·exact hlt
  ·exfalso;have hi:=List.idxOf_lt_length_iff.2 hm;have:=h (l.idxOf v) (by omega);apply this;simp[List.getD,hi]
 omega
theorem yB{l:List Int}{v:Int}(h:∀i,i<l.length->l.getD i default≠v):idx l v=-1:=by
 unfold idx;rw[if_neg];intro hm;obtain⟨i,hi,e⟩:=wh hm;exact h i hi (by simp[List.getD,hi,e])
def yS(l:List Int)(p:Int->Bool):Int:=if l.any p then(l.findIdx p:Nat) else-1
theorem zS{l:List Int}{p:Int->Bool}{k:Nat}(hk:k<l.length)(h:∀i,i<k->p (l.getD i default)=false)(hv:p (l.getD k default)=true):yS l p=k:=by
 have e:l.getD k default=l[k]:=by simp[List.getD,hk]
 have hm:l.any p=true:=sO.2 ⟨l[k],nH hk,by rw[<-e];exact hv⟩;unfold yS;rw[if_pos hm];have:l.findIdx p=k:=(List.findIdx_eq hk).2 ⟨by rw[<-e];exact hv,λj hj=>by have:=h j hj;rwa [show l.getD j default=l[j] by simp[List.getD,show j<l.length by omega]] at this⟩;rw[this]
theorem yd{l:List Int}{p:Int->Bool}(h:∀i,i<l.length->p (l.getD i default)=false):l.any p=false:=by
 rw[List.any_eq_false];intro x hx;obtain⟨i,hi,e⟩:=wh hx;have:=h i hi;rw[show l.getD i default=l[i] by simp[List.getD,hi],e] at this;simp[this]
def iY:List Int->List Int->Int
 |[],[]=>0
 |[],_::_=>-1
 |_::_,[]=>1
 |a::l,b::m=>if a<b then-1 else if a>b then 1 else iY l m
section
attribute [local irreducible] aJ ak bI bA bl bf aC bn bF cb Go.Abs.Fn bD Go.Abs.Pure ax aQ Yl
theorem zo(b:Nat)(s:AV)(H:Hp)(nx:Nat)(hb:H b=some [s]):Abs.Fn Try.prog 93 [.ptr b 1 0] H nx λr H' nx'=>r=s/\H'=H/\nx'=nx:=by
 refine fO DT ?_;simp only[b93,aS];have zz:=@hb;repeat' (first|refine zW ?_|apply a_n|refine zO ?_|refine vZ ?_|refine ae rfl ?_|refine r1Z ?_|fail)
 exact⟨rfl,rfl,rfl⟩
theorem uw(l:List UInt8)(h0:l≠[])(H:Hp)(nx:Nat):Abs.Fn Try.prog 66 [aW l] H nx λr H' nx'=>r=.tup [.func 92 [.ptr (nx+1) 1 0],.func 93 [.ptr (nx+1) 1 0]]/\nx'=nx+2/\(∀i,i<nx->H' i=H i)/\OutI (nx+1) l H' (nx+2) (.msl nx l.length 1 0 l.length):=by
 refine fO D8 ?_;simp only[b66,aS];have hpos:=List.length_pos_iff.2 h0
 repeat' (first|refine zW ?_|apply a_n|refine zO ?_|refine vZ ?_|fail)
 refine tJ (bs:=⟨l.toArray⟩) (by((try simp only[bS,ZA,reduceEqDiff,↓reduceIte,reduceAdd,reduceLeDiff]);(try with_reducible rfl));rfl) (λh=>by rw[dg] at h;omega) (λh=>?_);rw[dg,jy]
 repeat' (first|refine zW ?_|apply a_n|refine zO ?_|refine vY ?_|refine alY ?_|refine stY ?_|refine ae rfl ?_|refine r2Y ?_|fail)
 refine⟨rfl,rfl,λi hi=>?_,⟨ag,?_,?_,?_,by omega⟩⟩
 ·rw[ac (by omega),ac (by omega),ac (by omega)]
 ·have:=Row.box (H:=ah (ah (ah H nx (l.map dW)) (nx+1) [.esl]) (nx+1) [.msl nx l.length 1 0 l.length]) (sz:=1) nx l.length (l.map dW) (by rw[ac (by omega),ac (by omega),ag]) (by simp)
  rwa [Nat.mul_one] at this
 ·intro h;cases h
 ·intro r h;cases h;omega
theorem ue(l:List UInt8)(s:AV)(H:Hp)(nx:Nat)(hr:Row H 1 s (l.map dW))(hlt:∀r,aY s=some r->r<nx)(hl:l.length<=1099511627776):Abs.Fn Try.prog 67 [s] H nx λr H' nx'=>r=aW (kB l):=by
 refine fO D1 ?_;simp only[b67,aS]
 repeat' (first|refine zW ?_|apply a_n|refine zO ?_|refine vZ ?_|fail)
 refine rO (n:=l.length) (bs:=l) (by((try simp only[bS,ZA,reduceEqDiff,↓reduceIte,reduceAdd,reduceLeDiff]);(try with_reducible rfl));exact Row.bytes hr) ?_;have hck:=j0 l (by show _<=_;omega);unfold aW at hck;have hbd:=pg l;generalize hs:f7 l=c at *
 have a1:∀tb tf(k':IntKind),aX .shr tb tf (.int .i64 c) (.int k' 8)=some (.int .i64 (c/256)):=λtb tf k'=>by
  obtain⟨m,rfl⟩:∃m:Nat,c=m:=⟨c.toNat,by omega⟩
  have:=wR (k:=.i64) (a:=m) (b:=8) (tb:=tb) (tf:=tf) (k':=k') (by simp[IntKind.bits]);rw[show((8:Nat):Int)=8 from rfl] at this;rw[this];simp
 have w1:IntKind.wrap .u8 (c/256)=((UInt8.ofNat (c/256).toNat).toNat:Int):=wl (by omega)
 have w2:IntKind.wrap .u8 c=((UInt8.ofNat (c%256).toNat).toNat:Int):=by
  rw[nY];rw[UInt8.toNat_ofNat'];have:(2:Nat)^8=256:=rfl;omega
 have zz:=aI @a1 (aI @w1 @w2);repeat' (first|refine zW ?_|apply a_n|refine zO ?_|refine vZ ?_|refine cZ ?_ (hp:=hck) (hs:=by(first|refine aq ?_ rfl|apply az);(repeat' (first|exact ar|apply aO|apply ay|exact Dat.str));first|done|fail)|refine blZ ?_|fail)
 refine eL (k:=2) rfl ev0 (hr.same λr hr=>ac (by have:=hlt r hr;omega)) ev0 (gi (l:=[UInt8.ofNat (c/256).toNat,UInt8.ofNat (c%256).toNat]) ag rfl) qq rfl f6 (by simp;omega) (by simp;omega) ?_;rintro s' H' nx' hrow _ _ _ _
 skip
 rw[<-eU] at hrow;refine rO (by((try simp only[bS,ZA,reduceEqDiff,↓reduceIte,reduceAdd,reduceLeDiff]);(try with_reducible rfl));exact Row.bytes hrow) ?_
 repeat' (first|apply a_n|refine zO ?_|refine vZ ?_|refine ae rfl ?_|refine r1Z ?_|fail)
 unfold kB;rw[hs];rfl
theorem si(r f t symbol:Int)(hs:0<=symbol/\symbol<=4611686018427387904):pU 32 [.agg [.int .i64 r,.int .i64 f,.int .i64 t],.int .i64 symbol] (aW (iw r f t symbol)):=by
 refine pO CX ?_;simp only[b32,aS]
 have w:∀n:Int,IntKind.wrap .u8 n=((UInt8.ofNat (n%256).toNat).toNat:Int):=λn=>by
  rw[nY,UInt8.toNat_ofNat'];have:(2:Nat)^8=256:=rfl;omega
 have zz:=aI (w r) (aI (w f) ((w t)));repeat' (first|refine zW ?_|apply a_n|refine zO ?_|refine vZ ?_|refine bxZ ?_|refine blZ ?_|fail)
 refine rO (n:=3) (bs:=[UInt8.ofNat (r%256).toNat,UInt8.ofNat (f%256).toNat,UInt8.ofNat (t%256).toNat]) (by((try simp only[bS,ZA,reduceEqDiff,↓reduceIte,reduceAdd,reduceLeDiff]);(try with_reducible rfl));exact gi (l:=[UInt8.ofNat (r%256).toNat,UInt8.ofNat (f%256).toNat,UInt8.ofNat (t%256).toNat]) rfl rfl) ?_
 skip
 refine aK ev0 (by((try simp only[bS,ZA,reduceEqDiff,↓reduceIte,reduceAdd,reduceLeDiff]);(try with_reducible rfl));rfl) (uw [UInt8.ofNat (r%256).toNat,UInt8.ofNat (f%256).toNat,UInt8.ofNat (t%256).toNat] (by simp) _ _) ?_;rintro v H1 nx1 ⟨rfl,rfl,hfr,hO⟩;simp only[reduceAdd] at hO hfr
 repeat' (first|refine zW ?_|apply a_n|refine zO ?_|refine vZ ?_|refine blZ ?_|fail)
 refine aK (xs:=[.int .i64 0,.msl 4 1 1 0 1,.ptr 3 1 0]) ev0 ev0 (sW 0 [symbol] _ _ 3 _ _ _ hO.more (Reads.box (by simp[ah]) (by omega) (by omega) (by simp[aY]) rfl) (by simp) (by simp;omega) (by omega)) ?_;rintro v2 H2 nx2 hO2;obtain⟨s2,hs2⟩:=hO2.out
 repeat' (first|refine zW ?_|apply a_n|refine zO ?_|refine vZ ?_|fail)
 refine aK ev0 ev0 (zo 3 s2 H2 nx2 hs2.box) ?_;rintro v3 H3 nx3 ⟨rfl,rfl,rfl⟩;have hvl:=dh 0 [symbol]
 skip
 refine aK ev0 ev0 (ue _ _ _ _ hs2.row hs2.lt (by simp at hvl |-;omega)) ?_;rintro v4 H4 nx4 rfl
 repeat' (first|apply a_n|refine zO ?_|refine vZ ?_|refine ae rfl ?_|refine r1Z ?_|fail)
 unfold iw;simp only[aL,rh,List.flatMap_nil,kp,Int.add_zero];exact bv _ _
theorem AJ(l:List Int)(v:Int)(hl:Sh l):pU 69 [be l,.int .i64 v] (.int .i64 (idx l v)):=by
 refine pO DZ ?_;simp only[b69,aS]
 repeat' (first|refine zW ?_|apply a_n|refine zO ?_|refine vZ ?_|fail)
 refine fg (X:=Nat) (λk=>[(0,be l),(1,.int .i64 v),(7,.int .i64 l.length),(8,.int .i64 k)]) (λk=>k<=l.length/\∀i,i<k->l.getD i default≠v) (λk=>l.length-k) 0 ⟨bZ _,by simp⟩ ag0 ?_;rintro k ⟨h1,h2⟩
 repeat' (first|refine zW ?_|apply a_n|apply a_x|apply a_r|refine zO ?_|refine vZ ?_|(refine zGZ ?_ ?_<;>(intro _hg;try (exfalso;omega)))|refine ae rfl ?_|refine r1Z ?_|fail)
 ·exact bE (BV (by omega) h2 _hg).symm
 ·refine⟨k+1,⟨by omega,λi hi=>?_⟩,by omega,ag0,rfl,rfl⟩;rcases sP.1 hi with h|rfl
  ·exact h2 i h
  ·exact λe=>_hg e.symm
 ·exact bE (yB λi hi=>h2 i (by omega)).symm
theorem vJ(l:List Int)(v:Int)(hl:Sh l):pU 38 [be l,.int .i64 v] (.bool (decide (v∈l))):=by
 refine pO CO ?_;simp only[b38,aS]
 repeat' (first|refine zW ?_|apply a_n|refine zO ?_|refine vZ ?_|refine cZ ?_ (hp:=by exact AJ _ _ hl)|refine ae rfl ?_|refine r1Z ?_|fail)
 refine ap ?_;unfold idx;split<;>simp_all
theorem zn(l:List Int)(p:Int->Bool)(g:Nat)(caps:List AV)(hd:∀x∈caps,Dat x)(hg:∀x∈l,pU g (.int .i64 x::caps) (.bool (p x)))(hl:Sh l):pU 101 [be l,.func g caps] (.int .i64 (yS l p)):=by
 refine pO CB ?_;simp only[CE,aS]
 repeat' (first|refine zW ?_|apply a_n|refine zO ?_|refine vZ ?_|fail)
 refine fg (X:=Nat) (λk=>[(0,be l),(1,.func g caps),(6,be l),(7,.int .i64 l.length),(8,.int .i64 k)]) (λk=>k<=l.length/\∀i,i<k->p (l.getD i default)=false) (λk=>l.length-k) 0 ⟨bZ _,by simp⟩ ag0 ?_;rintro k ⟨h1,h2⟩
 repeat' (first|refine zW ?_|apply a_n|apply a_x|apply a_r|refine zO ?_|refine vZ ?_|refine cZ ?_ (hp:=by exact hg _ (aj (by omega))) (hs:=by(first|refine aq ?_ rfl|apply az);(repeat' (first|exact ar|apply aO|apply ay|exact dV hd));first|done|fail)|(refine zGZ ?_ ?_<;>(intro _hg;try (exfalso;omega)))|refine ae rfl ?_|refine r1Z ?_|fail)
 ·refine bE ?_;rw[zS (by omega) h2 _hg]
 ·refine⟨k+1,⟨by omega,λi hi=>?_⟩,by omega,ag0,rfl,rfl⟩;rcases sP.1 hi with h|rfl
  ·exact h2 i h
  ·exact _hg
 ·refine bE ?_;unfold yS;rw[yd λi hi=>h2 i (by omega)];rfl
theorem u0(l:List Int)(p:Int->Bool)(g:Nat)(caps:List AV)(hd:∀x∈caps,Dat x)(hg:∀x∈l,pU g (.int .i64 x::caps) (.bool (p x)))(hl:Sh l):pU 95 [be l,.func g caps] (.bool (l.any p)):=by
 refine pO D4 ?_;simp only[b95,aS]
 repeat' (first|refine zW ?_|apply a_n|refine zO ?_|refine vZ ?_|refine cZ ?_ (hp:=by exact zn l p g caps hd hg hl) (hs:=by(first|refine aq ?_ rfl|apply az);(repeat' (first|exact ar|apply aO|apply ay|exact Dat.func hd));first|done|fail)|refine ae rfl ?_|refine r1Z ?_|fail)
 refine ap ?_;unfold yS;split<;>simp_all
theorem zA(l m:List Int)(hl:Sh l)(hm:Sh m):pU 89 [be l,be m] (.bool (decide (l=m))):=by
 refine pO Dz ?_;simp only[b89,aS]
 repeat' (first|refine zW ?_|apply a_n|apply a_r|refine zO ?_|refine vZ ?_|(refine zGZ ?_ ?_<;>(intro _hg;try (exfalso;omega)))|refine ae rfl ?_|refine r1Z ?_|fail)
 ·refine ap ?_
  symm;rw[decide_eq_false_iff_not];rintro rfl;omega
 refine fg (X:=Nat) (λk=>[(0,be l),(1,be m),(12,.int .i64 l.length),(13,.int .i64 k)]) (λk=>k<=l.length/\∀i,i<k->l.getD i default=m.getD i default) (λk=>l.length-k) 0 ⟨bZ _,by simp⟩ ag0 ?_;rintro k ⟨h1,h2⟩
 repeat' (first|refine zW ?_|apply a_n|apply a_x|apply a_r|refine zO ?_|refine vZ ?_|(refine zGZ ?_ ?_<;>(intro _hg;try (exfalso;omega)))|refine ae rfl ?_|refine r1Z ?_|fail)
 ·refine ap ?_
  symm;rw[decide_eq_false_iff_not];rintro rfl;exact absurd rfl ‹_›
 ·refine⟨k+1,⟨by omega,λi hi=>?_⟩,by omega,ag0,rfl,rfl⟩;rcases sP.1 hi with h|rfl
  ·exact h2 i h
  ·omega
 ·refine ap ?_
  symm;rw[qz]
  refine List.ext_getElem (by omega) (λi h3 h4=>?_);have:=h2 i (by omega);simpa[List.getD,h3,h4] using this
theorem Ac(n:Int):pU 98 [.int .i64 n] (.bool false):=by
 refine pO D2 ?_;simp only[b98,aS]
 repeat' (first|refine zW ?_|apply a_n|refine zO ?_|refine vZ ?_|refine ae rfl ?_|refine r1Z ?_|fail)
 exact ap (by simp)
theorem Bb(a b:Int):pU 86 [.int .i64 a,.int .i64 b] (.int .i64 (if a<b then-1 else if a>b then 1 else 0)):=by
 refine pO Dg ?_;simp only[b86,aS];have zz:=@bm;repeat' (first|refine zW ?_|apply a_n|apply a_r|refine zO ?_|refine vZ ?_|refine cZ ?_ (hp:=by exact Ac _)|refine cFZ ?_|(refine zGZ ?_ ?_<;>(intro _hg;try (exfalso;omega)))|refine ae rfl ?_|refine r1Z ?_|fail)
 all_goals (refine bE ?_)
 ·rw[if_pos ‹_›]
 ·rw[if_neg ‹_›,if_pos ‹_›]
 ·rw[if_neg (by omega),if_neg (by omega)]
theorem xT(a b:List Int)(ha:Sh a)(hb:Sh b):pU 87 [be a,be b] (.int .i64 (iY a b)):=by
 refine pO Dy ?_;simp only[b87,aS]
 repeat' (first|refine zW ?_|apply a_n|refine zO ?_|refine vZ ?_|fail)
 refine fg (X:=Nat) (λk=>[(0,be a),(1,be b),(9,be a),(10,.int .i64 a.length),(11,.int .i64 k)]) (λk=>k<=a.length/\k<=b.length/\iY a b=iY (a.drop k) (b.drop k)) (λk=>a.length-k) 0 ⟨bZ _,bZ _,rfl⟩ ag0 ?_;rintro k ⟨h1,h2,h3⟩
 repeat' (first|refine zW ?_|apply a_n|apply a_x|apply a_r|refine zO ?_|refine vZ ?_|refine cZ ?_ (hp:=by exact Bb _ _)|(refine zGZ ?_ ?_<;>(intro _hg;try (exfalso;omega)))|refine ae rfl ?_|refine r1Z ?_|fail)
 ·refine bE ?_;rw[h3,ml (show b.length<=k by omega),cP (l:=a) (by omega)];rfl
 ·refine bE ?_;rw[h3,cP (l:=a) (by omega),cP (l:=b) (by omega),iY];split
  ·rfl
  ·rename_i h;split
   ·rfl
   ·rename_i h';exact absurd (show(if a.getD k default<b.getD k default then(-1:Int) else if a.getD k default>b.getD k default then 1 else 0)=0 by rw[if_neg h,if_neg h']) ‹_›
 ·refine⟨k+1,⟨by omega,by omega,?_⟩,by omega,ag0,rfl,rfl⟩;rw[h3,cP (l:=a) (by omega),cP (l:=b) (by omega),iY];by_cases h:a.getD k default<b.getD k default
  ·rw[if_pos h] at _hg;exact absurd (by decide) _hg
  ·by_cases h':a.getD k default>b.getD k default
   ·rw[if_neg h,if_pos h'] at _hg;exact absurd (by decide) _hg
   ·rw[if_neg h,if_neg h']
 ·refine bE ?_;rw[h3,ml (show a.length<=k by omega),cP (l:=b) (by omega)];rfl
 ·refine bE ?_;rw[h3,ml (show a.length<=k by omega),ml (show b.length<=k by omega)];rfl
theorem xK(l:List (List Int))(p:List Int->Bool)(g:Nat)(caps:List AV)(hd:∀x∈caps,Dat x)(hg:∀x∈l,pU g (be x::caps) (.bool (p x)))(hl:Sh l):pU 97 [aF l,.func g caps] (.int .i64 (if l.any p then(l.findIdx p:Nat) else-1)):=by
 refine pO Ds ?_;simp only[b97,aS]
 repeat' (first|refine zW ?_|apply a_n|refine zO ?_|refine vZ ?_|fail)
 refine fg (X:=Nat) (λk=>[(0,aF l),(1,.func g caps),(7,.int .i64 l.length),(8,.int .i64 k)]) (λk=>k<=l.length/\∀i,i<k->p (l.getD i default)=false) (λk=>l.length-k) 0 ⟨bZ _,by simp⟩ ag0 ?_;rintro k ⟨h1,h2⟩
 repeat' (first|refine zW ?_|apply a_n|apply a_x|apply a_r|refine zO ?_|refine vZ ?_|refine cZ ?_ (hp:=by exact hg _ (aj (by omega))) (hs:=by(first|refine aq ?_ rfl|apply az);(repeat' (first|exact ar|apply aO|apply ay|exact dV hd));first|done|fail)|(refine zGZ ?_ ?_<;>(intro _hg;try (exfalso;omega)))|refine ae rfl ?_|refine r1Z ?_|fail)
 ·refine bE ?_;have hk:k<l.length:=by omega
  have e:l.getD k default=l[k]:=by simp[List.getD,hk]
  rw[e] at _hg;have hm:l.any p=true:=sO.2 ⟨l[k],nH hk,_hg⟩;rw[if_pos hm,(List.findIdx_eq hk).2 ⟨_hg,λj hj=>by have:=h2 j hj;rwa [show l.getD j default=l[j] by simp[List.getD,show j<l.length by omega]] at this⟩]
 ·refine⟨k+1,⟨by omega,λi hi=>?_⟩,by omega,ag0,rfl,rfl⟩;rcases sP.1 hi with h|rfl
  ·exact h2 i h
  ·exact _hg
 ·refine bE ?_;rw[if_neg];rw[Bool.not_eq_true,List.any_eq_false];intro x hx;obtain⟨i,hi,e⟩:=wh hx;have:=h2 i (by omega);rw[show l.getD i default=x by simp[List.getD,hi,e]] at this;simp[this]
theorem mr(l:List (List Int))(p:List Int->Bool)(g:Nat)(caps:List AV)(hd:∀x∈caps,Dat x)(hg:∀x∈l,pU g (be x::caps) (.bool (p x)))(hl:Sh l):pU 82 [aF l,.func g caps] (.bool (l.any p)):=by
 refine pO DJ ?_;simp only[b82,aS]
 repeat' (first|refine zW ?_|apply a_n|refine zO ?_|refine vZ ?_|refine cZ ?_ (hp:=by exact xK l p g caps hd hg hl) (hs:=by(first|refine aq ?_ rfl|apply az);(repeat' (first|exact ar|apply aO|apply ay|exact Dat.func hd));first|done|fail)|refine ae rfl ?_|refine r1Z ?_|fail)
 refine ap ?_;split<;>simp_all
end
end Go.Proofs.Ytpbjhjkfobapeaa
