/- Texts of this claim, one after the other: AbsC2, AbsC3, AbsC4, AbsC5, AbsC6, AbsC7, AbsC8, AbsC9, AbsD1, AbsD2, AbsZ, AbsI, AbsI2, AbsO. -/
import Derived.Test.YtbgdcebmgjafjaaGreatXG2
import Derived.IntWalk
import Derived.ChangeArms
import Derived.Carry
import Derived.Deep.Slices
import Derived.Lib.SmallJoins

set_option linter.unusedSimpArgs false
set_option linter.unusedVariables false
namespace Go.Abs
open Go.RowKit
structure Op2 where
 d:Option Nat
 g:Option (Nat × Bool)
 i:Ins
inductive C2 where
 | skip
 | ops (m:Nat) (l:List Op2)
 | mix (m:Nat) (l:List Op2) (C:List Nat)
 | mixS (m:Nat) (l:List Op2) (C:List (Nat × Nat))
 | seq (a b:C2)
 | cond (c:Opd) (a b:C2)
 | block (id:Nat) (b:C2)
 | loop (b:C2)
 | exit (id:Nat)
 | ret
 | rangeF (g:Opd) (ps:List Nat) (a b:C2)
inductive IC where
 | val | eff | call | sp
 deriving DecidableEq
def ic:Ins→IC
 | .alloc _ | .box _ | .bldS .. | .mks .. | .st .. | .app .. | .apz ..=>.eff
 | .call ..=>.call
 | .mkm .. | .mput .. | .mget .. | .mlen _ | .mrng _ | .mnxt _ | .ment _ | .cpy .. | .clr .. | .snil .. | .s2b _ | .b2s _ | .mplc .. | .mpst .. | .slp ..=>.sp
 | _=>.val
def nL (m:Nat) (p:AV):Bool:=match p with | .ptr b _ _=>b < m | _=>true
def qk (m:Nat) (p:AV):Bool:=match p with | .ptr b _ _=>m ≤ b | _=>true
def dm2 (dm:DM) (T:Tm) (i:Ins):Bool:=match dm with
 | .fresh m=>match i with
  | .ld1 a=>nL m (ov T a)
  | .ldn _ a=>nL m (ov T a)
  | .st _ p _=>qk m (ov T p)
  | .app ..=>false
  | .apz ..=>false
  | _=>true
 | _=>true
def bg (P:Program) (dm:DM) (i:Ins) (T:Tm) (H:Hp) (nx:Nat) (K:AV→Hp→Nat→Prop):Prop :=
 match ic i with
 | .val=>aR (dm2 dm T i) (aE (aX T H i) fun r=>K r H nx)
 | .eff=>aR (dm2 dm T i) (aE (ec T H nx i) fun x=>K x.1 x.2.1 x.2.2)
 | .call=>match i with
  | .call f args=>(aE (jy (ov T f)) fun y=>match dm.isText with
   | false=>aY P y.1 (args.map (ov T) ++ y.2) H fun r=>K r H nx
   | true=>Fn P y.1 (args.map (ov T) ++ y.2) H nx K) ∨ (dm.isText=true∧((∃ b,ov T f=.yld b∧Yl P b (args.map (ov T)) H nx K) ∨ ∃ g fs,ov T f=.bfn g fs∧Fn P g (fs ++ args.map (ov T)) H nx K))
  | _=>False
 | .sp=>dm.isText=true∧isp i T H nx K
def g2 (T:Tm):Option (Nat × Bool)→Option Bool
 | none=>some true
 | some (t,want)=>match T t with
  | .bool b=>some (b == want)
  | .tup []=>some false
  | _=>none
def al (P:Program) (dm:DM):List Op2→Tm→Hp→Nat→SP→Prop
 | [],T,H,nx,K=>K T H nx
 | o :: l,T,H,nx,K=>aS (g2 T o.g) (bg P dm o.i T H nx fun r H nx=>al P dm l (aF T o.d r) H nx K) (al P dm l (aF T o.d (.tup [])) H nx K)
def nr (T:Tm):Ins→Option AV
 | .bldS sz len z parts=>lV (ec T a9 0 (.bldS sz len z parts))
 | _=>none
def ba (P:Program) (S:Hp):List (Op2 × Nat)→Tm→Hp→Nat→SP→Prop
 | [],T,H,nx,K=>K T H nx
 | (o,0) :: l,T,H,nx,K=>aS (g2 T o.g) (aE (aX T S o.i) fun r=>ba P S l (aF T o.d r) H nx K) (ba P S l (aF T o.d (.tup [])) H nx K)
 | (o,k + 1) :: l,T,H,nx,K=>aS (g2 T o.g) (if k=2 then aE (nr T o.i) fun r=>ba P S l (aF T o.d r) H nx K else bg P .text o.i T H nx fun r H' nx'=>(k=0→Sub S H')∧ba P S l (aF T o.d r) H' nx' K) (ba P S l (aF T o.d (.tup [])) H nx K)
def aG (P:Program):C2→Tm→Hp→Nat→CP→Prop
 | .skip,T,H,nx,K=>K .normal T H nx
 | .ops m l,T₀,H₀,nx₀,K=>∃ T H nx Hf,Gh T₀ H₀ nx₀ T H nx Hf∧al P (match m with | 0=>.text | 1=>.draw | _=>.fresh nx) l T H nx (K .normal)
 | .mix m l C,T₀,H₀,nx₀,K=>(m ≠ 9∧∃ T H nx Hf,Gh T₀ H₀ nx₀ T H nx Hf∧al P (match m with | 1=>.draw | _=>.fresh nx) l T H nx (K .normal)) ∨
     ∃ T H nx Hf,Gh T₀ H₀ nx₀ T H nx Hf∧al P .text (C.map fun k=>l.getD k ⟨none,none,.dead⟩) T H nx (K .normal)
 | .mixS m l C,T₀,H₀,nx₀,K=>(m ≠ 9∧∃ T H nx Hf,Gh T₀ H₀ nx₀ T H nx Hf∧al P (match m with | 1=>.draw | _=>.fresh nx) l T H nx (K .normal)) ∨
     ∃ T H nx Hf S,Gh T₀ H₀ nx₀ T H nx Hf∧Sub S H∧ba P S (C.map fun k=>(l.getD k.1 ⟨none,none,.dead⟩,k.2)) T H nx (K .normal)
 | .seq x y,T,H,nx,K=>aG P x T H nx fun e T H nx=>aN e (aG P y T H nx K) (K e T H nx)
 | .cond c x y,T,H,nx,K=>bf (ov T c) (aG P x T H nx K) (aG P y T H nx K)
 | .block id b,T,H,nx,K=>aG P b T H nx fun e T H nx=>K (gX id e) T H nx
 | .loop b,T,H,nx,K=>bc (aG P b) T H nx K
 | .exit id,T,H,nx,K=>K (.exit id) T H nx
 | .ret,T,H,nx,K=>K .ret T H nx
 | .rangeF g ps a b,T,H,nx,K=>∃ f caps,ov T g=.func f caps∧∀ (c0:AV) (cj:AEx→AV),
     (∀ (args:List AV) (H':Hp) (nx':Nat) (K':AV→Hp→Nat→Prop),H' nx=some [c0]→args.length=ps.length →
      aG P a (fB T ps args) H' nx' (fun e T2 H2 nx2=>aN e (H2 nx=some [c0]∧aG P b T2 (bN H2 nx) nx2 fun e T3 H3 nx3=>aN e (K' (.bool true) (am H3 nx [c0]) nx3) (K' (.bool false) (am H3 nx [cj e]) nx3)) False) →
      Yl P nx args H' nx' K') →
     Fn P f (.yld nx :: caps) (am H nx [c0]) (nx + 1) fun _ H' nx'=>(H' nx=some [c0]∧K .normal T (bN H' nx) nx') ∨ ∃ e,e ≠ .normal∧H' nx=some [cj e]∧K e T (bN H' nx) nx'
def nP:Op→Option IC
 | .call { callee:=.value _,.. }=>some .call
 | op=>match opk op with
  | .pure | .touch=>some .val
  | .alloc | .write=>some .eff
  | .other=>none
def eJ (P:Program) (op:Op):Option Ins:=match nP op with
 | some .call=>match gJ op with
  | some (f,args)=>some (.call (.of f) (args.toList.map .of))
  | none=>none
 | some .val=>match eO P op with
  | some i=>if ic i=.val then some i else none
  | none=>none
 | some .eff=>match gR P op with
  | some i=>if ic i=.eff then some i else none
  | none=>none
 | _=>none
def dS (P:Program) (op:Op):Ins:=match eJ P op with
 | some i=>i
 | none=>match qu P op with
  | some i=>if ic i=.sp then i else .dead
  | none=>.dead
def we (dsts:List (Option Nat)):Option (Nat × Bool)→Option (Option (Nat × Bool))
 | none=>some none
 | some (j,want)=>match dsts[j]? with
  | some (some d)=>some (some (d,want))
  | _=>none
def qo (P:Program) (N:Nat) (dsts:List (Option Nat)) (o:Oper):Option Op2 :=
 if dok N o.dst then (match we dsts o.guard with
  | some g=>some ⟨o.dst,g,dS P o.op⟩
  | none=>none) else none
def jQ (P:Program) (N:Nat) (dsts:List (Option Nat)):List Oper→Option (List Op2)
 | []=>some []
 | o :: l=>match qo P N dsts o,jQ P N dsts l with
  | some o,some l=>some (o :: l)
  | _,_=>none
def vpP (P:Program) (op:Op):Bool:=vM op || (opk op == .pure && (eJ P op).isSome)
theorem mJ (P:Program):VP (vpP P):=⟨fun op h=>by
 unfold vpP at h
 rw [Bool.or_eq_true,Bool.and_eq_true] at h
 rcases h with h | h
 ·exact r9 h
 ·simpa using h.1,fun op h=>by unfold vpP; rw [h]; rfl⟩
def oX (P:Program) (ops:List Oper):Bool:=ops.any fun o=>opk o.op == .other || (opk o.op == .pure && !vpP P o.op)
def zu (P:Program) (ops:List Oper):List Nat :=
 let m:=Region.before ops.toArray
 let r:=List.range ops.length
 let sp:=r.filter fun i=>!vpP P (ops.getD i default).op
 let C:=sp.foldl (fun acc s=>acc ++ (r.filter fun i=>vpP P (ops.getD i default).op && !acc.contains i && !sp.any fun q=>dx m i q && !acc.contains q) ++ [s]) []
 C ++ r.filter fun i=>!C.contains i
def y9 (P:Program) (N:Nat) (ops:List Oper):Bool :=
 (oX P ops || ops.any fun o=>nP o.op == some .call) && pO (vpP P) N ops (zu P ops)
def svP (P:Program) (op:Op):Bool:=sv (vpP P) op
def xP (P:Program) (ops:List Oper):List Nat :=
 let m:=Region.before ops.toArray
 let r:=List.range ops.length
 let sp:=r.filter fun i=>!svP P (ops.getD i default).op
 let C:=sp.foldl (fun acc s=>acc ++ (r.filter fun i=>svP P (ops.getD i default).op && !acc.contains i && !sp.any fun q=>dx m i q && !acc.contains q) ++ [s]) []
 C ++ r.filter fun i=>!C.contains i
def xT (P:Program) (N:Nat) (ops:List Oper):Bool :=
 (oX P ops || (ops.any fun o=>nP o.op == some .call) || !cr false ops) && (ops.all fun o=>!dX o.op || (eJ P o.op).isSome) && jT (vpP P) (fun _=>false) N ops (xP P ops)
def eM (P:Program) (bp:Op→Bool) (ops:List Oper) (k:Nat):Nat:=if (bp (ops.getD k default).op && eI (ops.getD k default).op)=true then 3 else if svP P (ops.getD k default).op=true then 0 else if eN ops k=true then 1 else 2
def sq (P:Program) (bp:Op→Bool) (ops:List Oper):List Nat :=
 let m:=Region.before ops.toArray
 let r:=List.range ops.length
 let v:=fun i=>svP P (ops.getD i default).op || (bp (ops.getD i default).op && eI (ops.getD i default).op)
 let sp:=r.filter fun i=>!v i
 let C:=sp.foldl (fun acc s=>acc ++ (r.filter fun i=>v i && !acc.contains i && !sp.any fun q=>dx m i q && !acc.contains q) ++ [s]) []
 C ++ r.filter fun i=>!C.contains i
def sB (P:Program) (bp:Op→Bool) (N:Nat) (ops:List Oper):Bool :=
 (ops.all fun o=>!(dX o.op || (bp o.op && eI o.op)) || (eJ P o.op).isSome) && jT (vpP P) bp N ops (sq P bp ops)
def bpA (P:Program) (op:Op):Bool:=match eJ P op with
 | some (.bldS 1 _ _ _)=>true
 | _=>false
def xB (P:Program) (N:Nat) (ops:List Oper):Bool :=
 (ops.any fun o=>bpA P o.op) && (ops.any fun o=>eI o.op && !bpA P o.op) && sB P (bpA P) N ops
def iH (P:Program) (N:Nat):Code→Option C2
 | .skip=>some .skip
 | .label _=>some .skip
 | .region _ ops draw=>match jQ P N (ops.toList.map (·.dst)) ops.toList with
  | some l=>if draw=true then (if xB P N ops.toList=true then some (.mixS 9 l ((sq P (bpA P) ops.toList).map fun k=>(k,eM P (bpA P) ops.toList k))) else if y9 P N ops.toList=true then some (.mix (if oX P ops.toList=true then 9 else if cr false ops.toList=true then 1 else if cr true ops.toList=true then 2 else 9) l (zu P ops.toList)) else if xT P N ops.toList=true then some (.mixS (if oX P ops.toList=true then 9 else if cr false ops.toList=true then 1 else if cr true ops.toList=true then 2 else 9) l ((xP P ops.toList).map fun k=>(k,eM P (fun _=>false) ops.toList k))) else if cr false ops.toList=true then some (.ops 1 l) else if cr true ops.toList=true then some (.ops 2 l) else if sB P (fun _=>true) N ops.toList=true then some (.mixS 9 l ((sq P (fun _=>true) ops.toList).map fun k=>(k,eM P (fun _=>true) ops.toList k))) else none) else some (.ops 0 l)
  | none=>none
 | .seq a b=>match iH P N a,iH P N b with
  | some a,some b=>some (.seq a b)
  | _,_=>none
 | .cond c a b=>match iH P N a,iH P N b with
  | some a,some b=>some (.cond (.of c) a b)
  | _,_=>none
 | .block id b=>match iH P N b with
  | some b=>some (.block id b)
  | none=>none
 | .loop b=>match iH P N b with
  | some b=>some (.loop b)
  | none=>none
 | .exit id=>some (.exit id)
 | .ret=>some .ret
 | .rangeFunc g ps a b=>if ps.toList.all (fun t=>decide (t < N))=true then (match iH P N a,iH P N b with
  | some a,some b=>some (.rangeF (.of g) ps.toList a b)
  | _,_=>none) else none
 | _=>none
theorem iY {α:Type} {x:Option α} {A B:α→Prop} (hab:∀ a,A a→B a) (h:aE x A):aE x B:=by
 cases x with
 | none=>exact h
 | some a=>exact hab a h
theorem vv {P:Program} {dm:DM} {op:Op} {i:Ins} {T:Tm} (hc:(eO P op=some i∧opk op ≠ .write) ∨ gR P op=some i) (h:dm2 dm T i=true):mg dm T op=true:=by
 cases dm with
 | text=>rfl
 | draw=>rfl
 | fresh m =>
  rcases hc with ⟨hc,hk⟩ | hc
  ·cases op with
   | load t a =>
    simp only [eO] at hc
    split at hc
    ·split at hc
     ·split at hc
      ·cases hc
       simp only [dm2,nL,bk] at h
       simp only [mg,ll]; exact h
      ·cases hc
     ·cases hc
      simp only [dm2,nL,bk] at h
      simp only [mg,ll]; exact h
    ·cases hc
   | store t p x=>exact absurd rfl hk
   | _=>simpa [mg,ll] using hk
  ·cases op with
   | store t p x =>
    simp only [gR] at hc
    split at hc
    ·cases hc
     simp only [dm2,qk,bk] at h
     simp only [mg,ll]; exact h
    ·cases hc
   | alloc e=>rfl
   | box e x=>rfl
   | buildSlice t len parts=>rfl
   | makeSlice t l c=>rfl
   | call c =>
    obtain ⟨callee,args,argTypes⟩:=c
    cases callee with
    | builtin b =>
     obtain ⟨args⟩:=args
     obtain ⟨argTypes⟩:=argTypes
     cases b with
     | append =>
      rcases args with _ | ⟨x,_ | ⟨y,_ | ⟨z,l⟩⟩⟩
      ·cases hc
      ·cases hc
      ·rcases argTypes with _ | ⟨t,_ | ⟨u,_ | ⟨v,l⟩⟩⟩
       ·cases hc
       ·cases hc
       ·simp only [gR] at hc
        split at hc
        ·cases hc
        ·split at hc
         ·cases hc
          cases h
         ·split at hc
          ·split at hc
           ·split at hc
            ·cases hc
             cases h
            ·cases hc
           ·cases hc
          ·cases hc
       ·cases hc
      ·cases hc
     | _=>cases hc
    | _=>cases hc
   | _=>cases hc
theorem w6 {P:Program} {dm:DM} {op:Op} {i:Ins} {T:Tm} {H:Hp} {nx:Nat} {K:AV→Hp→Nat→Prop} (hc:eJ P op=some i) (h:bg P dm i T H nx K):lv P dm op T H nx K:=by
 unfold lv
 unfold eJ at hc
 split at hc
 ·rename_i hk
  split at hc
  ·rename_i f args hf
   cases hc
   have h:(aE (jy (ov T (.of f))) fun y=>match (generalizing:=false) dm.isText with
    | false=>aY P y.1 ((args.toList.map Opd.of).map (ov T) ++ y.2) H fun r=>K r H nx
    | true=>Fn P y.1 ((args.toList.map Opd.of).map (ov T) ++ y.2) H nx K) ∨ (dm.isText=true∧((∃ b,ov T (.of f)=.yld b∧Yl P b ((args.toList.map Opd.of).map (ov T)) H nx K) ∨ ∃ g fs,ov T (.of f)=.bfn g fs∧Fn P g (fs ++ (args.toList.map Opd.of).map (ov T)) H nx K)):=h
   rw [bk,fN] at h
   obtain ⟨ts,rfl⟩:=iq hf
   rcases h with h | ⟨h1,⟨b,h2,h3⟩ | ⟨g,fs,h2,h3⟩⟩
   ·exact .inl h
   ·exact .inr ⟨h1,p7 h2 h3⟩
   ·exact .inr ⟨h1,pS h2 h3⟩
  ·cases hc
 ·rename_i hk
  split at hc
  ·rename_i j hj
   split at hc
   ·rename_i hic
    cases hc
    have hoc:opc op=.val∧opk op ≠ .write:=by
     unfold nP at hk
     split at hk
     ·cases hk
     ·rename_i hn
      unfold opc
      split
      ·rename_i a b c; exact absurd rfl (hn _ _ _)
      ·split at hk <;> rename_i hkk <;> (try rw [hkk]) <;> first | (cases hk; done) | (exact ⟨rfl,by decide⟩)
    unfold bg at h
    rw [hic] at h
    simp only at h
    left
    unfold fO
    rw [hoc.1]
    simp only
    refine ⟨vv (.inl ⟨hj,hoc.2⟩) h.1,?_⟩
    have h:=h.2
    cases hv:aX T H i with
    | none=>rw [hv] at h; exact h.elim
    | some r=>rw [oM hj hv]; rw [hv] at h; exact h
   ·cases hc
  ·cases hc
 ·rename_i hk
  split at hc
  ·rename_i j hj
   split at hc
   ·rename_i hic
    cases hc
    have hoc:opc op=.eff:=by
     unfold nP at hk
     split at hk
     ·cases hk
     ·rename_i hn
      unfold opc
      split
      ·rename_i a b c; exact absurd rfl (hn _ _ _)
      ·split at hk <;> rename_i hkk <;> (try rw [hkk]) <;> cases hk
    unfold bg at h
    rw [hic] at h
    simp only at h
    left
    unfold fO
    rw [hoc]
    simp only
    refine ⟨vv (.inr hj) h.1,?_⟩
    have h:=h.2
    cases hv:ec T H nx i with
    | none=>rw [hv] at h; exact h.elim
    | some r=>rw [sF hj hv]; rw [hv] at h; exact h
   ·cases hc
  ·cases hc
 ·cases hc
theorem mb {P:Program} {dm:DM} {op:Op} {T:Tm} {H:Hp} {nx:Nat} {K:AV→Hp→Nat→Prop} (h:bg P dm (dS P op) T H nx K):lv P dm op T H nx K:=by
 unfold dS at h
 split at h
 ·rename_i i hi; exact w6 hi h
 ·split at h
  ·rename_i i hi
   split at h
   ·rename_i hic
    unfold bg at h
    rw [hic] at h
    exact .inr ⟨h.1,yk hi h.2⟩
   ·exact h.2.elim
  ·exact h.2.elim
theorem uU {dsts:List (Option Nat)} {T:Tm} {g:Option (Nat × Bool)} {g':Option (Nat × Bool)} (h:we dsts g=some g'):gval T dsts g=g2 T g':=by
 unfold we at h
 split at h
 ·cases h; rfl
 ·split at h
  ·rename_i d hd
   cases h
   simp only [gval,hd,g2]
   generalize T d=v
   cases v <;> try rfl
  ·cases h
theorem d3 {P:Program} {N:Nat} {dm:DM} {dsts:List (Option Nat)} {K:SP}:∀ (l:List Oper) (l2:List Op2) {T:Tm} {H:Hp} {nx:Nat},jQ P N dsts l=some l2→al P dm l2 T H nx K→jY P N dm dsts l T H nx K
 | [],l2,T,H,nx,hc,h=>by cases hc; exact h
 | o :: l,l2,T,H,nx,hc,h=>by
  simp only [jQ] at hc
  split at hc
  ·rename_i o2 r2 ho hr
   cases hc
   unfold qo at ho
   split at ho
   ·rename_i hd
    split at ho
    ·rename_i g hg
     cases ho
     refine ⟨hd,?_⟩
     rw [uU hg]
     have h:aS (g2 T g) (bg P dm (dS P o.op) T H nx fun r H nx=>al P dm r2 (aF T o.dst r) H nx K) (al P dm r2 (aF T o.dst (.tup [])) H nx K):=h
     cases hgv:g2 T g with
     | none=>rw [hgv] at h; exact h.elim
     | some b =>
      rw [hgv] at h
      cases b with
      | true =>
       have h:bg P dm (dS P o.op) T H nx fun r H nx=>al P dm r2 (aF T o.dst r) H nx K:=h
       exact eW (mb h) (fun r H nx hh=>d3 l r2 hr hh)
      | false=>exact d3 l r2 hr h
    ·cases ho
   ·cases ho
  ·cases hc
theorem vJ {P:Program} {op:Op} {T:Tm} {H:Hp} {nx:Nat} {K:AV→Hp→Nat→Prop} (h:bg P .text (dS P op) T H nx K):eL (vpP P) P op T H nx K:=by
 unfold eL
 split
 ·rename_i hk0
  have hk:=(mJ P).pure _ hk0
  have hsome:(eJ P op).isSome=true:=by
   unfold vpP at hk0
   rw [Bool.or_eq_true,Bool.and_eq_true] at hk0
   rcases hk0 with h | h
   ·cases op <;> first | (cases h; done) | rfl
   ·exact h.2
  obtain ⟨i,hi⟩:=Option.isSome_iff_exists.1 hsome
  unfold dS at h
  rw [hi] at h
  have h:bg P .text i T H nx K:=h
  unfold eJ at hi
  have hic:nP op=some .val:=by
   unfold nP
   split
   ·simp [opk] at hk
   ·rw [hk]
  rw [hic] at hi
  simp only at hi
  split at hi
  ·rename_i j hj
   split at hi
   ·rename_i hc
    cases hi
    unfold bg at h
    rw [hc] at h
    obtain ⟨_,h⟩:=h
    obtain ⟨r,hr,hk⟩:=b0 h
    rw [oM hj hr]; exact hk
   ·cases hi
  ·cases hi
 ·exact mb h
theorem kf {P:Program} {N:Nat} {dsts:List (Option Nat)}:∀ {l:List Oper} {l2:List Op2},jQ P N dsts l=some l2→∀ {k:Nat} {o:Oper},l[k]?=some o→∃ o2,l2[k]?=some o2∧qo P N dsts o=some o2
 | [],l2,h,k,o,ho=>by simp at ho
 | x :: l,l2,h,k,o,ho=>by
  simp only [jQ] at h
  split at h
  ·rename_i o2 r2 h1 h2
   cases h
   cases k with
   | zero=>simp at ho; subst ho; exact ⟨o2,rfl,h1⟩
   | succ k =>
    obtain ⟨o3,h3,h4⟩:=kf h2 (k:=k) (o:=o) (by simpa using ho)
    exact ⟨o3,by simpa using h3,h4⟩
  ·cases h
theorem nA {P:Program} {N:Nat} {ops:List Oper} {l:List Op2} (hl:jQ P N (ops.map (·.dst)) ops=some l) {K:SP}:∀ (C:List Nat),(∀ k ∈ C,k < ops.length)→∀ {T:Tm} {H:Hp} {nx:Nat},
    al P .text (C.map fun k=>l.getD k ⟨none,none,.dead⟩) T H nx K→gz (vpP P) P N (ops.map (·.dst)) (C.map fun k=>ops.getD k default) T H nx K
 | [],_,_,_,_,h=>h
 | k :: C,hC,T,H,nx,h=>by
  have hk:=hC k (by simp)
  obtain ⟨o,ho⟩:=bK hk
  obtain ⟨o2,ho2,hc⟩:=kf hl ho
  have e1:ops.getD k default=o:=b6 ho
  have e2:l.getD k ⟨none,none,.dead⟩=o2:=by simp [List.getD,ho2]
  rw [List.map_cons,e1]
  rw [List.map_cons,e2] at h
  unfold qo at hc
  split at hc
  ·rename_i hd
   split at hc
   ·rename_i g hg
    cases hc
    refine ⟨hd,?_⟩
    rw [uU hg]
    have h:aS (g2 T g) (bg P .text (dS P o.op) T H nx fun r H nx=>al P .text (C.map fun k=>l.getD k ⟨none,none,.dead⟩) (aF T o.dst r) H nx K) (al P .text (C.map fun k=>l.getD k ⟨none,none,.dead⟩) (aF T o.dst (.tup [])) H nx K):=h
    cases hgv:g2 T g with
    | none=>rw [hgv] at h; exact h.elim
    | some b =>
     rw [hgv] at h
     cases b with
     | true =>
      have h:bg P .text (dS P o.op) T H nx fun r H nx=>al P .text (C.map fun k=>l.getD k ⟨none,none,.dead⟩) (aF T o.dst r) H nx K:=h
      exact i9 (vJ h) (fun r H nx hh=>nA hl C (fun q hq=>hC q (by simp [hq])) hh)
     | false=>exact nA hl C (fun q hq=>hC q (by simp [hq])) h
   ·cases hc
  ·cases hc
theorem xy {P:Program} {op:Op} {T:Tm} {r:AV} (hb:eI op=true) (hc:(eJ P op).isSome=true) (h:nr T (dS P op)=some r):p8 P T op=some r:=by
 obtain ⟨i,hi⟩:=Option.isSome_iff_exists.1 hc
 have hcd:dS P op=i:=by unfold dS; rw [hi]
 rw [hcd] at h
 cases op <;> first | (cases hb; done) | skip
 rename_i t len parts
 have hi2:gR P (.buildSlice t len parts)=some i:=by
  unfold eJ at hi
  have:nP (.buildSlice t len parts)=some .eff:=rfl
  rw [this] at hi
  simp only at hi
  split at hi
  ·rename_i j hj
   split at hi
   ·cases hi; exact hj
   ·cases hi
  ·cases hi
 unfold p8
 rw [if_pos hb]
 unfold nr at h
 split at h
 ·rename_i sz len' z parts'
  obtain ⟨n,H',k,cs,h1,h2,h3,h4,h5⟩:=kH h
  rw [sF hi2 h1]
  rw [h1] at h
  exact h
 ·cases h
theorem mZ {P:Program} {bp:Op→Bool} {N:Nat} {ops:List Oper} {l:List Op2} (hl:jQ P N (ops.map (·.dst)) ops=some l) (hld:(ops.all fun o=>!dX o.op || (eJ P o.op).isSome)=true) (hbd:(ops.all fun o=>!(bp o.op && eI o.op) || (eJ P o.op).isSome)=true) {S:Hp} {K:SP}:∀ (C:List Nat),(∀ k ∈ C,k < ops.length)→∀ {T:Tm} {H:Hp} {nx:Nat},
    ba P S (C.map fun k=>(l.getD k ⟨none,none,.dead⟩,eM P bp ops k)) T H nx K→fq (vpP P) bp P N (ops.map (·.dst)) S (C.map (gA ops)) T H nx K
 | [],_,_,_,_,h=>h
 | k :: C,hC,T,H,nx,h=>by
  have hk:=hC k (by simp)
  obtain ⟨o,ho⟩:=bK hk
  obtain ⟨o2,ho2,hc⟩:=kf hl ho
  have e1:ops.getD k default=o:=b6 ho
  have e2:l.getD k ⟨none,none,.dead⟩=o2:=by simp [List.getD,ho2]
  have hrec:=fun (T:Tm) (H:Hp) (nx:Nat) hh=>mZ hl hld hbd (S:=S) (K:=K) C (fun q hq=>hC q (by simp [hq])) (T:=T) (H:=H) (nx:=nx) hh
  rw [List.map_cons]
  rw [List.map_cons,e2] at h
  have ep:gA ops k=(o,eN ops k):=by unfold gA; rw [e1]
  have ek:eM P bp ops k=if (bp o.op && eI o.op)=true then 3 else if sv (vpP P) o.op=true then 0 else if eN ops k=true then 1 else 2:=by unfold eM svP; rw [e1]
  rw [ep]
  rw [ek] at h
  unfold qo at hc
  split at hc
  case isFalse=>cases hc
  rename_i hd
  split at hc
  case h_2=>cases hc
  rename_i g hg
  cases hc
  refine ⟨hd,?_⟩
  show aS (gval T (ops.map (·.dst)) o.guard) (dC (vpP P) bp P S o.op (eN ops k) T H nx fun r H' nx'=>fq (vpP P) bp P N (ops.map (·.dst)) S (C.map (gA ops)) (aF T o.dst r) H' nx' K) (fq (vpP P) bp P N (ops.map (·.dst)) S (C.map (gA ops)) (aF T o.dst (.tup [])) H nx K)
  rw [uU hg]
  by_cases hbl:(bp o.op && eI o.op)=true
  ·rw [if_pos hbl] at h
   have h:aS (g2 T g) (aE (nr T (dS P o.op)) fun r=>ba P S (C.map fun k=>(l.getD k ⟨none,none,.dead⟩,eM P bp ops k)) (aF T o.dst r) H nx K) (ba P S (C.map fun k=>(l.getD k ⟨none,none,.dead⟩,eM P bp ops k)) (aF T o.dst (.tup [])) H nx K):=h
   cases hgv:g2 T g with
   | none=>rw [hgv] at h; exact h.elim
   | some b =>
    rw [hgv] at h
    cases b with
    | false=>exact hrec _ _ _ h
    | true =>
     have h:aE (nr T (dS P o.op)) fun r=>ba P S (C.map fun k=>(l.getD k ⟨none,none,.dead⟩,eM P bp ops k)) (aF T o.dst r) H nx K:=h
     show dC (vpP P) bp P S o.op (eN ops k) T H nx _
     unfold dC
     rw [if_pos (show nv (vpP P) bp o.op=true by unfold nv; rw [hbl,Bool.or_true])]
     obtain ⟨r,hr,hh⟩:=b0 h
     rw [Bool.and_eq_true] at hbl
     have hsome:(eJ P o.op).isSome=true:=by
      have:=List.all_eq_true.1 hbd o (List.mem_of_getElem? ho)
      rw [hbl.1,hbl.2] at this
      simpa using this
     unfold mf
     rw [if_pos (show (bp o.op && eI o.op)=true by rw [hbl.1,hbl.2]; rfl),xy hbl.2 hsome hr]
     exact hrec _ _ _ hh
  have hnv:nv (vpP P) bp o.op=sv (vpP P) o.op:=by
   unfold nv
   cases hb:(bp o.op && eI o.op) with
   | true=>exact absurd hb hbl
   | false=>rw [Bool.or_false]
  have hnval:mf P bp T S o.op=bG P T S o.op:=by unfold mf; rw [if_neg hbl]
  rw [if_neg hbl] at h
  by_cases hs:sv (vpP P) o.op=true
  ·rw [if_pos hs] at h
   have h:aS (g2 T g) (aE (aX T S (dS P o.op)) fun r=>ba P S (C.map fun k=>(l.getD k ⟨none,none,.dead⟩,eM P bp ops k)) (aF T o.dst r) H nx K) (ba P S (C.map fun k=>(l.getD k ⟨none,none,.dead⟩,eM P bp ops k)) (aF T o.dst (.tup [])) H nx K):=h
   cases hgv:g2 T g with
   | none=>rw [hgv] at h; exact h.elim
   | some b =>
    rw [hgv] at h
    cases b with
    | false=>exact hrec _ _ _ h
    | true =>
     have h:aE (aX T S (dS P o.op)) fun r=>ba P S (C.map fun k=>(l.getD k ⟨none,none,.dead⟩,eM P bp ops k)) (aF T o.dst r) H nx K:=h
     show dC (vpP P) bp P S o.op (eN ops k) T H nx _
     unfold dC
     rw [if_pos (hnv.trans hs),hnval]
     obtain ⟨r,hr,hh⟩:=b0 h
     have hsome:(eJ P o.op).isSome=true:=by
      unfold sv at hs
      rw [Bool.or_eq_true] at hs
      rcases hs with hs | hs
      ·unfold vpP at hs
       rw [Bool.or_eq_true,Bool.and_eq_true] at hs
       rcases hs with h | h
       ·revert h; cases o.op <;> intro h <;> first | (cases h; done) | rfl
       ·exact h.2
      ·have:=List.all_eq_true.1 hld o (List.mem_of_getElem? ho)
       rw [hs] at this
       simpa using this
     obtain ⟨i,hi⟩:=Option.isSome_iff_exists.1 hsome
     have hcd:dS P o.op=i:=by unfold dS; rw [hi]
     rw [hcd] at hr
     have hic:nP o.op=some .val:=by
      unfold sv at hs
      rw [Bool.or_eq_true] at hs
      rcases hs with hs | hs
      ·have hk:=(mJ P).pure _ hs
       unfold nP
       split
       ·rename_i heq; rw [heq] at hk; simp [opk] at hk
       ·rw [hk]
      ·revert hs; cases o.op <;> intro hs <;> first | (cases hs; done) | rfl
     unfold eJ at hi
     rw [hic] at hi
     simp only at hi
     split at hi
     ·rename_i j hj
      split at hi
      ·cases hi
       rw [oM hj hr]; exact hrec _ _ _ hh
      ·cases hi
     ·cases hi
  ·rw [if_neg hs] at h
   obtain ⟨q,hq,hq2,hq3⟩:∃ q,(if eN ops k=true then 1 else 2)=q + 1∧(eN ops k=true→q=0)∧q ≠ 2:=by
    by_cases hkk:eN ops k=true
    ·exact ⟨0,by rw [if_pos hkk],fun _=>rfl,by omega⟩
    ·exact ⟨1,by rw [if_neg hkk],fun h=>absurd h hkk,by omega⟩
   rw [hq] at h
   simp only [ba,if_neg hq3] at h
   have h:aS (g2 T g) (bg P .text (dS P o.op) T H nx fun r H' nx'=>(q=0→Sub S H')∧ba P S (C.map fun k=>(l.getD k ⟨none,none,.dead⟩,eM P bp ops k)) (aF T o.dst r) H' nx' K) (ba P S (C.map fun k=>(l.getD k ⟨none,none,.dead⟩,eM P bp ops k)) (aF T o.dst (.tup [])) H nx K):=h
   cases hgv:g2 T g with
   | none=>rw [hgv] at h; exact h.elim
   | some b =>
    rw [hgv] at h
    cases b with
    | false=>exact hrec _ _ _ h
    | true =>
     have h:bg P .text (dS P o.op) T H nx fun r H' nx'=>(q=0→Sub S H')∧ba P S (C.map fun k=>(l.getD k ⟨none,none,.dead⟩,eM P bp ops k)) (aF T o.dst r) H' nx' K:=h
     show dC (vpP P) bp P S o.op (eN ops k) T H nx _
     unfold dC
     rw [if_neg (by rw [hnv]; exact hs)]
     exact eW (mb h) (fun r H nx hh=>⟨fun hkk=>hh.1 (hq2 hkk),hrec _ _ _ hh.2⟩)
theorem sH {P:Program} {bp:Op→Bool} {N:Nat} {rid:Nat} {ops:Array Oper} {l:List Op2} (hl:jQ P N (ops.toList.map (·.dst)) ops.toList=some l) (hmx:sB P bp N ops.toList=true) {T:Tm} {H:Hp} {nx:Nat} {K:CP}
    (h:aG P (.mixS 9 l ((sq P bp ops.toList).map fun k=>(k,eM P bp ops.toList k))) T H nx K):awp P N (.region rid ops true) T H nx K:=by
 unfold sB at hmx
 rw [Bool.and_eq_true] at hmx
 obtain ⟨hld,hok⟩:=hmx
 rcases h with ⟨h9,_⟩ | ⟨T,H,nx,Hf,S,hg,hs,h⟩
 ·exact absurd rfl h9
 ·rw [List.map_map] at h
  rw [List.all_eq_true] at hld
  refine ⟨T,H,nx,Hf,hg,.inr (.inr ⟨_,bp,_,S,mJ P,hok,hs,mZ hl ?_ ?_ _ (ko hok).lt h⟩)⟩
  ·rw [List.all_eq_true]
   intro o ho
   have:=hld o ho
   cases h1:dX o.op with
   | false=>rfl
   | true=>rw [h1] at this; simpa using this
  ·rw [List.all_eq_true]
   intro o ho
   have:=hld o ho
   cases h1:(bp o.op && eI o.op) with
   | false=>rfl
   | true=>rw [h1] at this; simpa using this
theorem eR {P:Program} {N:Nat} (hm:P.follows .mixedOrders=true):∀ (c:Code) (c2:C2) {T:Tm} {H:Hp} {nx:Nat} {K:CP},iH P N c=some c2→aG P c2 T H nx K→awp P N c T H nx K
 | .skip,c2,_,_,_,_,hc,h=>by cases hc; exact h
 | .label _,c2,_,_,_,_,hc,h=>by cases hc; exact h
 | .exit _,c2,_,_,_,_,hc,h=>by cases hc; exact h
 | .ret,c2,_,_,_,_,hc,h=>by cases hc; exact h
 | .region _ ops draw,c2,_,_,_,_,hc,h=>by
  simp only [iH] at hc
  split at hc
  ·rename_i l hl
   cases draw with
   | true =>
    simp only [if_true] at hc
    split at hc
    ·rename_i hmx
     cases hc
     unfold xB at hmx
     rw [Bool.and_eq_true] at hmx
     exact sH hl hmx.2 h
    split at hc
    ·rename_i hmx
     cases hc
     unfold y9 at hmx
     rw [Bool.and_eq_true] at hmx
     obtain ⟨_,hok⟩:=hmx
     rcases h with ⟨h9,T,H,nx,Hf,hg,h⟩ | ⟨T,H,nx,Hf,hg,h⟩
     ·refine ⟨T,H,nx,Hf,hg,.inl ?_⟩
      split at h9
      ·exact absurd rfl h9
      ·rename_i ho
       rw [if_neg ho] at h
       split at h9
       ·rename_i hd
        rw [if_pos hd] at h ⊢
        exact d3 _ _ hl h
       ·rename_i hd
        rw [if_neg hd] at h ⊢
        split at h9
        ·rename_i hd2
         rw [if_pos hd2] at h
         exact ⟨hd2,d3 _ _ hl h⟩
        ·exact absurd rfl h9
     ·exact ⟨T,H,nx,Hf,hg,  .inr (.inl ⟨_,_,mJ P,hok,nA hl _ (qQ hok).lt h⟩)⟩
    ·split at hc
     ·rename_i hmx
      cases hc
      unfold xT at hmx
      rw [Bool.and_eq_true,Bool.and_eq_true] at hmx
      obtain ⟨⟨_,hld⟩,hok⟩:=hmx
      rcases h with ⟨h9,T,H,nx,Hf,hg,h⟩ | ⟨T,H,nx,Hf,S,hg,hs,h⟩
      ·refine ⟨T,H,nx,Hf,hg,.inl ?_⟩
       split at h9
       ·exact absurd rfl h9
       ·rename_i ho
        rw [if_neg ho] at h
        split at h9
        ·rename_i hd
         rw [if_pos hd] at h ⊢
         exact d3 _ _ hl h
        ·rename_i hd
         rw [if_neg hd] at h ⊢
         split at h9
         ·rename_i hd2
          rw [if_pos hd2] at h
          exact ⟨hd2,d3 _ _ hl h⟩
         ·exact absurd rfl h9
      ·rw [List.map_map] at h
       exact ⟨T,H,nx,Hf,hg,.inr (.inr ⟨_,fun _=>false,_,S,mJ P,hok,hs,mZ hl hld (List.all_eq_true.2 fun _ _=>rfl) _ (ko hok).lt h⟩)⟩
     split at hc
     ·rename_i hd
      cases hc
      obtain ⟨T,H,nx,Hf,hg,h⟩:=h
      refine ⟨T,H,nx,Hf,hg,?_⟩
      simp only
      rw [if_pos hd]
      exact .inl (d3 _ _ hl h)
     ·rename_i hd
      split at hc
      ·rename_i hd2
       cases hc
       obtain ⟨T,H,nx,Hf,hg,h⟩:=h
       refine ⟨T,H,nx,Hf,hg,?_⟩
       simp only
       rw [if_neg hd]
       exact .inl ⟨hd2,d3 _ _ hl h⟩
      ·split at hc
       ·rename_i hmx
        cases hc
        exact sH hl hmx h
       ·cases hc
   | false =>
    simp only [Bool.false_eq_true,if_false] at hc
    cases hc
    obtain ⟨T,H,nx,Hf,hg,h⟩:=h
    exact ⟨T,H,nx,Hf,hg,d3 _ _ hl h⟩
  ·cases hc
 | .seq a b,c2,_,_,_,K,hc,h=>by
  simp only [iH] at hc
  split at hc
  ·rename_i a2 b2 ha hb
   cases hc
   refine dE a (eR hm a a2 ha h) (fun e T H nx h=>?_)
   cases e with
   | normal=>exact eR hm b b2 hb h
   | exit i=>exact h
   | ret=>exact h
  ·cases hc
 | .cond c a b,c2,_,_,_,K,hc,h=>by
  simp only [iH] at hc
  split at hc
  ·rename_i a2 b2 ha hb
   cases hc
   simp only [aG,bk] at h
   simp only [awp]
   unfold bf at h ⊢
   split at h
   ·exact ⟨fun hh=>eR hm a a2 ha (h.1 hh),fun hh=>eR hm b b2 hb (h.2 hh)⟩
   ·exact h
  ·cases hc
 | .block id b,c2,_,_,_,K,hc,h=>by
  simp only [iH] at hc
  split at hc
  ·rename_i b2 hb
   cases hc
   exact eR hm b b2 hb h
  ·cases hc
 | .loop b,c2,T,H,nx,K,hc,h=>by
  simp only [iH] at hc
  split at hc
  ·rename_i b2 hb
   cases hc
   obtain ⟨n,h⟩:=h
   refine ⟨n,?_⟩
   induction n generalizing T H nx with
   | zero=>exact h
   | succ n ih =>
    obtain ⟨T',H',nx',Hf,hg,h⟩:=h
    refine ⟨T',H',nx',Hf,hg,dE b (eR hm b b2 hb h) (fun e T H nx h=>?_)⟩
    cases e with
    | normal=>exact ih _ _ _ h
    | exit i=>exact h
    | ret=>exact h
  ·cases hc
 | .rangeFunc g ps a b,c2,T,H,nx,K,hc,h=>by
  simp only [iH] at hc
  split at hc
  case isFalse=>cases hc
  case isTrue hps =>
  split at hc
  ·rename_i a2 b2 ha hb
   cases hc
   obtain ⟨f,caps,h1,h2⟩:=h
   rw [bk] at h1
   show RF P N _ T H nx K
   refine zZ h1 (fun r hr=>?_)
   refine h2 (.oloop r T) (oF r T) (fun args H' nx' K' hH hl hw=>?_)
   refine Yl.of_awp hr hm (fun t ht=>by simpa using List.all_eq_true.1 hps t ht) hH (by simpa using hl) (dE a (eR hm a a2 ha hw) (fun e T2 H2 nx2 h=>?_))
   cases e with
   | normal=>exact ⟨h.1,eR hm b b2 hb h.2⟩
   | exit i=>exact h
   | ret=>exact h
  ·cases hc
 | .scope _,_,_,_,_,_,hc,_=>by cases hc
 | .goto _,_,_,_,_,_,hc,_=>by cases hc
 | .refuse _,_,_,_,_,_,hc,_=>by cases hc
inductive RV where
 | t (n:Nat)
 | c1 (n:Nat)
 | cn (n k:Nat)
structure F2 where
 n:Nat
 res:List RV
 body:C2
def fZ (P:Program):List ResultVar→Option (List RV)
 | []=>some []
 | .tmp t :: l=>match fZ P l with | some l=>some (.t t :: l) | none=>none
 | .cell a t :: l=>if tok P t=true then (match fZ P l with
  | some l=>if lz P t=true then (if 0 < P.cellsOf t then some (.cn a (P.cellsOf t) :: l) else none) else some (.c1 a :: l)
  | none=>none) else none
def sc (P:Program) (fn:Func):Option F2 :=
 match fn.body with
 | some c=>if fn.name == "runtime.NumGoroutine" then none else match iH P fn.ntmps c,fZ P fn.results.toList with
  | some b,some r=>some ⟨fn.ntmps,r,b⟩
  | _,_=>none
 | none=>none
def rv (T:Tm) (H:Hp):RV→Option AV
 | .t n=>some (T n)
 | .c1 n=>rd1 H (T n)
 | .cn n k=>(rd H k (T n)).map .agg
def uk (T:Tm) (H:Hp):List RV→(List AV→Prop)→Prop
 | [],K=>K []
 | a :: l,K=>aE (rv T H a) fun x=>uk T H l fun xs=>K (x :: xs)
def br (T:Tm) (H:Hp) (K:AV→Prop):List RV→Prop
 | [a]=>aE (rv T H a) K
 | [a,b]=>aE (rv T H a) fun x=>aE (rv T H b) fun y=>K (.tup [x,y])
 | [a,b,c]=>aE (rv T H a) fun x=>aE (rv T H b) fun y=>aE (rv T H c) fun z=>K (.tup [x,y,z])
 | []=>K (.tup [])
 | a :: b :: c :: d :: l=>uk T H (a :: b :: c :: d :: l) fun xs=>K (.tup xs)
theorem mh {P:Program} {T:Tm} {H:Hp} {r:ResultVar} {l:List ResultVar} {x:RV} {xs:List RV} {v:AV} (h:fZ P (r :: l)=some (x :: xs)) (hv:rv T H x=some v) :
    fZ P l=some xs∧g8 P T H (r :: l)=(match g8 P T H l with | some ys=>some (v :: ys) | none=>none):=by
 cases r with
 | tmp t =>
  simp only [fZ] at h
  split at h
  ·rename_i ys hy
   cases h
   cases hv
   exact ⟨hy,rfl⟩
  ·cases h
 | cell a t =>
  simp only [fZ] at h
  split at h
  ·rename_i h1
   split at h
   ·rename_i ys hy
    split at h
    ·rename_i h2
     split at h
     ·rename_i h3
      cases h
      refine ⟨hy,?_⟩
      simp only [rv] at hv
      simp only [g8,fV,h1,h2,if_true,if_pos h3,hv]
      cases g8 P T H l <;> rfl
     ·cases h
    ·rename_i h2
     cases h
     refine ⟨hy,?_⟩
     simp only [rv] at hv
     simp only [g8,fV,h1,h2,if_true,hv]
     cases g8 P T H l <;> rfl
   ·cases h
  ·cases h
theorem f9 {P:Program} {l:List ResultVar} (h:fZ P l=some []):l=[]:=by
 cases l with
 | nil=>rfl
 | cons r l =>
  cases r with
  | tmp t=>simp only [fZ] at h; split at h <;> cases h
  | cell a t =>
   simp only [fZ] at h
   split at h
   ·split at h
    ·split at h
     ·split at h <;> cases h
     ·cases h
    ·cases h
   ·cases h
theorem dJ {P:Program} {l:List ResultVar} {x:RV} {xs:List RV} (h:fZ P l=some (x :: xs)):∃ r l',l=r :: l':=by
 cases l with
 | nil=>cases h
 | cons r l=>exact ⟨r,l,rfl⟩
theorem sM {P:Program} {T:Tm} {H:Hp}:∀ {r:List RV} {l:List ResultVar} {K:List AV→Prop},fZ P l=some r→uk T H r K→∃ xs,g8 P T H l=some xs∧xs.length=r.length∧K xs
 | [],l,K,h,hk=>by
  have:=f9 h; subst this; exact ⟨[],rfl,rfl,hk⟩
 | a :: r,l,K,h,hk=>by
  obtain ⟨r1,l1,rfl⟩:=dJ h
  have hk:aE (rv T H a) fun x=>uk T H r fun xs=>K (x :: xs):=hk
  cases hv:rv T H a with
  | none=>rw [hv] at hk; exact hk.elim
  | some v =>
   rw [hv] at hk
   obtain ⟨h1,e1⟩:=mh h hv
   obtain ⟨xs,h2,h3,h4⟩:=sM h1 hk
   exact ⟨v :: xs,by rw [e1,h2],by simp [h3],h4⟩
theorem xh {P:Program} {T:Tm} {H:Hp} {K:AV→Prop} {l:List ResultVar} {r:List RV} (h:fZ P l=some r) (hk:br T H K r):aE (jp P T H l) K:=by
 have one:∀ {x:RV} {K':AV→Prop},aE (rv T H x) K'→∃ v,rv T H x=some v∧K' v:=by
  intro x K' h
  cases hv:rv T H x with
  | none=>rw [hv] at h; exact h.elim
  | some v=>rw [hv] at h; exact ⟨v,rfl,h⟩
 rcases r with _ | ⟨a,_ | ⟨b,_ | ⟨c,_ | ⟨d,r⟩⟩⟩⟩
 ·have:=f9 h; subst this; exact hk
 ·obtain ⟨r1,l1,rfl⟩:=dJ h
  obtain ⟨v,hv,hk⟩:=one hk
  obtain ⟨h1,e1⟩:=mh h hv
  have:=f9 h1; subst this
  simp only [jp,e1,g8]; exact hk
 ·obtain ⟨r1,l1,rfl⟩:=dJ h
  obtain ⟨v,hv,hk⟩:=one hk
  obtain ⟨h1,e1⟩:=mh h hv
  obtain ⟨r2,l2,rfl⟩:=dJ h1
  obtain ⟨v2,hv2,hk⟩:=one hk
  obtain ⟨h2,e2⟩:=mh h1 hv2
  have:=f9 h2; subst this
  simp only [jp,e1,e2,g8]; exact hk
 ·obtain ⟨r1,l1,rfl⟩:=dJ h
  obtain ⟨v,hv,hk⟩:=one hk
  obtain ⟨h1,e1⟩:=mh h hv
  obtain ⟨r2,l2,rfl⟩:=dJ h1
  obtain ⟨v2,hv2,hk⟩:=one hk
  obtain ⟨h2,e2⟩:=mh h1 hv2
  obtain ⟨r3,l3,rfl⟩:=dJ h2
  obtain ⟨v3,hv3,hk⟩:=one hk
  obtain ⟨h3,e3⟩:=mh h2 hv3
  have:=f9 h3; subst this
  simp only [jp,e1,e2,e3,g8]; exact hk
 ·have hk:uk T H (a :: b :: c :: d :: r) fun xs=>K (.tup xs):=hk
  obtain ⟨xs,h1,h2,h3⟩:=sM h hk
  unfold jp
  rw [h1]
  rcases xs with _ | ⟨x,_ | ⟨y,xs⟩⟩
  ·simp at h2
  ·simp at h2
  ·exact h3
structure Is (P:Program) (f:FuncId) (F:F2):Prop where
 out:∃ fn,P.funcs[f]?=some fn∧sc P fn=some F
theorem Is.mk' {P:Program} {f:FuncId} {F:F2} {fn:Func} (h1:P.funcs[f]?=some fn) (h2:sc P fn=some F):Is P f F:=⟨fn,h1,h2⟩
theorem Is.cok {P:Program} {f:FuncId} {F:F2} (h:Is P f F):cok P f=true:=by
 obtain ⟨fn,h1,h2⟩:=h.out
 unfold sc at h2
 split at h2
 ·rename_i c hc
  split at h2
  ·cases h2
  ·rename_i hn
   unfold Go.Abs.cok
   simp only [h1,hc,Option.isSome_some,Bool.true_and,Bool.not_eq_true']
   simpa using hn
 ·cases h2
theorem Is.bodyOk {P:Program} {f:FuncId} {F:F2} (h:Is P f F) (hm:P.follows .mixedOrders=true) {args:List AV} {H:Hp} {nx:Nat} {K:AV→Hp→Nat→Prop} (hl:args.length ≤ F.n)
    (hb:aG P F.body (T0 args) H nx fun e T H nx=>aR e.ends (br T H (fun x=>K x H nx) F.res)):∃ fn,P.funcs[f]?=some fn∧oU P fn args H nx K:=by
 obtain ⟨fn,h1,h2⟩:=h.out
 refine ⟨fn,h1,?_⟩
 unfold sc at h2
 split at h2
 ·rename_i c hc
  split at h2
  ·cases h2
  ·split at h2
   ·rename_i b r hb' hr
    cases h2
    exact ⟨c,hc,hl,dE c (eR hm c b hb' hb) (fun e T H nx hh=>⟨hh.1,xh hr hh.2⟩)⟩
   ·cases h2
 ·cases h2
theorem Pure.of_c2 {P:Program} {f:FuncId} {F:F2} {args:List AV} {r:AV} (hm:P.follows .mixedOrders=true) (hf:Is P f F) (hl:args.length ≤ F.n)
    (hb:aG P F.body (T0 args) a9 0 fun e T H nx=>aR e.ends (br T H (fun x=>Snap H x r) F.res)):Pure P f args r:=by
 obtain ⟨fn,h1,h2⟩:=hf.bodyOk hm (K:=fun x H nx=>Snap H x r) hl hb
 exact Pure.of_body hm h1 hf.cok h2
theorem Fn.of_c2 {P:Program} {f:FuncId} {F:F2} {args:List AV} {H:Hp} {nx:Nat} {K:AV→Hp→Nat→Prop} (hm:P.follows .mixedOrders=true) (hf:Is P f F) (hl:args.length ≤ F.n)
    (hb:aG P F.body (T0 args) H nx fun e T H nx=>aR e.ends (br T H (fun x=>K x H nx) F.res)):Fn P f args H nx K:=by
 obtain ⟨fn,h1,h2⟩:=hf.bodyOk hm (K:=K) hl hb
 exact Fn.of_body hm h1 hf.cok h2
theorem fw.of_c2 {P:Program} {f:FuncId} {F:F2} {args:List AV} {r:AV} (hm:P.follows .mixedOrders=true) (hf:Is P f F) (hl:args.length ≤ F.n)
    (hb:aG P F.body (T0 args) a9 0 fun e T H nx=>aR e.ends (br T H (fun x=>SnapF H x r) F.res)):fw P f args r :=
 fw.of_fn (Fn.of_c2 hm hf hl hb)
end Go.Abs
namespace Go.Abs
open Go.RowKit
theorem wr {i:Ins} {T:Tm} {H:Hp} {nx:Nat} {K K':AV→Hp→Nat→Prop} (h:isp i T H nx K) (hK:∀ r H nx,K r H nx→K' r H nx):isp i T H nx K':=by
 cases i <;> first | exact h | skip
 ·exact ⟨h.1,hK _ _ _ h.2⟩
 ·obtain ⟨b,ks,vs,r,h1,h2,h3,h4,h5⟩:=h; exact ⟨b,ks,vs,r,h1,h2,h3,h4,hK _ _ _ h5⟩
 ·obtain ⟨b,ks,vs,r,h1,h2,h3,h4,h5⟩:=h; exact ⟨b,ks,vs,r,h1,h2,h3,h4,hK _ _ _ h5⟩
 ·obtain ⟨b,ks,vs,h1,h2,h3⟩:=h; exact ⟨b,ks,vs,h1,h2,hK _ _ _ h3⟩
 ·obtain ⟨b,ks,vs,h1,h2,h3⟩:=h; exact ⟨b,ks,vs,h1,h2,hK _ _ _ h3⟩
 ·obtain ⟨b,m,n0,seen,ks,vs,h1,h2,h3,hn,h4,h5⟩:=h; exact ⟨b,m,n0,seen,ks,vs,h1,h2,h3,hn,fun i hi hs=>hK _ _ _ (h4 i hi hs),fun h=>hK _ _ _ (h5 h)⟩
 ·obtain ⟨b,m,n0,i,seen,ks,vs,h1,h2,h3,h4,h5,h6,h7⟩:=h; exact ⟨b,m,n0,i,seen,ks,vs,h1,h2,h3,h4,h5,h6,hK _ _ _ h7⟩
 ·obtain ⟨n,H',h1,h2⟩:=h; exact ⟨n,H',h1,hK _ _ _ h2⟩
 ·obtain ⟨H',h1,h2⟩:=h; exact ⟨H',h1,hK _ _ _ h2⟩
 ·obtain ⟨b,n,off,cs,h1,h2,h3,h4,h5⟩:=h; exact ⟨b,n,off,cs,h1,h2,h3,h4,hK _ _ _ h5⟩
 ·obtain ⟨k,h1,h2⟩:=h; exact ⟨k,h1,fun h=>hK _ _ _ (h2.1 h),fun h=>⟨hK _ _ _ (h2.2 h).1,hK _ _ _ (h2.2 h).2⟩⟩
 ·obtain ⟨bs,h1,h2,h3⟩:=h; exact ⟨bs,h1,fun h=>hK _ _ _ (h2 h),fun h=>hK _ _ _ (h3 h)⟩
 ·obtain ⟨n,bs,h1,h2⟩:=h; exact ⟨n,bs,h1,hK _ _ _ h2⟩
 ·obtain ⟨b,ks,vs,r,h1,h2,h3,h4,h5⟩:=h; exact ⟨b,ks,vs,r,h1,h2,h3,h4,hK _ _ _ h5⟩
 ·obtain ⟨b,ks,vs,i,h1,h2,h3,h4,h5⟩:=h; exact ⟨b,ks,vs,i,h1,h2,h3,h4,hK _ _ _ h5⟩
theorem iz {P:Program} {dm:DM} {i:Ins} {T:Tm} {H:Hp} {nx:Nat} {K K':AV→Hp→Nat→Prop} (h:bg P dm i T H nx K) (hK:∀ r H nx,K r H nx→K' r H nx):bg P dm i T H nx K':=by
 unfold bg at h ⊢
 split at h
 ·exact ⟨h.1,iY (fun a=>hK _ _ _) h.2⟩
 ·exact ⟨h.1,iY (fun a=>hK _ _ _) h.2⟩
 ·split at h
  ·rcases h with h | ⟨h1,⟨b,h2,h3⟩ | ⟨g,fs,h2,h3⟩⟩
   ·left
    refine iY (fun b=>?_) h
    intro h
    cases hd:dm.isText with
    | false=>rw [hd] at h; obtain ⟨r,h1,h3⟩:=h; exact ⟨r,h1,hK _ _ _ h3⟩
    | true=>rw [hd] at h; exact Fn.mono h hK
   ·exact .inr ⟨h1,.inl ⟨b,h2,h3.mono hK⟩⟩
   ·exact .inr ⟨h1,.inr ⟨g,fs,h2,h3.mono hK⟩⟩
  ·exact h
 ·exact ⟨h.1,wr h.2 hK⟩
theorem eg {P:Program} {dm:DM} {K K':SP} (hK:∀ T H nx,K T H nx→K' T H nx):∀ (l:List Op2) {T:Tm} {H:Hp} {nx:Nat},al P dm l T H nx K→al P dm l T H nx K'
 | [],_,_,_,h=>hK _ _ _ h
 | o :: l,T,H,nx,h=>by
  have h:aS (g2 T o.g) (bg P dm o.i T H nx fun r H nx=>al P dm l (aF T o.d r) H nx K) (al P dm l (aF T o.d (.tup [])) H nx K):=h
  show aS (g2 T o.g) (bg P dm o.i T H nx fun r H nx=>al P dm l (aF T o.d r) H nx K') (al P dm l (aF T o.d (.tup [])) H nx K')
  cases hg:g2 T o.g with
  | none=>rw [hg] at h; exact h.elim
  | some b =>
   rw [hg] at h
   cases b with
   | true =>
    have h:bg P dm o.i T H nx fun r H nx=>al P dm l (aF T o.d r) H nx K:=h
    exact iz h (fun _ _ _ hh=>eg hK l hh)
   | false=>exact eg hK l h
theorem dQ {P:Program} {S:Hp} {K K':SP} (hK:∀ T H nx,K T H nx→K' T H nx):∀ (l:List (Op2 × Nat)) {T:Tm} {H:Hp} {nx:Nat},ba P S l T H nx K→ba P S l T H nx K'
 | [],_,_,_,h=>hK _ _ _ h
 | (o,0) :: l,T,H,nx,h=>by
  simp only [ba] at h ⊢
  cases hg:g2 T o.g with
  | none=>rw [hg] at h; exact h.elim
  | some b =>
   rw [hg] at h
   cases b with
   | true =>
    have h:aE (aX T S o.i) fun r=>ba P S l (aF T o.d r) H nx K:=h
    show aE (aX T S o.i) fun r=>ba P S l (aF T o.d r) H nx K'
    obtain ⟨r,hr,hh⟩:=b0 h
    rw [hr]; exact dQ hK l hh
   | false=>exact dQ hK l h
 | (o,k + 1) :: l,T,H,nx,h=>by
  simp only [ba] at h ⊢
  cases hg:g2 T o.g with
  | none=>rw [hg] at h; exact h.elim
  | some b =>
   rw [hg] at h
   cases b with
   | true =>
    have h:if k=2 then aE (nr T o.i) fun r=>ba P S l (aF T o.d r) H nx K else bg P .text o.i T H nx fun r H' nx'=>(k=0→Sub S H')∧ba P S l (aF T o.d r) H' nx' K:=h
    show if k=2 then aE (nr T o.i) fun r=>ba P S l (aF T o.d r) H nx K' else bg P .text o.i T H nx fun r H' nx'=>(k=0→Sub S H')∧ba P S l (aF T o.d r) H' nx' K'
    split
    ·rename_i hk
     rw [if_pos hk] at h
     obtain ⟨r,hr,hh⟩:=b0 h
     rw [hr]; exact dQ hK l hh
    ·rename_i hk
     rw [if_neg hk] at h
     exact iz h (fun _ _ _ hh=>⟨hh.1,dQ hK l hh.2⟩)
   | false=>exact dQ hK l h
theorem b7 {P:Program}:∀ (c:C2) {T:Tm} {H:Hp} {nx:Nat} {K K':CP},aG P c T H nx K→(∀ e T H nx,K e T H nx→K' e T H nx)→aG P c T H nx K'
 | .skip,_,_,_,_,_,h,hK=>hK _ _ _ _ h
 | .exit _,_,_,_,_,_,h,hK=>hK _ _ _ _ h
 | .ret,_,_,_,_,_,h,hK=>hK _ _ _ _ h
 | .ops m l,_,_,_,_,_,h,hK=>let ⟨T,H,nx,Hf,hg,h⟩:=h; ⟨T,H,nx,Hf,hg,eg (hK .normal) l h⟩
 | .mix m l C,_,_,_,_,_,h,hK=>h.imp (fun ⟨h9,T,H,nx,Hf,hg,h⟩=>⟨h9,T,H,nx,Hf,hg,eg (hK .normal) l h⟩) (fun ⟨T,H,nx,Hf,hg,h⟩=>⟨T,H,nx,Hf,hg,eg (hK .normal) _ h⟩)
 | .mixS m l C,_,_,_,_,_,h,hK=>h.imp (fun ⟨h9,T,H,nx,Hf,hg,h⟩=>⟨h9,T,H,nx,Hf,hg,eg (hK .normal) l h⟩) (fun ⟨T,H,nx,Hf,S,hg,hs,h⟩=>⟨T,H,nx,Hf,S,hg,hs,dQ (hK .normal) _ h⟩)
 | .seq x y,_,_,_,K,K',h,hK=>by
  refine b7 x h (fun e T H nx h=>?_)
  cases e with
  | normal=>exact b7 y h hK
  | exit i=>exact hK _ _ _ _ h
  | ret=>exact hK _ _ _ _ h
 | .cond c x y,T,H,nx,K,K',h,hK=>by
  simp only [aG] at h ⊢
  unfold bf at h ⊢
  split at h
  ·exact ⟨fun hb=>b7 x (h.1 hb) hK,fun hb=>b7 y (h.2 hb) hK⟩
  ·exact h
 | .block id b,_,_,_,_,_,h,hK=>b7 b h (fun e T H nx h=>hK _ _ _ _ h)
 | .loop b,T,H,nx,K,K',h,hK=>by
  obtain ⟨n,h⟩:=h
  refine ⟨n,?_⟩
  induction n generalizing T H nx with
  | zero=>exact h
  | succ n ih =>
   obtain ⟨T',H',nx',Hf,hw,h⟩:=h
   refine ⟨T',H',nx',Hf,hw,b7 b h (fun e T H nx h=>?_)⟩
   cases e with
   | normal=>exact ih _ _ _ h
   | exit i=>exact hK _ _ _ _ h
   | ret=>exact hK _ _ _ _ h
 | .rangeF g ps a b,T,H,nx,K,K',h,hK=>by
  obtain ⟨f,caps,h1,h2⟩:=h
  refine ⟨f,caps,h1,fun c0 cj hy=>Fn.mono (h2 c0 cj hy) ?_⟩
  rintro r H' nx' (⟨k1,k2⟩ | ⟨e,k1,k2,k3⟩)
  ·exact .inl ⟨k1,hK _ _ _ _ k2⟩
  ·exact .inr ⟨e,k1,k2,hK _ _ _ _ k3⟩
theorem uZ {P:Program} {b:C2} {T:Tm} {H:Hp} {nx:Nat} {K:CP} {X:Type} (TT:X→Tm) (HH:X→Hp) (NX:X→Nat) (φ:X→Prop) (μ:X→Nat)
    (start:∃ x,φ x∧∃ Hf,Gh T H nx (TT x) (HH x) (NX x) Hf)
    (step:∀ x,φ x→aG P b (TT x) (HH x) (NX x) fun e T H nx=>aN e (∃ y,φ y∧μ y < μ x∧∃ Hf,Gh T H nx (TT y) (HH y) (NX y) Hf) (K e T H nx)):bc (aG P b) T H nx K:=by
 have key:∀ n x T H nx,μ x < n→φ x→(∃ Hf,Gh T H nx (TT x) (HH x) (NX x) Hf)→kG (aG P b) K n T H nx:=by
  intro n
  induction n with
  | zero=>intro x T H nx h; omega
  | succ n ih =>
   intro x T H nx hn hx ⟨Hf,hg⟩
   refine ⟨_,_,_,Hf,hg,b7 b (step x hx) (fun e T H nx h=>?_)⟩
   cases e with
   | normal =>
    obtain ⟨y,h1,h2,h3⟩:=h
    exact ih y T H nx (by omega) h1 h3
   | exit i=>exact h
   | ret=>exact h
 obtain ⟨x,hx,hg⟩:=start
 exact ⟨_,key _ x T H nx (Nat.lt_succ_self _) hx hg⟩
def tl:List (Nat × AV)→Tm
 | [],_=>.undef
 | (d,v) :: l,t=>if t=d then v else tl l t
def agr (T:Tm):List (Nat × AV)→Prop
 | []=>True
 | (d,v) :: l=>T d=v∧agr T l
theorem m8 {T:Tm}:∀ {l:List (Nat × AV)},agr T l→∀ t,tl l t=.undef ∨ tl l t=T t
 | [],_,t=>.inl rfl
 | (d,v) :: l,h,t=>by
  simp only [tl]
  split
  ·rename_i e; subst e; exact .inr h.1.symm
  ·exact m8 h.2 t
theorem Gh.weak {T T':Tm} {H:Hp} {nx:Nat} (h:∀ t,T' t=.undef ∨ T' t=T t):Gh T H nx T' H nx a9 :=
 ⟨fun _ _ h=>(by cases h),Nat.le_refl _,fun b cs h=>.inl ⟨cs,h,rfl,rfl,fun i x x' h1 h2=>.inl (by rw [h1] at h2; cases h2; rfl)⟩,fun t=>(h t).imp id .inl⟩
theorem vW {P:Program} {b:C2} {T:Tm} {H:Hp} {nx:Nat} {K:CP} {X:Type} (L:X→List (Nat × AV)) (φ:X→Prop) (μ:X→Nat) (x0:X)
    (h0:φ x0) (hT:agr T (L x0))
    (step:∀ x,φ x→aG P b (tl (L x)) H nx fun e T H' nx'=>aN e (∃ y,φ y∧μ y < μ x∧agr T (L y)∧H'=H∧nx'=nx) (K e T H' nx')):bc (aG P b) T H nx K:=by
 refine uZ (fun x=>tl (L x)) (fun _=>H) (fun _=>nx) φ μ ⟨x0,h0,_,Gh.weak (m8 hT)⟩ (fun x hx=>b7 b (step x hx) (fun e T H' nx' h=>?_))
 cases e with
 | normal =>
  obtain ⟨y,h1,h2,h3,rfl,rfl⟩:=h
  exact ⟨y,h1,h2,_,Gh.weak (m8 h3)⟩
 | exit i=>exact h
 | ret=>exact h
@[congr] theorem aloop_congr {b:Tm→Hp→Nat→CP→Prop} {T:Tm} {H:Hp} {nx nx':Nat} {K:CP} (h:nx=nx'):bc b T H nx K=bc b T H nx' K:=by rw [h]
@[congr] theorem awp2_congr {P P':Program} {c:C2} {T:Tm} {H:Hp} {nx:Nat} {K:CP} (h:P=P'):aG P c T H nx K=aG P' c T H nx K:=by rw [h]
@[congr] theorem aops2_congr {P P':Program} {dm:DM} {l:List Op2} {T:Tm} {H:Hp} {nx:Nat} {K:SP} (h:P=P'):al P dm l T H nx K=al P' dm l T H nx K:=by rw [h]
@[congr] theorem ains_congr {P P':Program} {dm:DM} {i:Ins} {T:Tm} {H:Hp} {nx:Nat} {K:AV→Hp→Nat→Prop} (h:P=P'):bg P dm i T H nx K=bg P' dm i T H nx K:=by rw [h]
theorem xl {k:IntKind} {a b:Int} {tb tf:Bool}:aU .lss tb tf (.int k a) (.int k b)=some (.bool (decide (a < b))):=by simp [aU,dy]
theorem xj {k:IntKind} {a b:Int} {tb tf:Bool}:aU .leq tb tf (.int k a) (.int k b)=some (.bool (decide (a ≤ b))):=by simp [aU,dy]
theorem wP {k:IntKind} {a b:Int} {tb tf:Bool}:aU .gtr tb tf (.int k a) (.int k b)=some (.bool (decide (a > b))):=by simp [aU,dy]
theorem xo {k:IntKind} {a b:Int} {tb tf:Bool}:aU .geq tb tf (.int k a) (.int k b)=some (.bool (decide (a ≥ b))):=by simp [aU,dy]
theorem xc {k:IntKind} {a b:Int} {tb tf:Bool}:aU .eql tb tf (.int k a) (.int k b)=some (.bool (decide (a=b))):=by
 simp only [aU,dy]; simp; by_cases h:a=b <;> simp [h]
theorem wJ {k:IntKind} {a b:Int} {tb tf:Bool}:aU .neq tb tf (.int k a) (.int k b)=some (.bool (decide (a ≠ b))):=by
 simp [aU,dy,bne]; rfl
theorem xb {k:IntKind} {a b:Int} {tb tf:Bool}:aU .add tb tf (.int k a) (.int k b)=some (.int k (k.wrap (a + b))):=by simp [aU,dy]
theorem xi {k:IntKind} {a b:Int} {tb tf:Bool}:aU .sub tb tf (.int k a) (.int k b)=some (.int k (k.wrap (a - b))):=by simp [aU,dy]
theorem wT {k:IntKind} {a b:Int} {tb tf:Bool}:aU .mul tb tf (.int k a) (.int k b)=some (.int k (k.wrap (a * b))):=by simp [aU,dy]
theorem mX {a:Int} (h1:-9223372036854775808 ≤ a) (h2:a ≤ 9223372036854775807):IntKind.wrap .i64 a=a:=by
 rw [IntKind.wrap_i64]; omega
end Go.Abs
namespace Go.Abs
open Go.RowKit
variable {P:Program} {T:Tm} {H:Hp} {nx:Nat}
theorem yu {K:CP} (h:K .normal T H nx):aG P .skip T H nx K:=h
theorem yC {K:CP} {i:Nat} (h:K (.exit i) T H nx):aG P (.exit i) T H nx K:=h
theorem AH {K:CP} (h:K .ret T H nx):aG P .ret T H nx K:=h
theorem yr {K:CP} {l:List Op2} (h:al P .text l T H nx fun T H nx=>K .normal T H nx):aG P (.ops 0 l) T H nx K:=⟨T,H,nx,_,Gh.refl _ _ _,h⟩
theorem o7 {K:CP} {l:List Op2} {C:List Nat} (h:al P .draw l T H nx fun T H nx=>K .normal T H nx):aG P (.mix 1 l C) T H nx K:=.inl ⟨by decide,T,H,nx,_,Gh.refl _ _ _,h⟩
theorem jV {K:CP} {l:List Op2} {C:List Nat} (h:al P (.fresh nx) l T H nx fun T H nx=>K .normal T H nx):aG P (.mix 2 l C) T H nx K:=.inl ⟨by decide,T,H,nx,_,Gh.refl _ _ _,h⟩
theorem wV {K:CP} {l:List Op2} {C:List (Nat × Nat)} (h:al P .draw l T H nx fun T H nx=>K .normal T H nx):aG P (.mixS 1 l C) T H nx K:=.inl ⟨by decide,T,H,nx,_,Gh.refl _ _ _,h⟩
theorem wI {K:CP} {l:List Op2} {C:List (Nat × Nat)} (h:al P (.fresh nx) l T H nx fun T H nx=>K .normal T H nx):aG P (.mixS 2 l C) T H nx K:=.inl ⟨by decide,T,H,nx,_,Gh.refl _ _ _,h⟩
theorem pi (S:Hp) {K:CP} {m:Nat} {l:List Op2} {alt:List (Op2 × Nat)} {C:List (Nat × Nat)} (ha:(C.map fun k=>(l.getD k.1 ⟨none,none,.dead⟩,k.2))=alt) (hs:Sub S H) (h:ba P S alt T H nx fun T H nx=>K .normal T H nx):aG P (.mixS m l C) T H nx K:=by
 subst ha
 exact .inr ⟨T,H,nx,_,S,Gh.refl _ _ _,hs,h⟩
theorem xD {S:Hp} {K:SP} (h:K T H nx):ba P S [] T H nx K:=h
theorem An {S:Hp} {K:SP} {l:List (Op2 × Nat)} {d:Option Nat} {i:Ins} {r:AV} (h:aX T S i=some r) (k:ba P S l (aF T d r) H nx K):ba P S ((⟨d,none,i⟩,0) :: l) T H nx K:=by
 show aE (aX T S i) fun r=>ba P S l (aF T d r) H nx K
 rw [h]; exact k
theorem zA {S:Hp} {K:SP} {l:List (Op2 × Nat)} {d:Option Nat} {len:Nat} {z cs:List AV} {parts:List (Nat × Nat × Opd)} {pv:List (Nat × Nat × AV)} (hp:parts.map (fun p=>(p.1,p.2.1,ov T p.2.2))=pv) (hc:cL (aZ (.agg z) len) pv=some cs) (hl:len ≠ 0) (hn:cs.length=len) (ho:cs.all AV.one=true)
    (k:ba P S l (aF T d (.sl 1 cs)) H nx K):ba P S ((⟨d,none,.bldS 1 len z parts⟩,3) :: l) T H nx K:=by
 show aE (nr T (.bldS 1 len z parts)) _
 have:nr T (.bldS 1 len z parts)=some (.sl 1 cs):=by
  simp only [nr,ec,hl,if_false,hp,hc,lV,am,if_true,hn]
  rw [if_pos ⟨trivial,hl,ho⟩]
 rw [this]; exact k
theorem fF {S:Hp} {K:SP} {l:List (Op2 × Nat)} {d:Option Nat} {i:Ins} (k:al P .text [⟨d,none,i⟩] T H nx fun T H nx=>Sub S H∧ba P S l T H nx K):ba P S ((⟨d,none,i⟩,1) :: l) T H nx K:=by
 have k:bg P .text i T H nx fun r H nx=>Sub S H∧ba P S l (aF T d r) H nx K:=k
 show bg P .text i T H nx fun r H' nx'=>(0=0→Sub S H')∧ba P S l (aF T d r) H' nx' K
 exact iz k (fun _ _ _ h=>⟨fun _=>h.1,h.2⟩)
theorem gD {S:Hp} {K:SP} {l:List (Op2 × Nat)} {d:Option Nat} {i:Ins} (k:al P .text [⟨d,none,i⟩] T H nx fun T H nx=>ba P S l T H nx K):ba P S ((⟨d,none,i⟩,2) :: l) T H nx K:=by
 have k:bg P .text i T H nx fun r H nx=>ba P S l (aF T d r) H nx K:=k
 show bg P .text i T H nx fun r H' nx'=>(1=0→Sub S H')∧ba P S l (aF T d r) H' nx' K
 exact iz k (fun _ _ _ h=>⟨fun hh=>absurd hh (by decide),h⟩)
theorem yV {K:CP} {l:List Op2} (h:al P .draw l T H nx fun T H nx=>K .normal T H nx):aG P (.ops 1 l) T H nx K:=⟨T,H,nx,_,Gh.refl _ _ _,h⟩
theorem yj {K:CP} {l:List Op2} (h:al P (.fresh nx) l T H nx fun T H nx=>K .normal T H nx):aG P (.ops 2 l) T H nx K:=⟨T,H,nx,_,Gh.refl _ _ _,h⟩
theorem d8 {K:CP} {x y:C2} (h:aG P x T H nx fun e T H nx=>aN e (aG P y T H nx K) (K e T H nx)):aG P (.seq x y) T H nx K:=h
theorem du {K:CP} {i:Nat} {b:C2} (h:aG P b T H nx fun e T H nx=>K (gX i e) T H nx):aG P (.block i b) T H nx K:=h
theorem ro {K:CP} {c:Opd} {x y:C2} {b:Bool} (hc:ov T c=.bool b) (h1:b=true→aG P x T H nx K) (h2:b=false→aG P y T H nx K):aG P (.cond c x y) T H nx K:=by
 simp only [aG,hc]; exact ⟨h1,h2⟩
theorem pr {K:CP} {c:Opd} {x y:C2} (hc:ov T c=.bool true) (h1:aG P x T H nx K):aG P (.cond c x y) T H nx K :=
 ro hc (fun _=>h1) (fun h=>by cases h)
theorem pA {K:CP} {c:Opd} {x y:C2} (hc:ov T c=.bool false) (h2:aG P y T H nx K):aG P (.cond c x y) T H nx K :=
 ro hc (fun h=>by cases h) (fun _=>h2)
theorem yv {K:CP} {b:C2} (h:bc (aG P b) T H nx K):aG P (.loop b) T H nx K:=h
theorem a_n {A B:Prop} (h:A):aN .normal A B:=h
theorem a_x {A B:Prop} {i:Nat} (h:B):aN (.exit i) A B:=h
theorem a_r {A B:Prop} (h:B):aN .ret A B:=h
theorem kW {dm:DM} {K:SP} (h:K T H nx):al P dm [] T H nx K:=h
theorem iS {dm:DM} {K:SP} {l:List Op2} {d:Option Nat} {i:Ins} {r:AV} (hi:ic i=.val) (hd:dm2 dm T i=true) (h:aX T H i=some r) (k:al P dm l (aF T d r) H nx K):al P dm (⟨d,none,i⟩ :: l) T H nx K:=by
 show bg P dm i T H nx fun r H nx=>al P dm l (aF T d r) H nx K
 unfold bg; rw [hi]; exact ⟨hd,by rw [h]; exact k⟩
theorem jL {dm:DM} {K:SP} {l:List Op2} {d:Option Nat} {i:Ins} {r:AV} {H':Hp} {nx':Nat} (hi:ic i=.eff) (hd:dm2 dm T i=true) (h:ec T H nx i=some (r,H',nx')) (k:al P dm l (aF T d r) H' nx' K):al P dm (⟨d,none,i⟩ :: l) T H nx K:=by
 show bg P dm i T H nx fun r H nx=>al P dm l (aF T d r) H nx K
 unfold bg; rw [hi]; exact ⟨hd,by rw [h]; exact k⟩
theorem rN {K:SP} {l:List Op2} {d:Option Nat} {f:Opd} {args:List Opd} {g:FuncId} {caps:List AV} (hf:ov T f=.func g caps) (k:Fn P g (args.map (ov T) ++ caps) H nx fun r H nx=>al P .text l (aF T d r) H nx K) :
    al P .text (⟨d,none,.call f args⟩ :: l) T H nx K:=by
 left
 show aE (jy (ov T f)) _
 rw [hf]; exact k
theorem sQ {dm:DM} (hdm:dm.isText=false) {K:SP} {l:List Op2} {d:Option Nat} {f:Opd} {args:List Opd} {g:FuncId} {caps:List AV} (hf:ov T f=.func g caps) (k:aY P g (args.map (ov T) ++ caps) H fun r=>al P dm l (aF T d r) H nx K) :
    al P dm (⟨d,none,.call f args⟩ :: l) T H nx K:=by
 left
 show aE (jy (ov T f)) _
 rw [hf]
 show (match dm.isText with | false=>_ | true=>_)
 rw [hdm]
 exact k
theorem xd {K:SP} {l:List Op2} {d:Option Nat} {f:Opd} {args:List Opd} {b:Nat} {xs:List AV} (hf:ov T f=.yld b) (ha:args.map (ov T)=xs) (k:Yl P b xs H nx fun r H nx=>al P .text l (aF T d r) H nx K) :
    al P .text (⟨d,none,.call f args⟩ :: l) T H nx K:=by
 right
 exact ⟨rfl,.inl ⟨b,hf,by rw [ha]; exact k⟩⟩
theorem oE {K:SP} {l:List Op2} {d:Option Nat} {i:Ins} (hi:ic i=.sp) (k:isp i T H nx fun r H nx=>al P .text l (aF T d r) H nx K):al P .text (⟨d,none,i⟩ :: l) T H nx K:=by
 show bg P .text i T H nx fun r H nx=>al P .text l (aF T d r) H nx K
 unfold bg; rw [hi]; exact ⟨rfl,k⟩
theorem uV {K:SP} {l:List Op2} {d:Option Nat} (k:al P .text l (aF T d (.mp nx)) (am H nx [.omap [] []]) (nx + 1) K):al P .text (⟨d,none,.mkm none⟩ :: l) T H nx K:=oE rfl ⟨.inl rfl,k⟩
theorem uE {K:SP} {l:List Op2} {d:Option Nat} {kk:MK} {m key x:Opd} {b:Nat} {ks vs:List AV} {kv xv:AV} {r:Option Nat} (hm:ov T m=.mp b) (hb:H b=some [.omap ks vs]) (hk:ov T key=kv) (hx:ov T x=xv) (hfit:jd kk kv=true) (hr:cw kk kv ks=some r)
    (k:al P .text l (aF T d (.tup [])) (am H b [.omap (b5 kv r ks) (hZ xv r vs)]) nx K):al P .text (⟨d,none,.mput kk m key x⟩ :: l) T H nx K:=by
 subst hk hx
 exact oE rfl ⟨b,ks,vs,r,hm,hb,hfit,hr,k⟩
theorem i5 {K:SP} {l:List Op2} {d:Option Nat} {kk:MK} {z:AV} {ok:Bool} {m key:Opd} {b:Nat} {ks vs:List AV} {kv:AV} {r:Option Nat} (hm:ov T m=.mp b) (hb:H b=some [.omap ks vs]) (hk:ov T key=kv) (hfit:jd kk kv=true) (hr:cw kk kv ks=some r)
    (k:al P .text l (aF T d (mget z ok r vs)) H nx K):al P .text (⟨d,none,.mget kk z ok m key⟩ :: l) T H nx K:=by
 subst hk
 exact oE rfl ⟨b,ks,vs,r,hm,hb,hfit,hr,k⟩
theorem v7 {K:SP} {l:List Op2} {d:Option Nat} {kk:MK} {z:AV} {m key:Opd} {b:Nat} {ks vs:List AV} {kv:AV} {r:Option Nat} (hm:ov T m=.mp b) (hb:H b=some [.omap ks vs]) (hk:ov T key=kv) (hfit:jd kk kv=true) (hr:cw kk kv ks=some r)
    (k:al P .text l (aF T d (.tup [rh z r vs,.int .i64 (p9 r ks)])) (am H b [.omap (b5 kv r ks) (gM z r vs)]) nx K):al P .text (⟨d,none,.mplc kk z m key⟩ :: l) T H nx K:=by
 subst hk
 exact oE rfl ⟨b,ks,vs,r,hm,hb,hfit,hr,k⟩
theorem uP {K:SP} {l:List Op2} {d:Option Nat} {m s x:Opd} {b i:Nat} {ks vs:List AV} {xv:AV} (hm:ov T m=.mp b) (hb:H b=some [.omap ks vs]) (hi:ov T s=.int .i64 (i:Int)) (hlt:i < ks.length) (hx:ov T x=xv)
    (k:al P .text l (aF T d (.tup [])) (am H b [.omap ks (vs.set i xv)]) nx K):al P .text (⟨d,none,.mpst m s x⟩ :: l) T H nx K:=by
 subst hx
 exact oE rfl ⟨b,ks,vs,i,hm,hb,hi,hlt,k⟩
theorem Au {K:SP} {l:List Op2} {d:Option Nat} {sz n:Nat} {x y:Opd} {H':Hp} (h:iO sz (ov T x) (ov T y) H=some (n,H')) (k:al P .text l (aF T d (.int .i64 n)) H' nx K):al P .text (⟨d,none,.cpy sz x y⟩ :: l) T H nx K:=oE rfl ⟨n,H',h,k⟩
theorem As {K:SP} {l:List Op2} {d:Option Nat} {sz:Nat} {z:AV} {x:Opd} {H':Hp} (h:fJ sz z (ov T x) H=some H') (k:al P .text l (aF T d (.tup [])) H' nx K):al P .text (⟨d,none,.clr sz z x⟩ :: l) T H nx K:=oE rfl ⟨H',h,k⟩
theorem Ba {K:SP} {l:List Op2} {d:Option Nat} {len sz:Nat} {x:Opd} {b n off:Nat} {cs:List AV} (hx:ov T x=.ptr b n off) (hb:H b=some cs) (hn:cs.length=n) (hf:off + len * sz=n) (k:al P .text l (aF T d (.msl b n sz off len)) H nx K):al P .text (⟨d,none,.slp len sz x⟩ :: l) T H nx K:=oE rfl ⟨b,n,off,cs,hx,hb,hn,hf,k⟩
theorem uN {K:SP} {l:List Op2} {d:Option Nat} {neg:Bool} {x:Opd} {k:Nat} (hx:eZ (ov T x)=some k) (h1:0 < k→al P .text l (aF T d (.bool neg)) H nx K) (h2:k=0→al P .text l (aF T d (.bool true)) H nx K) (h3:k=0→al P .text l (aF T d (.bool false)) H nx K):al P .text (⟨d,none,.snil neg x⟩ :: l) T H nx K:=oE rfl ⟨k,hx,h1,fun h=>⟨h2 h,h3 h⟩⟩
theorem qZ {K:CP} {g:Opd} {ps:List Nat} {a b:C2} {f:FuncId} {caps:List AV} (hg:ov T g=.func f caps)
    (h:∀ (c0:AV) (cj:AEx→AV),(∀ (args:List AV) (H':Hp) (nx':Nat) (K':AV→Hp→Nat→Prop),H' nx=some [c0]→args.length=ps.length →
        aG P a (fB T ps args) H' nx' (fun e T2 H2 nx2=>aN e (H2 nx=some [c0]∧aG P b T2 (bN H2 nx) nx2 fun e T3 H3 nx3=>aN e (K' (.bool true) (am H3 nx [c0]) nx3) (K' (.bool false) (am H3 nx [cj e]) nx3)) False) →
        Yl P nx args H' nx' K') →
     Fn P f (.yld nx :: caps) (am H nx [c0]) (nx + 1) fun _ H' nx'=>(H' nx=some [c0]∧K .normal T (bN H' nx) nx') ∨ ∃ e,e ≠ .normal∧H' nx=some [cj e]∧K e T (bN H' nx) nx'):aG P (.rangeF g ps a b) T H nx K:=⟨f,caps,hg,h⟩
theorem yJ {dm:DM} {K:SP} {l:List Op2} {d:Option Nat} {i:Ins} {t:Nat} {w:Bool} (h:T t=.bool w) (k:al P dm (⟨d,none,i⟩ :: l) T H nx K):al P dm (⟨d,some (t,w),i⟩ :: l) T H nx K:=by
 show aS (g2 T (some (t,w))) _ _
 have:g2 T (some (t,w))=some true:=by simp [g2,h]
 rw [this]; exact k
theorem y6 {dm:DM} {K:SP} {l:List Op2} {d:Option Nat} {i:Ins} {t:Nat} {w:Bool} (h:T t=.bool (!w) ∨ T t=.tup []) (k:al P dm l (aF T d (.tup [])) H nx K):al P dm (⟨d,some (t,w),i⟩ :: l) T H nx K:=by
 show aS (g2 T (some (t,w))) _ _
 have:g2 T (some (t,w))=some false:=by
  rcases h with h | h
  ·cases w <;> simp [g2,h]
  ·simp [g2,h]
 rw [this]; exact k
theorem ah {e:AEx} {A:Prop} (he:e.ends=true) (h:A):aR e.ends A:=⟨he,h⟩
theorem r_1 {K:AV→Prop} {a:RV} {x:AV} (ha:rv T H a=some x) (h:K x):br T H K [a]:=by
 show aE (rv T H a) K
 rw [ha]; exact h
theorem r_2 {K:AV→Prop} {a b:RV} {x y:AV} (ha:rv T H a=some x) (hb:rv T H b=some y) (h:K (.tup [x,y])):br T H K [a,b]:=by
 show aE (rv T H a) _
 rw [ha]
 show aE (rv T H b) _
 rw [hb]; exact h
theorem r_3 {K:AV→Prop} {a b c:RV} {x y z:AV} (ha:rv T H a=some x) (hb:rv T H b=some y) (hc:rv T H c=some z) (h:K (.tup [x,y,z])):br T H K [a,b,c]:=by
 show aE (rv T H a) _
 rw [ha]
 show aE (rv T H b) _
 rw [hb]
 show aE (rv T H c) _
 rw [hc]; exact h
theorem rb {T:Tm} {t:Nat} {v:AV} (h:T t=v):upd T t v=T:=by
 funext x; simp only [upd]; split
 ·rename_i e; rw [e,h]
 ·rfl
theorem AG {dm:DM} {K:SP} {l:List Op2} {d:Option Nat} {i:Ins} {t:Nat} {w b:Bool} (h:T t=.bool b) (k1:b=w→al P dm (⟨d,none,i⟩ :: l) (upd T t (.bool w)) H nx K)
    (k2:b=!w→al P dm l (aF (upd T t (.bool (!w))) d (.tup [])) H nx K):al P dm (⟨d,some (t,w),i⟩ :: l) T H nx K:=by
 by_cases hb:b=w
 ·subst hb
  have:=k1 rfl
  rw [rb h] at this
  exact yJ h this
 ·have hb':b=!w:=by cases b <;> cases w <;> simp_all
  subst hb'
  have:=k2 rfl
  rw [rb h] at this
  exact y6 (.inl h) this
theorem qx {α:Type} {f:α→AV} {l:List α} {k:Nat} {u:AV} (d:α) (h:k < l.length):(l.map f).getD k u=f (l.getD k d):=by
 simp [List.getD,h]
theorem vD {c:Prop} [Decidable c] {x:Option AV} {r:AV} (hc:c) (h:x=some r):(if c then x else none)=some r:=by rw [if_pos hc]; exact h
theorem ux {k:IntKind} {n:Int}:AV.cells (.int k n)=[.int k n]:=rfl
end Go.Abs
namespace Go.Abs
open Go.RowKit
def Dat (x:AV):Prop:=∀ H,Snap H x x
theorem Dat.int {k:IntKind} {n:Int}:Dat (.int k n):=fun _=>.int _ _
theorem Dat.bool {b:Bool}:Dat (.bool b):=fun _=>.bool _
theorem Dat.str {s:ByteArray}:Dat (.str s):=fun _=>.str _
theorem Dat.esl:Dat .esl:=fun _=>.esl
theorem Dat.nilp:Dat .nilp:=fun _=>.nilp
theorem Dat.nilf:Dat .nilf:=fun _=>.nilf
theorem Dat.sl {sz:Nat} {l:List AV} (h:∀ x ∈ l,∀ c ∈ x.cells,Dat c):Dat (.sl sz l):=fun H =>
 .sl sz l l rfl (fun i x y hx hy=>by rw [hx] at hy; cases hy; rfl) (fun i j x y a b hx hy ha hb=>by
  rw [hx] at hy; cases hy; rw [ha] at hb; cases hb
  exact h x (List.mem_of_getElem? hx) a (List.mem_of_getElem? ha) H)
theorem Dat.agg {l:List AV} (h:∀ x ∈ l,Dat x):Dat (.agg l):=fun H =>
 .agg l l rfl (fun i a c ha hc=>by rw [ha] at hc; cases hc; exact h a (List.mem_of_getElem? ha) H)
theorem Dat.tup {l:List AV} (h:∀ x ∈ l,Dat x):Dat (.tup l):=fun H =>
 .tup l l rfl (fun i a c ha hc=>by rw [ha] at hc; cases hc; exact h a (List.mem_of_getElem? ha) H)
theorem Dat.func {f:FuncId} {l:List AV} (h:∀ x ∈ l,Dat x):Dat (.func f l):=fun H =>
 .func f l l rfl (fun i a c ha hc=>by rw [ha] at hc; cases hc; exact h a (List.mem_of_getElem? ha) H)
def ce (l:List Int):AV:=.sl 1 (l.map (AV.int .i64))
def d4 (l:List (List Int)):AV:=.sl 1 (l.map ce)
theorem fW (l:List Int):Dat (ce l):=Dat.sl (fun x hx c hc=>by
 obtain ⟨n,_,rfl⟩:=List.mem_map.1 hx
 simp only [AV.cells,List.mem_singleton] at hc; subst hc; exact .int)
theorem nT (l:List (List Int)):Dat (d4 l):=Dat.sl (fun x hx c hc=>by
 obtain ⟨n,_,rfl⟩:=List.mem_map.1 hx
 simp only [ce,AV.cells,List.mem_singleton] at hc; subst hc; exact fW n)
theorem rO {l:List Int}:(ce l).cells=[ce l]:=rfl
theorem ab {H:Hp}:aL H [] []:=aL.nil
theorem ae {H:Hp} {x:AV} {xs ys:List AV} (h:Dat x) (hs:aL H xs ys):aL H (x :: xs) (x :: ys):=aL.cons (h H) hs
class DatI (x:AV):Prop where
 d:Dat x
instance datI_int {k:IntKind} {n:Int}:DatI (.int k n):=⟨.int⟩
instance datI_bool {b:Bool}:DatI (.bool b):=⟨.bool⟩
instance datI_str {s:ByteArray}:DatI (.str s):=⟨.str⟩
instance datI_esl:DatI .esl:=⟨.esl⟩
instance datI_nilf:DatI .nilf:=⟨.nilf⟩
instance datI_encV {l:List Int}:DatI (ce l):=⟨fW l⟩
instance datI_encVV {l:List (List Int)}:DatI (d4 l):=⟨nT l⟩
theorem ag {H:Hp} {x:AV} {xs ys:List AV} [h:DatI x] (hs:aL H xs ys):aL H (x :: xs) (x :: ys):=ae h.d hs
variable {P:Program} {T:Tm} {H:Hp} {nx:Nat}
theorem co {dm:DM} {K:SP} {l:List Op2} {d:Option Nat} {f:Opd} {args:List Opd} {g:FuncId} {caps xs ys:List AV} {r:AV} (hf:ov T f=.func g caps) (ha:args.map (ov T) ++ caps=xs)
    (hp:Pure P g ys r) (hs:aA H xs ys r) (k:al P dm l (aF T d r) H nx K):al P dm (⟨d,none,.call f args⟩ :: l) T H nx K:=by
 subst ha
 cases hd:dm.isText with
 | false=>exact sQ hd hf (aY.of_pure hp hs k)
 | true =>
  cases dm with
  | text=>exact rN hf (Fn.of_pure hp hs k)
  | draw=>cases hd
  | fresh m=>cases hd
theorem xw {dm:DM} {K:SP} {l:List Op2} {d:Option Nat} {f:Opd} {args:List Opd} {g:FuncId} {caps xs ys:List AV} {r:AV} (hf:ov T f=.func g caps) (ha:args.map (ov T) ++ caps=xs)
    (hp:fw P g ys r) (hs:aL H xs ys) (k:al P dm l (aF T d r) H nx K):al P dm (⟨d,none,.call f args⟩ :: l) T H nx K:=by
 subst ha
 have hc:=hp.callOk hs
 cases hd:dm.isText with
 | false=>exact sQ hd hf (aY.of_callOk hc k)
 | true =>
  cases dm with
  | text=>exact rN hf (Fn.of_callOk hc k)
  | draw=>cases hd
  | fresh m=>cases hd
theorem sR {dm:DM} {K:SP} {l:List Op2} {d:Option Nat} {f:Opd} {args:List Opd} {g:FuncId} {caps xs:List AV} {r:AV} (hf:ov T f=.func g caps) (ha:args.map (ov T) ++ caps=xs)
    (hp:Pure P g xs r) (hs:aA H xs xs r) (k:al P dm l (aF T d r) H nx K):al P dm (⟨d,none,.call f args⟩ :: l) T H nx K:=co hf ha hp hs k
theorem ac {xs ys:List AV} {r:AV} {H:Hp} (h:aL a9 xs ys):aA H xs ys r:=.inl h
theorem aa {xs ys:List AV} {r:AV} {H:Hp} (h:aL H xs ys) (hr:r.sca=true):aA H xs ys r:=.inr ⟨h,hr⟩
theorem lZ {α:Type} [Inhabited α] {f:α→AV} {l:List α} {sz:Nat} {k:IntKind} {n:Int}:d7 sz (.sl sz (l.map f)) (.int k n)=if 0 ≤ n∧n < l.length then some (.iptr (f (l.getD n.toNat default)).cells 0) else none:=by
 simp only [d7,true_and,List.length_map]
 split
 ·rename_i h
  rw [qx default (by omega)]
 ·rfl
theorem kg {α:Type} {f:α→AV} {l:List α} {sz:Nat}:cR (.sl sz (l.map f))=some (.int .i64 l.length):=by simp [cR]
theorem s9 {l:List Int} {k:IntKind} {n:Int}:d7 1 (ce l) (.int k n)=if 0 ≤ n∧n < l.length then some (.iptr [.int .i64 (l.getD n.toNat default)] 0) else none:=lZ
theorem rS {l:List (List Int)} {k:IntKind} {n:Int}:d7 1 (d4 l) (.int k n)=if 0 ≤ n∧n < l.length then some (.iptr [ce (l.getD n.toNat default)] 0) else none:=lZ
theorem rZ {l:List Int}:cR (ce l)=some (.int .i64 l.length):=kg
theorem qi {l:List (List Int)}:cR (d4 l)=some (.int .i64 l.length):=kg
end Go.Abs
namespace Go.Abs
theorem SA:(∀ (T:Tm) (n:Nat),ov T (.t n)=T n)∧(∀ (T:Tm) (v:AV),ov T (.c v)=v)∧(∀ (T:Tm) (d t:Nat) (v:AV),upd T d v t=if t=d then v else T t)∧(∀ (T:Tm) (d:Nat) (v:AV),aF T (some d) v=upd T d v) ∧
    (∀ (T:Tm) (v:AV),aF T none v=T)∧(∀ (x:AV) (l:List AV),T0 (x :: l) 0=x)∧(∀ (x:AV) (l:List AV) (n:Nat),T0 (x :: l) (n + 1)=T0 l n)∧(∀ n:Nat,T0 [] n=.undef) ∧
    (∀ (d t:Nat) (v:AV) (l:List (Nat × AV)),tl ((d,v) :: l) t=if t=d then v else tl l t)∧(∀ t:Nat,tl [] t=.undef) ∧
    (∀ (T:Tm) (t:Nat) (ts:List Nat) (x:AV) (xs:List AV),fB T (t :: ts) (x :: xs)=fB (upd T t x) ts xs)∧(∀ (T:Tm) (xs:List AV),fB T [] xs=T) :=
 ⟨fun _ _=>rfl,fun _ _=>rfl,fun _ _ _ _=>rfl,fun _ _ _=>rfl,fun _ _=>rfl,fun _ _=>rfl,fun _ _ _=>rfl,fun _=>rfl,fun _ _ _ _=>rfl,fun _=>rfl,fun _ _ _ _ _=>rfl,fun _ xs=>by cases xs <;> rfl⟩
theorem SV:(∀ (T:Tm) (H:Hp) (x:Opd),aX T H (.mov x)=some (ov T x)) ∧
    (∀ (T:Tm) (H:Hp) (c a b:Opd),aX T H (.pick c a b)=match ov T c with | .bool t=>some (if t=true then ov T a else ov T b) | _=>none) ∧
    (∀ (T:Tm) (H:Hp) (a:Opd),aX T H (.ld1 a)=rd1 H (ov T a))∧(∀ (T:Tm) (H:Hp) (k:Nat) (a:Opd),aX T H (.ldn k a)=(rd H k (ov T a)).map .agg) ∧
    (∀ (T:Tm) (H:Hp) (op:BinOp) (tb tf:Bool) (x y:Opd),aX T H (.bin op tb tf x y)=aU op tb tf (ov T x) (ov T y)) ∧
    (∀ (T:Tm) (H:Hp) (op:UnOp) (x:Opd),aX T H (.un op x)=aun op (ov T x)) ∧
    (∀ (T:Tm) (H:Hp) (f:FuncId) (caps:List Opd),aX T H (.mkfn f caps)=some (.func f (caps.map (ov T)))) ∧
    (∀ (T:Tm) (H:Hp) (k:Nat) (p:Opd),aX T H (.fa k p)=gy k (ov T p)) ∧
    (∀ (T:Tm) (H:Hp) (sz:Nat) (x i:Opd),aX T H (.ixaS sz x i)=d7 sz (ov T x) (ov T i)) ∧
    (∀ (T:Tm) (H:Hp) (x:Opd) (i:Nat),aX T H (.ext x i)=eE (ov T x) i) ∧
    (∀ (T:Tm) (H:Hp) (x:Opd),aX T H (.lenS x)=cR (ov T x)) ∧
    (∀ (T:Tm) (H:Hp) (z:List AV) (parts:List (Nat × Nat × Opd)),aX T H (.bld z parts)=(cL z (parts.map fun p=>(p.1,p.2.1,ov T p.2.2))).map .agg) ∧
    (∀ (T:Tm) (H:Hp) (x:Opd) (l:List Opd),aX T H (.mx x l)=eu jG (ov T x) (l.map (ov T))) ∧
    (∀ (T:Tm) (H:Hp) (x:Opd) (l:List Opd),aX T H (.mn x l)=eu jD (ov T x) (l.map (ov T))) ∧
    (∀ (T:Tm) (H:Hp) (k:IntKind) (x:Opd),aX T H (.conv k x)=jC (ov T x) fun n=>some (.int k (k.wrap n))) ∧
    (∀ (T:Tm) (H:Hp) (sz:Nat) (x:Opd) (lo hi mx:Option Opd),aX T H (.sls sz x lo hi mx)=lN sz (ov T x) (lo.map (ov T)) (hi.map (ov T)) (mx.map (ov T))) ∧
    (∀ (T:Tm) (H:Hp) (off:Nat) (x:Opd),aX T H (.part1 off x)=cg (ov T x) fun cs=>cs[off]?) ∧
    (∀ (T:Tm) (H:Hp) (op:BinOp) (ks:List TK) (x y:Opd),aX T H (.binS op ks x y)=cg (ov T x) fun xs=>cg (ov T y) fun ys=>jk op ks xs ys) :=
 ⟨fun _ _ _=>rfl,fun _ _ _ _ _=>rfl,fun _ _ _=>rfl,fun _ _ _ _=>rfl,fun _ _ _ _ _ _ _=>rfl,fun _ _ _ _=>rfl,fun _ _ _ _=>rfl,fun _ _ _ _=>rfl,fun _ _ _ _ _=>rfl,fun _ _ _ _=>rfl,fun _ _ _=>rfl,
  fun _ _ _ _=>rfl,fun _ _ _ _=>rfl,fun _ _ _ _=>rfl,fun _ _ _ _=>rfl,fun _ _ _ _ _ _ _=>rfl,fun _ _ _ _=>rfl,fun _ _ _ _ _ _=>rfl⟩
def lI:AV→Option AV
 | .str s=>some (.int .i64 s.size)
 | _=>none
def iZ:AV→AV→Option AV
 | .str s,.int _ n=>if 0 ≤ n∧n < s.size then some (.int .u8 (s[n.toNat]?.getD 0).toNat) else none
 | _,_=>none
theorem SV2:(∀ (T:Tm) (H:Hp) (n:Nat) (x:Opd) (lo hi:Option Opd),aX T H (.slsA n x lo hi)=qC n (ov T x) (lo.map (ov T)) (hi.map (ov T)) none) ∧
    (∀ (T:Tm) (H:Hp) (f:FuncId) (l:List Opd),aX T H (.mkbf f l)=some (.bfn f (l.map (ov T)))) ∧
    (∀ (T:Tm) (H:Hp) (x:Opd),aX T H (.lenStr x)=lI (ov T x)) ∧
    (∀ (T:Tm) (H:Hp) (x i:Opd),aX T H (.ixStr x i)=iZ (ov T x) (ov T i)) ∧
    (∀ (T:Tm) (H:Hp) (x:Opd) (lo hi:Option Opd),aX T H (.slstr x lo hi)=pj (ov T x) (lo.map (ov T)) (hi.map (ov T))) ∧
    (∀ (T:Tm) (H:Hp) (off k:Nat) (x:Opd),aX T H (.partn off k x)=cg (ov T x) fun cs=>if off + k ≤ cs.length then some (.agg ((cs.drop off).take k)) else none) ∧
    (∀ (T:Tm) (H:Hp) (n:Nat),aX T H (.lenC n)=some (.int .i64 n)) ∧
    (∀ (s:ByteArray),lI (.str s)=some (.int .i64 s.size)) ∧
    (∀ (s:ByteArray) (k:IntKind) (n:Int),iZ (.str s) (.int k n)=if 0 ≤ n∧n < s.size then some (.int .u8 (s[n.toNat]?.getD 0).toNat) else none) :=
 ⟨fun _ _ _ _ _ _=>rfl,fun _ _ _ _=>rfl,fun T H x=>by
  simp only [aX]
  cases ov T x <;> rfl,fun T H x i=>by
  simp only [aX]
  cases ov T x <;> cases ov T i <;> rfl,fun _ _ _ _ _=>rfl,fun _ _ _ _ _=>rfl,fun _ _ _=>rfl,fun _=>rfl,fun _ _ _=>rfl⟩
theorem SN:(∀ (k:IntKind) (a b:Int) (tb tf:Bool),aU .lss tb tf (.int k a) (.int k b)=some (.bool (decide (a < b))))∧(∀ (k:IntKind) (a b:Int) (tb tf:Bool),aU .leq tb tf (.int k a) (.int k b)=some (.bool (decide (a ≤ b)))) ∧
    (∀ (k:IntKind) (a b:Int) (tb tf:Bool),aU .gtr tb tf (.int k a) (.int k b)=some (.bool (decide (b < a))))∧(∀ (k:IntKind) (a b:Int) (tb tf:Bool),aU .geq tb tf (.int k a) (.int k b)=some (.bool (decide (b ≤ a)))) ∧
    (∀ (k:IntKind) (a b:Int) (tb tf:Bool),aU .eql tb tf (.int k a) (.int k b)=some (.bool (decide (a=b))))∧(∀ (k:IntKind) (a b:Int) (tb tf:Bool),aU .neq tb tf (.int k a) (.int k b)=some (.bool (decide (a ≠ b)))) ∧
    (∀ (k:IntKind) (a b:Int) (tb tf:Bool),aU .add tb tf (.int k a) (.int k b)=some (.int k (k.wrap (a + b))))∧(∀ (k:IntKind) (a b:Int) (tb tf:Bool),aU .sub tb tf (.int k a) (.int k b)=some (.int k (k.wrap (a - b)))) ∧
    (∀ (k:IntKind) (a b:Int) (tb tf:Bool),aU .mul tb tf (.int k a) (.int k b)=some (.int k (k.wrap (a * b)))) ∧
    (∀ (a b:Bool) (tf:Bool),aU .eql true tf (.bool a) (.bool b)=some (.bool (a == b)))∧(∀ (a b:Bool) (tf:Bool),aU .neq true tf (.bool a) (.bool b)=some (.bool (!(a == b)))) ∧
    (∀ tb:Bool,aU .eql tb true .nilf .nilf=some (.bool true))∧(∀ tb:Bool,aU .neq tb true .nilf .nilf=some (.bool false)) ∧
    (∀ (tb:Bool) (f:FuncId) (c:List AV),aU .eql tb true (.func f c) .nilf=some (.bool false))∧(∀ (tb:Bool) (f:FuncId) (c:List AV),aU .neq tb true (.func f c) .nilf=some (.bool true)) ∧
    (∀ b:Bool,aun .not (.bool b)=some (.bool (!b))) ∧
    (∀ (k:IntKind) (a b:Int),jG (.int k a) (.int k b)=some (.int k (max a b)))∧(∀ (k:IntKind) (a b:Int),jD (.int k a) (.int k b)=some (.int k (min a b))) ∧
    (∀ (f:AV→AV→Option AV) (x:AV),eu f x []=some x)∧(∀ (f:AV→AV→Option AV) (x y:AV) (l:List AV),eu f x (y :: l)=match f x y with | some z=>eu f z l | none=>none) ∧
    (∀ (k:Nat) (b n off:Nat),gy k (.ptr b n off)=some (.ptr b n (off + k)))∧(∀ (k:Nat) (cs:List AV) (off:Nat),gy k (.iptr cs off)=some (.iptr cs (off + k))) ∧
    (∀ (cs:List AV) (off:Nat),rd1 a9 (.iptr cs off)=cs[off]?) :=
 ⟨fun _ _ _ _ _=>xl,fun _ _ _ _ _=>xj,fun _ _ _ _ _=>wP,fun _ _ _ _ _=>xo,fun _ _ _ _ _=>xc,fun _ _ _ _ _=>wJ,fun _ _ _ _ _=>xb,fun _ _ _ _ _=>xi,fun _ _ _ _ _=>wT,
  fun _ _ _=>rfl,fun _ _ _=>rfl,fun _=>rfl,fun _=>rfl,fun _ _ _=>rfl,fun _ _ _=>rfl,fun _=>rfl,
  fun k a b=>by simp only [jG,Int.max_def]; split <;> split <;> simp <;> omega,fun k a b=>by simp only [jD,Int.min_def]; split <;> split <;> simp <;> omega,fun _ _=>rfl,fun _ _ _ _=>rfl,fun _ _ _ _=>rfl,fun _ _ _=>rfl,fun _ _=>rfl⟩
theorem SL:(∀ (a:AV) (l:List AV),(a :: l)[0]?=some a)∧(∀ (a:AV) (l:List AV) (n:Nat),(a :: l)[n + 1]?=l[n]?)∧(∀ (l:List AV),l.drop 0=l)∧(∀ (a:AV) (l:List AV) (n:Nat),(a :: l).drop (n + 1)=l.drop n)∧(∀ n:Nat,([]:List AV).drop n=[]) ∧
    (∀ (l:List AV),l.take 0=[])∧(∀ (a:AV) (l:List AV) (n:Nat),(a :: l).take (n + 1)=a :: l.take n)∧(∀ n:Nat,([]:List AV).take n=[])∧(∀ (l:List AV),[] ++ l=l)∧(∀ (l:List AV),l ++ []=l)∧(∀ (a:AV) (l m:List AV),(a :: l) ++ m=a :: (l ++ m)) ∧
    (∀ (cs:List AV) (off:Nat) (new:List AV),bb cs off new=cs.take off ++ new ++ cs.drop (off + new.length))∧(([]:List AV).length=0)∧(∀ (a:AV) (l:List AV),(a :: l).length=l.length + 1) ∧
    (∀ (k:IntKind) (n:Int),(AV.int k n).cells=[.int k n])∧(∀ b:Bool,(AV.bool b).cells=[.bool b])∧(∀ s:ByteArray,(AV.str s).cells=[.str s])∧(∀ (k:Nat) (l:List AV),(AV.sl k l).cells=[.sl k l])∧(∀ l:List AV,(AV.agg l).cells=l)∧(AV.esl.cells=[.esl])∧(AV.nilf.cells=[.nilf]) ∧
    (∀ (f:FuncId) (c:List AV),(AV.func f c).cells=[.func f c])∧(∀ (b n off:Nat),(AV.ptr b n off).cells=[.ptr b n off])∧(∀ (c:List AV) (off:Nat),(AV.iptr c off).cells=[.iptr c off])∧(∀ (b n sz off len:Nat),(AV.msl b n sz off len).cells=[.msl b n sz off len])∧(∀ b:Nat,(AV.yld b).cells=[.yld b])∧(∀ b:Nat,(AV.mp b).cells=[.mp b])∧(AV.nilp.cells=[.nilp])∧(∀ (f:FuncId) (c:List AV),(AV.bfn f c).cells=[.bfn f c]) :=
 ⟨fun _ _=>rfl,fun _ _ _=>rfl,fun _=>rfl,fun _ _ _=>rfl,fun n=>by cases n <;> rfl,fun _=>rfl,fun _ _ _=>rfl,fun n=>by cases n <;> rfl,fun _=>rfl,fun l=>List.append_nil l,fun _ _ _=>rfl,fun _ _ _=>rfl,rfl,fun _ _=>rfl,
  fun _ _=>rfl,fun _=>rfl,fun _=>rfl,fun _ _=>rfl,fun _=>rfl,rfl,rfl,fun _ _=>rfl,fun _ _ _=>rfl,fun _ _=>rfl,fun _ _ _ _ _=>rfl,fun _=>rfl,fun _=>rfl,rfl,fun _ _=>rfl⟩
def AV.ones (l:List AV):Bool:=l.all AV.one
theorem SO:(AV.ones []=true)∧(∀ (a:AV) (l:List AV),AV.ones (a :: l)=(a.one && AV.ones l))∧(∀ (k:IntKind) (n:Int),(AV.int k n).one=true)∧(∀ b:Bool,(AV.bool b).one=true)∧(∀ s:ByteArray,(AV.str s).one=true)∧(∀ (k:Nat) (l:List AV),(AV.sl k l).one=true)∧(AV.esl.one=true)∧(AV.nilf.one=true) ∧
    (∀ (f:FuncId) (c:List AV),(AV.func f c).one=true)∧(∀ (b n off:Nat),(AV.ptr b n off).one=true)∧(∀ (c:List AV) (off:Nat),(AV.iptr c off).one=true)∧(∀ (b n sz off len:Nat),(AV.msl b n sz off len).one=true)∧(∀ b:Nat,(AV.yld b).one=true)∧(∀ b:Nat,(AV.mp b).one=true)∧(AV.nilp.one=true)∧(∀ l:List AV,l.all AV.one=AV.ones l) :=
 ⟨rfl,fun _ _=>by simp [AV.ones],fun _ _=>rfl,fun _=>rfl,fun _=>rfl,fun _ _=>rfl,rfl,rfl,fun _ _=>rfl,fun _ _ _=>rfl,fun _ _=>rfl,fun _ _ _ _ _=>rfl,fun _=>rfl,fun _=>rfl,rfl,fun _=>rfl⟩
variable {P:Program} {T:Tm} {H:Hp} {nx:Nat}
theorem ss {dm:DM} {K:SP} {l:List Op2} {d:Option Nat} {z:AV} {cs:List AV} (hd:dm2 dm T (.alloc z)=true) (hc:z.cells=cs) (ho:AV.ones cs=true) (k:al P dm l (aF T d (.ptr nx cs.length 0)) (am H nx cs) (nx + 1) K):al P dm (⟨d,none,.alloc z⟩ :: l) T H nx K:=by
 subst hc
 refine jL rfl hd ?_ k
 simp only [ec,lu]; rw [if_pos (show z.flat=true from ho)]
theorem xJ {dm:DM} {K:SP} {l:List Op2} {d:Option Nat} {x:Opd} {v:AV} {cs:List AV} (hd:dm2 dm T (.box x)=true) (hx:ov T x=v) (hc:v.cells=cs) (ho:AV.ones cs=true) (k:al P dm l (aF T d (.ptr nx cs.length 0)) (am H nx cs) (nx + 1) K):al P dm (⟨d,none,.box x⟩ :: l) T H nx K:=by
 subst hc hx
 refine jL rfl hd ?_ k
 simp only [ec,lu]; rw [if_pos (show (ov T x).flat=true from ho)]
theorem yK {dm:DM} {K:SP} {l:List Op2} {d:Option Nat} {sz:Nat} {p x:Opd} {b n off:Nat} {v:AV} {cs vs:List AV} (hd:dm2 dm T (.st sz p x)=true) (hp:ov T p=.ptr b n off) (hx:ov T x=v) (hb:H b=some cs) (hc:v.cells=vs) (ho:AV.ones vs=true) (hn:cs.length=n) (hl:vs.length=sz) (hf:off + sz ≤ n)
    (k:al P dm l (aF T d (.tup [])) (am H b (bb cs off vs)) nx K):al P dm (⟨d,none,.st sz p x⟩ :: l) T H nx K:=by
 subst hc hx
 refine jL rfl hd ?_ k
 simp only [ec,hp,hb]
 rw [if_pos ⟨hn,ho,hl,hf⟩]
theorem xA {dm:DM} {K:SP} {l:List Op2} {d:Option Nat} {sz bytes:Nat} {z:List AV} {x y:Opd} {k1 k2:IntKind} {n m:Int} (hd:dm2 dm T (.mks sz bytes z x y)=true) (hx:ov T x=.int k1 n) (hy:ov T y=.int k2 m) (h0:0 ≤ n) (h1:n ≤ m) (h2:m ≤ 9223372036854775807) (h3:bytes * m ≤ 281474976710656)
    (k:al P dm l (aF T d (.msl nx (m.toNat * sz) sz 0 n.toNat)) (am H nx (aZ (.agg z) m.toNat)) (nx + 1) K):al P dm (⟨d,none,.mks sz bytes z x y⟩ :: l) T H nx K:=by
 refine jL rfl hd ?_ k
 simp only [ec,hx,hy]
 rw [if_pos ⟨h0,h1,h2,h3⟩]
theorem xE {dm:DM} {K:SP} {l:List Op2} {d:Option Nat} {sz len:Nat} {z:List AV} {parts:List (Nat × Nat × Opd)} {pv:List (Nat × Nat × AV)} {cs:List AV} (hd:dm2 dm T (.bldS sz len z parts)=true) (hl:len ≠ 0) (hp:parts.map (fun p=>(p.1,p.2.1,ov T p.2.2))=pv) (hc:cL (aZ (.agg z) len) pv=some cs)
    (k:al P dm l (aF T d (.msl nx cs.length sz 0 len)) (am H nx cs) (nx + 1) K):al P dm (⟨d,none,.bldS sz len z parts⟩ :: l) T H nx K:=by
 refine jL rfl hd ?_ k
 simp only [ec,hl,if_false,hp,hc]
theorem u6 {dm:DM} {K:SP} {l:List Op2} {d:Option Nat} {sz:Nat} {z:List AV} (hd:dm2 dm T (.bldS sz 0 z [])=true) (k:al P dm l (aF T d .esl) H nx K):al P dm (⟨d,none,.bldS sz 0 z []⟩ :: l) T H nx K:=by
 refine jL rfl hd ?_ k
 simp [ec]
theorem ph {dm:DM} {K:SP} {l:List Op2} {d:Option Nat} {sz bytes n:Nat} {s x:Opd} {v:AV} {new:List AV} (hd:dm2 dm T (.app sz bytes s x)=true) (hs:ov T s=.esl) (hx:ov T x=v) (hsrc:dz sz H v=some (n,new)) (ho:AV.ones new=true) (h1:n * bytes ≤ 140737488355328) (h2:n ≤ 9223372036854775807)
    (k:al P dm l (aF T d (.msl nx (n * sz) sz 0 n)) (am H nx new) (nx + 1) K):al P dm (⟨d,none,.app sz bytes s x⟩ :: l) T H nx K:=by
 subst hx
 refine jL rfl hd ?_ k
 simp only [ec,wc,hs,hsrc]
 rw [if_pos (show new.all AV.one=true from ho),if_pos ⟨h1,h2⟩]
theorem A9 {dm:DM} {K:SP} {l:List Op2} {d:Option Nat} {sz bytes n:Nat} {s x:Opd} {v:AV} {new cs:List AV} {b m len:Nat} (hd:dm2 dm T (.app sz bytes s x)=true) (hs:ov T s=.msl b m sz 0 len) (hb:H b=some cs) (hx:ov T x=v) (hsrc:dz sz H v=some (n,new)) (ho:AV.ones new=true) (hm:cs.length=m) (hl:m=len * sz)
    (h1:(len + n) * bytes ≤ 140737488355328) (h2:len + n ≤ 9223372036854775807)
    (k:al P dm l (aF T d (.msl b ((len + n) * sz) sz 0 (len + n))) (am H b (cs ++ new)) nx K):al P dm (⟨d,none,.app sz bytes s x⟩ :: l) T H nx K:=by
 subst hx
 refine jL rfl hd ?_ k
 simp only [ec,wc,hs,hsrc,hb]
 rw [if_pos (show new.all AV.one=true from ho),if_pos ⟨hm,trivial⟩,if_pos ⟨trivial,hl,h1,h2⟩]
theorem yL {dm:DM} {K:SP} {l:List Op2} {d:Option Nat} {sz bytes n:Nat} {s x:Opd} {v:AV} {new cs:List AV} {b m off len:Nat} (hd:dm2 dm T (.app sz bytes s x)=true) (hs:ov T s=.msl b m sz off len) (hb:H b=some cs) (hx:ov T x=v) (hsrc:dz sz H v=some (n,new)) (ho:AV.ones new=true) (hm:cs.length=m) (hl:off=0→m ≠ len * sz) (h0:0 < m) (h1:off + (len + n) * sz ≤ m)
    (k:al P dm l (aF T d (.msl b m sz off (len + n))) (am H b (bb cs (off + len * sz) new)) nx K):al P dm (⟨d,none,.app sz bytes s x⟩ :: l) T H nx K:=by
 subst hx
 refine jL rfl hd ?_ k
 simp only [ec,wc,hs,hsrc,hb]
 rw [if_pos (show new.all AV.one=true from ho),if_pos ⟨hm,trivial⟩,if_neg (fun h=>hl h.1 h.2.1),if_pos ⟨h1,h0⟩]
theorem sa {sz:Nat} {l:List AV}:dz sz H (.sl sz l)=some (l.length,l.flatMap AV.cells):=by simp [dz]
theorem hU {sz b n off len:Nat} {cs:List AV} (h:H b=some cs) (hn:cs.length=n) (hf:off + len * sz ≤ n):dz sz H (.msl b n sz off len)=some (len,(cs.drop off).take (len * sz)):=by
 simp only [dz]
 split
 ·rename_i h0; subst h0; simp
 ·simp only [h,hn,true_and,hf,if_true]
theorem SR:(∀ (H:Hp) (b n off:Nat),rd1 H (.ptr b n off)=match H b with | some cs=>if cs.length=n then cs[off]? else none | none=>none) ∧
    (∀ (H:Hp) (k b n off:Nat),rd H k (.ptr b n off)=match H b with | some cs=>if cs.length=n∧off + k ≤ n then some ((cs.drop off).take k) else none | none=>none) ∧
    (∀ (H:Hp) (cs:List AV) (off:Nat),rd1 H (.iptr cs off)=cs[off]?)∧(∀ (H:Hp) (cs:List AV) (off k:Nat),rd H k (.iptr cs off)=if off + k ≤ cs.length then some ((cs.drop off).take k) else none) ∧
    (∀ (l:List AV) (i:Nat),eE (.tup l) i=l[i]?)∧(∀ (l:List AV) (f:List AV→Option AV),cg (.agg l) f=f l)∧(∀ (k:IntKind) (n:Int) (f:Int→Option AV),jC (.int k n) f=f n) ∧
    (∀ (cs:List AV),cL cs []=some cs) ∧
    (∀ (cs:List AV) (off sz:Nat) (x:AV) (r:List (Nat × Nat × AV)),cL cs ((off,sz,x) :: r)=if AV.ones x.cells=true∧x.cells.length=sz∧off + sz ≤ cs.length then cL (bb cs off x.cells) r else none) ∧
    (∀ (b n sz off len:Nat),cR (.msl b n sz off len)=some (.int .i64 len))∧(cR .esl=some (.int .i64 0))∧(∀ (sz:Nat) (l:List AV),cR (.sl sz l)=some (.int .i64 l.length)) ∧
    (∀ (z:AV),aZ z 0=[])∧(∀ (z:AV) (n:Nat),aZ z (n + 1)=z.cells ++ aZ z n) :=
 ⟨fun _ _ _ _=>rfl,fun _ _ _ _ _=>rfl,fun _ _ _=>rfl,fun _ _ _ _=>rfl,fun l i=>by cases l <;> rfl,fun _ _=>rfl,fun _ _ _=>rfl,fun _=>rfl,fun _ _ _ _ _=>rfl,fun _ _ _ _ _=>rfl,rfl,fun _ _=>rfl,fun _=>rfl,fun z n=>by simp [aZ,List.replicate_succ]⟩
end Go.Abs
namespace Go.Abs
theorem bj {H:Hp} {a b:Bool} (h:a=b):Snap H (.bool a) (.bool b):=by subst h; exact .bool _
theorem bC {H:Hp} {k:IntKind} {a b:Int} (h:a=b):Snap H (.int k a) (.int k b):=by subst h; exact .int _ _
theorem fi {H:Hp} {l m:List AV} (h:aL H l m):Snap H (.tup l) (.tup m):=.tup l m h.1 h.2
theorem q9 {H:Hp} {l m:List AV} (h:aL H l m):Snap H (.agg l) (.agg m):=.agg l m h.1 h.2
theorem ax {H:Hp} {x y:AV} {xs ys:List AV} (h:Snap H x y) (hs:aL H xs ys):aL H (x :: xs) (y :: ys):=aL.cons h hs
theorem Dat.snap {H:Hp} {x:AV} (h:Dat x):Snap H x x:=h H
theorem aM {P:Program} {b:C2} {T:Tm} {H:Hp} {nx:Nat} {K:CP} {X:Type} (L:X→List (Nat × AV)) (I:X→Hp→Nat→Prop) (μ:X→Nat) (x0:X) (h0:I x0 H nx) (hT:agr T (L x0))
    (step:∀ x H nx,I x H nx→aG P b (tl (L x)) H nx fun e T H' nx'=>aN e (∃ y,μ y < μ x∧I y H' nx'∧agr T (L y)) (K e T H' nx')):bc (aG P b) T H nx K:=by
 refine uZ (X:=X × Hp × Nat) (fun x=>tl (L x.1)) (fun x=>x.2.1) (fun x=>x.2.2) (fun x=>I x.1 x.2.1 x.2.2) (fun x=>μ x.1) ⟨(x0,H,nx),h0,_,Gh.weak (m8 hT)⟩ (fun x hx=>b7 b (step x.1 x.2.1 x.2.2 hx) (fun e T H' nx' h=>?_))
 cases e with
 | normal =>
  obtain ⟨y,h1,h2,h3⟩:=h
  exact ⟨(y,H',nx'),h2,h1,_,Gh.weak (m8 h3)⟩
 | exit i=>exact h
 | ret=>exact h
def d5 (Hf:Hp) (cs cs':List AV):Prop:=cs'.length=cs.length∧∀ (i:Nat) (x x':AV),cs[i]?=some x→cs'[i]?=some x'→x'=x ∨ Snap Hf x x'
theorem d5.refl (Hf:Hp) (cs:List AV):d5 Hf cs cs:=⟨rfl,fun i x x' h1 h2=>.inl (by rw [h1] at h2; cases h2; rfl)⟩
theorem d5.snoc {Hf:Hp} {cs:List AV} {x x':AV} (h:Snap Hf x x'):d5 Hf (cs ++ [x]) (cs ++ [x']):=by
 refine ⟨by simp,fun i y y' h1 h2=>?_⟩
 by_cases hi:i < cs.length
 ·rw [List.getElem?_append_left hi] at h1 h2; rw [h1] at h2; cases h2; exact .inl rfl
 ·rw [List.getElem?_append_right (by omega)] at h1 h2
  cases hj:i - cs.length with
  | zero=>rw [hj] at h1 h2; simp at h1 h2; subst h1 h2; exact .inr h
  | succ j=>rw [hj] at h1; simp at h1
structure Fz (Hf H H':Hp):Prop where
 sub:∀ b cs,Hf b=some cs→H b=some cs
 to:∀ b cs',H' b=some cs'→∃ cs,H b=some cs∧Hf b=none∧d5 Hf cs cs'
def rl (Hf:Hp) (T:Tm):List (Nat × AV)→Prop
 | []=>True
 | (d,v) :: l=>(T d=v ∨ Snap Hf (T d) v)∧rl Hf T l
theorem sE {Hf:Hp} {T:Tm}:∀ {l:List (Nat × AV)},rl Hf T l→∀ t,tl l t=.undef ∨ tl l t=T t ∨ Snap Hf (T t) (tl l t)
 | [],_,t=>.inl rfl
 | (d,v) :: l,h,t=>by
  simp only [tl]
  split
  ·rename_i e; subst e
   rcases h.1 with h1 | h1
   ·exact .inr (.inl h1.symm)
   ·exact .inr (.inr h1)
  ·exact sE h.2 t
theorem Fz.gh {Hf H H':Hp} {T:Tm} {l:List (Nat × AV)} {nx:Nat} (h:Fz Hf H H') (ha:rl Hf T l):Gh T H nx (tl l) H' nx Hf :=
 ⟨h.sub,Nat.le_refl _,fun b cs' hb=>by
  obtain ⟨cs,h1,h2,h3,h4⟩:=h.to b cs' hb
  exact .inl ⟨cs,h1,h2,h3,fun i x x' hx hx'=>(h4 i x x' hx hx').imp id .inl⟩,fun t=>by
  rcases sE ha t with h1 | h1 | h1
  ·exact .inl h1
  ·exact .inr (.inl h1)
  ·exact .inr (.inr (.inl h1))⟩
def only (b:Nat) (cs:List AV):Hp:=fun x=>if x=b then some cs else none
theorem jK {b:Nat} {cs:List AV}:only b cs b=some cs:=by simp [only]
theorem pE {P:Program} {T:Tm} {H:Hp} {nx:Nat} {K:CP} {l:List Op2} (Hf H':Hp) (L:List (Nat × AV)) (hf:Fz Hf H H') (ha:rl Hf T L) (h:al P .text l (tl L) H' nx fun T H nx=>K .normal T H nx):aG P (.ops 0 l) T H nx K:=⟨_,H',nx,Hf,hf.gh ha,h⟩
theorem Fz.one {H:Hp} {b:Nat} {cs:List AV} (hb:H b=some cs):Fz (only b cs) H (bN H b) :=
 ⟨fun x c h=>by unfold only at h; split at h <;> cases h; subst_vars; exact hb,fun x c h=>by
  have:=iw h
  exact ⟨c,this.2,by simp [only,this.1],d5.refl _ _⟩⟩
theorem Fz.all {H:Hp}:Fz H H a9:=⟨fun _ _ h=>h,fun _ _ h=>(by cases h)⟩
theorem eo {T:Tm} {Hf:Hp}:∀ {l:List (Nat × AV)},agr T l→rl Hf T l
 | [],_=>trivial
 | (_,_) :: _,h=>⟨.inl h.1,eo h.2⟩
theorem n8 {P:Program} {b:C2} {T:Tm} {H:Hp} {nx:Nat} {K:CP} {X:Type} (L:X→List (Nat × AV)) (I:X→Hp→Nat→Prop) (μ:X→Nat) (x0:X) (h0:∃ Hf H',Fz Hf H H'∧I x0 H' nx∧rl Hf T (L x0))
    (step:∀ x H nx,I x H nx→aG P b (tl (L x)) H nx fun e T H' nx'=>aN e (∃ y,μ y < μ x∧∃ Hf H'',Fz Hf H' H''∧I y H'' nx'∧rl Hf T (L y)) (K e T H' nx')):bc (aG P b) T H nx K:=by
 obtain ⟨Hf,H0,hf,hI,ha⟩:=h0
 refine uZ (X:=X × Hp × Nat) (fun x=>tl (L x.1)) (fun x=>x.2.1) (fun x=>x.2.2) (fun x=>I x.1 x.2.1 x.2.2) (fun x=>μ x.1) ⟨(x0,H0,nx),hI,_,hf.gh ha⟩ (fun x hx=>b7 b (step x.1 x.2.1 x.2.2 hx) (fun e T H' nx' h=>?_))
 cases e with
 | normal =>
  obtain ⟨y,h1,Hf,H'',h2,h3,h4⟩:=h
  exact ⟨(y,H'',nx'),h3,h1,_,h2.gh h4⟩
 | exit i=>exact h
 | ret=>exact h
theorem Fz.none {H:Hp}:Fz a9 H H:=⟨fun _ _ h=>(by cases h),fun b cs h=>⟨cs,h,rfl,d5.refl _ _⟩⟩
theorem j8 {α:Type} [DecidableEq α] (k:MK) (enc:α→AV) (h:∀ a b,jF k (enc a) (enc b)=some (decide (a=b))) (v:α):∀ ks:List α,cw k (enc v) (ks.map enc)=some (if v ∈ ks then some (ks.idxOf v) else none)
 | []=>rfl
 | x :: l=>by
  simp only [List.map_cons,cw,h]
  by_cases e:v=x
  ·subst e; simp
  ·have e':x ≠ v:=fun h=>e h.symm
   simp only [e,decide_false,j8 k enc h v l,Option.map_some,List.mem_cons,false_or]
   by_cases hm:v ∈ l
   ·simp only [hm,if_true,Option.map_some]
    simp [List.idxOf_cons,beq_eq_false_iff_ne.2 e']
   ·simp [hm]
theorem n4 {α:Type} {l:List α} {n k:Nat} {d:α} (h:k < n):(l.take n).getD k d=l.getD k d:=by
 simp only [List.getD,List.getElem?_take,if_pos h]
theorem eY {α:Type} [Inhabited α] {l:List α} {k:Nat} (h:k < l.length):l.drop k=l.getD k default :: l.drop (k + 1):=by
 rw [List.drop_eq_getElem_cons h]; simp [List.getD,h]
theorem aj {H:Hp} {b:Nat} {cs:List AV}:am H b cs b=some cs:=if_pos rfl
theorem iv {H:Hp} {f:FuncId} {l m:List AV} (h:aL H l m):Snap H (.func f l) (.func f m):=.func f l m h.1 h.2
theorem ew {H:Hp} {b n off:Nat} {cs cs':List AV} (hb:H b=some cs) (hn:cs.length=n) (h:aL H cs cs'):Snap H (.ptr b n off) (.iptr cs' off):=.ptr b n off cs cs' hb hn (by rw [h.1,hn]) h.2
theorem Dat.iptr {cs:List AV} {off:Nat} (h:∀ x ∈ cs,Dat x):Dat (.iptr cs off):=fun H=>.iptr cs cs off rfl (fun i a c ha hc=>by rw [ha] at hc; cases hc; exact h a (List.mem_of_getElem? ha) H)
theorem DatL.nil:∀ x ∈ ([]:List AV),Dat x:=by simp
theorem DatL.cons {x:AV} {l:List AV} (h:Dat x) (hl:∀ y ∈ l,Dat y):∀ y ∈ x :: l,Dat y:=fun y hy=>(List.mem_cons.1 hy).elim (fun e=>e ▸ h) (hl y)
theorem mC {H:Hp} {b n off len:Nat} {cs:List AV} {l:List AV} (hb:H b=some cs) (hn:cs.length=n) (hf:off + len ≤ n) (hl:l.length=len) (hc:∀ y ∈ l,y.cells=[y]) (h:∀ (i:Nat) (a c:AV),cs[off + i]?=some a→l[i]?=some c→Snap H a c):Snap H (.msl b n 1 off len) (.sl 1 l):=by
 refine .msl b n 1 off len cs l hb hn (by omega) hl (fun y hy=>by rw [hc y hy]; rfl) (fun i j y a c hy hc' ha=>?_)
 rw [hc y (List.mem_of_getElem? hy)] at hc'
 cases j with
 | zero=>simp at hc'; subst hc'; exact h i a y (by simpa using ha) hy
 | succ j=>simp at hc'
theorem rc {H:Hp} {b n len:Nat} {l:List Int} (hb:H b=some (l.map (AV.int .i64))) (hn:n=len) (hl:l.length=len):Snap H (.msl b n 1 0 len) (ce l):=by
 subst hn
 refine mC hb (by simp [hl]) (by omega) (by simp [hl]) (fun y hy=>by simp at hy; obtain ⟨n,_,rfl⟩:=hy; rfl) (fun i a c ha hc=>?_)
 rw [Nat.zero_add] at ha
 rw [ha] at hc; cases hc
 simp at ha
 obtain ⟨n,_,rfl⟩:=ha
 exact .int _ _
theorem aw {H:Hp}:∀ {l:List AV},(∀ x ∈ l,Dat x)→aL H l l
 | [],_=>aL.nil
 | x :: l,h=>aL.cons (h x (by simp) H) (aw (fun y hy=>h y (by simp [hy])))
theorem aB {α:Type} [Inhabited α] {l:List α} {k:Nat} (h:k < l.length):l.getD k default ∈ l:=by
 have:l.getD k default=l[k]:=by simp [List.getD,h]
 rw [this]; exact List.getElem_mem h
theorem eF {l:List Int}:(ce l).one=true:=rfl
theorem dR {l:List (List Int)}:(d4 l).one=true:=rfl
theorem r_0 {T:Tm} {H:Hp} {K:AV→Prop} (h:K (.tup [])):br T H K []:=h
theorem getElem?_map_lt {α:Type} [Inhabited α] {f:α→AV} {l:List α} {k:Nat} (h:k < l.length):(l.map f)[k]?=some (f (l.getD k default)):=by
 simp [List.getD,h]
theorem wn {sz b m off len:Nat} {k:IntKind} {n:Int}:d7 sz (.msl b m sz off len) (.int k n)=if 0 ≤ n∧n < len then some (.ptr b m (off + n.toNat * sz)) else none:=by simp [d7]
theorem tT {P:Program} {T:Tm} {H:Hp} {nx:Nat} {K:CP} {g:Opd} {ps:List Nat} {a b:C2} {f:FuncId} {caps:List AV} (y y1:Nat) (hy:nx=y) (hy1:y + 1=y1) (hg:ov T g=.func f caps)
    (h:∀ (c0:AV) (cj:AEx→AV),(∀ (args:List AV) (H':Hp) (nx':Nat) (K':AV→Hp→Nat→Prop),H' y=some [c0]→args.length=ps.length →
        aG P a (fB T ps args) H' nx' (fun e T2 H2 nx2=>aN e (H2 y=some [c0]∧aG P b T2 (bN H2 y) nx2 fun e T3 H3 nx3=>aN e (K' (.bool true) (am H3 y [c0]) nx3) (K' (.bool false) (am H3 y [cj e]) nx3)) False) →
        Yl P y args H' nx' K') →
     Fn P f (.yld y :: caps) (am H y [c0]) y1 fun _ H' nx'=>(H' y=some [c0]∧K .normal T (bN H' y) nx') ∨ ∃ e,e ≠ .normal∧H' y=some [cj e]∧K e T (bN H' y) nx'):aG P (.rangeF g ps a b) T H nx K:=by
 subst hy hy1
 exact qZ hg h
end Go.Abs
namespace Go.Abs
inductive Row (H:Hp) (sz:Nat):AV→List AV→Prop
 | nil:Row H sz .esl []
 | box (b len:Nat) (cs:List AV) (hb:H b=some cs) (hl:cs.length=len * sz):Row H sz (.msl b (len * sz) sz 0 len) cs
def bE:AV→Option Nat
 | .msl b _ _ _ _=>some b
 | _=>none
theorem Row.len {H:Hp} {sz:Nat} {s:AV} {cs:List AV} (h:Row H sz s cs):∃ n:Nat,cR s=some (.int .i64 n)∧cs.length=n * sz:=by
 cases h with
 | nil=>exact ⟨0,rfl,by simp⟩
 | box b len cs hb hl=>exact ⟨len,rfl,hl⟩
theorem Row.lenS {H:Hp} {sz n:Nat} {s:AV} {cs:List AV} (h:Row H sz s cs) (hl:cs.length=n * sz) (hz:0 < sz):cR s=some (.int .i64 n):=by
 obtain ⟨m,h1,h2⟩:=h.len
 have:m=n:=Nat.eq_of_mul_eq_mul_right hz (by omega)
 subst this; exact h1
theorem Row.same {H H':Hp} {sz:Nat} {s:AV} {cs:List AV} (h:Row H sz s cs) (hs:∀ b,bE s=some b→H' b=H b):Row H' sz s cs:=by
 cases h with
 | nil=>exact .nil
 | box b len cs hb hl=>exact .box b len cs ((hs b rfl).trans hb) hl
theorem Row.one {H:Hp} {sz:Nat} {s:AV} {cs:List AV} (h:Row H sz s cs):s.one=true∧s.cells=[s]:=by
 cases h <;> exact ⟨rfl,rfl⟩
theorem af {H:Hp} {b x:Nat} {cs:List AV} (h:x ≠ b):am H b cs x=H x:=if_neg h
theorem fx {H:Hp} {b x:Nat} (h:x ≠ b):bN H b x=H x:=if_neg h
variable {P:Program} {T:Tm} {H:Hp} {nx:Nat}
theorem cH {dm:DM} {K:SP} {l:List Op2} {d:Option Nat} {sz bytes k:Nat} {s x:Opd} {sv xv:AV} {cs new:List AV} (hd:dm2 dm T (.app sz bytes s x)=true) (hs:ov T s=sv) (hrow:Row H sz sv cs) (hx:ov T x=xv) (hsrc:dz sz H xv=some (k,new)) (ho:AV.ones new=true) (hk:new.length=k * sz)
    (hz:0 < sz) (h1:(cs.length + k) * bytes ≤ 140737488355328) (h2:cs.length + k ≤ 9223372036854775807)
    (next:∀ (sv':AV) (H':Hp) (nx':Nat),Row H' sz sv' (cs ++ new)→nx ≤ nx'→nx' ≤ nx + 1→(∀ i,i < nx→bE sv ≠ some i→H' i=H i)→(∀ b,bE sv'=some b→bE sv=some b ∨ b=nx∧nx'=nx + 1)→al P dm l (aF T d sv') H' nx' K) :
    al P dm (⟨d,none,.app sz bytes s x⟩ :: l) T H nx K:=by
 cases hrow with
 | nil =>
  refine ph hd hs hx hsrc ho (by simpa using h1) (by simpa using h2) ?_
  exact next _ _ _ (.box nx k new aj hk) (Nat.le_succ _) (Nat.le_refl _) (fun i hi _=>af (by omega)) (fun b hb=>by cases hb; exact .inr ⟨rfl,rfl⟩)
 | box b len cs hb hl =>
  have hle:len ≤ cs.length:=by rw [hl]; exact Nat.le_mul_of_pos_right _ hz
  have hb1:(len + k) * bytes ≤ 140737488355328:=Nat.le_trans (Nat.mul_le_mul_right _ (by omega)) h1
  refine A9 hd hs hb hx hsrc ho hl rfl hb1 (by omega) ?_
  exact next _ _ _ (.box b (len + k) (cs ++ new) aj (by rw [List.length_append,hl,hk,Nat.add_mul])) (Nat.le_refl _) (Nat.le_succ _) (fun i hi hne=>af (fun e=>hne (by rw [e]; rfl))) (fun b' hb'=>by cases hb'; exact .inl rfl)
theorem Row.snap {H:Hp} {sz:Nat} {s:AV} {elems:List AV} (h:Row H sz s (elems.flatMap AV.cells)) (hc:∀ y ∈ elems,y.cells.length=sz) (hz:0 < sz) (hd:∀ y ∈ elems,∀ c ∈ y.cells,Dat c):Snap H s (.sl sz elems):=by
 obtain ⟨f1,f2⟩:=cb elems hc
 generalize he:elems.flatMap AV.cells=cs at h
 cases h with
 | nil =>
  have:elems.length * sz=0:=by rw [← f1,he]; rfl
  have:elems=[]:=List.length_eq_zero_iff.1 (by
   rcases Nat.mul_eq_zero.1 this with h | h
   ·exact h
   ·omega)
  subst this; exact .eslsl sz
 | box b len cs hb hl =>
  have hlen:elems.length=len:=Nat.eq_of_mul_eq_mul_right hz (by rw [← f1,he,hl])
  refine .msl b (len * sz) sz 0 len cs elems hb hl (by omega) hlen hc (fun i j y a c hy hc' ha=>?_)
  have hj:j < sz:=by rw [← hc y (List.mem_of_getElem? hy)]; exact (List.getElem?_eq_some_iff.1 hc').1
  have key:∀ (l:List AV) (i j:Nat) (y c:AV),(∀ z ∈ l,z.cells.length=sz)→l[i]?=some y→y.cells[j]?=some c→j < sz→(l.flatMap AV.cells)[i * sz + j]?=some c:=by
   intro l
   induction l with
   | nil=>intro i j y c _ h; simp at h
   | cons x l ih =>
    intro i j y c hl hy hc hj
    rw [List.flatMap_cons]
    cases i with
    | zero =>
     simp at hy; subst hy
     rw [Nat.zero_mul,Nat.zero_add,List.getElem?_append_left (by rw [hl x (by simp)]; exact hj)]; exact hc
    | succ i =>
     rw [List.getElem?_append_right (by rw [hl x (by simp),Nat.add_mul]; omega),hl x (by simp)]
     have:=ih i j y c (fun z hz=>hl z (by simp [hz])) (by simpa using hy) hc hj
     rw [← this]; congr 1; rw [Nat.add_mul]; omega
  have:=key elems i j y c hc hy hc' hj
  rw [he,← Nat.zero_add (i * sz)] at this
  rw [this] at ha; cases ha
  exact hd y (List.mem_of_getElem? hy) a (List.mem_of_getElem? hc') H
theorem fD {α:Type} {f:α→AV} (h:∀ x,(f x).cells=[f x]) (l:List α):(l.map f).flatMap AV.cells=l.map f:=by
 induction l with
 | nil=>rfl
 | cons a l ih=>rw [List.map_cons,List.flatMap_cons,ih,h]; rfl
theorem Row.snapV {H:Hp} {s:AV} {l:List (List Int)} (h:Row H 1 s (l.map ce)):Snap H s (d4 l):=by
 refine Row.snap (elems:=l.map ce) (by rw [fD (fun _=>rfl)]; exact h) (fun y hy=>?_) Nat.one_pos (fun y hy c hc=>?_)
 ·simp at hy; obtain ⟨n,_,rfl⟩:=hy; rfl
 ·simp at hy; obtain ⟨n,_,rfl⟩:=hy
  simp only [rO,List.mem_singleton] at hc; subst hc; exact fW n
theorem Row.snapI {H:Hp} {s:AV} {l:List Int} (h:Row H 1 s (l.map (AV.int .i64))):Snap H s (ce l):=by
 refine Row.snap (elems:=l.map (AV.int .i64)) (by rw [fD (fun _=>rfl)]; exact h) (fun y hy=>?_) Nat.one_pos (fun y hy c hc=>?_)
 ·simp at hy; obtain ⟨n,_,rfl⟩:=hy; rfl
 ·simp at hy; obtain ⟨n,_,rfl⟩:=hy
  simp only [ux,List.mem_singleton] at hc; subst hc; exact .int
theorem aQ {K:CP} {x y:C2} (M:SP) (h1:aG P x T H nx fun e T H nx=>aN e (M T H nx) (K e T H nx)) (h2:∀ T H nx,M T H nx→aG P y T H nx K):aG P (.seq x y) T H nx K:=by
 refine d8 (b7 x h1 (fun e T H nx h=>?_))
 cases e with
 | normal=>exact h2 T H nx h
 | exit i=>exact h
 | ret=>exact h
end Go.Abs
namespace Go.Abs
theorem Bq:(∀ l:List Int,(ce l).cells=[ce l])∧(∀ l:List (List Int),(d4 l).cells=[d4 l])∧(∀ x:Nat,a9 x=none) ∧
    (∀ (α β:Type) (f:α→β) (a:α) (l:List α),(a :: l).map f=f a :: l.map f)∧(∀ (α β:Type) (f:α→β),([]:List α).map f=[])∧(∀ (α β:Type) (f:α→β) (a:α),(some a).map f=some (f a))∧(∀ (α β:Type) (f:α→β),(none:Option α).map f=none) ∧
    (∀ n:Nat,0 + n=n)∧(∀ n:Nat,n + 0=n)∧(∀ p:Prop,(p∧p)=p)∧(∀ p:Prop,(p∧True)=p)∧(∀ p:Prop,(True∧p)=p)∧((!true)=false)∧((!false)=true) ∧
    (∀ (α:Type) (a:α) (l m:List α),(a :: l) ++ m=a :: (l ++ m))∧(∀ (α:Type) (l:List α),[] ++ l=l)∧(∀ (α:Type) (l:List α),l ++ []=l) :=
 ⟨fun _=>rfl,fun _=>rfl,fun _=>rfl,fun _ _ _ _ _=>rfl,fun _ _ _=>rfl,fun _ _ _ _=>rfl,fun _ _ _=>rfl,Nat.zero_add,Nat.add_zero,and_self,and_true,true_and,rfl,rfl,fun _ _ _ _=>rfl,fun _ _=>rfl,fun _ l=>List.append_nil l⟩
theorem bP:(∀ (H:Hp) (b x:Nat) (cs:List AV),am H b cs x=if x=b then some cs else H x)∧(∀ (H:Hp) (b x:Nat),bN H b x=if x=b then none else H x):=⟨fun _ _ _ _=>rfl,fun _ _ _=>rfl⟩
theorem cz:(∀ (H:Hp) (b:Nat) (cs:List AV),am H b cs b=some cs)∧(∀ (H:Hp) (b x:Nat) (cs:List AV),x ≠ b→am H b cs x=H x)∧(∀ (H:Hp) (b:Nat),bN H b b=none)∧(∀ (H:Hp) (b x:Nat),x ≠ b→bN H b x=H x)∧(∀ a b c:Nat,a + b + c=a + (b + c)) :=
 ⟨fun _ _ _=>aj,fun _ _ _ _ h=>af h,fun _ _=>f8,fun _ _ _ h=>fx h,Nat.add_assoc⟩
theorem ZA:((∀ l:List Int,(ce l).cells=[ce l])∧(∀ l:List (List Int),(d4 l).cells=[d4 l])∧(∀ x:Nat,a9 x=none) ∧
    (∀ (α β:Type) (f:α→β) (a:α) (l:List α),(a :: l).map f=f a :: l.map f)∧(∀ (α β:Type) (f:α→β),([]:List α).map f=[])∧(∀ (α β:Type) (f:α→β) (a:α),(some a).map f=some (f a))∧(∀ (α β:Type) (f:α→β),(none:Option α).map f=none) ∧
    (∀ n:Nat,0 + n=n)∧(∀ n:Nat,n + 0=n)∧(∀ p:Prop,(p∧p)=p)∧(∀ p:Prop,(p∧True)=p)∧(∀ p:Prop,(True∧p)=p)∧((!true)=false)∧((!false)=true) ∧
    (∀ (α:Type) (a:α) (l m:List α),(a :: l) ++ m=a :: (l ++ m))∧(∀ (α:Type) (l:List α),[] ++ l=l)∧(∀ (α:Type) (l:List α),l ++ []=l)) ∧
    ((∀ (T:Tm) (n:Nat),ov T (.t n)=T n)∧(∀ (T:Tm) (v:AV),ov T (.c v)=v)∧(∀ (T:Tm) (d t:Nat) (v:AV),upd T d v t=if t=d then v else T t)∧(∀ (T:Tm) (d:Nat) (v:AV),aF T (some d) v=upd T d v) ∧
    (∀ (T:Tm) (v:AV),aF T none v=T)∧(∀ (x:AV) (l:List AV),T0 (x :: l) 0=x)∧(∀ (x:AV) (l:List AV) (n:Nat),T0 (x :: l) (n + 1)=T0 l n)∧(∀ n:Nat,T0 [] n=.undef) ∧
    (∀ (d t:Nat) (v:AV) (l:List (Nat × AV)),tl ((d,v) :: l) t=if t=d then v else tl l t)∧(∀ t:Nat,tl [] t=.undef) ∧
    (∀ (T:Tm) (t:Nat) (ts:List Nat) (x:AV) (xs:List AV),fB T (t :: ts) (x :: xs)=fB (upd T t x) ts xs)∧(∀ (T:Tm) (xs:List AV),fB T [] xs=T)) ∧
    ((∀ (T:Tm) (H:Hp) (x:Opd),aX T H (.mov x)=some (ov T x)) ∧
    (∀ (T:Tm) (H:Hp) (c a b:Opd),aX T H (.pick c a b)=match ov T c with | .bool t=>some (if t=true then ov T a else ov T b) | _=>none) ∧
    (∀ (T:Tm) (H:Hp) (a:Opd),aX T H (.ld1 a)=rd1 H (ov T a))∧(∀ (T:Tm) (H:Hp) (k:Nat) (a:Opd),aX T H (.ldn k a)=(rd H k (ov T a)).map .agg) ∧
    (∀ (T:Tm) (H:Hp) (op:BinOp) (tb tf:Bool) (x y:Opd),aX T H (.bin op tb tf x y)=aU op tb tf (ov T x) (ov T y)) ∧
    (∀ (T:Tm) (H:Hp) (op:UnOp) (x:Opd),aX T H (.un op x)=aun op (ov T x)) ∧
    (∀ (T:Tm) (H:Hp) (f:FuncId) (caps:List Opd),aX T H (.mkfn f caps)=some (.func f (caps.map (ov T)))) ∧
    (∀ (T:Tm) (H:Hp) (k:Nat) (p:Opd),aX T H (.fa k p)=gy k (ov T p)) ∧
    (∀ (T:Tm) (H:Hp) (sz:Nat) (x i:Opd),aX T H (.ixaS sz x i)=d7 sz (ov T x) (ov T i)) ∧
    (∀ (T:Tm) (H:Hp) (x:Opd) (i:Nat),aX T H (.ext x i)=eE (ov T x) i) ∧
    (∀ (T:Tm) (H:Hp) (x:Opd),aX T H (.lenS x)=cR (ov T x)) ∧
    (∀ (T:Tm) (H:Hp) (z:List AV) (parts:List (Nat × Nat × Opd)),aX T H (.bld z parts)=(cL z (parts.map fun p=>(p.1,p.2.1,ov T p.2.2))).map .agg) ∧
    (∀ (T:Tm) (H:Hp) (x:Opd) (l:List Opd),aX T H (.mx x l)=eu jG (ov T x) (l.map (ov T))) ∧
    (∀ (T:Tm) (H:Hp) (x:Opd) (l:List Opd),aX T H (.mn x l)=eu jD (ov T x) (l.map (ov T))) ∧
    (∀ (T:Tm) (H:Hp) (k:IntKind) (x:Opd),aX T H (.conv k x)=jC (ov T x) fun n=>some (.int k (k.wrap n))) ∧
    (∀ (T:Tm) (H:Hp) (sz:Nat) (x:Opd) (lo hi mx:Option Opd),aX T H (.sls sz x lo hi mx)=lN sz (ov T x) (lo.map (ov T)) (hi.map (ov T)) (mx.map (ov T))) ∧
    (∀ (T:Tm) (H:Hp) (off:Nat) (x:Opd),aX T H (.part1 off x)=cg (ov T x) fun cs=>cs[off]?) ∧
    (∀ (T:Tm) (H:Hp) (op:BinOp) (ks:List TK) (x y:Opd),aX T H (.binS op ks x y)=cg (ov T x) fun xs=>cg (ov T y) fun ys=>jk op ks xs ys)) ∧
    ((∀ (T:Tm) (H:Hp) (n:Nat) (x:Opd) (lo hi:Option Opd),aX T H (.slsA n x lo hi)=qC n (ov T x) (lo.map (ov T)) (hi.map (ov T)) none) ∧
    (∀ (T:Tm) (H:Hp) (f:FuncId) (l:List Opd),aX T H (.mkbf f l)=some (.bfn f (l.map (ov T)))) ∧
    (∀ (T:Tm) (H:Hp) (x:Opd),aX T H (.lenStr x)=lI (ov T x)) ∧
    (∀ (T:Tm) (H:Hp) (x i:Opd),aX T H (.ixStr x i)=iZ (ov T x) (ov T i)) ∧
    (∀ (T:Tm) (H:Hp) (x:Opd) (lo hi:Option Opd),aX T H (.slstr x lo hi)=pj (ov T x) (lo.map (ov T)) (hi.map (ov T))) ∧
    (∀ (T:Tm) (H:Hp) (off k:Nat) (x:Opd),aX T H (.partn off k x)=cg (ov T x) fun cs=>if off + k ≤ cs.length then some (.agg ((cs.drop off).take k)) else none) ∧
    (∀ (T:Tm) (H:Hp) (n:Nat),aX T H (.lenC n)=some (.int .i64 n)) ∧
    (∀ (s:ByteArray),lI (.str s)=some (.int .i64 s.size)) ∧
    (∀ (s:ByteArray) (k:IntKind) (n:Int),iZ (.str s) (.int k n)=if 0 ≤ n∧n < s.size then some (.int .u8 (s[n.toNat]?.getD 0).toNat) else none)) ∧
    ((∀ (k:IntKind) (a b:Int) (tb tf:Bool),aU .lss tb tf (.int k a) (.int k b)=some (.bool (decide (a < b))))∧(∀ (k:IntKind) (a b:Int) (tb tf:Bool),aU .leq tb tf (.int k a) (.int k b)=some (.bool (decide (a ≤ b)))) ∧
    (∀ (k:IntKind) (a b:Int) (tb tf:Bool),aU .gtr tb tf (.int k a) (.int k b)=some (.bool (decide (b < a))))∧(∀ (k:IntKind) (a b:Int) (tb tf:Bool),aU .geq tb tf (.int k a) (.int k b)=some (.bool (decide (b ≤ a)))) ∧
    (∀ (k:IntKind) (a b:Int) (tb tf:Bool),aU .eql tb tf (.int k a) (.int k b)=some (.bool (decide (a=b))))∧(∀ (k:IntKind) (a b:Int) (tb tf:Bool),aU .neq tb tf (.int k a) (.int k b)=some (.bool (decide (a ≠ b)))) ∧
    (∀ (k:IntKind) (a b:Int) (tb tf:Bool),aU .add tb tf (.int k a) (.int k b)=some (.int k (k.wrap (a + b))))∧(∀ (k:IntKind) (a b:Int) (tb tf:Bool),aU .sub tb tf (.int k a) (.int k b)=some (.int k (k.wrap (a - b)))) ∧
    (∀ (k:IntKind) (a b:Int) (tb tf:Bool),aU .mul tb tf (.int k a) (.int k b)=some (.int k (k.wrap (a * b)))) ∧
    (∀ (a b:Bool) (tf:Bool),aU .eql true tf (.bool a) (.bool b)=some (.bool (a == b)))∧(∀ (a b:Bool) (tf:Bool),aU .neq true tf (.bool a) (.bool b)=some (.bool (!(a == b)))) ∧
    (∀ tb:Bool,aU .eql tb true .nilf .nilf=some (.bool true))∧(∀ tb:Bool,aU .neq tb true .nilf .nilf=some (.bool false)) ∧
    (∀ (tb:Bool) (f:FuncId) (c:List AV),aU .eql tb true (.func f c) .nilf=some (.bool false))∧(∀ (tb:Bool) (f:FuncId) (c:List AV),aU .neq tb true (.func f c) .nilf=some (.bool true)) ∧
    (∀ b:Bool,aun .not (.bool b)=some (.bool (!b))) ∧
    (∀ (k:IntKind) (a b:Int),jG (.int k a) (.int k b)=some (.int k (max a b)))∧(∀ (k:IntKind) (a b:Int),jD (.int k a) (.int k b)=some (.int k (min a b))) ∧
    (∀ (f:AV→AV→Option AV) (x:AV),eu f x []=some x)∧(∀ (f:AV→AV→Option AV) (x y:AV) (l:List AV),eu f x (y :: l)=match f x y with | some z=>eu f z l | none=>none) ∧
    (∀ (k:Nat) (b n off:Nat),gy k (.ptr b n off)=some (.ptr b n (off + k)))∧(∀ (k:Nat) (cs:List AV) (off:Nat),gy k (.iptr cs off)=some (.iptr cs (off + k))) ∧
    (∀ (cs:List AV) (off:Nat),rd1 a9 (.iptr cs off)=cs[off]?)) ∧
    ((∀ (H:Hp) (b n off:Nat),rd1 H (.ptr b n off)=match H b with | some cs=>if cs.length=n then cs[off]? else none | none=>none) ∧
    (∀ (H:Hp) (k b n off:Nat),rd H k (.ptr b n off)=match H b with | some cs=>if cs.length=n∧off + k ≤ n then some ((cs.drop off).take k) else none | none=>none) ∧
    (∀ (H:Hp) (cs:List AV) (off:Nat),rd1 H (.iptr cs off)=cs[off]?)∧(∀ (H:Hp) (cs:List AV) (off k:Nat),rd H k (.iptr cs off)=if off + k ≤ cs.length then some ((cs.drop off).take k) else none) ∧
    (∀ (l:List AV) (i:Nat),eE (.tup l) i=l[i]?)∧(∀ (l:List AV) (f:List AV→Option AV),cg (.agg l) f=f l)∧(∀ (k:IntKind) (n:Int) (f:Int→Option AV),jC (.int k n) f=f n) ∧
    (∀ (cs:List AV),cL cs []=some cs) ∧
    (∀ (cs:List AV) (off sz:Nat) (x:AV) (r:List (Nat × Nat × AV)),cL cs ((off,sz,x) :: r)=if AV.ones x.cells=true∧x.cells.length=sz∧off + sz ≤ cs.length then cL (bb cs off x.cells) r else none) ∧
    (∀ (b n sz off len:Nat),cR (.msl b n sz off len)=some (.int .i64 len))∧(cR .esl=some (.int .i64 0))∧(∀ (sz:Nat) (l:List AV),cR (.sl sz l)=some (.int .i64 l.length)) ∧
    (∀ (z:AV),aZ z 0=[])∧(∀ (z:AV) (n:Nat),aZ z (n + 1)=z.cells ++ aZ z n)) ∧
    ((∀ (a:AV) (l:List AV),(a :: l)[0]?=some a)∧(∀ (a:AV) (l:List AV) (n:Nat),(a :: l)[n + 1]?=l[n]?)∧(∀ (l:List AV),l.drop 0=l)∧(∀ (a:AV) (l:List AV) (n:Nat),(a :: l).drop (n + 1)=l.drop n)∧(∀ n:Nat,([]:List AV).drop n=[]) ∧
    (∀ (l:List AV),l.take 0=[])∧(∀ (a:AV) (l:List AV) (n:Nat),(a :: l).take (n + 1)=a :: l.take n)∧(∀ n:Nat,([]:List AV).take n=[])∧(∀ (l:List AV),[] ++ l=l)∧(∀ (l:List AV),l ++ []=l)∧(∀ (a:AV) (l m:List AV),(a :: l) ++ m=a :: (l ++ m)) ∧
    (∀ (cs:List AV) (off:Nat) (new:List AV),bb cs off new=cs.take off ++ new ++ cs.drop (off + new.length))∧(([]:List AV).length=0)∧(∀ (a:AV) (l:List AV),(a :: l).length=l.length + 1) ∧
    (∀ (k:IntKind) (n:Int),(AV.int k n).cells=[.int k n])∧(∀ b:Bool,(AV.bool b).cells=[.bool b])∧(∀ s:ByteArray,(AV.str s).cells=[.str s])∧(∀ (k:Nat) (l:List AV),(AV.sl k l).cells=[.sl k l])∧(∀ l:List AV,(AV.agg l).cells=l)∧(AV.esl.cells=[.esl])∧(AV.nilf.cells=[.nilf]) ∧
    (∀ (f:FuncId) (c:List AV),(AV.func f c).cells=[.func f c])∧(∀ (b n off:Nat),(AV.ptr b n off).cells=[.ptr b n off])∧(∀ (c:List AV) (off:Nat),(AV.iptr c off).cells=[.iptr c off])∧(∀ (b n sz off len:Nat),(AV.msl b n sz off len).cells=[.msl b n sz off len])∧(∀ b:Nat,(AV.yld b).cells=[.yld b])∧(∀ b:Nat,(AV.mp b).cells=[.mp b])∧(AV.nilp.cells=[.nilp])∧(∀ (f:FuncId) (c:List AV),(AV.bfn f c).cells=[.bfn f c])) ∧
    ((∀ (b:Bool) (x y:AV),(match (AV.bool b:AV) with | .bool t=>some (if t=true then x else y) | _=>none)=some (if b=true then x else y))) :=
 ⟨Bq,SA,SV,SV2,SN,SR,SL,fun _ _ _=>rfl⟩
theorem ZV:((AV.ones []=true)∧(∀ (a:AV) (l:List AV),AV.ones (a :: l)=(a.one && AV.ones l))∧(∀ (k:IntKind) (n:Int),(AV.int k n).one=true)∧(∀ b:Bool,(AV.bool b).one=true)∧(∀ s:ByteArray,(AV.str s).one=true)∧(∀ (k:Nat) (l:List AV),(AV.sl k l).one=true)∧(AV.esl.one=true)∧(AV.nilf.one=true) ∧
    (∀ (f:FuncId) (c:List AV),(AV.func f c).one=true)∧(∀ (b n off:Nat),(AV.ptr b n off).one=true)∧(∀ (c:List AV) (off:Nat),(AV.iptr c off).one=true)∧(∀ (b n sz off len:Nat),(AV.msl b n sz off len).one=true)∧(∀ b:Nat,(AV.yld b).one=true)∧(∀ b:Nat,(AV.mp b).one=true)∧(AV.nilp.one=true)∧(∀ l:List AV,l.all AV.one=AV.ones l))∧(∀ l:List Int,(ce l).one=true)∧(∀ l:List (List Int),(d4 l).one=true)∧(∀ b:Bool,(b && b)=b)∧((false=true)=False)∧(∀ a:Int,-9223372036854775808 ≤ a→a ≤ 9223372036854775807→IntKind.wrap .i64 a=a) ∧
    (∀ (l:List Int) (k:IntKind) (n:Int),d7 1 (ce l) (.int k n)=if 0 ≤ n∧n < l.length then some (.iptr [.int .i64 (l.getD n.toNat default)] 0) else none)∧(∀ (l:List (List Int)) (k:IntKind) (n:Int),d7 1 (d4 l) (.int k n)=if 0 ≤ n∧n < l.length then some (.iptr [ce (l.getD n.toNat default)] 0) else none) ∧
    (∀ l:List Int,cR (ce l)=some (.int .i64 l.length))∧(∀ l:List (List Int),cR (d4 l)=some (.int .i64 l.length))∧(∀ n:Nat,(n:Int).toNat=n)∧(∀ (α β:Type) (f:α→β) (l:List α),(l.map f).length=l.length) ∧
    (∀ (sz b m off len:Nat) (k:IntKind) (n:Int),d7 sz (.msl b m sz off len) (.int k n)=if 0 ≤ n∧n < len then some (.ptr b m (off + n.toNat * sz)) else none)∧(∀ (α:Type) (_:Inhabited α) (f:α→AV) (l:List α) (k:Nat),k < l.length→(l.map f)[k]?=some (f (l.getD k default)))∧(∀ n:Nat,n * 1=n) :=
 ⟨SO,fun _=>rfl,fun _=>rfl,Bool.and_self,Bool.false_eq_true,fun _=>mX,fun _ _ _=>s9,fun _ _ _=>rS,fun _=>rZ,fun _=>qi,Int.toNat_natCast,fun _ _ _ _=>List.length_map _,fun _ _ _ _ _ _ _=>wn,fun _ _ _ _ _ h=>getElem?_map_lt h,Nat.mul_one⟩
theorem ZG:((∀ (T:Tm) (n:Nat),ov T (.t n)=T n)∧(∀ (T:Tm) (v:AV),ov T (.c v)=v)∧(∀ (T:Tm) (d t:Nat) (v:AV),upd T d v t=if t=d then v else T t)∧(∀ (T:Tm) (d:Nat) (v:AV),aF T (some d) v=upd T d v) ∧
    (∀ (T:Tm) (v:AV),aF T none v=T)∧(∀ (x:AV) (l:List AV),T0 (x :: l) 0=x)∧(∀ (x:AV) (l:List AV) (n:Nat),T0 (x :: l) (n + 1)=T0 l n)∧(∀ n:Nat,T0 [] n=.undef) ∧
    (∀ (d t:Nat) (v:AV) (l:List (Nat × AV)),tl ((d,v) :: l) t=if t=d then v else tl l t)∧(∀ t:Nat,tl [] t=.undef) ∧
    (∀ (T:Tm) (t:Nat) (ts:List Nat) (x:AV) (xs:List AV),fB T (t :: ts) (x :: xs)=fB (upd T t x) ts xs)∧(∀ (T:Tm) (xs:List AV),fB T [] xs=T))∧(∀ a:Int,-9223372036854775808 ≤ a→a ≤ 9223372036854775807→IntKind.wrap .i64 a=a)∧(∀ a b:Nat,((a + b:Nat):Int)=(a:Int) + (b:Int))∧(((1:Nat):Int)=1)∧(((0:Nat):Int)=0)∧(∀ p:Prop,(p∧True)=p)∧(∀ p:Prop,(p∧p)=p) :=
 ⟨SA,fun _=>mX,Int.natCast_add,rfl,rfl,and_true,and_self⟩
end Go.Abs
namespace Go.Abs
theorem sT {P:Program} {b:C2} {T:Tm} {H:Hp} {nx:Nat} {K:CP} (L:Nat→List (Nat × AV)) (n:Nat) (p:Nat→Prop) (hT:agr T (L 0))
    (step:∀ k,k ≤ n→(∀ i,i < k→p i)→aG P b (tl (L k)) H nx fun e T H' nx'=>aN e (k < n∧p k∧agr T (L (k + 1))∧H'=H∧nx'=nx) (K e T H' nx')):bc (aG P b) T H nx K:=by
 refine vW (X:=Nat) L (fun k=>k ≤ n∧∀ i,i < k→p i) (fun k=>n - k) 0 ⟨Nat.zero_le _,fun i h=>(by omega)⟩ hT ?_
 rintro k ⟨h1,h2⟩
 refine b7 b (step k h1 h2) (fun e T H' nx' h=>?_)
 cases e with
 | normal =>
  obtain ⟨g1,g2,g3,g4,g5⟩:=h
  refine ⟨k + 1,⟨by omega,fun i hi=>?_⟩,by omega,g3,g4,g5⟩
  rcases Nat.lt_succ_iff_lt_or_eq.1 hi with h | rfl
  ·exact h2 i h
  ·exact g2
 | exit i=>exact h
 | ret=>exact h
theorem eA {α:Type} [Inhabited α] {l:List α} {p:α→Bool} (h:∀ i,i < l.length→p (l.getD i default)=true):l.all p=true:=by
 rw [List.all_eq_true]
 intro x hx
 obtain ⟨i,hi,e⟩:=List.getElem_of_mem hx
 have:=h i hi
 rwa [show l.getD i default=x by simp [List.getD,hi,e]] at this
theorem dM {α:Type} [Inhabited α] {l:List α} {p:α→Bool} {k:Nat} (hk:k < l.length) (h:p (l.getD k default)=false):l.all p=false:=by
 rw [Bool.eq_false_iff,ne_eq,List.all_eq_true]
 intro hh
 have:=hh _ (aB hk)
 rw [h] at this; cases this
theorem vu {α:Type} [Inhabited α] {l:List α} {p:α→Bool} {k:Nat} (hk:k < l.length) (h:p (l.getD k default)=true):l.any p=true:=List.any_eq_true.2 ⟨_,aB hk,h⟩
theorem eh {α:Type} [Inhabited α] {l:List α} {p:α→Bool} (h:∀ i,i < l.length→p (l.getD i default)=false):l.any p=false:=by
 rw [List.any_eq_false]
 intro x hx
 obtain ⟨i,hi,e⟩:=List.getElem_of_mem hx
 have:=h i hi
 rw [show l.getD i default=x by simp [List.getD,hi,e]] at this
 simp [this]
theorem vn {α:Type} [Inhabited α] [DecidableEq α] {l:List α} {v:α} {k:Nat} (hk:k < l.length) (h:l.getD k default=v):decide (v ∈ l)=true:=by
 rw [decide_eq_true_iff,← h]; exact aB hk
theorem tW {α:Type} [Inhabited α] [DecidableEq α] {l:List α} {v:α} (h:∀ i,i < l.length→l.getD i default ≠ v):decide (v ∈ l)=false:=by
 rw [decide_eq_false_iff_not]
 intro hm
 obtain ⟨i,hi,e⟩:=List.getElem_of_mem hm
 exact h i hi (by simp [List.getD,hi,e])
def ja {α:Type} (sz:Nat) (f:α→AV) (l:List α):AV:=.sl sz (l.map f)
section
variable {α:Type} {sz:Nat} {f:α→AV} {l:List α}
theorem pR (h:∀ x ∈ l,∀ c ∈ (f x).cells,Dat c):Dat (ja sz f l):=Dat.sl (fun x hx c hc=>by
 obtain ⟨y,hy,rfl⟩:=List.mem_map.1 hx
 exact h y hy c hc)
theorem nS [Inhabited α] {k:IntKind} {n:Int}:d7 sz (ja sz f l) (.int k n)=if 0 ≤ n∧n < l.length then some (.iptr (f (l.getD n.toNat default)).cells 0) else none:=lZ
theorem mP:cR (ja sz f l)=some (.int .i64 l.length):=kg
theorem jl {k:Nat} (h:k ≤ l.length):lN sz (ja sz f l) (some (.int .i64 k)) none none=some (ja sz f (l.drop k)):=by
 simp [lN,bn,ja,h]
 rw [List.take_of_length_le (by simp)]
theorem Row.snapL' {H:Hp} {s:AV} (h:Row H 1 s (l.map f)) (hc:∀ x,(f x).cells=[f x]) (hd:∀ x ∈ l,Dat (f x)):Snap H s (ja 1 f l):=by
 refine Row.snap (elems:=l.map f) (by rw [fD hc]; exact h) (fun y hy=>?_) Nat.one_pos (fun y hy c hx=>?_)
 ·obtain ⟨n,_,rfl⟩:=List.mem_map.1 hy; rw [hc]; rfl
 ·obtain ⟨n,hn,rfl⟩:=List.mem_map.1 hy
  rw [hc,List.mem_singleton] at hx; subst hx; exact hd n hn
end
end Go.Abs
namespace Go.Abs
theorem dW {a:Int} (h1:0 ≤ a) (h2:a < 18446744073709551616):IntKind.wrap .u64 a=a:=by
 simp only [IntKind.wrap,IntKind.bits,IntKind.signed]; simp; omega
theorem nd {a:Int}:IntKind.wrap .u8 a=a % 256:=by
 simp only [IntKind.wrap,IntKind.bits,IntKind.signed]; simp
theorem oP {k:IntKind} {a b:Nat} {tb tf:Bool} {k':IntKind} (hb:b ≤ k.bits):aU .shr tb tf (.int k a) (.int k' b)=some (.int k ((a / 2 ^ b:Nat):Int)):=by
 have h:¬ ((b:Int) < 0):=by omega
 simp only [aU,kd,h,if_false,or_true,if_true,Int.toNat_natCast,Nat.min_eq_left hb]
 congr 2
 rw [Int.fdiv_eq_ediv_of_nonneg _ (Int.le_of_lt (Int.pow_pos (by omega)))]
 simp
theorem wX {k:IntKind} {a b:Nat} {tb tf:Bool} {k':IntKind} (hb:b ≤ k.bits) (h:a * 2 ^ b < 2 ^ (k.bits - 1)):aU .shl tb tf (.int k a) (.int k' b)=some (.int k ((a * 2 ^ b:Nat):Int)):=by
 have h0:¬ ((b:Int) < 0):=by omega
 simp only [aU,kd,h0,if_false,true_or,if_true,Int.toNat_natCast,Nat.min_eq_left hb]
 congr 2
 have e:(a:Int) * 2 ^ b=((a * 2 ^ b:Nat):Int):=by simp
 rw [e]
 generalize a * 2 ^ b=c at h
 cases k <;> (simp only [IntKind.bits,IntKind.wrap,IntKind.signed] at h ⊢; simp at h ⊢; omega)
theorem fo {a b:Int} {tb tf:Bool} (ha:0 ≤ a) (h2:a ≤ 9223372036854775807) (hb:0 < b):aU .quo tb tf (.int .i64 a) (.int .i64 b)=some (.int .i64 (a / b)):=by
 show (if (IntKind.i64=IntKind.i64) then dy .quo .i64 a b else none)=_
 rw [if_pos rfl]
 have h3:0 ≤ a / b:=Int.ediv_nonneg ha (by omega)
 have h4:a / b ≤ a:=Int.ediv_le_self _ ha
 simp only [dy,if_neg (show ¬ b=0 by omega),Int.tdiv_eq_ediv_of_nonneg ha]
 rw [mX (by omega) (by omega)]
theorem aD {P:Program} {T:Tm} {H:Hp} {nx:Nat} {K:SP} {l:List Op2} {d:Option Nat} {f:Opd} {args:List Opd} {g:FuncId} {caps xs:List AV} {R:AV→Hp→Nat→Prop} (hf:ov T f=.func g caps) (ha:args.map (ov T) ++ caps=xs) (hc:Fn P g xs H nx R)
    (k:∀ r H' nx',R r H' nx'→al P .text l (aF T d r) H' nx' K):al P .text (⟨d,none,.call f args⟩ :: l) T H nx K:=by
 subst ha
 exact rN hf (Fn.mono hc k)
def zL (l:List UInt8):AV:=.str ⟨l.toArray⟩
theorem vX (l:List UInt8):Dat (zL l):=.str
instance datI_encS {l:List UInt8}:DatI (zL l):=⟨vX l⟩
end Go.Abs
namespace Go.Abs
open Go.RowKit
variable {P:Program} {T:Tm} {H:Hp} {nx:Nat}
theorem aI {a b:Prop} (x:a) (y:b):a∧b:=⟨x,y⟩
theorem ev0 {α:Type} {a b:α} (h:a=b:=by (try simp only [bP,ZA,Nat.reduceEqDiff,↓reduceIte,Nat.reduceAdd,Nat.reduceLeDiff]); (try with_reducible rfl); first | done | fail):a=b:=h
theorem evZ {α:Type} {a b:α} (h:a=b:=by (try simp only [bP,ZA,Nat.reduceEqDiff,↓reduceIte,Nat.reduceAdd,Nat.reduceLeDiff,zz]); (try with_reducible rfl); first | done | fail):a=b:=h
theorem ag0 {T:Tm} {l:List (Nat × AV)} (h:agr T l:=by simp (disch:=omega) only [agr,ZG,Nat.reduceEqDiff,↓reduceIte]; first | done | fail):agr T l:=h
theorem agZ {T:Tm} {l:List (Nat × AV)} (h:agr T l:=by simp (disch:=omega) only [agr,ZG,Nat.reduceEqDiff,↓reduceIte,zz]; first | done | fail):agr T l:=h
theorem vZ {dm:DM} {K:SP} {l:List Op2} {d:Option Nat} {i:Ins} {r:AV} (k:al P dm l (aF T d r) H nx K) (hi:ic i=.val:=by rfl) (hd:dm2 dm T i=true:=by rfl) (h:aX T H i=some r:=by (try simp (disch:=omega) only [bP,ZA,Nat.reduceEqDiff,↓reduceIte,Nat.reduceAdd,Nat.reduceLeDiff,ZV,reduceCtorEq,zz]); first | with_reducible rfl | (apply vD; (focus omega); with_reducible rfl)):al P dm (⟨d,none,i⟩ :: l) T H nx K:=iS hi hd h k
theorem cZ {dm:DM} {K:SP} {l:List Op2} {d:Option Nat} {f:Opd} {args:List Opd} {g:FuncId} {caps xs:List AV} {r:AV} (k:al P dm l (aF T d r) H nx K) (hf:ov T f=.func g caps:=by (try simp only [bP,ZA,Nat.reduceEqDiff,↓reduceIte,Nat.reduceAdd,Nat.reduceLeDiff,zz]); (try with_reducible rfl); first | done | fail) (ha:args.map (ov T) ++ caps=xs:=by (try simp only [bP,ZA,Nat.reduceEqDiff,↓reduceIte,Nat.reduceAdd,Nat.reduceLeDiff,zz]); (try with_reducible rfl); first | done | fail) (hp:Pure P g xs r) (hs:aA H xs xs r:=by (first | refine aa ?_ rfl | apply ac); (repeat' (first | exact ab | apply ag | (apply ae; (focus with_reducible assumption)))); first | done | fail):al P dm (⟨d,none,.call f args⟩ :: l) T H nx K:=sR hf ha hp hs k
theorem alZ {dm:DM} {K:SP} {l:List Op2} {d:Option Nat} {z:AV} {cs:List AV} (k:al P dm l (aF T d (.ptr nx cs.length 0)) (am H nx cs) (nx + 1) K) (hd:dm2 dm T (.alloc z)=true:=by rfl) (hc:z.cells=cs:=by (try simp only [bP,ZA,Nat.reduceEqDiff,↓reduceIte,Nat.reduceAdd,Nat.reduceLeDiff,zz]); (try with_reducible rfl); first | done | fail) (ho:AV.ones cs=true:=by simp only [SO,Bool.and_self,eF,dR,zz]; first | done | fail):al P dm (⟨d,none,.alloc z⟩ :: l) T H nx K:=ss hd hc ho k
theorem bxZ {dm:DM} {K:SP} {l:List Op2} {d:Option Nat} {x:Opd} {v:AV} {cs:List AV} (k:al P dm l (aF T d (.ptr nx cs.length 0)) (am H nx cs) (nx + 1) K) (hd:dm2 dm T (.box x)=true:=by rfl) (hx:ov T x=v:=by (try simp only [bP,ZA,Nat.reduceEqDiff,↓reduceIte,Nat.reduceAdd,Nat.reduceLeDiff,zz]); (try with_reducible rfl); first | done | fail) (hc:v.cells=cs:=by (try simp only [bP,ZA,Nat.reduceEqDiff,↓reduceIte,Nat.reduceAdd,Nat.reduceLeDiff,zz]); (try with_reducible rfl); first | done | fail) (ho:AV.ones cs=true:=by simp only [SO,Bool.and_self,eF,dR,zz]; first | done | fail):al P dm (⟨d,none,.box x⟩ :: l) T H nx K:=xJ hd hx hc ho k
theorem stZ {dm:DM} {K:SP} {l:List Op2} {d:Option Nat} {sz:Nat} {p x:Opd} {b n off:Nat} {v:AV} {cs vs:List AV} (k:al P dm l (aF T d (.tup [])) (am H b (bb cs off vs)) nx K) (hd:dm2 dm T (.st sz p x)=true:=by rfl) (hp:ov T p=.ptr b n off:=by (try simp only [bP,ZA,Nat.reduceEqDiff,↓reduceIte,Nat.reduceAdd,Nat.reduceLeDiff,zz]); (try with_reducible rfl); first | done | fail) (hx:ov T x=v:=by (try simp only [bP,ZA,Nat.reduceEqDiff,↓reduceIte,Nat.reduceAdd,Nat.reduceLeDiff,zz]); (try with_reducible rfl); first | done | fail) (hb:H b=some cs:=by (try simp only [bP,ZA,Nat.reduceEqDiff,↓reduceIte,Nat.reduceAdd,Nat.reduceLeDiff,zz]); (try with_reducible rfl); first | done | fail) (hc:v.cells=vs:=by (try simp only [bP,ZA,Nat.reduceEqDiff,↓reduceIte,Nat.reduceAdd,Nat.reduceLeDiff,zz]); (try with_reducible rfl); first | done | fail) (ho:AV.ones vs=true:=by simp only [SO,Bool.and_self,eF,dR,zz]; first | done | fail) (hn:cs.length=n:=by (try simp only [SL,Nat.reduceAdd,Nat.reduceMul,List.length_map]); first | done | omega) (hl:vs.length=sz:=by (try simp only [SL,Nat.reduceAdd,Nat.reduceMul,List.length_map]); first | done | omega) (hf:off + sz ≤ n:=by (try simp only [SL,Nat.reduceAdd,Nat.reduceMul,List.length_map]); first | done | omega):al P dm (⟨d,none,.st sz p x⟩ :: l) T H nx K:=yK hd hp hx hb hc ho hn hl hf k
theorem blZ {dm:DM} {K:SP} {l:List Op2} {d:Option Nat} {sz len:Nat} {z:List AV} {parts:List (Nat × Nat × Opd)} {pv:List (Nat × Nat × AV)} {cs:List AV} (k:al P dm l (aF T d (.msl nx cs.length sz 0 len)) (am H nx cs) (nx + 1) K) (hd:dm2 dm T (.bldS sz len z parts)=true:=by rfl) (hl:len ≠ 0:=by exact Nat.succ_ne_zero _) (hp:parts.map (fun p=>(p.1,p.2.1,ov T p.2.2))=pv:=by (try simp only [bP,ZA,Nat.reduceEqDiff,↓reduceIte,Nat.reduceAdd,Nat.reduceLeDiff,zz]); (try with_reducible rfl); first | done | fail) (hc:cL (aZ (.agg z) len) pv=some cs:=by (try simp only [bP,ZA,Nat.reduceEqDiff,↓reduceIte,Nat.reduceAdd,Nat.reduceLeDiff,SO,Bool.and_self,eF,dR,zz]); (try with_reducible rfl); first | done | fail):al P dm (⟨d,none,.bldS sz len z parts⟩ :: l) T H nx K:=xE hd hl hp hc k
theorem b0Z {dm:DM} {K:SP} {l:List Op2} {d:Option Nat} {sz:Nat} {z:List AV} (k:al P dm l (aF T d .esl) H nx K) (hd:dm2 dm T (.bldS sz 0 z [])=true:=by rfl):al P dm (⟨d,none,.bldS sz 0 z []⟩ :: l) T H nx K:=u6 hd k
theorem gTZ {dm:DM} {K:SP} {l:List Op2} {d:Option Nat} {i:Ins} {t:Nat} {w:Bool} (k:al P dm (⟨d,none,i⟩ :: l) T H nx K) (h:T t=.bool w:=by simp only [bP,ZA,Nat.reduceEqDiff,↓reduceIte,Nat.reduceAdd,Nat.reduceLeDiff,zz]; first | done | fail):al P dm (⟨d,some (t,w),i⟩ :: l) T H nx K:=yJ h k
theorem gFZ {dm:DM} {K:SP} {l:List Op2} {d:Option Nat} {i:Ins} {t:Nat} {w:Bool} (k:al P dm l (aF T d (.tup [])) H nx K) (h:T t=.bool (!w) ∨ T t=.tup []:=by simp only [bP,ZA,Nat.reduceEqDiff,↓reduceIte,Nat.reduceAdd,Nat.reduceLeDiff,or_true,true_or,zz]; first | done | fail):al P dm (⟨d,some (t,w),i⟩ :: l) T H nx K:=y6 h k
theorem cTZ {K:CP} {c:Opd} {x y:C2} (h1:aG P x T H nx K) (hc:ov T c=.bool true:=by simp only [bP,ZA,Nat.reduceEqDiff,↓reduceIte,Nat.reduceAdd,Nat.reduceLeDiff,zz]; first | done | fail):aG P (.cond c x y) T H nx K:=pr hc h1
theorem cFZ {K:CP} {c:Opd} {x y:C2} (h2:aG P y T H nx K) (hc:ov T c=.bool false:=by simp only [bP,ZA,Nat.reduceEqDiff,↓reduceIte,Nat.reduceAdd,Nat.reduceLeDiff,zz]; first | done | fail):aG P (.cond c x y) T H nx K:=pA hc h2
theorem r1Z {K:AV→Prop} {a:RV} {x:AV} (h:K x) (ha:rv T H a=some x:=by simp only [rv,bP,ZA,Nat.reduceEqDiff,↓reduceIte,Nat.reduceAdd,Nat.reduceLeDiff,zz]; with_reducible rfl):br T H K [a]:=r_1 ha h
theorem r2Z {K:AV→Prop} {a b:RV} {x y:AV} (h:K (.tup [x,y])) (ha:rv T H a=some x:=by simp only [rv,bP,ZA,Nat.reduceEqDiff,↓reduceIte,Nat.reduceAdd,Nat.reduceLeDiff,zz]; with_reducible rfl) (hb:rv T H b=some y:=by simp only [rv,bP,ZA,Nat.reduceEqDiff,↓reduceIte,Nat.reduceAdd,Nat.reduceLeDiff,zz]; with_reducible rfl):br T H K [a,b]:=r_2 ha hb h
theorem vY {dm:DM} {K:SP} {l:List Op2} {d:Option Nat} {i:Ins} {r:AV} (k:al P dm l (aF T d r) H nx K) (hi:ic i=.val:=by rfl) (hd:dm2 dm T i=true:=by first | rfl | (simp (disch:=omega) only [dm2,nL,qk,cz,ZA,Nat.reduceEqDiff,↓reduceIte,Nat.reduceAdd,Nat.reduceLeDiff,zz,decide_eq_true_eq]; first | done | omega)) (h:aX T H i=some r:=by (try simp (disch:=omega) only [cz,ZA,Nat.reduceEqDiff,↓reduceIte,Nat.reduceAdd,Nat.reduceLeDiff,ZV,reduceCtorEq,zz]); first | with_reducible rfl | (apply vD; (focus omega); with_reducible rfl)):al P dm (⟨d,none,i⟩ :: l) T H nx K:=iS hi hd h k
theorem nvY {S:Hp} {K:SP} {l:List (Op2 × Nat)} {d:Option Nat} {i:Ins} {r:AV} (k:ba P S l (aF T d r) H nx K) (h:aX T S i=some r:=by (try simp (disch:=omega) only [cz,ZA,Nat.reduceEqDiff,↓reduceIte,Nat.reduceAdd,Nat.reduceLeDiff,ZV,reduceCtorEq,zz]); first | with_reducible rfl | (apply vD; (focus omega); with_reducible rfl)):ba P S ((⟨d,none,i⟩,0) :: l) T H nx K:=An h k
theorem cY {dm:DM} {K:SP} {l:List Op2} {d:Option Nat} {f:Opd} {args:List Opd} {g:FuncId} {caps xs:List AV} {r:AV} (k:al P dm l (aF T d r) H nx K) (hf:ov T f=.func g caps:=by (try simp (disch:=omega) only [cz,ZA,Nat.reduceEqDiff,↓reduceIte,Nat.reduceAdd,Nat.reduceLeDiff,zz]); (try with_reducible rfl); first | done | fail) (ha:args.map (ov T) ++ caps=xs:=by (try simp (disch:=omega) only [cz,ZA,Nat.reduceEqDiff,↓reduceIte,Nat.reduceAdd,Nat.reduceLeDiff,zz]); (try with_reducible rfl); first | done | fail) (hp:Pure P g xs r) (hs:aA H xs xs r:=by (first | refine aa ?_ rfl | apply ac); (repeat' (first | exact ab | apply ag | (apply ae; (focus with_reducible assumption)))); first | done | fail):al P dm (⟨d,none,.call f args⟩ :: l) T H nx K:=sR hf ha hp hs k
theorem alY {dm:DM} {K:SP} {l:List Op2} {d:Option Nat} {z:AV} {cs:List AV} (k:al P dm l (aF T d (.ptr nx cs.length 0)) (am H nx cs) (nx + 1) K) (hd:dm2 dm T (.alloc z)=true:=by first | rfl | (simp (disch:=omega) only [dm2,nL,qk,cz,ZA,Nat.reduceEqDiff,↓reduceIte,Nat.reduceAdd,Nat.reduceLeDiff,zz,decide_eq_true_eq]; first | done | omega)) (hc:z.cells=cs:=by (try simp (disch:=omega) only [cz,ZA,Nat.reduceEqDiff,↓reduceIte,Nat.reduceAdd,Nat.reduceLeDiff,zz]); (try with_reducible rfl); first | done | fail) (ho:AV.ones cs=true:=by simp (disch:=omega) only [SO,Bool.and_self,eF,dR,zz]; first | done | fail):al P dm (⟨d,none,.alloc z⟩ :: l) T H nx K:=ss hd hc ho k
theorem bxY {dm:DM} {K:SP} {l:List Op2} {d:Option Nat} {x:Opd} {v:AV} {cs:List AV} (k:al P dm l (aF T d (.ptr nx cs.length 0)) (am H nx cs) (nx + 1) K) (hd:dm2 dm T (.box x)=true:=by first | rfl | (simp (disch:=omega) only [dm2,nL,qk,cz,ZA,Nat.reduceEqDiff,↓reduceIte,Nat.reduceAdd,Nat.reduceLeDiff,zz,decide_eq_true_eq]; first | done | omega)) (hx:ov T x=v:=by (try simp (disch:=omega) only [cz,ZA,Nat.reduceEqDiff,↓reduceIte,Nat.reduceAdd,Nat.reduceLeDiff,zz]); (try with_reducible rfl); first | done | fail) (hc:v.cells=cs:=by (try simp (disch:=omega) only [cz,ZA,Nat.reduceEqDiff,↓reduceIte,Nat.reduceAdd,Nat.reduceLeDiff,zz]); (try with_reducible rfl); first | done | fail) (ho:AV.ones cs=true:=by simp (disch:=omega) only [SO,Bool.and_self,eF,dR,zz]; first | done | fail):al P dm (⟨d,none,.box x⟩ :: l) T H nx K:=xJ hd hx hc ho k
theorem stY {dm:DM} {K:SP} {l:List Op2} {d:Option Nat} {sz:Nat} {p x:Opd} {b n off:Nat} {v:AV} {cs vs:List AV} (k:al P dm l (aF T d (.tup [])) (am H b (bb cs off vs)) nx K) (hd:dm2 dm T (.st sz p x)=true:=by first | rfl | (simp (disch:=omega) only [dm2,nL,qk,cz,ZA,Nat.reduceEqDiff,↓reduceIte,Nat.reduceAdd,Nat.reduceLeDiff,zz,decide_eq_true_eq]; first | done | omega)) (hp:ov T p=.ptr b n off:=by (try simp (disch:=omega) only [cz,ZA,Nat.reduceEqDiff,↓reduceIte,Nat.reduceAdd,Nat.reduceLeDiff,zz]); (try with_reducible rfl); first | done | fail) (hx:ov T x=v:=by (try simp (disch:=omega) only [cz,ZA,Nat.reduceEqDiff,↓reduceIte,Nat.reduceAdd,Nat.reduceLeDiff,zz]); (try with_reducible rfl); first | done | fail) (hb:H b=some cs:=by (try simp (disch:=omega) only [cz,ZA,Nat.reduceEqDiff,↓reduceIte,Nat.reduceAdd,Nat.reduceLeDiff,zz]); (try with_reducible rfl); first | done | fail) (hc:v.cells=vs:=by (try simp (disch:=omega) only [cz,ZA,Nat.reduceEqDiff,↓reduceIte,Nat.reduceAdd,Nat.reduceLeDiff,zz]); (try with_reducible rfl); first | done | fail) (ho:AV.ones vs=true:=by simp (disch:=omega) only [SO,Bool.and_self,eF,dR,zz]; first | done | fail) (hn:cs.length=n:=by (try simp only [SL,Nat.reduceAdd,Nat.reduceMul,List.length_map]); first | done | omega) (hl:vs.length=sz:=by (try simp only [SL,Nat.reduceAdd,Nat.reduceMul,List.length_map]); first | done | omega) (hf:off + sz ≤ n:=by (try simp only [SL,Nat.reduceAdd,Nat.reduceMul,List.length_map]); first | done | omega):al P dm (⟨d,none,.st sz p x⟩ :: l) T H nx K:=yK hd hp hx hb hc ho hn hl hf k
theorem blY {dm:DM} {K:SP} {l:List Op2} {d:Option Nat} {sz len:Nat} {z:List AV} {parts:List (Nat × Nat × Opd)} {pv:List (Nat × Nat × AV)} {cs:List AV} (k:al P dm l (aF T d (.msl nx cs.length sz 0 len)) (am H nx cs) (nx + 1) K) (hd:dm2 dm T (.bldS sz len z parts)=true:=by first | rfl | (simp (disch:=omega) only [dm2,nL,qk,cz,ZA,Nat.reduceEqDiff,↓reduceIte,Nat.reduceAdd,Nat.reduceLeDiff,zz,decide_eq_true_eq]; first | done | omega)) (hl:len ≠ 0:=by exact Nat.succ_ne_zero _) (hp:parts.map (fun p=>(p.1,p.2.1,ov T p.2.2))=pv:=by (try simp (disch:=omega) only [cz,ZA,Nat.reduceEqDiff,↓reduceIte,Nat.reduceAdd,Nat.reduceLeDiff,zz]); (try with_reducible rfl); first | done | fail) (hc:cL (aZ (.agg z) len) pv=some cs:=by (try simp (disch:=omega) only [cz,ZA,Nat.reduceEqDiff,↓reduceIte,Nat.reduceAdd,Nat.reduceLeDiff,SO,Bool.and_self,eF,dR,zz]); (try with_reducible rfl); first | done | fail):al P dm (⟨d,none,.bldS sz len z parts⟩ :: l) T H nx K:=xE hd hl hp hc k
theorem b0Y {dm:DM} {K:SP} {l:List Op2} {d:Option Nat} {sz:Nat} {z:List AV} (k:al P dm l (aF T d .esl) H nx K) (hd:dm2 dm T (.bldS sz 0 z [])=true:=by first | rfl | (simp (disch:=omega) only [dm2,nL,qk,cz,ZA,Nat.reduceEqDiff,↓reduceIte,Nat.reduceAdd,Nat.reduceLeDiff,zz,decide_eq_true_eq]; first | done | omega)):al P dm (⟨d,none,.bldS sz 0 z []⟩ :: l) T H nx K:=u6 hd k
theorem gTY {dm:DM} {K:SP} {l:List Op2} {d:Option Nat} {i:Ins} {t:Nat} {w:Bool} (k:al P dm (⟨d,none,i⟩ :: l) T H nx K) (h:T t=.bool w:=by simp (disch:=omega) only [cz,ZA,Nat.reduceEqDiff,↓reduceIte,Nat.reduceAdd,Nat.reduceLeDiff,zz]; first | done | fail):al P dm (⟨d,some (t,w),i⟩ :: l) T H nx K:=yJ h k
theorem gFY {dm:DM} {K:SP} {l:List Op2} {d:Option Nat} {i:Ins} {t:Nat} {w:Bool} (k:al P dm l (aF T d (.tup [])) H nx K) (h:T t=.bool (!w) ∨ T t=.tup []:=by simp (disch:=omega) only [cz,ZA,Nat.reduceEqDiff,↓reduceIte,Nat.reduceAdd,Nat.reduceLeDiff,or_true,true_or,zz]; first | done | fail):al P dm (⟨d,some (t,w),i⟩ :: l) T H nx K:=y6 h k
theorem cTY {K:CP} {c:Opd} {x y:C2} (h1:aG P x T H nx K) (hc:ov T c=.bool true:=by simp (disch:=omega) only [cz,ZA,Nat.reduceEqDiff,↓reduceIte,Nat.reduceAdd,Nat.reduceLeDiff,zz]; first | done | fail):aG P (.cond c x y) T H nx K:=pr hc h1
theorem cFY {K:CP} {c:Opd} {x y:C2} (h2:aG P y T H nx K) (hc:ov T c=.bool false:=by simp (disch:=omega) only [cz,ZA,Nat.reduceEqDiff,↓reduceIte,Nat.reduceAdd,Nat.reduceLeDiff,zz]; first | done | fail):aG P (.cond c x y) T H nx K:=pA hc h2
theorem r1Y {K:AV→Prop} {a:RV} {x:AV} (h:K x) (ha:rv T H a=some x:=by simp (disch:=omega) only [rv,cz,ZA,Nat.reduceEqDiff,↓reduceIte,Nat.reduceAdd,Nat.reduceLeDiff,zz]; with_reducible rfl):br T H K [a]:=r_1 ha h
theorem r2Y {K:AV→Prop} {a b:RV} {x y:AV} (h:K (.tup [x,y])) (ha:rv T H a=some x:=by simp (disch:=omega) only [rv,cz,ZA,Nat.reduceEqDiff,↓reduceIte,Nat.reduceAdd,Nat.reduceLeDiff,zz]; with_reducible rfl) (hb:rv T H b=some y:=by simp (disch:=omega) only [rv,cz,ZA,Nat.reduceEqDiff,↓reduceIte,Nat.reduceAdd,Nat.reduceLeDiff,zz]; with_reducible rfl):br T H K [a,b]:=r_2 ha hb h
class StW (A:Prop) (B:outParam Prop):Prop where st:B→A
class StO (A:Prop) (B:outParam Prop):Prop where st:B→A
class StM (A:Prop) (B:outParam Prop):Prop where st:B→A
theorem zW {A B:Prop} [i:StW A B] (h:B):A:=i.st h
theorem zO {A B:Prop} [i:StO A B] (h:B):A:=i.st h
theorem zM {A B:Prop} [i:StM A B] (h:B):A:=i.st h
instance {K:CP} {x y:C2}:StW (aG P (.seq x y) T H nx K) (aG P x T H nx fun e T H nx=>aN e (aG P y T H nx K) (K e T H nx)):=⟨d8⟩
instance {K:CP} {i:Nat} {b:C2}:StW (aG P (.block i b) T H nx K) (aG P b T H nx fun e T H nx=>K (gX i e) T H nx):=⟨du⟩
instance {K:CP} {b:C2}:StW (aG P (.loop b) T H nx K) (bc (aG P b) T H nx K):=⟨yv⟩
instance {K:CP}:StO (aG P .skip T H nx K) (K .normal T H nx):=⟨yu⟩
instance {K:CP} {i:Nat}:StO (aG P (.exit i) T H nx K) (K (.exit i) T H nx):=⟨yC⟩
instance {K:CP}:StO (aG P .ret T H nx K) (K .ret T H nx):=⟨AH⟩
instance {K:CP} {l:List Op2}:StO (aG P (.ops 0 l) T H nx K) (al P .text l T H nx fun T H nx=>K .normal T H nx):=⟨yr⟩
instance {K:CP} {l:List Op2}:StO (aG P (.ops 1 l) T H nx K) (al P .draw l T H nx fun T H nx=>K .normal T H nx):=⟨yV⟩
instance {K:CP} {l:List Op2}:StO (aG P (.ops 2 l) T H nx K) (al P (.fresh nx) l T H nx fun T H nx=>K .normal T H nx):=⟨yj⟩
instance {K:CP} {l:List Op2} {C:List Nat}:StO (aG P (.mix 1 l C) T H nx K) (al P .draw l T H nx fun T H nx=>K .normal T H nx):=⟨o7⟩
instance {K:CP} {l:List Op2} {C:List Nat}:StO (aG P (.mix 2 l C) T H nx K) (al P (.fresh nx) l T H nx fun T H nx=>K .normal T H nx):=⟨jV⟩
instance {dm:DM} {K:SP}:StO (al P dm [] T H nx K) (K T H nx):=⟨kW⟩
instance {S:Hp} {K:SP}:StO (ba P S [] T H nx K) (K T H nx):=⟨xD⟩
instance {S:Hp} {K:SP} {l:List (Op2 × Nat)} {d:Option Nat} {i:Ins}:StO (ba P S ((⟨d,none,i⟩,2) :: l) T H nx K) (al P .text [⟨d,none,i⟩] T H nx fun T H nx=>ba P S l T H nx K):=⟨gD⟩
instance {K:AV→Prop}:StO (br T H K []) (K (.tup [])):=⟨r_0⟩
instance {K:CP} {l:List Op2} {C:List (Nat × Nat)}:StM (aG P (.mixS 1 l C) T H nx K) (al P .draw l T H nx fun T H nx=>K .normal T H nx):=⟨wV⟩
instance {K:CP} {l:List Op2} {C:List (Nat × Nat)}:StM (aG P (.mixS 2 l C) T H nx K) (al P (.fresh nx) l T H nx fun T H nx=>K .normal T H nx):=⟨wI⟩
class NZ (b w:Bool) (p q:outParam Prop):Prop where
 t:b=w→p
 f:b=!w→q
instance (priority:=10) {b:Bool}:NZ b true (b=true) (b=false):=⟨id,id⟩
instance (priority:=10) {b:Bool}:NZ b false (b=false) (b=true):=⟨id,id⟩
instance {p:Prop} {i:Decidable p}:NZ (decide p) true p (¬ p):=⟨of_decide_eq_true,of_decide_eq_false⟩
instance {p:Prop} {i:Decidable p}:NZ (decide p) false (¬ p) p:=⟨of_decide_eq_false,of_decide_eq_true⟩
instance (priority:=2000):NZ true true True False:=⟨fun _=>trivial,fun h=>by cases h⟩
instance (priority:=2000):NZ true false False True:=⟨fun h=>(by cases h),fun _=>trivial⟩
instance (priority:=2000):NZ false true False True:=⟨fun h=>(by cases h),fun _=>trivial⟩
instance (priority:=2000):NZ false false True False:=⟨fun _=>trivial,fun h=>by cases h⟩
instance (priority:=2000) {i:Decidable True}:NZ (decide True) true True False:=⟨fun _=>trivial,fun h=>of_decide_eq_false h trivial⟩
instance (priority:=2000) {i:Decidable True}:NZ (decide True) false False True:=⟨fun h=>of_decide_eq_false h trivial,fun _=>trivial⟩
instance (priority:=2000) {i:Decidable False}:NZ (decide False) true False True:=⟨of_decide_eq_true,fun _=>trivial⟩
instance (priority:=2000) {i:Decidable False}:NZ (decide False) false True False:=⟨fun _=>trivial,of_decide_eq_true⟩
instance {b w:Bool} {p q:Prop} [i:NZ b w p q]:NZ (!b) w q p:=⟨fun h=>i.f (by cases b <;> cases w <;> simp_all),fun h=>i.t (by cases b <;> cases w <;> simp_all)⟩
class StG (A:Prop) (v:outParam AV) (w:outParam Bool) (B C:outParam Prop):Prop where
 st:∀ b:Bool,v=.bool b→(b=w→B)→(b=!w→C)→A
instance {K:CP} {c:Opd} {x y:C2}:StG (aG P (.cond c x y) T H nx K) (ov T c) true (aG P x T H nx K) (aG P y T H nx K):=⟨fun _ h k1 k2=>ro h k1 k2⟩
instance {dm:DM} {K:SP} {l:List Op2} {d:Option Nat} {i:Ins} {t:Nat}:StG (al P dm (⟨d,some (t,true),i⟩ :: l) T H nx K) (T t) true (al P dm (⟨d,none,i⟩ :: l) (upd T t (.bool true)) H nx K) (al P dm l (aF (upd T t (.bool false)) d (.tup [])) H nx K):=⟨fun _ h k1 k2=>AG h k1 k2⟩
instance {dm:DM} {K:SP} {l:List Op2} {d:Option Nat} {i:Ins} {t:Nat}:StG (al P dm (⟨d,some (t,false),i⟩ :: l) T H nx K) (T t) false (al P dm (⟨d,none,i⟩ :: l) (upd T t (.bool false)) H nx K) (al P dm l (aF (upd T t (.bool true)) d (.tup [])) H nx K):=⟨fun _ h k1 k2=>AG h k1 k2⟩
theorem zGZ {A:Prop} {v:AV} {w b:Bool} {B C p q:Prop} [i:StG A v w B C] [n:NZ b w p q] (k1:p→B) (k2:q→C) (h:v=.bool b:=by (try simp only [bP,ZA,Nat.reduceEqDiff,↓reduceIte,Nat.reduceAdd,Nat.reduceLeDiff,zz]); (try with_reducible rfl); first | done | fail):A:=i.st b h (fun h=>k1 (n.t h)) (fun h=>k2 (n.f h))
theorem zGY {A:Prop} {v:AV} {w b:Bool} {B C p q:Prop} [i:StG A v w B C] [n:NZ b w p q] (k1:p→B) (k2:q→C) (h:v=.bool b:=by (try simp (disch:=omega) only [cz,ZA,Nat.reduceEqDiff,↓reduceIte,Nat.reduceAdd,Nat.reduceLeDiff,zz]); (try with_reducible rfl); first | done | fail):A:=i.st b h (fun h=>k1 (n.t h)) (fun h=>k2 (n.f h))
end Go.Abs
namespace Go.Abs
open Go.RowKit
inductive PT (α:Type) where
 | leaf
 | node (v:Option α) (l r:PT α)
def PT.get {α:Type}:PT α→Nat→Option α
 | .leaf,_=>none
 | .node v l r,n=>match n with
  | 0=>v
  | n + 1=>match n % 2 with
   | 0=>l.get (n / 2)
   | _ + 1=>r.get (n / 2)
def PT.set {α:Type}:Nat→PT α→Nat→Option α→Option (PT α)
 | 0,_,_,_=>none
 | k + 1,t,n,x=>match t with
  | .leaf=>match n with
   | 0=>some (.node x .leaf .leaf)
   | n + 1=>match n % 2 with
    | 0=>match PT.set k .leaf (n / 2) x with
     | some l=>some (.node none l .leaf)
     | none=>none
    | _ + 1=>match PT.set k .leaf (n / 2) x with
     | some r=>some (.node none .leaf r)
     | none=>none
  | .node v l r=>match n with
   | 0=>some (.node x l r)
   | n + 1=>match n % 2 with
    | 0=>match PT.set k l (n / 2) x with
     | some l=>some (.node v l r)
     | none=>none
    | _ + 1=>match PT.set k r (n / 2) x with
     | some r=>some (.node v l r)
     | none=>none
theorem PT.get_even {α:Type} {v:Option α} {l r:PT α} {n:Nat} (h:n % 2=0):(PT.node v l r).get (n + 1)=l.get (n / 2):=by
 simp only [PT.get,h]
theorem PT.get_odd {α:Type} {v:Option α} {l r:PT α} {n:Nat} (h:n % 2=1):(PT.node v l r).get (n + 1)=r.get (n / 2):=by
 simp only [PT.get,h]
theorem PT.get_set {α:Type}:∀ (k:Nat) {t t':PT α} {n:Nat} {x:Option α},PT.set k t n x=some t'→∀ m,t'.get m=if m=n then x else t.get m
 | 0,_,_,_,_,h=>by cases h
 | k + 1,t,t',n,x,h=>by
  intro m
  have two:∀ a:Nat,a % 2=0 ∨ a % 2=1:=fun a=>by omega
  cases t with
  | leaf =>
   cases n with
   | zero =>
    cases h
    cases m with
    | zero=>rfl
    | succ m =>
     rw [if_neg (by omega)]
     rcases two m with e | e
     ·rw [get_even e]; rfl
     ·rw [get_odd e]; rfl
   | succ n =>
    rcases two n with en | en
    ·simp only [PT.set,en] at h
     split at h
     ·rename_i l hl
      cases h
      have ih:=PT.get_set k hl
      cases m with
      | zero=>rw [if_neg (by omega)]; rfl
      | succ m =>
       rcases two m with e | e
       ·rw [get_even e,ih]
        by_cases hh:m / 2=n / 2
        ·rw [if_pos hh,if_pos (by omega)]
        ·rw [if_neg hh,if_neg (by omega)]; rfl
       ·rw [get_odd e,if_neg (by omega)]; rfl
     ·cases h
    ·simp only [PT.set,en] at h
     split at h
     ·rename_i l hl
      cases h
      have ih:=PT.get_set k hl
      cases m with
      | zero=>rw [if_neg (by omega)]; rfl
      | succ m =>
       rcases two m with e | e
       ·rw [get_even e,if_neg (by omega)]; rfl
       ·rw [get_odd e,ih]
        by_cases hh:m / 2=n / 2
        ·rw [if_pos hh,if_pos (by omega)]
        ·rw [if_neg hh,if_neg (by omega)]; rfl
     ·cases h
  | node v l r =>
   cases n with
   | zero =>
    cases h
    cases m with
    | zero=>rfl
    | succ m =>
     rw [if_neg (by omega)]
     rcases two m with e | e
     ·rw [get_even e,get_even e]
     ·rw [get_odd e,get_odd e]
   | succ n =>
    rcases two n with en | en
    ·simp only [PT.set,en] at h
     split at h
     ·rename_i l' hl
      cases h
      have ih:=PT.get_set k hl
      cases m with
      | zero=>rw [if_neg (by omega)]; rfl
      | succ m =>
       rcases two m with e | e
       ·rw [get_even e,ih,get_even e]
        by_cases hh:m / 2=n / 2
        ·rw [if_pos hh,if_pos (by omega)]
        ·rw [if_neg hh,if_neg (by omega)]
       ·rw [get_odd e,if_neg (by omega),get_odd e]
     ·cases h
    ·simp only [PT.set,en] at h
     split at h
     ·rename_i l' hl
      cases h
      have ih:=PT.get_set k hl
      cases m with
      | zero=>rw [if_neg (by omega)]; rfl
      | succ m =>
       rcases two m with e | e
       ·rw [get_even e,if_neg (by omega),get_even e]
       ·rw [get_odd e,ih,get_odd e]
        by_cases hh:m / 2=n / 2
        ·rw [if_pos hh,if_pos (by omega)]
        ·rw [if_neg hh,if_neg (by omega)]
     ·cases h
inductive BC where
 | cells (cs:List AV)
 | mark (e:Option AEx)
abbrev TT:=PT AV
abbrev HT:=PT BC
abbrev LV:=Nat→Option AEx→List AV
def bcL (L:LV) (n:Nat):Option BC→Option (List AV)
 | some (.cells cs)=>some cs
 | some (.mark e)=>some (L n e)
 | none=>none
def bc0:Option BC→Option (List AV)
 | some (.cells cs)=>some cs
 | _=>none
def toT (t:TT):Tm:=fun n=>(t.get n).getD .undef
def toH (L:LV) (t:HT):Hp:=fun n=>bcL L n (t.get n)
def c6 (t:HT):Hp:=fun n=>bc0 (t.get n)
def LIM:Nat:=24
theorem bI {L:LV} {t:HT}:Sub (c6 t) (toH L t):=fun b cs h=>by
 unfold c6 at h
 unfold toH
 cases hg:t.get b with
 | none=>rw [hg] at h; cases h
 | some c =>
  rw [hg] at h
  cases c with
  | cells x=>exact h
  | mark e=>cases h
theorem pu {k:Nat} {T T':TT} {d:Nat} {v:AV} (h:PT.set k T d (some v)=some T'):toT T'=upd (toT T) d v:=by
 funext m
 simp only [toT,upd,PT.get_set k h]
 split <;> rfl
theorem er {L:LV} {k:Nat} {H H':HT} {b:Nat} {cs:List AV} (h:PT.set k H b (some (.cells cs))=some H'):toH L H'=am (toH L H) b cs:=by
 funext m
 simp only [toH,am,PT.get_set k h]
 split <;> rfl
theorem jx {L:LV} {k:Nat} {H H':HT} {b:Nat} {e:Option AEx} (h:PT.set k H b (some (.mark e))=some H'):toH L H'=am (toH L H) b (L b e):=by
 funext m
 simp only [toH,am,PT.get_set k h]
 split
 ·rename_i hm; subst hm; rfl
 ·rfl
theorem oK {L:LV} {k:Nat} {H H':HT} {b:Nat} (h:PT.set k H b none=some H'):toH L H'=bN (toH L H) b:=by
 funext m
 simp only [toH,bN,PT.get_set k h]
 split <;> rfl
def stT (T:TT) (d:Option Nat) (v:AV):Option TT:=match d with
 | none=>some T
 | some d=>PT.set LIM T d (some v)
theorem jg {T T':TT} {d:Option Nat} {v:AV} (h:stT T d v=some T'):toT T'=aF (toT T) d v:=by
 cases d with
 | none=>cases h; rfl
 | some d=>exact pu h
def gd:Nat→List AV→TT→Option TT
 | _,[],T=>some T
 | i,x :: l,T=>match PT.set LIM T i (some x) with
  | some T=>gd (i + 1) l T
  | none=>none
theorem iW:∀ (l:List AV) (i:Nat) {T T':TT},gd i l T=some T'→∀ m,toT T' m=if i ≤ m∧m < i + l.length then l.getD (m - i) .undef else toT T m
 | [],i,T,T',h,m=>by cases h; rw [if_neg (by simp only [List.length_nil]; omega)]
 | x :: l,i,T,T',h,m=>by
  simp only [gd] at h
  split at h
  ·rename_i T1 h1
   rw [iW l (i + 1) h m,pu h1]
   simp only [upd,List.length_cons]
   by_cases e:m=i
   ·subst e
    rw [if_neg (by omega),if_pos rfl,if_pos (by omega)]
    simp
   ·by_cases e2:i + 1 ≤ m∧m < i + 1 + l.length
    ·rw [if_pos e2,if_pos (by omega)]
     obtain ⟨j,rfl⟩:∃ j,m=i + 1 + j:=⟨m - (i + 1),by omega⟩
     rw [show i + 1 + j - (i + 1)=j by omega,show i + 1 + j - i=j + 1 by omega]
     rfl
    ·rw [if_neg e2,if_neg e,if_neg (by omega)]
  ·cases h
def vF (l:List AV):Option TT:=gd 0 l .leaf
theorem tA {l:List AV} {T:TT} (h:vF l=some T):toT T=T0 l:=by
 funext m
 rw [iW l 0 h m]
 simp only [T0,Nat.zero_le,true_and,Nat.zero_add,Nat.sub_zero]
 split
 ·rfl
 ·rename_i hm
  have:l[m]?=none:=by simp; omega
  simp [List.getD,this,toT,PT.get]
def frN {α:Type} (n:Nat) (K:Nat→α):α:=match n with
 | 0=>K 0
 | m + 1=>K (m + 1)
def frI {α:Type} (n:Int) (K:Int→α):α:=match n with
 | .ofNat m=>frN m fun m=>K (.ofNat m)
 | .negSucc m=>frN m fun m=>K (.negSucc m)
def frV {α:Type} (x:AV) (K:AV→α):α:=match x with
 | .int k n=>frI n fun n=>K (.int k n)
 | .ptr b n off=>frN b fun b=>frN n fun n=>frN off fun off=>K (.ptr b n off)
 | .msl b n sz off len=>frN b fun b=>frN n fun n=>frN sz fun sz=>frN off fun off=>frN len fun len=>K (.msl b n sz off len)
 | x=>K x
def frL {α:Type}:List AV→(List AV→α)→α
 | [],K=>K []
 | x :: l,K=>frV x fun x=>frL l fun l=>K (x :: l)
theorem uC {α:Type} {n:Nat} {K:Nat→α}:frN n K=K n:=by cases n <;> rfl
theorem yg {α:Type} {n:Int} {K:Int→α}:frI n K=K n:=by cases n <;> simp [frI,uC]
theorem ka {α:Type} {x:AV} {K:AV→α}:frV x K=K x:=by cases x <;> simp [frV,yg,uC]
theorem gG {α:Type}:∀ {l:List AV} {K:List AV→α},frL l K=K l
 | [],_=>rfl
 | x :: l,K=>by simp [frL,ka,gG]
def touch (T:Tm) (nx:Nat):Ins→Option Nat
 | .alloc _=>some nx
 | .box _=>some nx
 | .bldS _ len _ _=>if len=0 then none else some nx
 | .mks ..=>some nx
 | .st _ p _=>match ov T p with
  | .ptr b _ _=>some b
  | _=>none
 | .app _ _ s _=>match ov T s with
  | .esl=>some nx
  | .msl b _ _ _ _=>some b
  | _=>none
 | .apz ..=>some nx
 | _=>none
theorem mS {S H:Hp} (hs:Sub S H) {sz:Nat} {x:AV} {r:Nat × List AV} (h:dz sz S x=some r):dz sz H x=some r:=by
 cases x <;> simp only [dz] at h ⊢ <;> try (first | exact h | (cases h; done))
 rename_i b n sz' off len
 split at h
 ·rename_i h0; rw [if_pos h0]; exact h
 ·rename_i h0
  rw [if_neg h0]
  split at h
  ·rename_i cs hb
   rw [hs b cs hb]; exact h
  ·cases h
theorem tL {S H:Hp} (hs:Sub S H) {T:Tm} {i:Ins} {r:AV} (h:aX T S i=some r):aX T H i=some r:=by
 cases i <;> try exact h
 ·exact oV hs h
 ·rename_i k a
  simp only [aX] at h ⊢
  cases hr:rd S k (ov T a) with
  | none=>rw [hr] at h; cases h
  | some l=>rw [hr] at h; rw [rW hs hr]; exact h
theorem i7 {S H:Hp} (hs:Sub S H) {T:Tm} {a:RV} {r:AV} (h:rv T S a=some r):rv T H a=some r:=by
 cases a with
 | t n=>exact h
 | c1 n=>exact oV hs h
 | cn n k =>
  simp only [rv] at h ⊢
  cases hr:rd S k (T n) with
  | none=>rw [hr] at h; cases h
  | some l=>rw [hr] at h; rw [rW hs hr]; exact h
theorem rR {T:Tm} {S S' H:Hp} (hs:Sub S H) {nx nx':Nat} {i:Ins} {r:AV} (h:ec T S nx i=some (r,S',nx')) :
    (touch T nx i=none→ec T H nx i=some (r,H,nx'))∧∀ b,touch T nx i=some b→∃ cs,S'=am S b cs∧ec T H nx i=some (r,am H b cs,nx'):=by
 cases i <;> simp only [ec] at h ⊢ <;> try (cases h; done)
 case alloc z =>
  unfold lu at h ⊢
  split at h <;> cases h
  rename_i hz
  rw [if_pos hz]
  exact ⟨fun h=>by simp [touch] at h,fun b h=>by simp [touch] at h; subst h; exact ⟨_,rfl,rfl⟩⟩
 case box x =>
  unfold lu at h ⊢
  split at h <;> cases h
  rename_i hz
  rw [if_pos hz]
  exact ⟨fun h=>by simp [touch] at h,fun b h=>by simp [touch] at h; subst h; exact ⟨_,rfl,rfl⟩⟩
 case bldS sz len z parts =>
  split at h
  ·rename_i hl
   rw [if_pos hl]
   split at h <;> cases h
   rename_i hp
   rw [if_pos hp]
   exact ⟨fun _=>rfl,fun b h=>by simp [touch,hl] at h⟩
  ·rename_i hl
   rw [if_neg hl]
   split at h <;> cases h
   exact ⟨fun h=>by simp [touch,hl] at h,fun b h=>by simp [touch,hl] at h; subst h; exact ⟨_,rfl,rfl⟩⟩
 case mks sz bytes z l c =>
  split at h
  ·rename_i h1 h2
   split at h <;> cases h
   rename_i hc
   rw [if_pos hc]
   exact ⟨fun h=>by simp [touch] at h,fun b h=>by simp [touch] at h; subst h; exact ⟨_,rfl,rfl⟩⟩
  ·cases h
 case apz sz bytes z s x =>
  split at h
  ·rename_i h1 h2
   split at h <;> cases h
   rename_i hc
   rw [if_pos hc]
   exact ⟨fun h=>by simp [touch] at h,fun b h=>by simp [touch] at h; subst h; exact ⟨_,rfl,rfl⟩⟩
  ·cases h
 case st k p x =>
  split at h
  ·rename_i b n off hp
   split at h
   ·rename_i cs hb
    split at h <;> cases h
    rename_i hc
    simp only [hs b cs hb]
    rw [if_pos hc]
    exact ⟨fun h=>by simp [touch,hp] at h,fun b h=>by simp [touch,hp] at h; subst h; exact ⟨_,rfl,rfl⟩⟩
   ·cases h
  ·cases h
 case app sz bytes s x =>
  unfold wc at h ⊢
  split at h
  ·cases h
  ·rename_i k new hsrc
   rw [mS hs hsrc]
   simp only
   split at h
   ·rename_i hone
    rw [if_pos hone]
    split at h
    ·rename_i he
     split at h <;> cases h
     rename_i hc
     rw [if_pos hc]
     exact ⟨fun h=>by simp [touch,he] at h,fun b h=>by simp [touch,he] at h; subst h; exact ⟨_,rfl,rfl⟩⟩
    ·rename_i b n s' off len he
     split at h
     ·rename_i cs hb
      simp only [hs b cs hb]
      split at h
      ·rename_i hc
       rw [if_pos hc]
       split at h
       ·rename_i hc2
        rw [if_pos hc2]
        cases h
        exact ⟨fun h=>by simp [touch,he] at h,fun b h=>by simp [touch,he] at h; subst h; exact ⟨_,rfl,rfl⟩⟩
       ·rename_i hc2
        rw [if_neg hc2]
        split at h
        ·rename_i hc3
         rw [if_pos hc3]
         cases h
         exact ⟨fun h=>by simp [touch,he] at h,fun b h=>by simp [touch,he] at h; subst h; exact ⟨_,rfl,rfl⟩⟩
        ·rename_i hc3
         rw [if_neg hc3]
         split at h <;> cases h
         rename_i hc4
         rw [if_pos hc4]
         exact ⟨fun h=>by simp [touch,he] at h,fun b h=>by simp [touch,he] at h; subst h; exact ⟨_,rfl,rfl⟩⟩
      ·cases h
     ·cases h
    ·cases h
   ·cases h
def yQ (T:TT) (H:HT) (nx:Nat) (i:Ins):Option (AV × HT × Nat) :=
 match ec (toT T) (c6 H) nx i with
 | none=>none
 | some (r,H',nx')=>match touch (toT T) nx i with
  | none=>some (r,H,nx')
  | some b=>match H' b with
   | none=>none
   | some cs=>frL cs fun cs=>match PT.set LIM H b (some (.cells cs)) with
    | some H2=>some (r,H2,nx')
    | none=>none
theorem wU {L:LV} {T:TT} {H H2:HT} {nx nx':Nat} {i:Ins} {r:AV} (h:yQ T H nx i=some (r,H2,nx')):ec (toT T) (toH L H) nx i=some (r,toH L H2,nx'):=by
 unfold yQ at h
 split at h
 ·cases h
 ·rename_i r1 H1 nx1 he
  obtain ⟨t1,t2⟩:=rR (bI (L:=L)) he
  split at h
  ·rename_i ht
   cases h
   exact t1 ht
  ·rename_i b ht
   obtain ⟨cs,rfl,e⟩:=t2 b ht
   rw [show am (c6 H) b cs b=some cs from if_pos rfl] at h
   simp only [gG] at h
   split at h
   ·rename_i H3 hset
    cases h
    rw [e,er hset]
   ·cases h
def iu:List AV→Option (List UInt8)
 | []=>some []
 | .int .u8 n :: l=>if 0 ≤ n∧n.toNat < 256 then (match iu l with | some bs=>some (UInt8.ofNat n.toNat :: bs) | none=>none) else none
 | _ :: _=>none
theorem nB:∀ {l:List AV} {bs:List UInt8},iu l=some bs→l=bs.map iG
 | [],bs,h=>by cases h; rfl
 | x :: l,bs,h=>by
  cases x <;> try (simp only [iu] at h; cases h; done)
  rename_i k n
  cases k <;> try (simp only [iu] at h; cases h; done)
  simp only [iu] at h
  split at h
  ·rename_i hn
   split at h
   ·rename_i bs' hb
    cases h
    rw [List.map_cons,← nB hb]
    congr 1
    unfold iG
    rw [UInt8.toNat_ofNat_of_lt' hn.2]
    congr 1
    omega
   ·cases h
  ·cases h
def rsp (T:Tm) (H:HT) (nx:Nat):Ins→Option (AV × HT × Nat)
 | .mkm h=>match h with
  | none=>match PT.set LIM H nx (some (.cells [.omap [] []])) with
   | some H'=>some (.mp nx,H',nx + 1)
   | none=>none
  | some x=>match ov T x with
   | .int _ _=>match PT.set LIM H nx (some (.cells [.omap [] []])) with
    | some H'=>some (.mp nx,H',nx + 1)
    | none=>none
   | _=>none
 | .mput k m key x=>match ov T m with
  | .mp b=>match H.get b with
   | some (.cells [.omap ks vs])=>if jd k (ov T key)=true then match cw k (ov T key) ks with
       | some r=>frL (b5 (ov T key) r ks) fun ks=>frL (hZ (ov T x) r vs) fun vs=>match PT.set LIM H b (some (.cells [.omap ks vs])) with
        | some H'=>some (.tup [],H',nx)
        | none=>none
       | none=>none
    else none
   | _=>none
  | _=>none
 | .mget k z ok m key=>match ov T m with
  | .mp b=>match H.get b with
   | some (.cells [.omap ks vs])=>if jd k (ov T key)=true then match cw k (ov T key) ks with
       | some r=>some (Go.Abs.mget z ok r vs,H,nx)
       | none=>none
    else none
   | _=>none
  | _=>none
 | .mplc k z m key=>match ov T m with
  | .mp b=>match H.get b with
   | some (.cells [.omap ks vs])=>if jd k (ov T key)=true then match cw k (ov T key) ks with
       | some r=>frL (b5 (ov T key) r ks) fun ks'=>frL (gM z r vs) fun vs'=>match PT.set LIM H b (some (.cells [.omap ks' vs'])) with
        | some H'=>some (.tup [rh z r vs,.int .i64 (p9 r ks)],H',nx)
        | none=>none
       | none=>none
    else none
   | _=>none
  | _=>none
 | .mpst m s x=>match ov T m with
  | .mp b=>match H.get b with
   | some (.cells [.omap ks vs])=>match ov T s with
    | .int .i64 (.ofNat i)=>if i < ks.length then frL (vs.set i (ov T x)) fun vs'=>match PT.set LIM H b (some (.cells [.omap ks vs'])) with
     | some H'=>some (.tup [],H',nx)
     | none=>none
     else none
    | _=>none
   | _=>none
  | _=>none
 | .mlen m=>match ov T m with
  | .mp b=>match H.get b with
   | some (.cells [.omap ks vs])=>some (.int .i64 ks.length,H,nx)
   | _=>none
  | _=>none
 | .cpy sz d s=>match iO sz (ov T d) (ov T s) (c6 H) with
  | none=>none
  | some (n,H')=>match n with
   | 0=>some (.int .i64 (0:Nat),H,nx)
   | n + 1=>match ov T d with
    | .msl b _ _ _ _=>match H' b with
     | some cs=>frL cs fun cs=>match PT.set LIM H b (some (.cells cs)) with
      | some H2=>some (.int .i64 (n + 1:Nat),H2,nx)
      | none=>none
     | none=>none
    | _=>none
 | .clr sz z x=>match fJ sz z (ov T x) (c6 H) with
  | none=>none
  | some H'=>match ov T x with
   | .msl b _ _ _ 0=>some (.tup [],H,nx)
   | .msl b _ _ _ (_ + 1)=>match H' b with
    | some cs=>frL cs fun cs=>match PT.set LIM H b (some (.cells cs)) with
     | some H2=>some (.tup [],H2,nx)
     | none=>none
    | none=>none
   | _=>none
 | .slp len sz x=>match ov T x with
  | .ptr b n off=>match H.get b with
   | some (.cells cs)=>if cs.length=n∧off + len * sz=n then some (.msl b n sz off len,H,nx) else none
   | _=>none
  | _=>none
 | .snil neg x=>match eZ (ov T x) with
  | some (k + 1)=>some (.bool neg,H,nx)
  | _=>none
 | .s2b x=>match ov T x with
  | .str bs=>if bs.size=0 then some (.sl 1 [],H,nx) else frL (bs.data.toList.map iG) fun cs=>match PT.set LIM H nx (some (.cells cs)) with
   | some H'=>some (.msl nx bs.size 1 0 bs.size,H',nx + 1)
   | none=>none
  | _=>none
 | .b2s x=>match dz 1 (c6 H) (ov T x) with
  | some (n,l)=>match iu l with
   | some bs=>some (.str ⟨bs.toArray⟩,H,nx)
   | none=>none
  | none=>none
 | _=>none
theorem qF {sz n:Nat} {d s:AV} {S S' H:Hp} (hs:Sub S H) (h:iO sz d s S=some (n,S')):(n=0→iO sz d s H=some (0,H))∧(n ≠ 0→∀ b m z o l,d=.msl b m z o l→∃ cs,S'=am S b cs∧iO sz d s H=some (n,am H b cs)):=by
 unfold iO at h ⊢
 split at h
 ·rename_i ld ls h1 h2
  split at h
  ·rename_i hm
   rw [if_pos hm]
   cases h; exact ⟨fun _=>rfl,fun h=>absurd rfl h⟩
  ·rename_i hm
   rw [if_neg hm]
   split at h
   ·split at h
    ·rename_i cs m new hb hsrc
     simp only [hs _ _ hb,mS hs hsrc]
     split at h
     ·rename_i hc
      rw [if_pos hc]
      cases h
      refine ⟨fun h=>absurd h hm,fun _ b m z o l e=>?_⟩
      cases e; exact ⟨_,rfl,rfl⟩
     ·cases h
    ·cases h
   ·cases h
 ·cases h
theorem py {sz:Nat} {z x:AV} {S S' H:Hp} (hs:Sub S H) (h:fJ sz z x S=some S'):∀ b m s o l,x=.msl b m s o l→(l=0→fJ sz z x H=some H)∧(l ≠ 0→∃ cs,S'=am S b cs∧fJ sz z x H=some (am H b cs)):=by
 intro b m s o l hx
 subst hx
 simp only [fJ] at h ⊢
 split at h
 ·rename_i h0
  rw [if_pos h0]
  exact ⟨fun _=>rfl,fun h=>absurd h0 h⟩
 ·rename_i h0
  rw [if_neg h0]
  refine ⟨fun h=>absurd h h0,fun _=>?_⟩
  split at h
  ·rename_i cs hb
   simp only [hs _ _ hb]
   split at h
   ·rename_i hc
    rw [if_pos hc]
    cases h
    exact ⟨_,rfl,rfl⟩
   ·cases h
  ·cases h
theorem fQ {L:LV} {H:HT} {b:Nat} {cs:List AV} (h:H.get b=some (.cells cs)):toH L H b=some cs:=by
 simp only [toH,h,bcL]
theorem yW {L:LV} {T:Tm} {H H2:HT} {nx nx':Nat} {i:Ins} {r:AV} {K:AV→Hp→Nat→Prop} (h:rsp T H nx i=some (r,H2,nx')) (hK:K r (toH L H2) nx'):isp i T (toH L H) nx K:=by
 cases i <;> simp only [rsp] at h <;> try (cases h; done)
 case mkm x =>
  cases x with
  | none =>
   simp only at h
   split at h
   ·rename_i H' hs
    cases h
    exact ⟨.inl rfl,by rw [er hs] at hK; exact hK⟩
   ·cases h
  | some x =>
   simp only at h
   split at h
   ·rename_i k n hx
    split at h
    ·rename_i H' hs
     cases h
     exact ⟨.inr ⟨x,k,n,rfl,hx⟩,by rw [er hs] at hK; exact hK⟩
    ·cases h
   ·cases h
 case mput k m key x =>
  split at h
  ·rename_i b hm
   split at h
   ·rename_i ks vs hb
    split at h
    ·rename_i hf
     split at h
     ·rename_i r1 hr
      simp only [gG] at h
      split at h
      ·rename_i H' hs
       cases h
       exact ⟨b,ks,vs,r1,hm,fQ hb,hf,hr,by rw [er hs] at hK; exact hK⟩
      ·cases h
     ·cases h
    ·cases h
   ·cases h
  ·cases h
 case mget k z ok m key =>
  split at h
  ·rename_i b hm
   split at h
   ·rename_i ks vs hb
    split at h
    ·rename_i hf
     split at h
     ·rename_i r1 hr
      cases h
      exact ⟨b,ks,vs,r1,hm,fQ hb,hf,hr,hK⟩
     ·cases h
    ·cases h
   ·cases h
  ·cases h
 case mplc k z m key =>
  split at h
  ·rename_i b hm
   split at h
   ·rename_i ks vs hb
    split at h
    ·rename_i hf
     split at h
     ·rename_i r1 hr
      simp only [gG] at h
      split at h
      ·rename_i H' hs
       cases h
       exact ⟨b,ks,vs,r1,hm,fQ hb,hf,hr,by rw [er hs] at hK; exact hK⟩
      ·cases h
     ·cases h
    ·cases h
   ·cases h
  ·cases h
 case mpst m s x =>
  split at h
  ·rename_i b hm
   split at h
   ·rename_i ks vs hb
    split at h
    ·rename_i i hi
     split at h
     ·rename_i hlt
      simp only [gG] at h
      split at h
      ·rename_i H' hs
       cases h
       exact ⟨b,ks,vs,i,hm,fQ hb,hi,hlt,by rw [er hs] at hK; exact hK⟩
      ·cases h
     ·cases h
    ·cases h
   ·cases h
  ·cases h
 case mlen m =>
  split at h
  ·rename_i b hm
   split at h
   ·rename_i ks vs hb
    cases h
    exact ⟨b,ks,vs,hm,fQ hb,hK⟩
   ·cases h
  ·cases h
 case cpy sz d s =>
  split at h
  ·cases h
  ·rename_i n H' hc
   obtain ⟨t1,t2⟩:=qF (bI (L:=L)) hc
   split at h
   ·cases h
    exact ⟨0,_,t1 rfl,hK⟩
   ·rename_i n
    split at h
    ·rename_i b m z o l hd
     obtain ⟨cs,rfl,e⟩:=t2 (Nat.succ_ne_zero _) _ _ _ _ _ hd
     rw [show am (c6 H) b cs b=some cs from if_pos rfl] at h
     simp only [gG] at h
     split at h
     ·rename_i H3 hs
      cases h
      exact ⟨_,_,e,by rw [er hs] at hK; exact hK⟩
     ·cases h
    ·cases h
 case clr sz z x =>
  split at h
  ·cases h
  ·rename_i H' hc
   have ht:=py (bI (L:=L)) hc
   split at h
   ·rename_i b m s o hx
    cases h
    exact ⟨_,(ht _ _ _ _ _ hx).1 rfl,hK⟩
   ·rename_i b m s o l hx
    obtain ⟨cs,rfl,e⟩:=(ht _ _ _ _ _ hx).2 (Nat.succ_ne_zero _)
    rw [show am (c6 H) b cs b=some cs from if_pos rfl] at h
    simp only [gG] at h
    split at h
    ·rename_i H3 hs
     cases h
     exact ⟨_,e,by rw [er hs] at hK; exact hK⟩
    ·cases h
   ·cases h
 case slp len sz x =>
  split at h
  ·rename_i b n off hx
   split at h
   ·rename_i cs hb
    split at h
    ·rename_i hc
     cases h
     exact ⟨b,n,off,cs,hx,fQ hb,hc.1,hc.2,hK⟩
    ·cases h
   ·cases h
  ·cases h
 case snil neg x =>
  split at h
  ·rename_i k hx
   cases h
   exact ⟨k + 1,hx,fun _=>hK,fun h=>absurd h (Nat.succ_ne_zero _)⟩
  ·cases h
 case s2b x =>
  split at h
  ·rename_i bs hx
   split at h
   ·rename_i h0
    cases h
    exact ⟨bs,hx,fun _=>hK,fun h=>absurd h0 h⟩
   ·rename_i h0
    simp only [gG] at h
    split at h
    ·rename_i H' hs
     cases h
     exact ⟨bs,hx,fun h=>absurd h h0,fun _=>by rw [er hs] at hK; exact hK⟩
    ·cases h
  ·cases h
 case b2s x =>
  split at h
  ·rename_i n l hx
   split at h
   ·rename_i bs hb
    cases h
    exact ⟨n,bs,by rw [mS bI hx,nB hb],hK⟩
   ·cases h
  ·cases h
def bV (f:AV→Option AV):List AV→Option (List AV)
 | []=>some []
 | x :: l=>match f x with
  | some y=>match bV f l with
   | some m=>some (y :: m)
   | none=>none
  | none=>none
theorem bX {f:AV→Option AV}:∀ {l m:List AV},bV f l=some m→m.length=l.length∧∀ (i:Nat) (a c:AV),l[i]?=some a→m[i]?=some c→f a=some c
 | [],m,h=>by cases h; exact ⟨rfl,by simp⟩
 | x :: l,m,h=>by
  simp only [bV] at h
  split at h
  ·rename_i y hy
   split at h
   ·rename_i m' hm
    cases h
    obtain ⟨h1,h2⟩:=bX hm
    refine ⟨by simp [h1],fun i a c ha hc=>?_⟩
    cases i with
    | zero=>simp at ha hc; subst ha hc; exact hy
    | succ i=>exact h2 i a c (by simpa using ha) (by simpa using hc)
   ·cases h
  ·cases h
def mkE:List AV→AV
 | [.agg a]=>.agg [.agg a]
 | [c]=>c
 | cs=>.agg cs
theorem tY (cs:List AV):(mkE cs).cells=cs:=by
 rcases cs with _ | ⟨a,_ | ⟨b,l⟩⟩
 ·rfl
 ·cases a <;> rfl
 ·cases a <;> rfl
def jP (sz:Nat):Nat→List AV→List AV
 | 0,_=>[]
 | n + 1,ds=>mkE (ds.take sz) :: jP sz n (ds.drop sz)
theorem kj (sz:Nat):∀ (n:Nat) (ds:List AV),(jP sz n ds).length=n
 | 0,_=>rfl
 | n + 1,ds=>by simp [jP,kj]
theorem ke (sz:Nat):∀ (n:Nat) (ds:List AV),ds.length=n * sz→∀ (i:Nat) (y:AV),(jP sz n ds)[i]?=some y→y.cells.length=sz∧∀ (j:Nat) (c:AV),y.cells[j]?=some c→ds[i * sz + j]?=some c
 | 0,_,_,i,y,h=>by simp [jP] at h
 | n + 1,ds,hl,i,y,h=>by
  rw [Nat.add_mul,Nat.one_mul] at hl
  cases i with
  | zero =>
   simp only [jP,List.getElem?_cons_zero,Option.some.injEq] at h
   subst h
   rw [tY]
   refine ⟨by rw [List.length_take]; omega,fun j c hc=>?_⟩
   rw [Nat.zero_mul,Nat.zero_add]
   rw [List.getElem?_take] at hc
   split at hc
   ·exact hc
   ·cases hc
  | succ i =>
   simp only [jP,List.getElem?_cons_succ] at h
   obtain ⟨h1,h2⟩:=ke sz n (ds.drop sz) (by rw [List.length_drop]; omega) i y h
   refine ⟨h1,fun j c hc=>?_⟩
   have:=h2 j c hc
   rw [List.getElem?_drop] at this
   rw [← this]
   congr 1
   rw [Nat.add_mul]; omega
def vU (f:AV→Option AV):AV→Option AV
 | .agg cs=>match bV f cs with
  | some ds=>some (.agg ds)
  | none=>none
 | x=>match f x with
  | some (.agg _)=>none
  | some y=>some y
  | none=>none
theorem pT {f:AV→Option AV} {x y:AV} (h:vU f x=some y):y.cells.length=x.cells.length∧∀ (j:Nat) (a b:AV),x.cells[j]?=some a→y.cells[j]?=some b→f a=some b:=by
 unfold vU at h
 split at h
 ·split at h
  ·rename_i hm
   cases h
   exact bX hm
  ·cases h
 ·rename_i hna
  have hx:x.cells=[x]:=by cases x <;> first | rfl | exact absurd rfl (hna _)
  split at h
  ·cases h
  ·rename_i y' hny hy
   cases h
   have hyc:y.cells=[y]:=by cases y <;> first | rfl | exact absurd hy (by intro hh; exact hny _ rfl)
   rw [hx,hyc]
   refine ⟨rfl,fun j a b ha hb=>?_⟩
   cases j with
   | zero=>simp at ha hb; subst ha hb; exact hy
   | succ j=>simp at ha
  ·cases h
def snapV (H:Hp):Nat→AV→Option AV
 | 0,_=>none
 | k + 1,x=>match x with
  | .bool b=>some (.bool b)
  | .int k n=>some (.int k n)
  | .str s=>some (.str s)
  | .nilp=>some .nilp
  | .nilf=>some .nilf
  | .nilm=>some .nilm
  | .esl=>some .esl
  | .sl sz l=>match bV (vU (snapV H k)) l with
   | some m=>some (.sl sz m)
   | none=>none
  | .msl b n sz off len=>match len with
   | 0=>some (.sl sz [])
   | len + 1=>match H b with
    | some cs=>if cs.length=n∧off + (len + 1) * sz ≤ n then match bV (snapV H k) ((cs.drop off).take ((len + 1) * sz)) with
        | some ds=>some (.sl sz (jP sz (len + 1) ds))
        | none=>none
     else none
    | none=>none
  | .ptr b n off=>match H b with
   | some cs=>if cs.length=n then match bV (snapV H k) cs with
       | some ds=>some (.iptr ds off)
       | none=>none
    else none
   | none=>none
  | .iptr cs off=>match bV (snapV H k) cs with
   | some ds=>some (.iptr ds off)
   | none=>none
  | .func f cs=>match bV (snapV H k) cs with
   | some ds=>some (.func f ds)
   | none=>none
  | .agg cs=>match bV (snapV H k) cs with
   | some ds=>some (.agg ds)
   | none=>none
  | .tup cs=>match bV (snapV H k) cs with
   | some ds=>some (.tup ds)
   | none=>none
  | _=>none
theorem cA {S H:Hp} (hs:Sub S H):∀ (k:Nat) {x y:AV},snapV S k x=some y→Snap H x y
 | 0,_,_,h=>by cases h
 | k + 1,x,y,h=>by
  have ih:=@cA S H hs k
  have om:∀ {l m:List AV},bV (snapV S k) l=some m→m.length=l.length∧∀ (i:Nat) (a c:AV),l[i]?=some a→m[i]?=some c→Snap H a c:=fun hm =>
   ⟨(bX hm).1,fun i a c ha hc=>ih ((bX hm).2 i a c ha hc)⟩
  cases x <;> simp only [snapV] at h <;> try (cases h; done)
  case bool=>cases h; exact .bool _
  case int=>cases h; exact .int _ _
  case str=>cases h; exact .str _
  case nilp=>cases h; exact .nilp
  case nilf=>cases h; exact .nilf
  case nilm=>cases h; exact .nilm
  case esl=>cases h; exact .esl
  case sl sz l =>
   split at h
   ·rename_i m hm
    cases h
    obtain ⟨h1,h2⟩:=bX hm
    exact .sl sz l m h1.symm (fun i x y hx hy=>(pT (h2 i x y hx hy)).1) (fun i j x y a b hx hy ha hb=>ih ((pT (h2 i x y hx hy)).2 j a b ha hb))
   ·cases h
  case msl b n sz off len =>
   split at h
   ·cases h; exact .mslnil _ _ _ _ _
   ·rename_i len
    split at h
    ·rename_i cs hb
     split at h
     ·rename_i hc
      split at h
      ·rename_i ds hds
       cases h
       obtain ⟨h1,h2⟩:=om hds
       have hdl:ds.length=(len + 1) * sz:=by rw [h1,List.length_take,List.length_drop]; omega
       have hg:=ke sz (len + 1) ds hdl
       refine .msl b n sz off (len + 1) cs _ (hs _ _ hb) hc.1 hc.2 (kj _ _ _) (fun y hy=>?_) (fun i j y a c hy hc' ha=>?_)
       ·obtain ⟨i,hi⟩:=List.getElem?_of_mem hy
        exact (hg i y hi).1
       ·obtain ⟨g1,g2⟩:=hg i y hy
        have g3:=g2 j c hc'
        refine h2 (i * sz + j) a c ?_ g3
        have hlt:i * sz + j < (len + 1) * sz:=by
         rw [← hdl]; exact (List.getElem?_eq_some_iff.1 g3).1
        rw [List.getElem?_take,if_pos hlt,List.getElem?_drop,← ha]
        congr 1; omega
      ·cases h
     ·cases h
    ·cases h
  case ptr b n off =>
   split at h
   ·rename_i cs hb
    split at h
    ·rename_i hn
     split at h
     ·rename_i ds hds
      cases h
      exact .ptr b n off cs ds (hs _ _ hb) hn (by rw [(om hds).1,hn]) (om hds).2
     ·cases h
    ·cases h
   ·cases h
  case iptr cs off =>
   split at h
   ·rename_i ds hds
    cases h
    exact .iptr cs ds off (om hds).1 (om hds).2
   ·cases h
  case func f cs =>
   split at h
   ·rename_i ds hds
    cases h
    exact .func f cs ds (om hds).1 (om hds).2
   ·cases h
  case agg cs =>
   split at h
   ·rename_i ds hds
    cases h
    exact .agg cs ds (om hds).1 (om hds).2
   ·cases h
  case tup cs =>
   split at h
   ·rename_i ds hds
    cases h
    exact .tup cs ds (om hds).1 (om hds).2
   ·cases h
theorem Snap.self {H H':Hp} {x y:AV} (h:Snap H x y):Snap H' y y:=by
 induction h with
 | bool b=>exact .bool _
 | int k n=>exact .int _ _
 | str s=>exact .str _
 | nilp=>exact .nilp
 | nilf=>exact .nilf
 | nilm=>exact .nilm
 | esl=>exact .esl
 | eslsl sz=>exact .slnil _ _
 | sl sz l l' hl hc h ih =>
  refine .sl sz l' l' rfl (fun i x y hx hy=>by rw [hx] at hy; cases hy; rfl) (fun i j x y a b hx hy ha hb=>?_)
  rw [hx] at hy; cases hy
  rw [ha] at hb; cases hb
  have hlt:i < l.length:=by rw [hl]; exact (List.getElem?_eq_some_iff.1 hx).1
  have hz:l[i]?=some l[i]:=by simp [hlt]
  have hcl:=hc i _ _ hz hx
  have hj:j < l[i].cells.length:=by rw [← hcl]; exact (List.getElem?_eq_some_iff.1 ha).1
  exact ih i j l[i] x l[i].cells[j] a hz hx (by simp [hj]) ha
 | slnil sz sz'=>exact .slnil _ _
 | msl b n sz off len cs l' hb hn hfit hl hc h ih =>
  refine .sl sz l' l' rfl (fun i x y hx hy=>by rw [hx] at hy; cases hy; rfl) (fun i j x y a c hx hy ha hc'=>?_)
  rw [hx] at hy; cases hy
  rw [ha] at hc'; cases hc'
  have hi:i < len:=by rw [← hl]; exact (List.getElem?_eq_some_iff.1 hx).1
  have hj:j < sz:=by rw [← hc x (List.mem_of_getElem? hx)]; exact (List.getElem?_eq_some_iff.1 ha).1
  have hlt:off + i * sz + j < cs.length:=by
   have:(i + 1) * sz ≤ len * sz:=Nat.mul_le_mul_right _ hi
   rw [Nat.add_mul] at this; omega
  exact ih i j x cs[off + i * sz + j] a hx ha (by simp [hlt])
 | mslnil b n sz off sz'=>exact .slnil _ _
 | ptr b n off cs cs' hb hn hl h ih =>
  refine .iptr cs' cs' off rfl (fun i a c ha hc=>?_)
  rw [ha] at hc; cases hc
  have hlt:i < cs.length:=by rw [hn,← hl]; exact (List.getElem?_eq_some_iff.1 ha).1
  exact ih i cs[i] a (by simp [hlt]) ha
 | iptr cs cs' off hl h ih =>
  refine .iptr cs' cs' off rfl (fun i a c ha hc=>?_)
  rw [ha] at hc; cases hc
  have hlt:i < cs.length:=by rw [← hl]; exact (List.getElem?_eq_some_iff.1 ha).1
  exact ih i cs[i] a (by simp [hlt]) ha
 | func f cs cs' hl h ih =>
  refine .func f cs' cs' rfl (fun i a c ha hc=>?_)
  rw [ha] at hc; cases hc
  have hlt:i < cs.length:=by rw [← hl]; exact (List.getElem?_eq_some_iff.1 ha).1
  exact ih i cs[i] a (by simp [hlt]) ha
 | agg cs cs' hl h ih =>
  refine .agg cs' cs' rfl (fun i a c ha hc=>?_)
  rw [ha] at hc; cases hc
  have hlt:i < cs.length:=by rw [← hl]; exact (List.getElem?_eq_some_iff.1 ha).1
  exact ih i cs[i] a (by simp [hlt]) ha
 | tup cs cs' hl h ih =>
  refine .tup cs' cs' rfl (fun i a c ha hc=>?_)
  rw [ha] at hc; cases hc
  have hlt:i < cs.length:=by rw [← hl]; exact (List.getElem?_eq_some_iff.1 ha).1
  exact ih i cs[i] a (by simp [hlt]) ha
theorem Fn.of_pureZ {P:Program} {f:FuncId} {args args':List AV} {r:AV} (hp:Pure P f args' r) {H Hf H':Hp} {nx:Nat} (hsub:∀ b cs,Hf b=some cs→H b=some cs) (hH:∀ b cs,H' b=some cs→H b=some cs∧Hf b=none) (hs:aL Hf args args')
    {R:AV→Hp→Nat→Prop} (hR:R r H' nx):Fn P f args H nx R:=by
 refine ⟨hp.1,fun E w vs hE hh hfr hv=>?_⟩
 have hsim:Sim E { n:=vs.length } ⟨T0 args,H,nx⟩ { tmps:=vs.toArray,defers:=[] } w:=by
  refine ⟨hE,hh,hfr,fun l hl=>(by cases hl),Nat.zero_le _,by simp,fun t=>?_,⟨List.Pairwise.nil,fun d hd=>(by cases hd)⟩⟩
  show Rel E w (T0 args t) (vs.toArray.getD t Go.undef)
  by_cases ht:t < args.length
  ·have h1:args[t]?=some args[t]:=by simp [ht]
   have h2:vs[t]?=some (vs[t]'(by rw [hv.1]; exact ht)):=by simp [hv.1,ht]
   have:=hv.2 t _ _ h1 h2
   have e1:T0 args t=args[t]:=by simp [T0,List.getD,ht]
   have e2:vs.toArray.getD t Go.undef=vs[t]'(by rw [hv.1]; exact ht):=by simp [Array.getD,hv.1,ht]
   rw [e1,e2]; exact this
  ·have e1:T0 args t=.undef:=by simp [T0,List.getD,ht]
   rw [e1]; exact .undef _
 have hg:Gh (T0 args) H nx (T0 args') H' nx Hf:=by
  refine ⟨hsub,Nat.le_refl _,fun b cs' hb=>?_,fun t=>?_⟩
  ·obtain ⟨h1,h2⟩:=hH b cs' hb
   exact .inl ⟨cs',h1,h2,rfl,fun i x x' hx hx'=>.inl (by rw [hx] at hx'; cases hx'; rfl)⟩
  ·by_cases ht:t < args.length
   ·have h1:args[t]?=some args[t]:=by simp [ht]
    have h2:args'[t]?=some (args'[t]'(by rw [hs.1]; exact ht)):=by simp [hs.1,ht]
    have:=hs.2 t _ _ h1 h2
    have e1:T0 args t=args[t]:=by simp [T0,List.getD,ht]
    have e2:T0 args' t=args'[t]'(by rw [hs.1]; exact ht):=by simp [T0,List.getD,hs.1,ht]
    right; right; left
    rw [e1,e2]; exact this
   ·left
    simp [T0,List.getD,hs.1,ht]
 obtain ⟨E',he,hsim'⟩:=hsim.ghost hg
 have hself:aL a9 args' args':=⟨rfl,fun i x y hx hy=>by
  rw [hx] at hy; cases hy
  have hlt:i < args.length:=by rw [← hs.1]; exact (List.getElem?_eq_some_iff.1 hx).1
  exact (hs.2 i args[i] x (by simp [hlt]) hx).self⟩
 have hv':bS E' w args' vs:=by
  refine ⟨by rw [hv.1,hs.1],fun i x v hx hvi=>?_⟩
  have hlt:i < vs.length:=(List.getElem?_eq_some_iff.1 hvi).1
  have hla:i < args'.length:=(List.getElem?_eq_some_iff.1 hx).1
  have:=hsim'.tmps i
  have e1:T0 args' i=x:=by
   have:=(List.getElem?_eq_some_iff.1 hx).2
   simp [T0,List.getD,hx]
  have e2:vs.toArray.getD i Go.undef=v:=by
   have:=(List.getElem?_eq_some_iff.1 hvi).2
   simp [Array.getD,hlt,this]
  simp only at this
  rw [e1,e2] at this
  exact this
 refine ((Fn.of_pure hp (.inl hself) (H:=H') (nx:=nx) (R:=R) hR).2 E' w vs hsim'.env hsim'.heap hsim'.fresh hv').mono ?_
 rintro e w' ⟨v,E2,r2,H2,nx2,k1,k2,k3,k4,k5,k6,k7⟩
 exact ⟨v,E2,r2,H2,nx2,k1,he.trans k2,k3,k4,k5,k6,k7⟩
def fI (H:Hp):Nat→AV→Option AV
 | 0,_=>none
 | k + 1,x=>match x with
  | .bool b=>some (.bool b)
  | .int k n=>some (.int k n)
  | .str s=>some (.str s)
  | .nilp=>some .nilp
  | .nilf=>some .nilf
  | .nilm=>some .nilm
  | .esl=>some .esl
  | .sl sz l=>match l with
   | []=>some (.sl sz [])
   | _ :: _=>none
  | .msl b n sz off len=>match len with
   | 0=>some (.sl sz [])
   | len + 1=>match H b with
    | some cs=>if cs.length=n∧off + (len + 1) * sz ≤ n then match bV (fI H k) ((cs.drop off).take ((len + 1) * sz)) with
        | some ds=>some (.sl sz (jP sz (len + 1) ds))
        | none=>none
     else none
    | none=>none
  | .ptr b n off=>match H b with
   | some cs=>if cs.length=n then match bV (fI H k) cs with
       | some ds=>some (.iptr ds off)
       | none=>none
    else none
   | none=>none
  | .func f cs=>match bV (fI H k) cs with
   | some ds=>some (.func f ds)
   | none=>none
  | .agg cs=>match bV (fI H k) cs with
   | some ds=>some (.agg ds)
   | none=>none
  | .tup cs=>match bV (fI H k) cs with
   | some ds=>some (.tup ds)
   | none=>none
  | _=>none
theorem kp {S H:Hp} (hs:Sub S H):∀ (k:Nat) {x y:AV},fI S k x=some y→SnapF H x y
 | 0,_,_,h=>by cases h
 | k + 1,x,y,h=>by
  have ih:=@kp S H hs k
  have om:∀ {l m:List AV},bV (fI S k) l=some m→m.length=l.length∧∀ (i:Nat) (a c:AV),l[i]?=some a→m[i]?=some c→SnapF H a c:=fun hm =>
   ⟨(bX hm).1,fun i a c ha hc=>ih ((bX hm).2 i a c ha hc)⟩
  cases x <;> simp only [fI] at h <;> try (cases h; done)
  case bool=>cases h; exact .bool _
  case int=>cases h; exact .int _ _
  case str=>cases h; exact .str _
  case nilp=>cases h; exact .nilp
  case nilf=>cases h; exact .nilf
  case nilm=>cases h; exact .nilm
  case esl=>cases h; exact .esl
  case sl sz l =>
   split at h
   ·cases h; exact .slnil _ _
   ·cases h
  case msl b n sz off len =>
   split at h
   ·cases h; exact .mslnil _ _ _ _ _
   ·rename_i len
    split at h
    ·rename_i cs hb
     split at h
     ·rename_i hc
      split at h
      ·rename_i ds hds
       cases h
       obtain ⟨h1,h2⟩:=om hds
       have hdl:ds.length=(len + 1) * sz:=by rw [h1,List.length_take,List.length_drop]; omega
       have hg:=ke sz (len + 1) ds hdl
       refine .msl b n sz off (len + 1) cs _ (hs _ _ hb) hc.1 hc.2 (kj _ _ _) (fun y hy=>?_) (fun i j y a c hy hc' ha=>?_)
       ·obtain ⟨i,hi⟩:=List.getElem?_of_mem hy
        exact (hg i y hi).1
       ·obtain ⟨g1,g2⟩:=hg i y hy
        have g3:=g2 j c hc'
        refine h2 (i * sz + j) a c ?_ g3
        have hlt:i * sz + j < (len + 1) * sz:=by
         rw [← hdl]; exact (List.getElem?_eq_some_iff.1 g3).1
        rw [List.getElem?_take,if_pos hlt,List.getElem?_drop,← ha]
        congr 1; omega
      ·cases h
     ·cases h
    ·cases h
  case ptr b n off =>
   split at h
   ·rename_i cs hb
    split at h
    ·rename_i hn
     split at h
     ·rename_i ds hds
      cases h
      exact .ptr b n off cs ds (hs _ _ hb) hn (by rw [(om hds).1,hn]) (om hds).2
     ·cases h
    ·cases h
   ·cases h
  case func f cs =>
   split at h
   ·rename_i ds hds
    cases h
    exact .func f cs ds (om hds).1 (om hds).2
   ·cases h
  case agg cs =>
   split at h
   ·rename_i ds hds
    cases h
    exact .agg cs ds (om hds).1 (om hds).2
   ·cases h
  case tup cs =>
   split at h
   ·rename_i ds hds
    cases h
    exact .tup cs ds (om hds).1 (om hds).2
   ·cases h
end Go.Abs
namespace Go.Abs
open Go.RowKit
def SF:Nat:=40
abbrev CL:=FuncId→List AV→HT→Nat→Option (AV × HT × Nat)
abbrev PC:=FuncId→List AV→HT→Option AV
def xf (cl:CL) (pc:PC) (yl:CL) (dm:DM) (i:Ins) (T:TT) (H:HT) (nx:Nat):Option (AV × HT × Nat) :=
 match ic i with
 | .val=>match dm2 dm (toT T) i with
  | true=>match aX (toT T) (c6 H) i with
   | some r=>some (r,H,nx)
   | none=>none
  | false=>none
 | .eff=>match dm2 dm (toT T) i with
  | true=>yQ T H nx i
  | false=>none
 | .call=>match i with
  | .call f args=>match ov (toT T) f with
   | .func g caps=>match dm.isText with
    | true=>cl g (args.map (ov (toT T)) ++ caps) H nx
    | false=>match pc g (args.map (ov (toT T)) ++ caps) H with
     | some r=>some (r,H,nx)
     | none=>none
   | .bfn g fs=>match dm.isText with
    | true=>cl g (fs ++ args.map (ov (toT T))) H nx
    | false=>none
   | .yld b=>match dm.isText with
    | true=>yl b (args.map (ov (toT T))) H nx
    | false=>none
   | _=>none
  | _=>none
 | .sp=>match dm.isText with
  | true=>rsp (toT T) H nx i
  | false=>none
def oY (cl:CL) (pc:PC) (yl:CL) (dm:DM):List Op2→TT→HT→Nat→Option (TT × HT × Nat)
 | [],T,H,nx=>some (T,H,nx)
 | o :: l,T,H,nx=>match g2 (toT T) o.g with
  | none=>none
  | some false=>match stT T o.d (.tup []) with
   | some T=>oY cl pc yl dm l T H nx
   | none=>none
  | some true=>match xf cl pc yl dm o.i T H nx with
   | none=>none
   | some (r,H,nx)=>frV r fun r=>match stT T o.d r with
    | some T=>oY cl pc yl dm l T H nx
    | none=>none
structure CLok (P:Program) (L:LV) (cl:CL) (pc:PC) (yl:CL):Prop where
 cl:∀ {g:FuncId} {args:List AV} {H H':HT} {nx nx':Nat} {r:AV} {R:AV→Hp→Nat→Prop},cl g args H nx=some (r,H',nx')→R r (toH L H') nx'→Fn P g args (toH L H) nx R
 pc:∀ {g:FuncId} {args:List AV} {H:HT} {r:AV},pc g args H=some r→ib P g args (toH L H) r
 yl:∀ {g:Nat} {args:List AV} {H H':HT} {nx nx':Nat} {r:AV} {R:AV→Hp→Nat→Prop},yl g args H nx=some (r,H',nx')→R r (toH L H') nx'→Yl P g args (toH L H) nx R
theorem sN {P:Program} {L:LV} {cl:CL} {pc:PC} {yl:CL} (hk:CLok P L cl pc yl) {dm:DM} {i:Ins} {T:TT} {H H':HT} {nx nx':Nat} {r:AV} {K:AV→Hp→Nat→Prop}
    (h:xf cl pc yl dm i T H nx=some (r,H',nx')) (hK:K r (toH L H') nx'):bg P dm i (toT T) (toH L H) nx K:=by
 unfold xf at h
 unfold bg
 cases hi:ic i with
 | val =>
  rw [hi] at h
  simp only at h ⊢
  split at h
  ·rename_i hd
   split at h
   ·rename_i r' hr
    cases h
    exact ⟨hd,by rw [tL bI hr]; exact hK⟩
   ·cases h
  ·cases h
 | eff =>
  rw [hi] at h
  simp only at h ⊢
  split at h
  ·rename_i hd
   exact ⟨hd,by rw [wU h]; exact hK⟩
  ·cases h
 | sp =>
  rw [hi] at h
  simp only at h ⊢
  split at h
  ·rename_i hd
   exact ⟨hd,yW h hK⟩
  ·cases h
 | call =>
  rw [hi] at h
  simp only at h ⊢
  cases i <;> try (cases hi; done)
  rename_i f args
  simp only at h ⊢
  cases hf:ov (toT T) f <;> rw [hf] at h <;> simp only at h <;> try (cases h; done)
  ·rename_i g caps
   left
   show match dm.isText with | false=>_ | true=>_
   cases hd:dm.isText with
   | true=>rw [hd] at h; exact hk.cl h hK
   | false =>
    rw [hd] at h
    simp only at h
    split at h
    ·rename_i r' hr
     cases h
     exact ⟨_,hk.pc hr,hK⟩
    ·cases h
  ·rename_i g fs
   right
   cases hd:dm.isText with
   | true=>rw [hd] at h; exact ⟨rfl,.inr ⟨g,fs,rfl,hk.cl h hK⟩⟩
   | false=>rw [hd] at h; cases h
  ·rename_i b
   right
   cases hd:dm.isText with
   | true=>rw [hd] at h; exact ⟨rfl,.inl ⟨b,rfl,hk.yl h hK⟩⟩
   | false=>rw [hd] at h; cases h
theorem gn {P:Program} {L:LV} {cl:CL} {pc:PC} {yl:CL} (hk:CLok P L cl pc yl) {dm:DM} {K:SP}:∀ {l:List Op2} {T T':TT} {H H':HT} {nx nx':Nat},
    oY cl pc yl dm l T H nx=some (T',H',nx')→K (toT T') (toH L H') nx'→al P dm l (toT T) (toH L H) nx K
 | [],_,_,_,_,_,_,h,hK=>by cases h; exact hK
 | o :: l,T,T',H,H',nx,nx',h,hK=>by
  simp only [oY] at h
  show aS (g2 (toT T) o.g) _ _
  cases hg:g2 (toT T) o.g with
  | none=>rw [hg] at h; cases h
  | some b =>
   rw [hg] at h
   cases b with
   | false =>
    simp only at h
    split at h
    ·rename_i T1 hs
     have:=gn hk h hK
     rw [jg hs] at this
     exact this
    ·cases h
   | true =>
    simp only at h
    split at h
    ·cases h
    ·rename_i r H1 nx1 hr
     simp only [ka] at h
     split at h
     ·rename_i T1 hs
      have:=gn hk h hK
      rw [jg hs] at this
      exact sN (K:=fun r H nx=>al P dm l (aF (toT T) o.d r) H nx K) hk hr this
     ·cases h
def iM (f:AV→AV→Bool):List AV→List AV→Bool
 | [],[]=>true
 | x :: l,y :: m=>match f x y with
  | true=>iM f l m
  | false=>false
 | _,_=>false
theorem mm {f:AV→AV→Bool} (h:∀ x y,f x y=true→x=y):∀ {l m:List AV},iM f l m=true→l=m
 | [],[],_=>rfl
 | [],_ :: _,h=>by cases h
 | _ :: _,[],h=>by cases h
 | x :: l,y :: m,he=>by
  simp only [iM] at he
  split at he
  ·rename_i hx
   rw [h _ _ hx,mm h he]
  ·cases he
def pH:Nat→AV→AV→Bool
 | 0,_,_=>false
 | k + 1,x,y=>match x with
  | .undef=>match y with
   | .undef=>true
   | _=>false
  | .bool a=>match y with
   | .bool b=>decide (a=b)
   | _=>false
  | .int j a=>match y with
   | .int i b=>decide (j=i) && decide (a=b)
   | _=>false
  | .str a=>match y with
   | .str b=>decide (a=b)
   | _=>false
  | .nilp=>match y with
   | .nilp=>true
   | _=>false
  | .nilf=>match y with
   | .nilf=>true
   | _=>false
  | .nilm=>match y with
   | .nilm=>true
   | _=>false
  | .esl=>match y with
   | .esl=>true
   | _=>false
  | .ptr b n o=>match y with
   | .ptr b' n' o'=>Nat.beq b b' && Nat.beq n n' && Nat.beq o o'
   | _=>false
  | .msl b n s o l=>match y with
   | .msl b' n' s' o' l'=>Nat.beq b b' && Nat.beq n n' && Nat.beq s s' && Nat.beq o o' && Nat.beq l l'
   | _=>false
  | .mp b=>match y with
   | .mp b'=>Nat.beq b b'
   | _=>false
  | .yld b=>match y with
   | .yld b'=>Nat.beq b b'
   | _=>false
  | .sl s l=>match y with
   | .sl s' l'=>Nat.beq s s' && iM (pH k) l l'
   | _=>false
  | .iptr l s=>match y with
   | .iptr l' s'=>Nat.beq s s' && iM (pH k) l l'
   | _=>false
  | .func s l=>match y with
   | .func s' l'=>Nat.beq s s' && iM (pH k) l l'
   | _=>false
  | .agg l=>match y with
   | .agg l'=>iM (pH k) l l'
   | _=>false
  | .tup l=>match y with
   | .tup l'=>iM (pH k) l l'
   | _=>false
  | _=>false
theorem so:∀ (k:Nat) (x y:AV),pH k x y=true→x=y
 | 0,_,_,h=>by cases h
 | k + 1,x,y,h=>by
  have ih:∀ {l m:List AV},iM (pH k) l m=true→l=m:=fun h=>mm (so k) h
  cases x <;> simp only [pH] at h <;> (try (cases h; done)) <;> cases y <;> simp only [Bool.and_eq_true,decide_eq_true_eq] at h <;> (try (cases h; done)) <;> (try rfl)
  ·rw [h]
  ·rw [h.1,h.2]
  ·rw [h]
  ·rw [Nat.eq_of_beq_eq_true h.1.1,Nat.eq_of_beq_eq_true h.1.2,Nat.eq_of_beq_eq_true h.2]
  ·rw [Nat.eq_of_beq_eq_true h.1,ih h.2]
  ·rw [Nat.eq_of_beq_eq_true h.1,ih h.2]
  ·rw [Nat.eq_of_beq_eq_true h.1.1.1.1,Nat.eq_of_beq_eq_true h.1.1.1.2,Nat.eq_of_beq_eq_true h.1.1.2,Nat.eq_of_beq_eq_true h.1.2,Nat.eq_of_beq_eq_true h.2]
  ·rw [show _=_ from Nat.eq_of_beq_eq_true h.1,ih h.2]
  ·rw [Nat.eq_of_beq_eq_true h]
  ·rw [Nat.eq_of_beq_eq_true h]
  ·rw [ih h]
  ·rw [ih h]
def loadAt (T:Tm):Ins→Option Nat
 | .ld1 a=>match ov T a with
  | .ptr b _ _=>some b
  | _=>none
 | .ldn _ a=>match ov T a with
  | .ptr b _ _=>some b
  | _=>none
 | _=>none
def jc:List (Op2 × Nat)→TT→HT→List Nat→List Nat
 | [],_,_,acc=>acc
 | (o,0) :: l,T,H,acc=>match g2 (toT T) o.g with
  | some true=>match aX (toT T) (c6 H) o.i with
   | some r=>match stT T o.d r with
    | some T'=>match loadAt (toT T) o.i with
     | some b=>jc l T' H (b :: acc)
     | none=>jc l T' H acc
    | none=>acc
   | none=>jc l T H acc
  | _=>jc l T H acc
 | (_,_ + 1) :: l,T,H,acc=>jc l T H acc
def m9 (H0 H:HT):List Nat→Bool
 | []=>true
 | b :: l=>match c6 H0 b with
  | none=>m9 H0 H l
  | some x=>match c6 H b with
   | some y=>match iM (pH SF) x y with
    | true=>m9 H0 H l
    | false=>false
   | none=>false
def mq (H0:HT) (ids:List Nat):Hp:=fun b=>match ids.elem b with
 | true=>c6 H0 b
 | false=>none
theorem nz {H0 H:HT}:∀ {ids:List Nat},m9 H0 H ids=true→∀ b cs,ids.elem b=true→c6 H0 b=some cs→c6 H b=some cs
 | [],_,b,cs,hb,_=>by cases hb
 | a :: l,h,b,cs,hb,hc=>by
  simp only [m9] at h
  have hb':b=a ∨ l.elem b=true:=by
   rw [List.elem_cons] at hb
   cases e:b == a with
   | true=>exact .inl (eq_of_beq e)
   | false=>rw [e] at hb; exact .inr hb
  split at h
  ·rename_i hn
   rcases hb' with rfl | hb'
   ·rw [hn] at hc; cases hc
   ·exact nz h b cs hb' hc
  ·rename_i x hx
   split at h
   ·rename_i y hy
    split at h
    ·rename_i he
     rcases hb' with rfl | hb'
     ·rw [hx] at hc; cases hc
      rw [hy,mm (so SF) he]
     ·exact nz h b cs hb' hc
    ·cases h
   ·cases h
theorem oB {L:LV} {H0 H:HT} {ids:List Nat} (h:m9 H0 H ids=true):Sub (mq H0 ids) (toH L H):=fun b cs hb=>by
 unfold mq at hb
 split at hb
 ·rename_i he
  exact bI b cs (nz h b cs he hb)
 ·cases hb
def gc (cl:CL) (pc:PC) (yl:CL) (H0:HT) (ids:List Nat):List (Op2 × Nat)→TT→HT→Nat→Option (TT × HT × Nat)
 | [],T,H,nx=>some (T,H,nx)
 | (o,0) :: l,T,H,nx=>match g2 (toT T) o.g with
  | none=>none
  | some false=>match stT T o.d (.tup []) with
   | some T=>gc cl pc yl H0 ids l T H nx
   | none=>none
  | some true=>match aX (toT T) (mq H0 ids) o.i with
   | none=>none
   | some r=>frV r fun r=>match stT T o.d r with
    | some T=>gc cl pc yl H0 ids l T H nx
    | none=>none
 | (o,k + 1) :: l,T,H,nx=>match g2 (toT T) o.g with
  | none=>none
  | some false=>match stT T o.d (.tup []) with
   | some T=>gc cl pc yl H0 ids l T H nx
   | none=>none
  | some true=>if k=2 then (match nr (toT T) o.i with
      | none=>none
      | some r=>frV r fun r=>match stT T o.d r with
       | some T=>gc cl pc yl H0 ids l T H nx
       | none=>none)
   else match xf cl pc yl .text o.i T H nx with
    | none=>none
    | some (r,H,nx)=>match (match k with | 0=>m9 H0 H ids | _=>true) with
     | true=>frV r fun r=>match stT T o.d r with
      | some T=>gc cl pc yl H0 ids l T H nx
      | none=>none
     | false=>none
theorem eX {P:Program} {L:LV} {cl:CL} {pc:PC} {yl:CL} (hk:CLok P L cl pc yl) {H0:HT} {ids:List Nat} {K:SP}:∀ {l:List (Op2 × Nat)} {T T':TT} {H H':HT} {nx nx':Nat},
    gc cl pc yl H0 ids l T H nx=some (T',H',nx')→K (toT T') (toH L H') nx'→ba P (mq H0 ids) l (toT T) (toH L H) nx K
 | [],_,_,_,_,_,_,h,hK=>by cases h; exact hK
 | (o,0) :: l,T,T',H,H',nx,nx',h,hK=>by
  simp only [gc] at h
  show aS (g2 (toT T) o.g) _ _
  cases hg:g2 (toT T) o.g with
  | none=>rw [hg] at h; cases h
  | some b =>
   rw [hg] at h
   cases b with
   | false =>
    simp only at h
    split at h
    ·rename_i T1 hs
     have:=eX hk h hK
     rw [jg hs] at this
     exact this
    ·cases h
   | true =>
    simp only at h
    split at h
    ·cases h
    ·rename_i r hr
     simp only [ka] at h
     split at h
     ·rename_i T1 hs
      have:=eX hk h hK
      rw [jg hs] at this
      show aE (aX (toT T) (mq H0 ids) o.i) _
      rw [hr]; exact this
     ·cases h
 | (o,k + 1) :: l,T,T',H,H',nx,nx',h,hK=>by
  simp only [gc] at h
  show aS (g2 (toT T) o.g) _ _
  cases hg:g2 (toT T) o.g with
  | none=>rw [hg] at h; cases h
  | some b =>
   rw [hg] at h
   cases b with
   | false =>
    simp only at h
    split at h
    ·rename_i T1 hs
     have:=eX hk h hK
     rw [jg hs] at this
     exact this
    ·cases h
   | true =>
    simp only at h
    show if k=2 then _ else _
    split at h
    ·rename_i h2
     rw [if_pos h2]
     split at h
     ·cases h
     ·rename_i r hr
      simp only [ka] at h
      split at h
      ·rename_i T1 hs
       have:=eX hk h hK
       rw [jg hs] at this
       rw [hr]; exact this
      ·cases h
    ·rename_i h2
     rw [if_neg h2]
     split at h
     ·cases h
     ·rename_i r H1 nx1 hr
      split at h
      ·rename_i hkeep
       simp only [ka] at h
       split at h
       ·rename_i T1 hs
        have:=eX hk h hK
        rw [jg hs] at this
        refine sN (K:=fun r H' nx'=>(k=0→Sub (mq H0 ids) H')∧ba P (mq H0 ids) l (aF (toT T) o.d r) H' nx' K) hk hr ⟨fun hk0=>?_,this⟩
        subst hk0
        exact oB hkeep
       ·cases h
      ·cases h
def rvs (T:Tm) (H:Hp):List RV→Option (List AV)
 | []=>some []
 | a :: l=>match rv T H a with
  | some x=>match rvs T H l with
   | some xs=>some (x :: xs)
   | none=>none
  | none=>none
def y7 (T:Tm) (H:Hp):List RV→Option AV
 | []=>some (.tup [])
 | [a]=>rv T H a
 | [a,b]=>match rv T H a,rv T H b with
  | some x,some y=>some (.tup [x,y])
  | _,_=>none
 | [a,b,c]=>match rv T H a,rv T H b,rv T H c with
  | some x,some y,some z=>some (.tup [x,y,z])
  | _,_,_=>none
 | a :: b :: c :: d :: l=>(rvs T H (a :: b :: c :: d :: l)).map .tup
theorem qj {T:Tm} {S H:Hp} (hs:Sub S H):∀ {l:List RV} {xs:List AV} {K:List AV→Prop},rvs T S l=some xs→K xs→uk T H l K
 | [],xs,K,h,hK=>by cases h; exact hK
 | a :: l,xs,K,h,hK=>by
  simp only [rvs] at h
  split at h
  ·rename_i x hx
   split at h
   ·rename_i ys hy
    cases h
    show aE (rv T H a) _
    rw [i7 hs hx]
    exact qj hs hy hK
   ·cases h
  ·cases h
theorem wK {T:Tm} {S H:Hp} (hs:Sub S H) {l:List RV} {r:AV} {K:AV→Prop} (h:y7 T S l=some r) (hK:K r):br T H K l:=by
 rcases l with _ | ⟨a,_ | ⟨b,_ | ⟨c,_ | ⟨d,l⟩⟩⟩⟩ <;> simp only [y7] at h
 ·cases h; exact hK
 ·exact r_1 (i7 hs h) hK
 ·split at h
  ·rename_i x y hx hy
   cases h; exact r_2 (i7 hs hx) (i7 hs hy) hK
  ·cases h
 ·split at h
  ·rename_i x y z hx hy hz
   cases h; exact r_3 (i7 hs hx) (i7 hs hy) (i7 hs hz) hK
  ·cases h
 ·cases ho:rvs T S (a :: b :: c :: d :: l) with
  | none=>rw [ho] at h; cases h
  | some xs =>
   rw [ho] at h
   cases h
   exact qj hs ho hK
structure LFr where
 y:Nat
 ps:List Nat
 a:C2
 b:C2
 T:TT
abbrev RN:=List LFr→C2→TT→HT→Nat→Option (AEx × TT × HT × Nat)
def iT (code:FuncId→Option F2) (rn:RN) (fr:List LFr):CL:=fun g args H nx =>
 match code g with
 | none=>none
 | some F=>if args.length ≤ F.n then match vF args with
     | none=>none
     | some T=>match rn fr F.body T H nx with
      | none=>none
      | some (e,T',H',nx')=>match e.ends with
       | true=>match y7 (toT T') (c6 H') F.res with
        | some r=>frV r fun r=>some (r,H',nx')
        | none=>none
       | false=>none
  else none
def jz (code:FuncId→Option F2) (rn:RN):PC:=fun g args H =>
 match bV (snapV a9 SF) args with
 | some a=>match iT code rn [] g a .leaf 0 with
  | some (v,H',_)=>snapV (c6 H') SF v
  | none=>none
 | none=>match bV (snapV (c6 H) SF) args with
  | some a=>match iT code rn [] g a .leaf 0 with
   | some (v,H',_)=>match snapV (c6 H') SF v with
    | some r=>match r.sca with
     | true=>some r
     | false=>fI (c6 H') SF v
    | none=>none
   | none=>none
  | none=>none
def hJ (H:Hp):Nat→List AV→List Nat→List Nat
 | 0,_,acc=>acc
 | _ + 1,[],acc=>acc
 | k + 1,x :: l,acc=>match x with
  | .msl b _ _ _ _=>match acc.elem b with
   | true=>hJ H k l acc
   | false=>hJ H k ((H b).getD [] ++ l) (b :: acc)
  | .ptr b _ _=>match acc.elem b with
   | true=>hJ H k l acc
   | false=>hJ H k ((H b).getD [] ++ l) (b :: acc)
  | .sl _ cs=>hJ H k (cs ++ l) acc
  | .iptr cs _=>hJ H k (cs ++ l) acc
  | .func _ cs=>hJ H k (cs ++ l) acc
  | .agg cs=>hJ H k (cs ++ l) acc
  | .tup cs=>hJ H k (cs ++ l) acc
  | _=>hJ H k l acc
def RF2:Nat:=100000
def jS:List Nat→HT→Option HT
 | [],H=>some H
 | b :: l,H=>match PT.set LIM H b none with
  | some H=>jS l H
  | none=>none
def vQ (code:FuncId→Option F2) (rn:RN):CL:=fun g args H nx =>
 match bV (snapV a9 SF) args with
 | some a=>match iT code rn [] g a .leaf 0 with
  | some (v,H',_)=>match snapV (c6 H') SF v with
   | some r=>some (r,H,nx)
   | none=>none
  | none=>none
 | none=>match bV (snapV (c6 H) SF) args with
  | some a=>match iT code rn [] g a .leaf 0 with
   | some (v,H',_)=>match snapV (c6 H') SF v with
    | some r=>match r.sca with
     | true=>some (r,H,nx)
     | false=>match fI (c6 H') SF v with
      | some r=>some (r,H,nx)
      | none=>match jS (hJ (c6 H) RF2 args []) H with
       | some H2=>match bV (snapV (fun b=>match (c6 H2 b).isSome with | true=>none | false=>c6 H b) SF) args with
        | some a2=>match iT code rn [] g a2 .leaf 0 with
         | some (v,H',_)=>match snapV (c6 H') SF v with
          | some r=>some (r,H2,nx)
          | none=>none
         | none=>none
        | none=>none
       | none=>none
    | none=>none
   | none=>none
  | none=>none
structure CT where
 c:FuncId→List AV→Nat→Option AV
 q:FuncId→List AV→Option AV
def AZ:CT:=⟨fun _ _ _=>none,fun _ _=>none⟩
structure CTok (P:Program) (ct:CT):Prop where
 c:∀ (g:FuncId) (args:List AV) (nx:Nat) (r:AV),ct.c g args nx=some r→∀ (H:Hp) (R:AV→Hp→Nat→Prop),R r (am H nx []) (nx + 1)→Fn P g args H nx R
 q:∀ (g:FuncId) (args:List AV) (r:AV),ct.q g args=some r→Pure P g args r
theorem wR {P:Program}:CTok P AZ:=⟨fun _ _ _ _ h=>(by cases h),fun _ _ _ h=>(by cases h)⟩
def xU (q:FuncId→List AV→Option AV) (g:FuncId) (args:List AV):Option AV :=
 match bV (snapV a9 SF) args with
 | some a=>q g a
 | none=>none
def kT (code:FuncId→Option F2) (pf:FuncId→Bool) (ct:CT) (rn:RN) (fr:List LFr):CL:=fun g args H nx =>
 match ct.c g args nx with
 | some r=>match PT.set LIM H nx (some (.cells [])) with
  | some H2=>some (r,H2,nx + 1)
  | none=>none
 | none=>match pf g with
  | true=>match xU ct.q g args with
   | some r=>some (r,H,nx)
   | none=>vQ code rn g args H nx
  | false=>iT code rn fr g args H nx
def l9:List LFr→Nat→Option (LFr × List LFr)
 | [],_=>none
 | F :: l,y=>match Nat.beq F.y y with
  | true=>some (F,l)
  | false=>l9 l y
def stL (T:TT):List Nat→List AV→Option TT
 | t :: ts,x :: xs=>match PT.set LIM T t (some x) with
  | some T=>stL T ts xs
  | none=>none
 | _,_=>some T
def vo:AEx→Bool
 | .normal=>true
 | _=>false
def qn (rn:RN) (fr:List LFr):CL:=fun y args H nx =>
 match l9 fr y with
 | none=>none
 | some (F,l)=>match H.get y with
  | some (.mark none)=>match Nat.beq args.length F.ps.length with
   | true=>match stL F.T F.ps args with
    | none=>none
    | some T1=>match rn l F.a T1 H nx with
     | some (.normal,T2,H2,nx2)=>match H2.get y with
      | some (.mark none)=>match PT.set LIM H2 y none with
       | none=>none
       | some H3=>match rn l F.b T2 H3 nx2 with
        | none=>none
        | some (e,T4,H4,nx4)=>match e with
         | .normal=>match PT.set LIM H4 y (some (.mark none)) with
          | some H5=>some (.bool true,H5,nx4)
          | none=>none
         | e=>match PT.set LIM H4 y (some (.mark (some e))) with
          | some H5=>some (.bool false,H5,nx4)
          | none=>none
      | _=>none
     | _=>none
   | false=>none
  | _=>none
def Bp (m nx:Nat):DM:=match m with
 | 0=>.text
 | 1=>.draw
 | _=>.fresh nx
def sW (m nx:Nat):DM:=match m with
 | 1=>.draw
 | _=>.fresh nx
def qA (x:Option (TT × HT × Nat)):Option (AEx × TT × HT × Nat):=match x with
 | some (T,H,nx)=>some (.normal,T,H,nx)
 | none=>none
def run (code:FuncId→Option F2) (pf:FuncId→Bool) (ct:CT):Nat→RN
 | 0,_,_,_,_,_=>none
 | n + 1,fr,c,T,H,nx=>match c with
  | .skip=>some (.normal,T,H,nx)
  | .exit i=>some (.exit i,T,H,nx)
  | .ret=>some (.ret,T,H,nx)
  | .ops m l=>qA (oY (kT code pf ct (run code pf ct n) fr) (jz code (run code pf ct n)) (qn (run code pf ct n) fr) (Bp m nx) l T H nx)
  | .mix m l C=>match Nat.beq m 9 with
   | true=>qA (oY (kT code pf ct (run code pf ct n) fr) (jz code (run code pf ct n)) (qn (run code pf ct n) fr) .text (C.map fun k=>l.getD k ⟨none,none,.dead⟩) T H nx)
   | false=>match oY (kT code pf ct (run code pf ct n) fr) (jz code (run code pf ct n)) (qn (run code pf ct n) fr) (sW m nx) l T H nx with
    | some x=>qA (some x)
    | none=>qA (oY (kT code pf ct (run code pf ct n) fr) (jz code (run code pf ct n)) (qn (run code pf ct n) fr) .text (C.map fun k=>l.getD k ⟨none,none,.dead⟩) T H nx)
  | .mixS m l C=>match (match Nat.beq m 9 with
      | true=>none
      | false=>oY (kT code pf ct (run code pf ct n) fr) (jz code (run code pf ct n)) (qn (run code pf ct n) fr) (sW m nx) l T H nx) with
   | some x=>qA (some x)
   | none=>match m9 H H (jc (C.map fun k=>(l.getD k.1 ⟨none,none,.dead⟩,k.2)) T H []) with
    | true=>qA (gc (kT code pf ct (run code pf ct n) fr) (jz code (run code pf ct n)) (qn (run code pf ct n) fr) H (jc (C.map fun k=>(l.getD k.1 ⟨none,none,.dead⟩,k.2)) T H []) (C.map fun k=>(l.getD k.1 ⟨none,none,.dead⟩,k.2)) T H nx)
    | false=>none
  | .seq a b=>match run code pf ct n fr a T H nx with
   | some (.normal,T,H,nx)=>run code pf ct n fr b T H nx
   | r=>r
  | .cond c a b=>match ov (toT T) c with
   | .bool true=>run code pf ct n fr a T H nx
   | .bool false=>run code pf ct n fr b T H nx
   | _=>none
  | .block id b=>match run code pf ct n fr b T H nx with
   | some (e,T,H,nx)=>some (gX id e,T,H,nx)
   | none=>none
  | .loop b=>match run code pf ct n fr b T H nx with
   | some (.normal,T,H,nx)=>run code pf ct n fr (.loop b) T H nx
   | r=>r
  | .rangeF g ps a b=>match ov (toT T) g with
   | .func f caps=>match l9 fr nx with
    | some _=>none
    | none=>match PT.set LIM H nx (some (.mark none)) with
     | none=>none
     | some H1=>match iT code (run code pf ct n) (⟨nx,ps,a,b,T⟩ :: fr) f (.yld nx :: caps) H1 (nx + 1) with
      | none=>none
      | some (_,H2,nx2)=>match H2.get nx with
       | some (.mark st)=>match PT.set LIM H2 nx none with
        | none=>none
        | some H3=>match st with
         | none=>some (.normal,T,H3,nx2)
         | some e=>match vo e with
          | true=>none
          | false=>some (e,T,H3,nx2)
       | _=>none
   | _=>none
def gQ (P:Program) (code:FuncId→Option F2):Prop:=∀ {f:FuncId} {F:F2},code f=some F→Is P f F
def da (P:Program) (L:LV):List LFr→Prop
 | []=>True
 | F :: fr => (∀ (args : List AV) (H' : Hp) (nx' : Nat) (K' : AV → Hp → Nat → Prop), H' F.y = some (L F.y none) → args.length = F.ps.length →
       aG P F.a (fB (toT F.T) F.ps args) H' nx' (fun e T2 H2 nx2=>aN e (H2 F.y=some (L F.y none)∧aG P F.b T2 (bN H2 F.y) nx2 fun e T3 H3 nx3=>aN e (K' (.bool true) (am H3 F.y (L F.y none)) nx3) (K' (.bool false) (am H3 F.y (L F.y (some e))) nx3)) False) →
       Yl P F.y args H' nx' K')∧da P L fr
def xM:List Nat→FuncId→Bool
 | [],_=>false
 | k :: l,f=>match Nat.beq k f with
  | true=>true
  | false=>xM l f
theorem qO {P:Program} {L:LV}:∀ {fr:List LFr} {y:Nat} {F:LFr} {l:List LFr},da P L fr→l9 fr y=some (F,l)→F.y=y∧da P L (F :: l)
 | [],_,_,_,_,h=>by cases h
 | G :: fr,y,F,l,hf,h=>by
  simp only [l9] at h
  split at h
  ·rename_i e
   cases h
   exact ⟨Nat.eq_of_beq_eq_true e,hf⟩
  ·exact qO hf.2 h
theorem nj {P:Program} {L L':LV} {y:Nat} (hL:∀ b e,b ≠ y→L' b e=L b e):∀ {fr:List LFr},da P L fr→l9 fr y=none→da P L' fr
 | [],_,_=>trivial
 | G :: fr,hf,h=>by
  simp only [l9] at h
  split at h
  ·cases h
  ·rename_i e
   have hne:G.y ≠ y:=fun he=>by rw [he,Nat.beq_refl] at e; cases e
   refine ⟨?_,nj hL hf.2 h⟩
   have h1:∀ e,L' G.y e=L G.y e:=fun e=>hL _ _ hne
   simp only [h1]
   exact hf.1
theorem va:∀ {ts:List Nat} {xs:List AV} {T T':TT},stL T ts xs=some T'→toT T'=fB (toT T) ts xs
 | [],_,_,_,h=>by cases h; rfl
 | _ :: _,[],_,_,h=>by cases h; rfl
 | t :: ts,x :: xs,T,T',h=>by
  simp only [stL] at h
  split at h
  ·rename_i T1 h1
   rw [va h,pu h1]
   rfl
  ·cases h
structure RunOk (P:Program) (rn:RN):Prop where
 ok:∀ {L:LV} {fr:List LFr} {c:C2} {T T':TT} {H H':HT} {nx nx':Nat} {e:AEx} {K:CP},da P L fr→rn fr c T H nx=some (e,T',H',nx')→K e (toT T') (toH L H') nx'→aG P c (toT T) (toH L H) nx K
theorem dh {P:Program} {code:FuncId→Option F2} (hc:gQ P code) {rn:RN} (hr:RunOk P rn) {L:LV} {fr:List LFr} (hf:da P L fr) {g:FuncId} {args:List AV} {H H':HT} {nx nx':Nat} {r:AV}
    (h:iT code rn fr g args H nx=some (r,H',nx')):∃ F,Is P g F∧args.length ≤ F.n∧∀ K:AV→Hp→Nat→Prop,K r (toH L H') nx'→aG P F.body (T0 args) (toH L H) nx fun e T H nx=>aR e.ends (br T H (fun x=>K x H nx) F.res):=by
 unfold iT at h
 split at h
 ·cases h
 ·rename_i F hF
  split at h
  ·rename_i hl
   split at h
   ·cases h
   ·rename_i T hT
    split at h
    ·cases h
    ·rename_i e T' H1 nx1 hrun
     split at h
     ·rename_i he
      split at h
      ·rename_i r1 hres
       simp only [ka] at h
       cases h
       refine ⟨F,hc hF,hl,fun K hK=>?_⟩
       rw [← tA hT]
       exact hr.ok hf hrun ⟨he,wK bI hres hK⟩
      ·cases h
     ·cases h
  ·cases h
def L0:LV:=fun _ _=>[]
theorem vb {P:Program} {code:FuncId→Option F2} (hm:P.follows .mixedOrders=true) (hc:gQ P code) {rn:RN} (hr:RunOk P rn) {L:LV} {g:FuncId} {args:List AV} {H:HT} {r:AV} (h:jz code rn g args H=some r):ib P g args (toH L H) r:=by
    have hf0:da P L0 []:=trivial
    have n0:Sub a9 a9:=fun _ _ h=>h
    unfold jz at h
    split at h
    ·rename_i a ha
     split at h
     ·rename_i v H' nx' hcall
      obtain ⟨F,h1,h2,h3⟩:=dh hc hr hf0 hcall
      have hp:Pure P g a r:=Pure.of_c2 hm h1 h2 (h3 (fun x H _=>Snap H x r) (cA bI _ h))
      obtain ⟨o1,o2⟩:=bX ha
      exact hp.callOk (.inl ⟨o1,fun i x y hx hy=>cA n0 _ (o2 i x y hx hy)⟩)
     ·cases h
    ·split at h
     ·rename_i a ha
      obtain ⟨o1,o2⟩:=bX ha
      have hs:aL (toH L H) args a:=⟨o1,fun i x y hx hy=>cA bI _ (o2 i x y hx hy)⟩
      split at h
      ·rename_i v H' nx' hcall
       obtain ⟨F,h1,h2,h3⟩:=dh hc hr hf0 hcall
       split at h
       ·rename_i r1 hr1
        split at h
        ·rename_i hsc
         cases h
         have hp:Pure P g a r:=Pure.of_c2 hm h1 h2 (h3 (fun x H _=>Snap H x r) (cA bI _ hr1))
         exact hp.callOk (.inr ⟨hs,hsc⟩)
        ·have hp:fw P g a r:=fw.of_c2 hm h1 h2 (h3 (fun x H _=>SnapF H x r) (kp bI _ h))
         exact hp.callOk hs
       ·cases h
      ·cases h
     ·cases h
theorem lL:∀ {l:List Nat} {H H2:HT},jS l H=some H2→∀ {b:Nat} {c:BC},H2.get b=some c→H.get b=some c
 | [],_,_,h,_,_,hb=>by cases h; exact hb
 | b :: l,H,H2,h,b',c,hb=>by
  simp only [jS] at h
  split at h
  ·rename_i H1 h1
   have:=lL h hb
   rw [PT.get_set _ h1] at this
   split at this
   ·cases this
   ·exact this
  ·cases h
theorem kq {L:LV}:∀ {l:List Nat} {H H2:HT},jS l H=some H2→∀ b cs,toH L H2 b=some cs→toH L H b=some cs
 | [],_,_,h=>by cases h; exact fun _ _ h=>h
 | b :: l,H,H2,h=>by
  simp only [jS] at h
  split at h
  ·rename_i H1 h1
   intro b' cs hb
   have:=kq h b' cs hb
   rw [oK h1] at this
   exact (iw this).2
  ·cases h
theorem wa {P:Program} {code:FuncId→Option F2} (hm:P.follows .mixedOrders=true) (hc:gQ P code) {rn:RN} (hr:RunOk P rn) {L:LV} {g:FuncId} {args:List AV} {H H2:HT} {nx nx':Nat} {r:AV} {R:AV→Hp→Nat→Prop} (h:vQ code rn g args H nx=some (r,H2,nx')) (hR:R r (toH L H2) nx'):Fn P g args (toH L H) nx R:=by
 have hf0:da P L0 []:=trivial
 have n0:Sub a9 a9:=fun _ _ h=>h
 unfold vQ at h
 split at h
 ·rename_i a ha
  split at h
  ·rename_i v H' nx1 hcall
   split at h
   ·rename_i r1 hr1
    cases h
    obtain ⟨F,h1,h2,h3⟩:=dh hc hr hf0 hcall
    have hp:Pure P g a r:=Pure.of_c2 hm h1 h2 (h3 (fun x H _=>Snap H x r) (cA bI _ hr1))
    obtain ⟨o1,o2⟩:=bX ha
    exact Fn.of_pure hp (.inl ⟨o1,fun i x y hx hy=>cA n0 _ (o2 i x y hx hy)⟩) hR
   ·cases h
  ·cases h
 ·split at h
  ·rename_i a ha
   obtain ⟨o1,o2⟩:=bX ha
   have hs:aL (toH L H) args a:=⟨o1,fun i x y hx hy=>cA bI _ (o2 i x y hx hy)⟩
   split at h
   ·rename_i v H' nx1 hcall
    obtain ⟨F,h1,h2,h3⟩:=dh hc hr hf0 hcall
    split at h
    ·rename_i r1 hr1
     split at h
     ·rename_i hsc
      cases h
      have hp:Pure P g a r:=Pure.of_c2 hm h1 h2 (h3 (fun x H _=>Snap H x r) (cA bI _ hr1))
      exact Fn.of_pure hp (.inr ⟨hs,hsc⟩) hR
     ·split at h
      ·rename_i r2 hr2
       cases h
       have hp:fw P g a r:=fw.of_c2 hm h1 h2 (h3 (fun x H _=>SnapF H x r) (kp bI _ hr2))
       exact Fn.of_callOk (hp.callOk hs) hR
      ·split at h
       ·rename_i H3 bN
        split at h
        ·rename_i a2 ha2
         obtain ⟨q1,q2⟩:=bX ha2
         split at h
         ·rename_i v2 H4 nx4 hcall2
          obtain ⟨F2,k1,k2,k3⟩:=dh hc hr hf0 hcall2
          split at h
          ·rename_i r2 hr2
           cases h
           have hp:Pure P g a2 r:=Pure.of_c2 hm k1 k2 (k3 (fun x H _=>Snap H x r) (cA bI _ hr2))
           have hsubF:Sub (fun b=>match (c6 H2 b).isSome with | true=>none | false=>c6 H b) (fun b=>match (c6 H2 b).isSome with | true=>none | false=>c6 H b):=fun _ _ h=>h
           refine Fn.of_pureZ (Hf:=fun b=>match (c6 H2 b).isSome with | true=>none | false=>c6 H b) hp (fun b cs hb=>?_) (fun b cs hb=>⟨kq bN b cs hb,?_⟩) ⟨q1,fun i x y hx hy=>cA hsubF _ (q2 i x y hx hy)⟩ hR
           ·split at hb
            ·cases hb
            ·exact bI b cs hb
           ·split
            ·rfl
            ·rename_i hn
             have:=kq bN b cs hb
             unfold c6 at hn ⊢
             unfold toH at hb this
             cases hg:H2.get b with
             | none=>rw [hg] at hb; cases hb
             | some c =>
              cases c with
              | cells cs'=>rw [hg] at hn; cases hn
              | mark e =>
               cases hg2:H.get b with
               | none=>rfl
               | some c2=>cases c2 with
                | mark e2=>rfl
                | cells cs2=>exact absurd (lL bN hg) (by rw [hg2]; intro h; cases h)
          ·cases h
         ·cases h
        ·cases h
       ·cases h
    ·cases h
   ·cases h
  ·cases h
theorem uY {P:Program} {code:FuncId→Option F2} {pf:FuncId→Bool} {ct:CT} (hm:P.follows .mixedOrders=true) (hc:gQ P code) (hct:CTok P ct) {rn:RN} (hr:RunOk P rn) {L:LV} {fr:List LFr} (hf:da P L fr):CLok P L (kT code pf ct rn fr) (jz code rn) (qn rn fr) where
 cl:=fun {g args H H' nx nx' r R} h hR=>by
  unfold kT at h
  split at h
  ·rename_i hx
   split at h
   ·rename_i hset
    cases h
    rw [er hset] at hR
    exact hct.c _ _ _ _ hx _ _ hR
   ·cases h
  split at h
  ·split at h
   ·rename_i hq
    cases h
    unfold xU at hq
    split at hq
    ·rename_i a ha
     obtain ⟨o1,o2⟩:=bX ha
     have n0:Sub a9 a9:=fun _ _ h=>h
     exact Fn.of_pure (hct.q _ _ _ hq) (.inl ⟨o1,fun i x y hx hy=>cA n0 _ (o2 i x y hx hy)⟩) hR
    ·cases hq
   ·exact wa hm hc hr h hR
  ·obtain ⟨F,h1,h2,h3⟩:=dh hc hr hf h
   exact Fn.of_c2 hm h1 h2 (h3 _ hR)
 pc:=fun {g args H r} h=>vb hm hc hr h
 yl:=fun {y args H H' nx nx' r R} h hR=>by
  unfold qn at h
  split at h
  ·cases h
  ·rename_i F l hF
   obtain ⟨rfl,hfr⟩:=qO hf hF
   obtain ⟨hy,hl⟩:=hfr
   split at h
   ·rename_i hg
    split at h
    ·rename_i hlen
     split at h
     ·cases h
     ·rename_i T1 hT1
      split at h
      ·rename_i T2 H2 nx2 hrun
       split at h
       ·rename_i hg2
        split at h
        ·cases h
        ·rename_i H3 hdel3
         split at h
         ·cases h
         ·rename_i e T4 H4 nx4 hrun2
          refine hy args (toH L H) nx R (by simp only [toH,hg,bcL]) (Nat.eq_of_beq_eq_true hlen) ?_
          rw [← va hT1]
          refine hr.ok (K:=fun e T2 H2 nx2=>aN e (H2 F.y=some (L F.y none)∧aG P F.b T2 (bN H2 F.y) nx2 fun e T3 H3 nx3=>aN e (R (.bool true) (am H3 F.y (L F.y none)) nx3) (R (.bool false) (am H3 F.y (L F.y (some e))) nx3)) False) hl hrun ⟨by simp only [toH,hg2,bcL],?_⟩
          rw [← oK hdel3]
          refine hr.ok hl hrun2 ?_
          cases e with
          | normal =>
           simp only at h
           split at h
           ·rename_i H5 h5
            cases h
            rw [jx h5] at hR
            exact hR
           ·cases h
          | exit i =>
           simp only at h
           split at h
           ·rename_i H5 h5
            cases h
            rw [jx h5] at hR
            exact hR
           ·cases h
          | ret =>
           simp only at h
           split at h
           ·rename_i H5 h5
            cases h
            rw [jx h5] at hR
            exact hR
           ·cases h
       ·cases h
      ·cases h
    ·cases h
   ·cases h
theorem ir {x:Option (TT × HT × Nat)} {e:AEx} {T:TT} {H:HT} {nx:Nat} (h:qA x=some (e,T,H,nx)):x=some (T,H,nx)∧e=.normal:=by
 unfold qA at h
 split at h
 ·cases h; exact ⟨rfl,rfl⟩
 ·cases h
theorem uX {P:Program} {code:FuncId→Option F2} {pf:FuncId→Bool} {ct:CT} (hm:P.follows .mixedOrders=true) (hc:gQ P code) (hct:CTok P ct):∀ n,RunOk P (run code pf ct n)
 | 0=>⟨fun _ h=>by cases h⟩
 | n + 1=>by
  refine ⟨?_⟩
  intro L fr c T T' H H' nx nx' e K hf h hK
  have ih:RunOk P (run code pf ct n):=uX hm hc hct n
  have hk:=uY (pf:=pf) (ct:=ct) hm hc hct ih hf
  cases c with
  | skip=>cases h; exact hK
  | exit i=>cases h; exact hK
  | ret=>cases h; exact hK
  | ops m l =>
   obtain ⟨h1,rfl⟩:=ir h
   have:=gn hk (K:=K .normal) h1 hK
   refine ⟨_,_,_,_,Gh.refl _ _ _,?_⟩
   unfold Bp at this
   exact this
  | mix m l C =>
   simp only [run] at h
   split at h
   ·obtain ⟨h1,rfl⟩:=ir h
    exact .inr ⟨_,_,_,_,Gh.refl _ _ _,gn hk (K:=K .normal) h1 hK⟩
   ·rename_i hb
    split at h
    ·rename_i x hx
     obtain ⟨h1,rfl⟩:=ir h
     cases h1
     have:=gn hk (K:=K .normal) hx hK
     refine .inl ⟨fun e=>?_,_,_,_,_,Gh.refl _ _ _,?_⟩
     ·subst e; cases hb
     ·unfold sW at this; exact this
    ·obtain ⟨h1,rfl⟩:=ir h
     exact .inr ⟨_,_,_,_,Gh.refl _ _ _,gn hk (K:=K .normal) h1 hK⟩
  | mixS m l C =>
   simp only [run] at h
   split at h
   ·rename_i x hx
    split at hx
    ·cases hx
    ·rename_i hb
     obtain ⟨h1,rfl⟩:=ir h
     cases h1
     have:=gn hk (K:=K .normal) hx hK
     refine .inl ⟨fun e=>?_,_,_,_,_,Gh.refl _ _ _,?_⟩
     ·subst e; cases hb
     ·unfold sW at this; exact this
   ·split at h
    ·rename_i hkeep
     obtain ⟨h1,rfl⟩:=ir h
     exact .inr ⟨_,_,_,_,_,Gh.refl _ _ _,oB hkeep,eX hk (K:=K .normal) h1 hK⟩
    ·cases h
  | seq a b =>
   simp only [run] at h
   split at h
   ·rename_i T1 H1 nx1 h1
    exact d8 (ih.ok (K:=fun e T H nx=>aN e (aG P b T H nx K) (K e T H nx)) hf h1 (ih.ok hf h hK))
   ·rename_i hne
    refine d8 (ih.ok (K:=fun e T H nx=>aN e (aG P b T H nx K) (K e T H nx)) hf h ?_)
    cases e with
    | normal=>exact absurd h (hne _ _ _)
    | exit i=>exact hK
    | ret=>exact hK
  | cond c a b =>
   simp only [run] at h
   split at h
   ·rename_i hv
    exact pr hv (ih.ok hf h hK)
   ·rename_i hv
    exact pA hv (ih.ok hf h hK)
   ·cases h
  | block id b =>
   simp only [run] at h
   split at h
   ·rename_i e1 T1 H1 nx1 h1
    cases h
    exact du (ih.ok (K:=fun e T H nx=>K (gX id e) T H nx) hf h1 hK)
   ·cases h
  | loop b =>
   simp only [run] at h
   split at h
   ·rename_i T1 H1 nx1 h1
    obtain ⟨k,hl⟩:=ih.ok hf h hK
    exact ⟨k + 1,_,_,_,_,Gh.refl _ _ _,ih.ok (K:=fun e T H nx=>aN e (kG (aG P b) K k T H nx) (K e T H nx)) hf h1 hl⟩
   ·rename_i hne
    refine ⟨1,_,_,_,_,Gh.refl _ _ _,ih.ok (K:=fun e T H nx=>aN e (kG (aG P b) K 0 T H nx) (K e T H nx)) hf h ?_⟩
    cases e with
    | normal=>exact absurd h (hne _ _ _)
    | exit i=>exact hK
    | ret=>exact hK
  | rangeF g ps a b =>
   simp only [run] at h
   split at h
   ·rename_i f caps hg
    split at h
    ·cases h
    ·rename_i hnone
     split at h
     ·cases h
     ·rename_i H1 hset
      split at h
      ·cases h
      ·rename_i v H2 nx2 hcall
       split at h
       ·rename_i st hst
        split at h
        ·cases h
        ·rename_i H3 hdel3
         refine qZ hg fun c0 cj hy=>?_
         let L':LV:=fun b e=>if b=nx then (match e with | none=>[c0] | some e=>[cj e]) else L b e
         have hL:∀ b e,b ≠ nx→L' b e=L b e:=fun b e hb=>if_neg hb
         have hn:L' nx none=[c0]:=if_pos rfl
         have hs:∀ e,L' nx (some e)=[cj e]:=fun e=>if_pos rfl
         have hf':da P L' (⟨nx,ps,a,b,T⟩ :: fr):=by
          refine ⟨?_,nj hL hf hnone⟩
          intro args H' nx' K' h1 h2 h3
          simp only [hn,hs] at h1 h3
          exact hy args H' nx' K' h1 h2 h3
         have e1:am (toH L H) nx [c0]=toH L' H1:=by
          rw [jx hset,hn]
          funext m
          simp only [am]
          split
          ·rfl
          ·rename_i hm
           simp only [toH]
           cases H.get m with
           | none=>rfl
           | some x=>cases x with
            | cells cs=>rfl
            | mark e=>simp only [bcL,hL m e hm]
         have e2:bN (toH L' H2) nx=toH L H3:=by
          rw [oK hdel3]
          funext m
          simp only [bN]
          split
          ·rfl
          ·rename_i hm
           simp only [toH]
           cases H2.get m with
           | none=>rfl
           | some x=>cases x with
            | cells cs=>rfl
            | mark e=>simp only [bcL,hL m e hm]
         rw [e1]
         obtain ⟨F,k1,k2,k3⟩:=dh hc ih hf' hcall
         refine Fn.of_c2 hm k1 k2 (k3 _ ?_)
         cases st with
         | none =>
          cases h
          left
          refine ⟨by simp only [toH,hst,bcL,hn],?_⟩
          rw [e2]; exact hK
         | some e1' =>
          simp only at h
          split at h
          ·cases h
          ·rename_i hnn
           cases h
           right
           refine ⟨e,(fun hh=>by rw [hh] at hnn; cases hnn),by simp only [toH,hst,bcL,hs],?_⟩
           rw [e2]; exact hK
       ·cases h
   ·cases h
def yH (code:FuncId→Option F2) (pf:FuncId→Bool) (ct:CT) (n:Nat) (f:FuncId) (args:List AV) (good:AV→Bool):Bool :=
 match iT code (run code pf ct n) [] f args .leaf 0 with
 | some (v,H',_)=>match snapV (c6 H') SF v with
  | some r=>good r
  | none=>false
 | none=>false
theorem Pure.of_runC {P:Program} {code:FuncId→Option F2} {pf:FuncId→Bool} {ct:CT} (hm:P.follows .mixedOrders=true) (hc:gQ P code) (hct:CTok P ct) {n:Nat} {f:FuncId} {args:List AV} {good:AV→Bool} {r:AV} (h:yH code pf ct n f args good=true) (hg:∀ x,good x=true→x=r):Pure P f args r:=by
 unfold yH at h
 split at h
 ·rename_i v H' nx' hcall
  split at h
  ·rename_i r1 hr1
   have:=hg _ h
   subst this
   obtain ⟨F,h1,h2,h3⟩:=dh hc (uX hm hc hct n) (L:=L0) (fr:=[]) trivial hcall
   exact Pure.of_c2 hm h1 h2 (h3 (fun x H _=>Snap H x r1) (cA bI _ hr1))
  ·cases h
 ·cases h
theorem Pure.of_run {P:Program} {code:FuncId→Option F2} {pf:FuncId→Bool} (hm:P.follows .mixedOrders=true) (hc:gQ P code) {n:Nat} {f:FuncId} {args:List AV} {good:AV→Bool} {r:AV} (h:yH code pf AZ n f args good=true) (hg:∀ x,good x=true→x=r):Pure P f args r :=
 Pure.of_runC hm hc wR h hg
def isTrue:AV→Bool | .bool true=>true | _=>false
theorem tB:∀ x,isTrue x=true→x=.bool true:=by
 intro x h
 cases x <;> try (cases h; done)
 rename_i b
 cases b
 ·cases h
 ·rfl
def lookup:List (Nat × F2)→FuncId→Option F2
 | [],_=>none
 | (k,F) :: l,f=>match Nat.beq k f with
  | true=>some F
  | false=>lookup l f
theorem tI {P:Program}:gQ P (lookup []):=fun h=>by cases h
theorem av {P:Program} {k:Nat} {F:F2} {l:List (Nat × F2)} (h:Is P k F) (hs:gQ P (lookup l)):gQ P (lookup ((k,F) :: l)):=fun {f F'} hf=>by
 simp only [lookup] at hf
 split at hf
 ·rename_i e
  cases hf
  rw [Nat.eq_of_beq_eq_true e] at h
  exact h
 ·exact hs hf
end Go.Abs
namespace Go.Abs
open Go Go.RowKit
def pm (W:World):Nat→Prop:=fun b=>b < W.heap.size
theorem t7 {W:World} {a:Addr} {v:Value} (h:W.cell? a=some v):pm W a.block∧a.spot=none:=by
 unfold World.cell? at h
 unfold pm
 cases hb:W.heap[a.block]? with
 | none=>simp [hb] at h
 | some o =>
  refine ⟨(Array.getElem?_eq_some_iff.1 hb).1,?_⟩
  cases hs:a.spot with
  | none=>rfl
  | some s=>cases o <;> simp [hb,hs] at h
section
variable {H:Type} {enc:TypeId × Value→H} {P:Program} {W:World}
def dg (enc:TypeId × Value→H) (P:Program) (W:World) (t:TypeId) {α:Type} (f:α→AV) (good:α→Prop):Prop :=
 ∀ (n:Nat) (cs:List Value) (x:DataW H × List MemPlace),DataW.trod enc P W 0 (fun _=>true) true n t cs=some x→(∀ k ∈ x.1.weights P t,k ≤ reachBytes)→∃ a:α,good a∧bS (E0 (pm W)) W (f a).cells cs
theorem dg.mono {t:TypeId} {α:Type} {f:α→AV} {good good':α→Prop} (h:dg enc P W t f good) (hg:∀ a,good a→good' a):dg enc P W t f good' :=
 fun n cs x hx hw=>let ⟨a,h1,h2⟩:=h n cs x hx hw; ⟨a,hg a h1,h2⟩
theorem lQ {E:Env} {w:World} {x:AV} {y:Value} (h:Rel E w x y):bS E w [x] [y]:=⟨rfl,fun i a b ha hb=>by
 cases i with
 | zero=>simp at ha hb; subst ha hb; exact h
 | succ i=>simp at ha⟩
theorem bS.app {E:Env} {w:World} {xs xs':List AV} {ys ys':List Value} (h:bS E w xs ys) (h':bS E w xs' ys'):bS E w (xs ++ xs') (ys ++ ys'):=by
 have hl:xs.length=ys.length:=h.1.symm
 refine ⟨by simp [h.1,h'.1],fun i a b ha hb=>?_⟩
 by_cases hi:i < xs.length
 ·rw [List.getElem?_append_left hi] at ha
  rw [List.getElem?_append_left (by omega)] at hb
  exact h.2 i a b ha hb
 ·rw [List.getElem?_append_right (by omega)] at ha
  rw [List.getElem?_append_right (by omega)] at hb
  rw [hl] at ha
  exact h'.2 _ a b ha hb
theorem uw {t:TypeId} {k:IntKind} (ht:P.underlying t=some (.int k)):dg enc P W t (AV.int k) (fun n=>(Lit.int k n).wf=true):=fun n cs x hx _=>by
 obtain ⟨a,rfl,rfl,hw⟩:=DataW.trod_int ht hx
 exact ⟨a,hw,lQ (.int _ _)⟩
theorem ng {e:TypeId} {l:List (DataW H)} {d:DataW H} (h:d ∈ l) {k:Nat} (hk:k ∈ d.weights P e):k ∈ DataW.weightsAll P e l:=by
 induction l with
 | nil=>cases h
 | cons a l ih =>
  unfold DataW.weightsAll
  rcases List.mem_cons.1 h with rfl | h
  ·exact List.mem_append_left _ hk
  ·exact List.mem_append_right _ (ih h)
theorem qm {α:Type} {len:Nat} {Q:Nat→α→Prop} (h:∀ i,i < len→∃ a,Q i a):∃ l:List α,l.length=len∧∀ i a,l[i]?=some a→Q i a:=by
 induction len with
 | zero=>exact ⟨[],rfl,fun i a h=>by simp at h⟩
 | succ n ih =>
  obtain ⟨l,h1,h2⟩:=ih (fun i hi=>h i (by omega))
  obtain ⟨a,ha⟩:=h n (by omega)
  refine ⟨l ++ [a],by simp [h1],fun i b hb=>?_⟩
  by_cases hi:i < l.length
  ·rw [List.getElem?_append_left hi] at hb; exact h2 i b hb
  ·rw [List.getElem?_append_right (by omega)] at hb
   have:i - l.length=0:=by
    by_cases h0:i - l.length=0
    ·exact h0
    ·rw [List.getElem?_eq_none (by simp; omega)] at hb; cases hb
   rw [this] at hb; simp at hb; subst hb
   have:i=n:=by omega
   subst this; exact ha
theorem kZ {t e:TypeId} {sz by_:Nat} {α:Type} {f:α→AV} {good:α→Prop} (ht:P.underlying t=some (.slice e)) (hsz:P.cellsOf e=sz) (hby:P.bytesOf e=by_) (hpos:0 < sz) (hc:∀ a,(f a).cells.length=sz)
    (he:dg enc P W e f good):dg enc P W t (ja sz f) (fun l=>(∀ a ∈ l,good a)∧l.length ≤ 9223372036854775807∧l.length * by_ ≤ 140737488351232):=fun n cs x hx hw=>by
 rcases Go.Deep.open_slice ht hx with ⟨rfl,rfl⟩ | ⟨a,len,cap,m,n',D,Pl,rfl,hb,hlc,hcm,hm,hxe,hel⟩
 ·exact ⟨[],⟨fun _ h=>(by cases h),by simp,by simp⟩,lQ (.slnil _)⟩
 simp only [if_true] at hm
 subst hxe
 subst hm
 have hw':∀ k ∈ ((DataW.slice (H:=H) ((List.range len).map D) ((List.range (m - len)).map fun j=>D (len + j))).weights P t),k ≤ reachBytes:=hw
 simp only [DataW.weights,ht] at hw'
 have hlen:(((List.range len).map D).length + ((List.range (m - len)).map fun j=>D (len + j)).length) * P.bytesOf e ≤ reachBytes:=hw' _ (List.mem_cons_self ..)
 have hbd:len * by_ ≤ 140737488351232:=by
  rw [hby] at hlen
  simp only [List.length_map,List.length_range] at hlen
  have h1:len * by_ ≤ (len + (m - len)) * by_:=Nat.mul_le_mul_right _ (by omega)
  have h2:reachBytes=140737488351232:=rfl
  omega
 have hlm:len ≤ 9223372036854775807:=Nat.le_trans hlc hcm
 have key:∀ i,i < len→∃ a':α,good a'∧∃ cs',W.cells? 0 (a.add (i * sz)) sz=some cs'∧bS (E0 (pm W)) W (f a').cells cs':=fun i hi=>by
  obtain ⟨cs',h1,h2⟩:=hel i (by omega)
  rw [hsz] at h1
  obtain ⟨a',g1,g2⟩:=he n' cs' _ h2 (fun k hk=>hw' k (List.mem_cons_of_mem _ (List.mem_append_left _ (ng (List.mem_map.2 ⟨i,List.mem_range.2 hi,rfl⟩) hk))))
  exact ⟨a',g1,cs',h1,g2⟩
 obtain ⟨l,hl,hq⟩:=qm key
 refine ⟨l,⟨fun x hx=>?_,by omega,by rw [hl]; exact hbd⟩,lQ ?_⟩
 ·obtain ⟨i,hi⟩:=List.getElem?_of_mem hx
  exact (hq i x hi).1
 by_cases h0:len=0
 ·subst h0
  have:l=[]:=List.length_eq_zero_iff.1 hl
  subst this
  exact .slempty _ _ _
 have hcell:∀ i j,i < len→j < sz→∃ v,W.cell? ((a.add (i * sz)).add j)=some v:=fun i j hi hj=>by
  obtain ⟨a',_,cs',h1,h2⟩:=key i hi
  unfold World.cells? at h1
  rw [if_pos (Nat.zero_le _)] at h1
  have h3:=mapM_some_get h1 j j (by simp [hj])
  have h4:j < cs'.length:=by
   have:=mapM_some_length h1
   simp at this; omega
  exact ⟨cs'[j],by rw [h3]; simp [h4]⟩
 obtain ⟨v0,hv0⟩:=hcell 0 0 (by omega) hpos
 have ho:=t7 hv0
 simp only [Nat.zero_mul,Addr.add,if_true] at ho
 obtain ⟨blk,off,sp⟩:=a
 obtain ⟨ho,hsp⟩:=ho
 simp only at hsp ho
 subst hsp
 have hadd:∀ i j,((⟨blk,off,none⟩:Addr).add (i * sz)).add j=⟨blk,off + (i * sz + j),none⟩:=fun i j=>by
  rw [bz,bz,Nat.add_assoc]
 have hcell':∀ k,k < len * sz→∃ v,W.cell? ⟨blk,off + k,none⟩=some v:=fun k hk=>by
  have h1:k / sz < len:=Nat.div_lt_of_lt_mul (by rw [Nat.mul_comm]; exact hk)
  have h2:k % sz < sz:=Nat.mod_lt _ hpos
  obtain ⟨v,hv⟩:=hcell (k / sz) (k % sz) h1 h2
  rw [hadd,Nat.div_add_mod'] at hv
  exact ⟨v,hv⟩
 have hlen2:(l.map f).length=len:=by simp [hl]
 have:=Rel.sl (E:=E0 (pm W)) (w:=W) sz (l.map f) blk off m (fun k=>(W.cell? ⟨blk,off + k,none⟩).getD Go.undef) ho (by rw [hlen2]; exact hlc)
  (fun x hx=>by obtain ⟨b,_,rfl⟩:=List.mem_map.1 hx; exact hc b)
  (fun k hk=>by
   rw [hlen2] at hk
   obtain ⟨v,hv⟩:=hcell' k hk
   simp only [hv,Option.getD_some])
  (fun i j x y hx hy=>by
   rw [List.getElem?_map,Option.map_eq_some_iff] at hx
   obtain ⟨a',ha',rfl⟩:=hx
   obtain ⟨_,cs',h1,h2⟩:=hq i a' ha'
   have hj:j < sz:=by
    have:=(List.getElem?_eq_some_iff.1 hy).1
    rwa [hc] at this
   have hi:i < len:=by
    have:=(List.getElem?_eq_some_iff.1 ha').1
    omega
   unfold World.cells? at h1
   rw [if_pos (Nat.zero_le _)] at h1
   have h3:=mapM_some_get h1 j j (by simp [hj])
   have h4:j < cs'.length:=by
    have:=mapM_some_length h1
    simp at this; omega
   rw [hadd] at h3
   have h5:cs'[j]?=some cs'[j]:=by simp [h4]
   rw [h5] at h3
   simp only [h3,Option.getD_some]
   exact h2.2 j y _ hy h5)
 rw [hlen2] at this
 exact this
def o8 (enc:TypeId × Value→H) (P:Program) (W:World) (fs:List Field) (off:Nat) {α:Type} (g:α→List AV) (good:α→Prop):Prop :=
 ∀ (n tot:Nat) (cs:List Value) (ys:List (DataW H × List MemPlace)),ys.length=fs.length→(∀ (i:Nat) (f:Field),fs[i]?=some f→DataW.trod enc P W 0 (fun _=>true) true n f.type ((cs.drop f.offset).take (P.cellsOf f.type))=ys[i]?) →
  (∀ k ∈ DataW.weightsEach P (fs.map fun f:Field=>f.type) (ys.map (·.1)),k ≤ reachBytes)→cs.length=tot→tot=off + (fs.map fun f:Field=>P.cellsOf f.type).sum→∃ a:α,good a∧bS (E0 (pm W)) W (g a) (cs.drop off)
theorem gv {off:Nat}:o8 enc P W [] off (fun _:Unit=>[]) (fun _=>True):=fun n tot cs ys _ _ _ h1 h2=>by
 refine ⟨(),trivial,?_⟩
 rw [List.drop_eq_nil_of_le (by simp at h2; omega)]
 exact ⟨rfl,fun i a b h=>by simp at h⟩
theorem cJ {fd:Field} {fs:List Field} {off off':Nat} {α β:Type} {f:α→AV} {g:β→List AV} {good:α→Prop} {good':β→Prop} (ho:fd.offset=off) (ho':off + P.cellsOf fd.type=off')
    (h:dg enc P W fd.type f good) (h':o8 enc P W fs off' g good'):o8 enc P W (fd :: fs) off (fun a:α × β=>(f a.1).cells ++ g a.2) (fun a=>good a.1∧good' a.2):=fun n tot cs ys hl hy hw h1 h2=>by
 obtain ⟨y,ys,rfl⟩:∃ y ys',ys=y :: ys':=by
  cases ys with
  | nil=>simp at hl
  | cons y ys=>exact ⟨y,ys,rfl⟩
 have hy0:=hy 0 fd rfl
 simp only [List.getElem?_cons_zero] at hy0
 rw [ho] at hy0
 simp only [List.map_cons,DataW.weightsEach] at hw
 obtain ⟨a,g1,g2⟩:=h n _ y hy0 (fun k hk=>hw k (List.mem_append_left _ hk))
 simp only [List.map_cons,List.sum_cons] at h2
 obtain ⟨b,g3,g4⟩:=h' n tot cs ys (by simpa using hl) (fun i f hf=>by
  have:=hy (i + 1) f (by simpa using hf)
  simpa using this) (fun k hk=>hw k (List.mem_append_right _ hk)) h1 (by omega)
 refine ⟨(a,b),⟨g1,g3⟩,?_⟩
 have e:cs.drop off=(cs.drop off).take (P.cellsOf fd.type) ++ cs.drop off':=by
  rw [← ho',← List.drop_drop,List.take_append_drop]
 rw [e]
 exact bS.app g2 g4
theorem eS {t:TypeId} {fs:Array Field} {α:Type} {g:α→List AV} {good:α→Prop} (ht:P.underlying t=some (.struct fs)) (hsum:P.cellsOf t=(fs.toList.map fun f:Field=>P.cellsOf f.type).sum)
    (h:o8 enc P W fs.toList 0 g good):dg enc P W t (fun a=>.agg (g a)) good:=fun n cs x hx hw=>by
 obtain ⟨ys,n',rfl,rfl,hl,hs,hy⟩:=DataW.trod_struct ht hx
 obtain ⟨a,g1,g2⟩:=h n' _ cs ys (by rw [hs]; simp) (fun i f hf=>hy i f (by simpa using hf)) (fun k hk=>hw k (by
  simp only [DataW.weights,ht]; exact hk)) hl (by rw [Nat.zero_add,hsum])
 exact ⟨a,g1,by rw [List.drop_zero] at g2; exact g2⟩
theorem dg.map {t:TypeId} {α β:Type} {f:α→AV} {good:α→Prop} {f':β→AV} {good':β→Prop} (h:dg enc P W t f good) (φ:α→β) (hg:∀ a,good a→good' (φ a)) (hf:∀ a,good a→(f' (φ a)).cells=(f a).cells):dg enc P W t f' good':=fun n cs x hx hw=>by
 obtain ⟨a,h1,h2⟩:=h n cs x hx hw
 exact ⟨φ a,hg a h1,by rw [hf a h1]; exact h2⟩
theorem dg.at {t u:TypeId} {α:Type} {f:α→AV} {good:α→Prop} (e:t=u) (h:dg enc P W u f good):dg enc P W t f good:=e ▸ h
theorem dg.argA {t:TypeId} {α:Type} {f:α→AV} {good:α→Prop} (h:dg enc P W t f good) {r:Reach} {base:Nat} {v:Value} {d:DataW H} {ps:List MemPlace} (ht:lz P t=true) (hf:∀ a,∃ cs,f a=.agg cs)
    (hval:Value.okWide P W r base t v) (hd:DataW.Trod enc P W 0 (fun _=>true) true t v d ps) (hw:∀ k ∈ d.weights P t,k ≤ reachBytes):∃ a,good a∧Rel (E0 (pm W)) W (f a) v:=by
 obtain ⟨n,hn⟩:=hd
 obtain ⟨a,h1,h2⟩:=h n _ _ hn hw
 refine ⟨a,h1,?_⟩
 obtain ⟨cs,hcs,_⟩:∃ cs,v=.agg cs∧True:=by
  unfold Value.okWide at hval
  unfold lz at ht
  split at hval
  ·obtain ⟨cs,h,_⟩:=hval; exact ⟨cs,h,trivial⟩
  ·obtain ⟨cs,h,_⟩:=hval; exact ⟨cs,h,trivial⟩
  ·rename_i k1 k2
   revert ht
   cases hu:P.underlying t with
   | none=>simp
   | some u =>
    cases u with
    | struct fs=>exact absurd hu (k1 fs)
    | array m e=>exact absurd hu (k2 m e)
    | _=>simp
 subst hcs
 obtain ⟨xs,hx⟩:=hf a
 rw [hx] at h2 ⊢
 exact .agg xs cs.toList h2.1 h2.2
theorem iV (hl:laidOutB P=true) {W':World} (hb:Below W.heap.size W W') {sp:Nat→Bool}:∀ {ts:List TypeId} {vs:List Value} {ds:List (DataW H)} {ps:List MemPlace},(∀ t ∈ ts,P.readableRec t=true∧t < P.types.size) →
    DataW.TrodAll enc P W 0 (fun _=>true) true ts vs ds ps→(∀ p ∈ ps,p.block < W.heap.size)→(∀ p ∈ ps,sp p.block=true)→DataW.TrodAll enc P W' 0 sp true ts vs ds ps
 | [],[],[],ps,_,h,_,_=>h
 | t :: ts,v :: vs,d :: ds,ps,hr,⟨p,q,h1,h2,e⟩,hlt,hsp=>by
  subst e
  exact ⟨p,q,WideElems.Trod_stays hl (hr t (List.mem_cons_self ..)).1 (hr t (List.mem_cons_self ..)).2 h1 (fun x hx=>hb.same (hlt x (List.mem_append_left _ hx))) (fun x hx=>hsp x (List.mem_append_left _ hx)),
   iV hl hb (fun t ht=>hr t (List.mem_cons_of_mem _ ht)) h2 (fun x hx=>hlt x (List.mem_append_right _ hx)) (fun x hx=>hsp x (List.mem_append_right _ hx)),rfl⟩
 | [],_ :: _,_,_,_,h,_,_=>h.elim
 | [],[],_ :: _,_,_,h,_,_=>h.elim
 | _ :: _,[],_,_,_,h,_,_=>h.elim
 | _ :: _,_ :: _,[],_,_,h,_,_=>h.elim
theorem il:∀ {ts:List TypeId} {ds:List (DataW H)} {i:Nat} {t:TypeId} {d:DataW H},ts[i]?=some t→ds[i]?=some d→∀ k ∈ d.weights P t,k ∈ DataW.weightsEach P ts ds
 | t :: ts,d :: ds,0,_,_,h1,h2,k,hk=>by
  simp at h1 h2; subst h1 h2
  unfold DataW.weightsEach
  exact List.mem_append_left _ hk
 | t :: ts,d :: ds,i + 1,_,_,h1,h2,k,hk=>by
  unfold DataW.weightsEach
  exact List.mem_append_right _ (il (ts:=ts) (ds:=ds) (by simpa using h1) (by simpa using h2) k hk)
 | [],_,i,_,_,h1,_,_,_=>by simp at h1
 | _ :: _,[],i,_,_,_,h2,_,_=>by simp at h2
end
end Go.Abs