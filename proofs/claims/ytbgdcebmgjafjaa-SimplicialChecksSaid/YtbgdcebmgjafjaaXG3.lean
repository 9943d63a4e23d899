/- Texts of this claim, one after the other: AbsC2, AbsC3, AbsC4, AbsC5, AbsC6, AbsC7, AbsC8, AbsC9, AbsD1, AbsD2, AbsZ, AbsI, AbsI2, AbsO. -/
import Derived.Test.YtbgdcebmgjafjaaXG2
import Derived.IntWalk
import Derived.ChangeArms
import Derived.Carry
import Derived.Deep.Slices
import Derived.Lib.SmallJoins

set_option linter.unusedSimpArgs false
set_option linter.unusedVariables false
namespace Go.Abs
open Go.RowKit
structure Op2 where
 d:Option Nat
 g:Option (Nat × Bool)
 i:Ins
inductive C2 where
 | skip
 | ops (m:Nat) (l:List Op2)
 | mix (m:Nat) (l:List Op2) (C:List Nat)
 | mixS (m:Nat) (l:List Op2) (C:List (Nat × Nat))
 | seq (a b:C2)
 | cond (c:Opd) (a b:C2)
 | block (id:Nat) (b:C2)
 | loop (b:C2)
 | exit (id:Nat)
 | ret
 | rangeF (g:Opd) (ps:List Nat) (a b:C2)
inductive IC where
 | val | eff | call | sp
 deriving DecidableEq
def ic:Ins→IC
 | .alloc _ | .box _ | .bldS .. | .mks .. | .st .. | .app .. | .apz ..=>.eff
 | .call ..=>.call
 | .mkm .. | .mput .. | .mget .. | .mlen _ | .mrng _ | .mnxt _ | .ment _ | .cpy .. | .clr .. | .snil .. | .s2b _ | .b2s _ | .mplc .. | .mpst .. | .slp ..=>.sp
 | _=>.val
def kq (m:Nat) (p:AV):Bool:=match p with | .ptr b _ _=>b < m | _=>true
def np (m:Nat) (p:AV):Bool:=match p with | .ptr b _ _=>m ≤ b | _=>true
def dm2 (dm:DM) (T:Tm) (i:Ins):Bool:=match dm with
 | .fresh m=>match i with
  | .ld1 a=>kq m (ov T a)
  | .ldn _ a=>kq m (ov T a)
  | .st _ p _=>np m (ov T p)
  | .app ..=>false
  | .apz ..=>false
  | _=>true
 | _=>true
def aE (P:Program) (dm:DM) (i:Ins) (T:Tm) (H:Hp) (nx:Nat) (K:AV→Hp→Nat→Prop):Prop :=
 match ic i with
 | .val=>ao (dm2 dm T i) (af (ak T H i) fun r=>K r H nx)
 | .eff=>ao (dm2 dm T i) (af (dv T H nx i) fun x=>K x.1 x.2.1 x.2.2)
 | .call=>match i with
  | .call f args=>(af (fQ (ov T f)) fun y=>match dm.isText with
   | false=>aC P y.1 (args.map (ov T) ++ y.2) H fun r=>K r H nx
   | true=>Fn P y.1 (args.map (ov T) ++ y.2) H nx K) ∨ (dm.isText=true∧((∃ b,ov T f=.yld b∧Yl P b (args.map (ov T)) H nx K) ∨ ∃ g fs,ov T f=.bfn g fs∧Fn P g (fs ++ args.map (ov T)) H nx K))
  | _=>False
 | .sp=>dm.isText=true∧isp i T H nx K
def g2 (T:Tm):Option (Nat × Bool)→Option Bool
 | none=>some true
 | some (t,want)=>match T t with
  | .bool b=>some (b == want)
  | .tup []=>some false
  | _=>none
def ab (P:Program) (dm:DM):List Op2→Tm→Hp→Nat→SP→Prop
 | [],T,H,nx,K=>K T H nx
 | o :: l,T,H,nx,K=>ap (g2 T o.g) (aE P dm o.i T H nx fun r H nx=>ab P dm l (ag T o.d r) H nx K) (ab P dm l (ag T o.d (.tup [])) H nx K)
def kp (T:Tm):Ins→Option AV
 | .bldS sz len z parts=>jT (dv T ay 0 (.bldS sz len z parts))
 | _=>none
def ar (P:Program) (S:Hp):List (Op2 × Nat)→Tm→Hp→Nat→SP→Prop
 | [],T,H,nx,K=>K T H nx
 | (o,0) :: l,T,H,nx,K=>ap (g2 T o.g) (af (ak T S o.i) fun r=>ar P S l (ag T o.d r) H nx K) (ar P S l (ag T o.d (.tup [])) H nx K)
 | (o,k + 1) :: l,T,H,nx,K=>ap (g2 T o.g) (if k=2 then af (kp T o.i) fun r=>ar P S l (ag T o.d r) H nx K else aE P .text o.i T H nx fun r H' nx'=>(k=0→Sub S H')∧ar P S l (ag T o.d r) H' nx' K) (ar P S l (ag T o.d (.tup [])) H nx K)
def ai (P:Program):C2→Tm→Hp→Nat→CP→Prop
 | .skip,T,H,nx,K=>K .normal T H nx
 | .ops m l,T₀,H₀,nx₀,K=>∃ T H nx Hf,Gh T₀ H₀ nx₀ T H nx Hf∧ab P (match m with | 0=>.text | 1=>.draw | _=>.fresh nx) l T H nx (K .normal)
 | .mix m l C,T₀,H₀,nx₀,K=>(m ≠ 9∧∃ T H nx Hf,Gh T₀ H₀ nx₀ T H nx Hf∧ab P (match m with | 1=>.draw | _=>.fresh nx) l T H nx (K .normal)) ∨
     ∃ T H nx Hf,Gh T₀ H₀ nx₀ T H nx Hf∧ab P .text (C.map fun k=>l.getD k ⟨none,none,.dead⟩) T H nx (K .normal)
 | .mixS m l C,T₀,H₀,nx₀,K=>(m ≠ 9∧∃ T H nx Hf,Gh T₀ H₀ nx₀ T H nx Hf∧ab P (match m with | 1=>.draw | _=>.fresh nx) l T H nx (K .normal)) ∨
     ∃ T H nx Hf S,Gh T₀ H₀ nx₀ T H nx Hf∧Sub S H∧ar P S (C.map fun k=>(l.getD k.1 ⟨none,none,.dead⟩,k.2)) T H nx (K .normal)
 | .seq x y,T,H,nx,K=>ai P x T H nx fun e T H nx=>am e (ai P y T H nx K) (K e T H nx)
 | .cond c x y,T,H,nx,K=>aL (ov T c) (ai P x T H nx K) (ai P y T H nx K)
 | .block id b,T,H,nx,K=>ai P b T H nx fun e T H nx=>K (eM id e) T H nx
 | .loop b,T,H,nx,K=>aG (ai P b) T H nx K
 | .exit id,T,H,nx,K=>K (.exit id) T H nx
 | .ret,T,H,nx,K=>K .ret T H nx
 | .rangeF g ps a b,T,H,nx,K=>∃ f caps,ov T g=.func f caps∧∀ (c0:AV) (cj:AEx→AV),
     (∀ (args:List AV) (H':Hp) (nx':Nat) (K':AV→Hp→Nat→Prop),H' nx=some [c0]→args.length=ps.length →
      ai P a (dB T ps args) H' nx' (fun e T2 H2 nx2=>am e (H2 nx=some [c0]∧ai P b T2 (bl H2 nx) nx2 fun e T3 H3 nx3=>am e (K' (.bool true) (ae H3 nx [c0]) nx3) (K' (.bool false) (ae H3 nx [cj e]) nx3)) False) →
      Yl P nx args H' nx' K') →
     Fn P f (.yld nx :: caps) (ae H nx [c0]) (nx + 1) fun _ H' nx'=>(H' nx=some [c0]∧K .normal T (bl H' nx) nx') ∨ ∃ e,e ≠ .normal∧H' nx=some [cj e]∧K e T (bl H' nx) nx'
def jh:Op→Option IC
 | .call { callee:=.value _,.. }=>some .call
 | op=>match opk op with
  | .pure | .touch=>some .val
  | .alloc | .write=>some .eff
  | .other=>none
def cJ (P:Program) (op:Op):Option Ins:=match jh op with
 | some .call=>match eo op with
  | some (f,args)=>some (.call (.of f) (args.toList.map .of))
  | none=>none
 | some .val=>match cS P op with
  | some i=>if ic i=.val then some i else none
  | none=>none
 | some .eff=>match ez P op with
  | some i=>if ic i=.eff then some i else none
  | none=>none
 | _=>none
def bU (P:Program) (op:Op):Ins:=match cJ P op with
 | some i=>i
 | none=>match kF P op with
  | some i=>if ic i=.sp then i else .dead
  | none=>.dead
def nO (dsts:List (Option Nat)):Option (Nat × Bool)→Option (Option (Nat × Bool))
 | none=>some none
 | some (j,want)=>match dsts[j]? with
  | some (some d)=>some (some (d,want))
  | _=>none
def lz (P:Program) (N:Nat) (dsts:List (Option Nat)) (o:Oper):Option Op2 :=
 if dok N o.dst then (match nO dsts o.guard with
  | some g=>some ⟨o.dst,g,bU P o.op⟩
  | none=>none) else none
def fN (P:Program) (N:Nat) (dsts:List (Option Nat)):List Oper→Option (List Op2)
 | []=>some []
 | o :: l=>match lz P N dsts o,fN P N dsts l with
  | some o,some l=>some (o :: l)
  | _,_=>none
def vpP (P:Program) (op:Op):Bool:=nZ op || (opk op == .pure && (cJ P op).isSome)
theorem i8 (P:Program):VP (vpP P):=⟨fun op h=>by
 unfold vpP at h
 rw [Bool.or_eq_true,Bool.and_eq_true] at h
 rcases h with h | h
 ·exact me h
 ·simpa using h.1,fun op h=>by unfold vpP; rw [h]; rfl⟩
def jM (P:Program) (ops:List Oper):Bool:=ops.any fun o=>opk o.op == .other || (opk o.op == .pure && !vpP P o.op)
def qK (P:Program) (ops:List Oper):List Nat :=
 let m:=Region.before ops.toArray
 let r:=List.range ops.length
 let sp:=r.filter fun i=>!vpP P (ops.getD i default).op
 let C:=sp.foldl (fun acc s=>acc ++ (r.filter fun i=>vpP P (ops.getD i default).op && !acc.contains i && !sp.any fun q=>bJ m i q && !acc.contains q) ++ [s]) []
 C ++ r.filter fun i=>!C.contains i
def qu (P:Program) (N:Nat) (ops:List Oper):Bool :=
 (jM P ops || ops.any fun o=>jh o.op == some .call) && kD (vpP P) N ops (qK P ops)
def svP (P:Program) (op:Op):Bool:=sv (vpP P) op
def pJ (P:Program) (ops:List Oper):List Nat :=
 let m:=Region.before ops.toArray
 let r:=List.range ops.length
 let sp:=r.filter fun i=>!svP P (ops.getD i default).op
 let C:=sp.foldl (fun acc s=>acc ++ (r.filter fun i=>svP P (ops.getD i default).op && !acc.contains i && !sp.any fun q=>bJ m i q && !acc.contains q) ++ [s]) []
 C ++ r.filter fun i=>!C.contains i
def pA (P:Program) (N:Nat) (ops:List Oper):Bool :=
 (jM P ops || (ops.any fun o=>jh o.op == some .call) || !bg false ops) && (ops.all fun o=>!ca o.op || (cJ P o.op).isSome) && f7 (vpP P) (fun _=>false) N ops (pJ P ops)
def cL (P:Program) (bp:Op→Bool) (ops:List Oper) (k:Nat):Nat:=if (bp (ops.getD k default).op && cQ (ops.getD k default).op)=true then 3 else if svP P (ops.getD k default).op=true then 0 else if cR ops k=true then 1 else 2
def mL (P:Program) (bp:Op→Bool) (ops:List Oper):List Nat :=
 let m:=Region.before ops.toArray
 let r:=List.range ops.length
 let v:=fun i=>svP P (ops.getD i default).op || (bp (ops.getD i default).op && cQ (ops.getD i default).op)
 let sp:=r.filter fun i=>!v i
 let C:=sp.foldl (fun acc s=>acc ++ (r.filter fun i=>v i && !acc.contains i && !sp.any fun q=>bJ m i q && !acc.contains q) ++ [s]) []
 C ++ r.filter fun i=>!C.contains i
def mH (P:Program) (bp:Op→Bool) (N:Nat) (ops:List Oper):Bool :=
 (ops.all fun o=>!(ca o.op || (bp o.op && cQ o.op)) || (cJ P o.op).isSome) && f7 (vpP P) bp N ops (mL P bp ops)
def bpA (P:Program) (op:Op):Bool:=match cJ P op with
 | some (.bldS 1 _ _ _)=>true
 | _=>false
def pz (P:Program) (N:Nat) (ops:List Oper):Bool :=
 (ops.any fun o=>bpA P o.op) && (ops.any fun o=>cQ o.op && !bpA P o.op) && mH P (bpA P) N ops
def eY (P:Program) (N:Nat):Code→Option C2
 | .skip=>some .skip
 | .label _=>some .skip
 | .region _ ops draw=>match fN P N (ops.toList.map (·.dst)) ops.toList with
  | some l=>if draw=true then (if pz P N ops.toList=true then some (.mixS 9 l ((mL P (bpA P) ops.toList).map fun k=>(k,cL P (bpA P) ops.toList k))) else if qu P N ops.toList=true then some (.mix (if jM P ops.toList=true then 9 else if bg false ops.toList=true then 1 else if bg true ops.toList=true then 2 else 9) l (qK P ops.toList)) else if pA P N ops.toList=true then some (.mixS (if jM P ops.toList=true then 9 else if bg false ops.toList=true then 1 else if bg true ops.toList=true then 2 else 9) l ((pJ P ops.toList).map fun k=>(k,cL P (fun _=>false) ops.toList k))) else if bg false ops.toList=true then some (.ops 1 l) else if bg true ops.toList=true then some (.ops 2 l) else if mH P (fun _=>true) N ops.toList=true then some (.mixS 9 l ((mL P (fun _=>true) ops.toList).map fun k=>(k,cL P (fun _=>true) ops.toList k))) else none) else some (.ops 0 l)
  | none=>none
 | .seq a b=>match eY P N a,eY P N b with
  | some a,some b=>some (.seq a b)
  | _,_=>none
 | .cond c a b=>match eY P N a,eY P N b with
  | some a,some b=>some (.cond (.of c) a b)
  | _,_=>none
 | .block id b=>match eY P N b with
  | some b=>some (.block id b)
  | none=>none
 | .loop b=>match eY P N b with
  | some b=>some (.loop b)
  | none=>none
 | .exit id=>some (.exit id)
 | .ret=>some .ret
 | .rangeFunc g ps a b=>if ps.toList.all (fun t=>decide (t < N))=true then (match eY P N a,eY P N b with
  | some a,some b=>some (.rangeF (.of g) ps.toList a b)
  | _,_=>none) else none
 | _=>none
theorem fu {α:Type} {x:Option α} {A B:α→Prop} (hab:∀ a,A a→B a) (h:af x A):af x B:=by
 cases x with
 | none=>exact h
 | some a=>exact hab a h
theorem oM {P:Program} {dm:DM} {op:Op} {i:Ins} {T:Tm} (hc:(cS P op=some i∧opk op ≠ .write) ∨ ez P op=some i) (h:dm2 dm T i=true):i4 dm T op=true:=by
 cases dm with
 | text=>rfl
 | draw=>rfl
 | fresh m =>
  rcases hc with ⟨hc,hk⟩ | hc
  ·cases op with
   | load t a =>
    simp only [cS] at hc
    split at hc
    ·split at hc
     ·split at hc
      ·cases hc
       simp only [dm2,kq,aq] at h
       simp only [i4,gR]; exact h
      ·cases hc
     ·cases hc
      simp only [dm2,kq,aq] at h
      simp only [i4,gR]; exact h
    ·cases hc
   | store t p x=>exact absurd rfl hk
   | _=>simpa [i4,gR] using hk
  ·cases op with
   | store t p x =>
    simp only [ez] at hc
    split at hc
    ·cases hc
     simp only [dm2,np,aq] at h
     simp only [i4,gR]; exact h
    ·cases hc
   | alloc e=>rfl
   | box e x=>rfl
   | buildSlice t len parts=>rfl
   | makeSlice t l c=>rfl
   | call c =>
    obtain ⟨callee,args,argTypes⟩:=c
    cases callee with
    | builtin b =>
     obtain ⟨args⟩:=args
     obtain ⟨argTypes⟩:=argTypes
     cases b with
     | append =>
      rcases args with _ | ⟨x,_ | ⟨y,_ | ⟨z,l⟩⟩⟩
      ·cases hc
      ·cases hc
      ·rcases argTypes with _ | ⟨t,_ | ⟨u,_ | ⟨v,l⟩⟩⟩
       ·cases hc
       ·cases hc
       ·simp only [ez] at hc
        split at hc
        ·cases hc
        ·split at hc
         ·cases hc
          cases h
         ·split at hc
          ·split at hc
           ·split at hc
            ·cases hc
             cases h
            ·cases hc
           ·cases hc
          ·cases hc
       ·cases hc
      ·cases hc
     | _=>cases hc
    | _=>cases hc
   | _=>cases hc
theorem pi {P:Program} {dm:DM} {op:Op} {i:Ins} {T:Tm} {H:Hp} {nx:Nat} {K:AV→Hp→Nat→Prop} (hc:cJ P op=some i) (h:aE P dm i T H nx K):gY P dm op T H nx K:=by
 unfold gY
 unfold cJ at hc
 split at hc
 ·rename_i hk
  split at hc
  ·rename_i f args hf
   cases hc
   have h:(af (fQ (ov T (.of f))) fun y=>match (generalizing:=false) dm.isText with
    | false=>aC P y.1 ((args.toList.map Opd.of).map (ov T) ++ y.2) H fun r=>K r H nx
    | true=>Fn P y.1 ((args.toList.map Opd.of).map (ov T) ++ y.2) H nx K) ∨ (dm.isText=true∧((∃ b,ov T (.of f)=.yld b∧Yl P b ((args.toList.map Opd.of).map (ov T)) H nx K) ∨ ∃ g fs,ov T (.of f)=.bfn g fs∧Fn P g (fs ++ (args.toList.map Opd.of).map (ov T)) H nx K)):=h
   rw [aq,dM] at h
   obtain ⟨ts,rfl⟩:=eN hf
   rcases h with h | ⟨h1,⟨b,h2,h3⟩ | ⟨g,fs,h2,h3⟩⟩
   ·exact .inl h
   ·exact .inr ⟨h1,ll h2 h3⟩
   ·exact .inr ⟨h1,kO h2 h3⟩
  ·cases hc
 ·rename_i hk
  split at hc
  ·rename_i j hj
   split at hc
   ·rename_i hic
    cases hc
    have hoc:opc op=.val∧opk op ≠ .write:=by
     unfold jh at hk
     split at hk
     ·cases hk
     ·rename_i hn
      unfold opc
      split
      ·rename_i a b c; exact absurd rfl (hn _ _ _)
      ·split at hk <;> rename_i hkk <;> (try rw [hkk]) <;> first | (cases hk; done) | (exact ⟨rfl,by decide⟩)
    unfold aE at h
    rw [hic] at h
    simp only at h
    left
    unfold dP
    rw [hoc.1]
    simp only
    refine ⟨oM (.inl ⟨hj,hoc.2⟩) h.1,?_⟩
    have h:=h.2
    cases hv:ak T H i with
    | none=>rw [hv] at h; exact h.elim
    | some r=>rw [j5 hj hv]; rw [hv] at h; exact h
   ·cases hc
  ·cases hc
 ·rename_i hk
  split at hc
  ·rename_i j hj
   split at hc
   ·rename_i hic
    cases hc
    have hoc:opc op=.eff:=by
     unfold jh at hk
     split at hk
     ·cases hk
     ·rename_i hn
      unfold opc
      split
      ·rename_i a b c; exact absurd rfl (hn _ _ _)
      ·split at hk <;> rename_i hkk <;> (try rw [hkk]) <;> cases hk
    unfold aE at h
    rw [hic] at h
    simp only at h
    left
    unfold dP
    rw [hoc]
    simp only
    refine ⟨oM (.inr hj) h.1,?_⟩
    have h:=h.2
    cases hv:dv T H nx i with
    | none=>rw [hv] at h; exact h.elim
    | some r=>rw [mo hj hv]; rw [hv] at h; exact h
   ·cases hc
  ·cases hc
 ·cases hc
theorem iT {P:Program} {dm:DM} {op:Op} {T:Tm} {H:Hp} {nx:Nat} {K:AV→Hp→Nat→Prop} (h:aE P dm (bU P op) T H nx K):gY P dm op T H nx K:=by
 unfold bU at h
 split at h
 ·rename_i i hi; exact pi hi h
 ·split at h
  ·rename_i i hi
   split at h
   ·rename_i hic
    unfold aE at h
    rw [hic] at h
    exact .inr ⟨h.1,ql hi h.2⟩
   ·exact h.2.elim
  ·exact h.2.elim
theorem oO {dsts:List (Option Nat)} {T:Tm} {g:Option (Nat × Bool)} {g':Option (Nat × Bool)} (h:nO dsts g=some g'):gval T dsts g=g2 T g':=by
 unfold nO at h
 split at h
 ·cases h; rfl
 ·split at h
  ·rename_i d hd
   cases h
   simp only [gval,hd,g2]
   generalize T d=v
   cases v <;> try rfl
  ·cases h
theorem b4 {P:Program} {N:Nat} {dm:DM} {dsts:List (Option Nat)} {K:SP}:∀ (l:List Oper) (l2:List Op2) {T:Tm} {H:Hp} {nx:Nat},fN P N dsts l=some l2→ab P dm l2 T H nx K→go P N dm dsts l T H nx K
 | [],l2,T,H,nx,hc,h=>by cases hc; exact h
 | o :: l,l2,T,H,nx,hc,h=>by
  simp only [fN] at hc
  split at hc
  ·rename_i o2 r2 ho hr
   cases hc
   unfold lz at ho
   split at ho
   ·rename_i hd
    split at ho
    ·rename_i g hg
     cases ho
     refine ⟨hd,?_⟩
     rw [oO hg]
     have h:ap (g2 T g) (aE P dm (bU P o.op) T H nx fun r H nx=>ab P dm r2 (ag T o.dst r) H nx K) (ab P dm r2 (ag T o.dst (.tup [])) H nx K):=h
     cases hgv:g2 T g with
     | none=>rw [hgv] at h; exact h.elim
     | some b =>
      rw [hgv] at h
      cases b with
      | true =>
       have h:aE P dm (bU P o.op) T H nx fun r H nx=>ab P dm r2 (ag T o.dst r) H nx K:=h
       exact cX (iT h) (fun r H nx hh=>b4 l r2 hr hh)
      | false=>exact b4 l r2 hr h
    ·cases ho
   ·cases ho
  ·cases hc
theorem nV {P:Program} {op:Op} {T:Tm} {H:Hp} {nx:Nat} {K:AV→Hp→Nat→Prop} (h:aE P .text (bU P op) T H nx K):cK (vpP P) P op T H nx K:=by
 unfold cK
 split
 ·rename_i hk0
  have hk:=(i8 P).pure _ hk0
  have hsome:(cJ P op).isSome=true:=by
   unfold vpP at hk0
   rw [Bool.or_eq_true,Bool.and_eq_true] at hk0
   rcases hk0 with h | h
   ·cases op <;> first | (cases h; done) | rfl
   ·exact h.2
  obtain ⟨i,hi⟩:=Option.isSome_iff_exists.1 hsome
  unfold bU at h
  rw [hi] at h
  have h:aE P .text i T H nx K:=h
  unfold cJ at hi
  have hic:jh op=some .val:=by
   unfold jh
   split
   ·simp [opk] at hk
   ·rw [hk]
  rw [hic] at hi
  simp only at hi
  split at hi
  ·rename_i j hj
   split at hi
   ·rename_i hc
    cases hi
    unfold aE at h
    rw [hc] at h
    obtain ⟨_,h⟩:=h
    obtain ⟨r,hr,hk⟩:=a6 h
    rw [j5 hj hr]; exact hk
   ·cases hi
  ·cases hi
 ·exact iT h
theorem fU {P:Program} {N:Nat} {dsts:List (Option Nat)}:∀ {l:List Oper} {l2:List Op2},fN P N dsts l=some l2→∀ {k:Nat} {o:Oper},l[k]?=some o→∃ o2,l2[k]?=some o2∧lz P N dsts o=some o2
 | [],l2,h,k,o,ho=>by simp at ho
 | x :: l,l2,h,k,o,ho=>by
  simp only [fN] at h
  split at h
  ·rename_i o2 r2 h1 h2
   cases h
   cases k with
   | zero=>simp at ho; subst ho; exact ⟨o2,rfl,h1⟩
   | succ k =>
    obtain ⟨o3,h3,h4⟩:=fU h2 (k:=k) (o:=o) (by simpa using ho)
    exact ⟨o3,by simpa using h3,h4⟩
  ·cases h
theorem iA {P:Program} {N:Nat} {ops:List Oper} {l:List Op2} (hl:fN P N (ops.map (·.dst)) ops=some l) {K:SP}:∀ (C:List Nat),(∀ k ∈ C,k < ops.length)→∀ {T:Tm} {H:Hp} {nx:Nat},
    ab P .text (C.map fun k=>l.getD k ⟨none,none,.dead⟩) T H nx K→d8 (vpP P) P N (ops.map (·.dst)) (C.map fun k=>ops.getD k default) T H nx K
 | [],_,_,_,_,h=>h
 | k :: C,hC,T,H,nx,h=>by
  have hk:=hC k (by simp)
  obtain ⟨o,ho⟩:=aV hk
  obtain ⟨o2,ho2,hc⟩:=fU hl ho
  have e1:ops.getD k default=o:=ba ho
  have e2:l.getD k ⟨none,none,.dead⟩=o2:=by simp [List.getD,ho2]
  rw [List.map_cons,e1]
  rw [List.map_cons,e2] at h
  unfold lz at hc
  split at hc
  ·rename_i hd
   split at hc
   ·rename_i g hg
    cases hc
    refine ⟨hd,?_⟩
    rw [oO hg]
    have h:ap (g2 T g) (aE P .text (bU P o.op) T H nx fun r H nx=>ab P .text (C.map fun k=>l.getD k ⟨none,none,.dead⟩) (ag T o.dst r) H nx K) (ab P .text (C.map fun k=>l.getD k ⟨none,none,.dead⟩) (ag T o.dst (.tup [])) H nx K):=h
    cases hgv:g2 T g with
    | none=>rw [hgv] at h; exact h.elim
    | some b =>
     rw [hgv] at h
     cases b with
     | true =>
      have h:aE P .text (bU P o.op) T H nx fun r H nx=>ab P .text (C.map fun k=>l.getD k ⟨none,none,.dead⟩) (ag T o.dst r) H nx K:=h
      exact fj (nV h) (fun r H nx hh=>iA hl C (fun q hq=>hC q (by simp [hq])) hh)
     | false=>exact iA hl C (fun q hq=>hC q (by simp [hq])) h
   ·cases hc
  ·cases hc
theorem py {P:Program} {op:Op} {T:Tm} {r:AV} (hb:cQ op=true) (hc:(cJ P op).isSome=true) (h:kp T (bU P op)=some r):lB P T op=some r:=by
 obtain ⟨i,hi⟩:=Option.isSome_iff_exists.1 hc
 have hcd:bU P op=i:=by unfold bU; rw [hi]
 rw [hcd] at h
 cases op <;> first | (cases hb; done) | skip
 rename_i t len parts
 have hi2:ez P (.buildSlice t len parts)=some i:=by
  unfold cJ at hi
  have:jh (.buildSlice t len parts)=some .eff:=rfl
  rw [this] at hi
  simp only at hi
  split at hi
  ·rename_i j hj
   split at hi
   ·cases hi; exact hj
   ·cases hi
  ·cases hi
 unfold lB
 rw [if_pos hb]
 unfold kp at h
 split at h
 ·rename_i sz len' z parts'
  obtain ⟨n,H',k,cs,h1,h2,h3,h4,h5⟩:=gq h
  rw [mo hi2 h1]
  rw [h1] at h
  exact h
 ·cases h
theorem iO {P:Program} {bp:Op→Bool} {N:Nat} {ops:List Oper} {l:List Op2} (hl:fN P N (ops.map (·.dst)) ops=some l) (hld:(ops.all fun o=>!ca o.op || (cJ P o.op).isSome)=true) (hbd:(ops.all fun o=>!(bp o.op && cQ o.op) || (cJ P o.op).isSome)=true) {S:Hp} {K:SP}:∀ (C:List Nat),(∀ k ∈ C,k < ops.length)→∀ {T:Tm} {H:Hp} {nx:Nat},
    ar P S (C.map fun k=>(l.getD k ⟨none,none,.dead⟩,cL P bp ops k)) T H nx K→de (vpP P) bp P N (ops.map (·.dst)) S (C.map (d9 ops)) T H nx K
 | [],_,_,_,_,h=>h
 | k :: C,hC,T,H,nx,h=>by
  have hk:=hC k (by simp)
  obtain ⟨o,ho⟩:=aV hk
  obtain ⟨o2,ho2,hc⟩:=fU hl ho
  have e1:ops.getD k default=o:=ba ho
  have e2:l.getD k ⟨none,none,.dead⟩=o2:=by simp [List.getD,ho2]
  have hrec:=fun (T:Tm) (H:Hp) (nx:Nat) hh=>iO hl hld hbd (S:=S) (K:=K) C (fun q hq=>hC q (by simp [hq])) (T:=T) (H:=H) (nx:=nx) hh
  rw [List.map_cons]
  rw [List.map_cons,e2] at h
  have ep:d9 ops k=(o,cR ops k):=by unfold d9; rw [e1]
  have ek:cL P bp ops k=if (bp o.op && cQ o.op)=true then 3 else if sv (vpP P) o.op=true then 0 else if cR ops k=true then 1 else 2:=by unfold cL svP; rw [e1]
  rw [ep]
  rw [ek] at h
  unfold lz at hc
  split at hc
  case isFalse=>cases hc
  rename_i hd
  split at hc
  case h_2=>cases hc
  rename_i g hg
  cases hc
  refine ⟨hd,?_⟩
  show ap (gval T (ops.map (·.dst)) o.guard) (bL (vpP P) bp P S o.op (cR ops k) T H nx fun r H' nx'=>de (vpP P) bp P N (ops.map (·.dst)) S (C.map (d9 ops)) (ag T o.dst r) H' nx' K) (de (vpP P) bp P N (ops.map (·.dst)) S (C.map (d9 ops)) (ag T o.dst (.tup [])) H nx K)
  rw [oO hg]
  by_cases hbl:(bp o.op && cQ o.op)=true
  ·rw [if_pos hbl] at h
   have h:ap (g2 T g) (af (kp T (bU P o.op)) fun r=>ar P S (C.map fun k=>(l.getD k ⟨none,none,.dead⟩,cL P bp ops k)) (ag T o.dst r) H nx K) (ar P S (C.map fun k=>(l.getD k ⟨none,none,.dead⟩,cL P bp ops k)) (ag T o.dst (.tup [])) H nx K):=h
   cases hgv:g2 T g with
   | none=>rw [hgv] at h; exact h.elim
   | some b =>
    rw [hgv] at h
    cases b with
    | false=>exact hrec _ _ _ h
    | true =>
     have h:af (kp T (bU P o.op)) fun r=>ar P S (C.map fun k=>(l.getD k ⟨none,none,.dead⟩,cL P bp ops k)) (ag T o.dst r) H nx K:=h
     show bL (vpP P) bp P S o.op (cR ops k) T H nx _
     unfold bL
     rw [if_pos (show nv (vpP P) bp o.op=true by unfold nv; rw [hbl,Bool.or_true])]
     obtain ⟨r,hr,hh⟩:=a6 h
     rw [Bool.and_eq_true] at hbl
     have hsome:(cJ P o.op).isSome=true:=by
      have:=List.all_eq_true.1 hbd o (List.mem_of_getElem? ho)
      rw [hbl.1,hbl.2] at this
      simpa using this
     unfold i2
     rw [if_pos (show (bp o.op && cQ o.op)=true by rw [hbl.1,hbl.2]; rfl),py hbl.2 hsome hr]
     exact hrec _ _ _ hh
  have hnv:nv (vpP P) bp o.op=sv (vpP P) o.op:=by
   unfold nv
   cases hb:(bp o.op && cQ o.op) with
   | true=>exact absurd hb hbl
   | false=>rw [Bool.or_false]
  have hnval:i2 P bp T S o.op=aR P T S o.op:=by unfold i2; rw [if_neg hbl]
  rw [if_neg hbl] at h
  by_cases hs:sv (vpP P) o.op=true
  ·rw [if_pos hs] at h
   have h:ap (g2 T g) (af (ak T S (bU P o.op)) fun r=>ar P S (C.map fun k=>(l.getD k ⟨none,none,.dead⟩,cL P bp ops k)) (ag T o.dst r) H nx K) (ar P S (C.map fun k=>(l.getD k ⟨none,none,.dead⟩,cL P bp ops k)) (ag T o.dst (.tup [])) H nx K):=h
   cases hgv:g2 T g with
   | none=>rw [hgv] at h; exact h.elim
   | some b =>
    rw [hgv] at h
    cases b with
    | false=>exact hrec _ _ _ h
    | true =>
     have h:af (ak T S (bU P o.op)) fun r=>ar P S (C.map fun k=>(l.getD k ⟨none,none,.dead⟩,cL P bp ops k)) (ag T o.dst r) H nx K:=h
     show bL (vpP P) bp P S o.op (cR ops k) T H nx _
     unfold bL
     rw [if_pos (hnv.trans hs),hnval]
     obtain ⟨r,hr,hh⟩:=a6 h
     have hsome:(cJ P o.op).isSome=true:=by
      unfold sv at hs
      rw [Bool.or_eq_true] at hs
      rcases hs with hs | hs
      ·unfold vpP at hs
       rw [Bool.or_eq_true,Bool.and_eq_true] at hs
       rcases hs with h | h
       ·revert h; cases o.op <;> intro h <;> first | (cases h; done) | rfl
       ·exact h.2
      ·have:=List.all_eq_true.1 hld o (List.mem_of_getElem? ho)
       rw [hs] at this
       simpa using this
     obtain ⟨i,hi⟩:=Option.isSome_iff_exists.1 hsome
     have hcd:bU P o.op=i:=by unfold bU; rw [hi]
     rw [hcd] at hr
     have hic:jh o.op=some .val:=by
      unfold sv at hs
      rw [Bool.or_eq_true] at hs
      rcases hs with hs | hs
      ·have hk:=(i8 P).pure _ hs
       unfold jh
       split
       ·rename_i heq; rw [heq] at hk; simp [opk] at hk
       ·rw [hk]
      ·revert hs; cases o.op <;> intro hs <;> first | (cases hs; done) | rfl
     unfold cJ at hi
     rw [hic] at hi
     simp only at hi
     split at hi
     ·rename_i j hj
      split at hi
      ·cases hi
       rw [j5 hj hr]; exact hrec _ _ _ hh
      ·cases hi
     ·cases hi
  ·rw [if_neg hs] at h
   obtain ⟨q,hq,hq2,hq3⟩:∃ q,(if cR ops k=true then 1 else 2)=q + 1∧(cR ops k=true→q=0)∧q ≠ 2:=by
    by_cases hkk:cR ops k=true
    ·exact ⟨0,by rw [if_pos hkk],fun _=>rfl,by omega⟩
    ·exact ⟨1,by rw [if_neg hkk],fun h=>absurd h hkk,by omega⟩
   rw [hq] at h
   simp only [ar,if_neg hq3] at h
   have h:ap (g2 T g) (aE P .text (bU P o.op) T H nx fun r H' nx'=>(q=0→Sub S H')∧ar P S (C.map fun k=>(l.getD k ⟨none,none,.dead⟩,cL P bp ops k)) (ag T o.dst r) H' nx' K) (ar P S (C.map fun k=>(l.getD k ⟨none,none,.dead⟩,cL P bp ops k)) (ag T o.dst (.tup [])) H nx K):=h
   cases hgv:g2 T g with
   | none=>rw [hgv] at h; exact h.elim
   | some b =>
    rw [hgv] at h
    cases b with
    | false=>exact hrec _ _ _ h
    | true =>
     have h:aE P .text (bU P o.op) T H nx fun r H' nx'=>(q=0→Sub S H')∧ar P S (C.map fun k=>(l.getD k ⟨none,none,.dead⟩,cL P bp ops k)) (ag T o.dst r) H' nx' K:=h
     show bL (vpP P) bp P S o.op (cR ops k) T H nx _
     unfold bL
     rw [if_neg (by rw [hnv]; exact hs)]
     exact cX (iT h) (fun r H nx hh=>⟨fun hkk=>hh.1 (hq2 hkk),hrec _ _ _ hh.2⟩)
theorem mz {P:Program} {bp:Op→Bool} {N:Nat} {rid:Nat} {ops:Array Oper} {l:List Op2} (hl:fN P N (ops.toList.map (·.dst)) ops.toList=some l) (hmx:mH P bp N ops.toList=true) {T:Tm} {H:Hp} {nx:Nat} {K:CP}
    (h:ai P (.mixS 9 l ((mL P bp ops.toList).map fun k=>(k,cL P bp ops.toList k))) T H nx K):awp P N (.region rid ops true) T H nx K:=by
 unfold mH at hmx
 rw [Bool.and_eq_true] at hmx
 obtain ⟨hld,hok⟩:=hmx
 rcases h with ⟨h9,_⟩ | ⟨T,H,nx,Hf,S,hg,hs,h⟩
 ·exact absurd rfl h9
 ·rw [List.map_map] at h
  rw [List.all_eq_true] at hld
  refine ⟨T,H,nx,Hf,hg,.inr (.inr ⟨_,bp,_,S,i8 P,hok,hs,iO hl ?_ ?_ _ (f4 hok).lt h⟩)⟩
  ·rw [List.all_eq_true]
   intro o ho
   have:=hld o ho
   cases h1:ca o.op with
   | false=>rfl
   | true=>rw [h1] at this; simpa using this
  ·rw [List.all_eq_true]
   intro o ho
   have:=hld o ho
   cases h1:(bp o.op && cQ o.op) with
   | false=>rfl
   | true=>rw [h1] at this; simpa using this
theorem cT {P:Program} {N:Nat} (hm:P.follows .mixedOrders=true):∀ (c:Code) (c2:C2) {T:Tm} {H:Hp} {nx:Nat} {K:CP},eY P N c=some c2→ai P c2 T H nx K→awp P N c T H nx K
 | .skip,c2,_,_,_,_,hc,h=>by cases hc; exact h
 | .label _,c2,_,_,_,_,hc,h=>by cases hc; exact h
 | .exit _,c2,_,_,_,_,hc,h=>by cases hc; exact h
 | .ret,c2,_,_,_,_,hc,h=>by cases hc; exact h
 | .region _ ops draw,c2,_,_,_,_,hc,h=>by
  simp only [eY] at hc
  split at hc
  ·rename_i l hl
   cases draw with
   | true =>
    simp only [if_true] at hc
    split at hc
    ·rename_i hmx
     cases hc
     unfold pz at hmx
     rw [Bool.and_eq_true] at hmx
     exact mz hl hmx.2 h
    split at hc
    ·rename_i hmx
     cases hc
     unfold qu at hmx
     rw [Bool.and_eq_true] at hmx
     obtain ⟨_,hok⟩:=hmx
     rcases h with ⟨h9,T,H,nx,Hf,hg,h⟩ | ⟨T,H,nx,Hf,hg,h⟩
     ·refine ⟨T,H,nx,Hf,hg,.inl ?_⟩
      split at h9
      ·exact absurd rfl h9
      ·rename_i ho
       rw [if_neg ho] at h
       split at h9
       ·rename_i hd
        rw [if_pos hd] at h ⊢
        exact b4 _ _ hl h
       ·rename_i hd
        rw [if_neg hd] at h ⊢
        split at h9
        ·rename_i hd2
         rw [if_pos hd2] at h
         exact ⟨hd2,b4 _ _ hl h⟩
        ·exact absurd rfl h9
     ·exact ⟨T,H,nx,Hf,hg,  .inr (.inl ⟨_,_,i8 P,hok,iA hl _ (kH hok).lt h⟩)⟩
    ·split at hc
     ·rename_i hmx
      cases hc
      unfold pA at hmx
      rw [Bool.and_eq_true,Bool.and_eq_true] at hmx
      obtain ⟨⟨_,hld⟩,hok⟩:=hmx
      rcases h with ⟨h9,T,H,nx,Hf,hg,h⟩ | ⟨T,H,nx,Hf,S,hg,hs,h⟩
      ·refine ⟨T,H,nx,Hf,hg,.inl ?_⟩
       split at h9
       ·exact absurd rfl h9
       ·rename_i ho
        rw [if_neg ho] at h
        split at h9
        ·rename_i hd
         rw [if_pos hd] at h ⊢
         exact b4 _ _ hl h
        ·rename_i hd
         rw [if_neg hd] at h ⊢
         split at h9
         ·rename_i hd2
          rw [if_pos hd2] at h
          exact ⟨hd2,b4 _ _ hl h⟩
         ·exact absurd rfl h9
      ·rw [List.map_map] at h
       exact ⟨T,H,nx,Hf,hg,.inr (.inr ⟨_,fun _=>false,_,S,i8 P,hok,hs,iO hl hld (List.all_eq_true.2 fun _ _=>rfl) _ (f4 hok).lt h⟩)⟩
     split at hc
     ·rename_i hd
      cases hc
      obtain ⟨T,H,nx,Hf,hg,h⟩:=h
      refine ⟨T,H,nx,Hf,hg,?_⟩
      simp only
      rw [if_pos hd]
      exact .inl (b4 _ _ hl h)
     ·rename_i hd
      split at hc
      ·rename_i hd2
       cases hc
       obtain ⟨T,H,nx,Hf,hg,h⟩:=h
       refine ⟨T,H,nx,Hf,hg,?_⟩
       simp only
       rw [if_neg hd]
       exact .inl ⟨hd2,b4 _ _ hl h⟩
      ·split at hc
       ·rename_i hmx
        cases hc
        exact mz hl hmx h
       ·cases hc
   | false =>
    simp only [Bool.false_eq_true,if_false] at hc
    cases hc
    obtain ⟨T,H,nx,Hf,hg,h⟩:=h
    exact ⟨T,H,nx,Hf,hg,b4 _ _ hl h⟩
  ·cases hc
 | .seq a b,c2,_,_,_,K,hc,h=>by
  simp only [eY] at hc
  split at hc
  ·rename_i a2 b2 ha hb
   cases hc
   refine bM a (cT hm a a2 ha h) (fun e T H nx h=>?_)
   cases e with
   | normal=>exact cT hm b b2 hb h
   | exit i=>exact h
   | ret=>exact h
  ·cases hc
 | .cond c a b,c2,_,_,_,K,hc,h=>by
  simp only [eY] at hc
  split at hc
  ·rename_i a2 b2 ha hb
   cases hc
   simp only [ai,aq] at h
   simp only [awp]
   unfold aL at h ⊢
   split at h
   ·exact ⟨fun hh=>cT hm a a2 ha (h.1 hh),fun hh=>cT hm b b2 hb (h.2 hh)⟩
   ·exact h
  ·cases hc
 | .block id b,c2,_,_,_,K,hc,h=>by
  simp only [eY] at hc
  split at hc
  ·rename_i b2 hb
   cases hc
   exact cT hm b b2 hb h
  ·cases hc
 | .loop b,c2,T,H,nx,K,hc,h=>by
  simp only [eY] at hc
  split at hc
  ·rename_i b2 hb
   cases hc
   obtain ⟨n,h⟩:=h
   refine ⟨n,?_⟩
   induction n generalizing T H nx with
   | zero=>exact h
   | succ n ih =>
    obtain ⟨T',H',nx',Hf,hg,h⟩:=h
    refine ⟨T',H',nx',Hf,hg,bM b (cT hm b b2 hb h) (fun e T H nx h=>?_)⟩
    cases e with
    | normal=>exact ih _ _ _ h
    | exit i=>exact h
    | ret=>exact h
  ·cases hc
 | .rangeFunc g ps a b,c2,T,H,nx,K,hc,h=>by
  simp only [eY] at hc
  split at hc
  case isFalse=>cases hc
  case isTrue hps =>
  split at hc
  ·rename_i a2 b2 ha hb
   cases hc
   obtain ⟨f,caps,h1,h2⟩:=h
   rw [aq] at h1
   show RF P N _ T H nx K
   refine qB h1 (fun r hr=>?_)
   refine h2 (.oloop r T) (jN r T) (fun args H' nx' K' hH hl hw=>?_)
   refine Yl.of_awp hr hm (fun t ht=>by simpa using List.all_eq_true.1 hps t ht) hH (by simpa using hl) (bM a (cT hm a a2 ha hw) (fun e T2 H2 nx2 h=>?_))
   cases e with
   | normal=>exact ⟨h.1,cT hm b b2 hb h.2⟩
   | exit i=>exact h
   | ret=>exact h
  ·cases hc
 | .scope _,_,_,_,_,_,hc,_=>by cases hc
 | .goto _,_,_,_,_,_,hc,_=>by cases hc
 | .refuse _,_,_,_,_,_,hc,_=>by cases hc
inductive RV where
 | t (n:Nat)
 | c1 (n:Nat)
 | cn (n k:Nat)
structure F2 where
 n:Nat
 res:List RV
 body:C2
def dz (P:Program):List ResultVar→Option (List RV)
 | []=>some []
 | .tmp t :: l=>match dz P l with | some l=>some (.t t :: l) | none=>none
 | .cell a t :: l=>if tok P t=true then (match dz P l with
  | some l=>if gV P t=true then (if 0 < P.cellsOf t then some (.cn a (P.cellsOf t) :: l) else none) else some (.c1 a :: l)
  | none=>none) else none
def mq (P:Program) (fn:Func):Option F2 :=
 match fn.body with
 | some c=>if fn.name == "runtime.NumGoroutine" then none else match eY P fn.ntmps c,dz P fn.results.toList with
  | some b,some r=>some ⟨fn.ntmps,r,b⟩
  | _,_=>none
 | none=>none
def rv (T:Tm) (H:Hp):RV→Option AV
 | .t n=>some (T n)
 | .c1 n=>rd1 H (T n)
 | .cn n k=>(rd H k (T n)).map .agg
def nH (T:Tm) (H:Hp):List RV→(List AV→Prop)→Prop
 | [],K=>K []
 | a :: l,K=>af (rv T H a) fun x=>nH T H l fun xs=>K (x :: xs)
def aW (T:Tm) (H:Hp) (K:AV→Prop):List RV→Prop
 | [a]=>af (rv T H a) K
 | [a,b]=>af (rv T H a) fun x=>af (rv T H b) fun y=>K (.tup [x,y])
 | [a,b,c]=>af (rv T H a) fun x=>af (rv T H b) fun y=>af (rv T H c) fun z=>K (.tup [x,y,z])
 | []=>K (.tup [])
 | a :: b :: c :: d :: l=>nH T H (a :: b :: c :: d :: l) fun xs=>K (.tup xs)
theorem i9 {P:Program} {T:Tm} {H:Hp} {r:ResultVar} {l:List ResultVar} {x:RV} {xs:List RV} {v:AV} (h:dz P (r :: l)=some (x :: xs)) (hv:rv T H x=some v) :
    dz P l=some xs∧er P T H (r :: l)=(match er P T H l with | some ys=>some (v :: ys) | none=>none):=by
 cases r with
 | tmp t =>
  simp only [dz] at h
  split at h
  ·rename_i ys hy
   cases h
   cases hv
   exact ⟨hy,rfl⟩
  ·cases h
 | cell a t =>
  simp only [dz] at h
  split at h
  ·rename_i h1
   split at h
   ·rename_i ys hy
    split at h
    ·rename_i h2
     split at h
     ·rename_i h3
      cases h
      refine ⟨hy,?_⟩
      simp only [rv] at hv
      simp only [er,dA,h1,h2,if_true,if_pos h3,hv]
      cases er P T H l <;> rfl
     ·cases h
    ·rename_i h2
     cases h
     refine ⟨hy,?_⟩
     simp only [rv] at hv
     simp only [er,dA,h1,h2,if_true,hv]
     cases er P T H l <;> rfl
   ·cases h
  ·cases h
theorem dL {P:Program} {l:List ResultVar} (h:dz P l=some []):l=[]:=by
 cases l with
 | nil=>rfl
 | cons r l =>
  cases r with
  | tmp t=>simp only [dz] at h; split at h <;> cases h
  | cell a t =>
   simp only [dz] at h
   split at h
   ·split at h
    ·split at h
     ·split at h <;> cases h
     ·cases h
    ·cases h
   ·cases h
theorem bQ {P:Program} {l:List ResultVar} {x:RV} {xs:List RV} (h:dz P l=some (x :: xs)):∃ r l',l=r :: l':=by
 cases l with
 | nil=>cases h
 | cons r l=>exact ⟨r,l,rfl⟩
theorem mG {P:Program} {T:Tm} {H:Hp}:∀ {r:List RV} {l:List ResultVar} {K:List AV→Prop},dz P l=some r→nH T H r K→∃ xs,er P T H l=some xs∧xs.length=r.length∧K xs
 | [],l,K,h,hk=>by
  have:=dL h; subst this; exact ⟨[],rfl,rfl,hk⟩
 | a :: r,l,K,h,hk=>by
  obtain ⟨r1,l1,rfl⟩:=bQ h
  have hk:af (rv T H a) fun x=>nH T H r fun xs=>K (x :: xs):=hk
  cases hv:rv T H a with
  | none=>rw [hv] at hk; exact hk.elim
  | some v =>
   rw [hv] at hk
   obtain ⟨h1,e1⟩:=i9 h hv
   obtain ⟨xs,h2,h3,h4⟩:=mG h1 hk
   exact ⟨v :: xs,by rw [e1,h2],by simp [h3],h4⟩
theorem oY {P:Program} {T:Tm} {H:Hp} {K:AV→Prop} {l:List ResultVar} {r:List RV} (h:dz P l=some r) (hk:aW T H K r):af (fw P T H l) K:=by
 have one:∀ {x:RV} {K':AV→Prop},af (rv T H x) K'→∃ v,rv T H x=some v∧K' v:=by
  intro x K' h
  cases hv:rv T H x with
  | none=>rw [hv] at h; exact h.elim
  | some v=>rw [hv] at h; exact ⟨v,rfl,h⟩
 rcases r with _ | ⟨a,_ | ⟨b,_ | ⟨c,_ | ⟨d,r⟩⟩⟩⟩
 ·have:=dL h; subst this; exact hk
 ·obtain ⟨r1,l1,rfl⟩:=bQ h
  obtain ⟨v,hv,hk⟩:=one hk
  obtain ⟨h1,e1⟩:=i9 h hv
  have:=dL h1; subst this
  simp only [fw,e1,er]; exact hk
 ·obtain ⟨r1,l1,rfl⟩:=bQ h
  obtain ⟨v,hv,hk⟩:=one hk
  obtain ⟨h1,e1⟩:=i9 h hv
  obtain ⟨r2,l2,rfl⟩:=bQ h1
  obtain ⟨v2,hv2,hk⟩:=one hk
  obtain ⟨h2,e2⟩:=i9 h1 hv2
  have:=dL h2; subst this
  simp only [fw,e1,e2,er]; exact hk
 ·obtain ⟨r1,l1,rfl⟩:=bQ h
  obtain ⟨v,hv,hk⟩:=one hk
  obtain ⟨h1,e1⟩:=i9 h hv
  obtain ⟨r2,l2,rfl⟩:=bQ h1
  obtain ⟨v2,hv2,hk⟩:=one hk
  obtain ⟨h2,e2⟩:=i9 h1 hv2
  obtain ⟨r3,l3,rfl⟩:=bQ h2
  obtain ⟨v3,hv3,hk⟩:=one hk
  obtain ⟨h3,e3⟩:=i9 h2 hv3
  have:=dL h3; subst this
  simp only [fw,e1,e2,e3,er]; exact hk
 ·have hk:nH T H (a :: b :: c :: d :: r) fun xs=>K (.tup xs):=hk
  obtain ⟨xs,h1,h2,h3⟩:=mG h hk
  unfold fw
  rw [h1]
  rcases xs with _ | ⟨x,_ | ⟨y,xs⟩⟩
  ·simp at h2
  ·simp at h2
  ·exact h3
structure Is (P:Program) (f:FuncId) (F:F2):Prop where
 out:∃ fn,P.funcs[f]?=some fn∧mq P fn=some F
theorem Is.mk' {P:Program} {f:FuncId} {F:F2} {fn:Func} (h1:P.funcs[f]?=some fn) (h2:mq P fn=some F):Is P f F:=⟨fn,h1,h2⟩
theorem Is.cok {P:Program} {f:FuncId} {F:F2} (h:Is P f F):cok P f=true:=by
 obtain ⟨fn,h1,h2⟩:=h.out
 unfold mq at h2
 split at h2
 ·rename_i c hc
  split at h2
  ·cases h2
  ·rename_i hn
   unfold Go.Abs.cok
   simp only [h1,hc,Option.isSome_some,Bool.true_and,Bool.not_eq_true']
   simpa using hn
 ·cases h2
theorem Is.bodyOk {P:Program} {f:FuncId} {F:F2} (h:Is P f F) (hm:P.follows .mixedOrders=true) {args:List AV} {H:Hp} {nx:Nat} {K:AV→Hp→Nat→Prop} (hl:args.length ≤ F.n)
    (hb:ai P F.body (T0 args) H nx fun e T H nx=>ao e.ends (aW T H (fun x=>K x H nx) F.res)):∃ fn,P.funcs[f]?=some fn∧jF P fn args H nx K:=by
 obtain ⟨fn,h1,h2⟩:=h.out
 refine ⟨fn,h1,?_⟩
 unfold mq at h2
 split at h2
 ·rename_i c hc
  split at h2
  ·cases h2
  ·split at h2
   ·rename_i b r hb' hr
    cases h2
    exact ⟨c,hc,hl,bM c (cT hm c b hb' hb) (fun e T H nx hh=>⟨hh.1,oY hr hh.2⟩)⟩
   ·cases h2
 ·cases h2
theorem Pure.of_c2 {P:Program} {f:FuncId} {F:F2} {args:List AV} {r:AV} (hm:P.follows .mixedOrders=true) (hf:Is P f F) (hl:args.length ≤ F.n)
    (hb:ai P F.body (T0 args) ay 0 fun e T H nx=>ao e.ends (aW T H (fun x=>Snap H x r) F.res)):Pure P f args r:=by
 obtain ⟨fn,h1,h2⟩:=hf.bodyOk hm (K:=fun x H nx=>Snap H x r) hl hb
 exact Pure.of_body hm h1 hf.cok h2
theorem Fn.of_c2 {P:Program} {f:FuncId} {F:F2} {args:List AV} {H:Hp} {nx:Nat} {K:AV→Hp→Nat→Prop} (hm:P.follows .mixedOrders=true) (hf:Is P f F) (hl:args.length ≤ F.n)
    (hb:ai P F.body (T0 args) H nx fun e T H nx=>ao e.ends (aW T H (fun x=>K x H nx) F.res)):Fn P f args H nx K:=by
 obtain ⟨fn,h1,h2⟩:=hf.bodyOk hm (K:=K) hl hb
 exact Fn.of_body hm h1 hf.cok h2
theorem ee.of_c2 {P:Program} {f:FuncId} {F:F2} {args:List AV} {r:AV} (hm:P.follows .mixedOrders=true) (hf:Is P f F) (hl:args.length ≤ F.n)
    (hb:ai P F.body (T0 args) ay 0 fun e T H nx=>ao e.ends (aW T H (fun x=>SnapF H x r) F.res)):ee P f args r :=
 ee.of_fn (Fn.of_c2 hm hf hl hb)
end Go.Abs
namespace Go.Abs
open Go.RowKit
theorem n9 {i:Ins} {T:Tm} {H:Hp} {nx:Nat} {K K':AV→Hp→Nat→Prop} (h:isp i T H nx K) (hK:∀ r H nx,K r H nx→K' r H nx):isp i T H nx K':=by
 cases i <;> first | exact h | skip
 ·exact ⟨h.1,hK _ _ _ h.2⟩
 ·obtain ⟨b,ks,vs,r,h1,h2,h3,h4,h5⟩:=h; exact ⟨b,ks,vs,r,h1,h2,h3,h4,hK _ _ _ h5⟩
 ·obtain ⟨b,ks,vs,r,h1,h2,h3,h4,h5⟩:=h; exact ⟨b,ks,vs,r,h1,h2,h3,h4,hK _ _ _ h5⟩
 ·obtain ⟨b,ks,vs,h1,h2,h3⟩:=h; exact ⟨b,ks,vs,h1,h2,hK _ _ _ h3⟩
 ·obtain ⟨b,ks,vs,h1,h2,h3⟩:=h; exact ⟨b,ks,vs,h1,h2,hK _ _ _ h3⟩
 ·obtain ⟨b,m,n0,seen,ks,vs,h1,h2,h3,hn,h4,h5⟩:=h; exact ⟨b,m,n0,seen,ks,vs,h1,h2,h3,hn,fun i hi hs=>hK _ _ _ (h4 i hi hs),fun h=>hK _ _ _ (h5 h)⟩
 ·obtain ⟨b,m,n0,i,seen,ks,vs,h1,h2,h3,h4,h5,h6,h7⟩:=h; exact ⟨b,m,n0,i,seen,ks,vs,h1,h2,h3,h4,h5,h6,hK _ _ _ h7⟩
 ·obtain ⟨n,H',h1,h2⟩:=h; exact ⟨n,H',h1,hK _ _ _ h2⟩
 ·obtain ⟨H',h1,h2⟩:=h; exact ⟨H',h1,hK _ _ _ h2⟩
 ·obtain ⟨b,n,off,cs,h1,h2,h3,h4,h5⟩:=h; exact ⟨b,n,off,cs,h1,h2,h3,h4,hK _ _ _ h5⟩
 ·obtain ⟨k,h1,h2⟩:=h; exact ⟨k,h1,fun h=>hK _ _ _ (h2.1 h),fun h=>⟨hK _ _ _ (h2.2 h).1,hK _ _ _ (h2.2 h).2⟩⟩
 ·obtain ⟨bs,h1,h2,h3⟩:=h; exact ⟨bs,h1,fun h=>hK _ _ _ (h2 h),fun h=>hK _ _ _ (h3 h)⟩
 ·obtain ⟨n,bs,h1,h2⟩:=h; exact ⟨n,bs,h1,hK _ _ _ h2⟩
 ·obtain ⟨b,ks,vs,r,h1,h2,h3,h4,h5⟩:=h; exact ⟨b,ks,vs,r,h1,h2,h3,h4,hK _ _ _ h5⟩
 ·obtain ⟨b,ks,vs,i,h1,h2,h3,h4,h5⟩:=h; exact ⟨b,ks,vs,i,h1,h2,h3,h4,hK _ _ _ h5⟩
theorem f9 {P:Program} {dm:DM} {i:Ins} {T:Tm} {H:Hp} {nx:Nat} {K K':AV→Hp→Nat→Prop} (h:aE P dm i T H nx K) (hK:∀ r H nx,K r H nx→K' r H nx):aE P dm i T H nx K':=by
 unfold aE at h ⊢
 split at h
 ·exact ⟨h.1,fu (fun a=>hK _ _ _) h.2⟩
 ·exact ⟨h.1,fu (fun a=>hK _ _ _) h.2⟩
 ·split at h
  ·rcases h with h | ⟨h1,⟨b,h2,h3⟩ | ⟨g,fs,h2,h3⟩⟩
   ·left
    refine fu (fun b=>?_) h
    intro h
    cases hd:dm.isText with
    | false=>rw [hd] at h; obtain ⟨r,h1,h3⟩:=h; exact ⟨r,h1,hK _ _ _ h3⟩
    | true=>rw [hd] at h; exact Fn.mono h hK
   ·exact .inr ⟨h1,.inl ⟨b,h2,h3.mono hK⟩⟩
   ·exact .inr ⟨h1,.inr ⟨g,fs,h2,h3.mono hK⟩⟩
  ·exact h
 ·exact ⟨h.1,n9 h.2 hK⟩
theorem ce {P:Program} {dm:DM} {K K':SP} (hK:∀ T H nx,K T H nx→K' T H nx):∀ (l:List Op2) {T:Tm} {H:Hp} {nx:Nat},ab P dm l T H nx K→ab P dm l T H nx K'
 | [],_,_,_,h=>hK _ _ _ h
 | o :: l,T,H,nx,h=>by
  have h:ap (g2 T o.g) (aE P dm o.i T H nx fun r H nx=>ab P dm l (ag T o.d r) H nx K) (ab P dm l (ag T o.d (.tup [])) H nx K):=h
  show ap (g2 T o.g) (aE P dm o.i T H nx fun r H nx=>ab P dm l (ag T o.d r) H nx K') (ab P dm l (ag T o.d (.tup [])) H nx K')
  cases hg:g2 T o.g with
  | none=>rw [hg] at h; exact h.elim
  | some b =>
   rw [hg] at h
   cases b with
   | true =>
    have h:aE P dm o.i T H nx fun r H nx=>ab P dm l (ag T o.d r) H nx K:=h
    exact f9 h (fun _ _ _ hh=>ce hK l hh)
   | false=>exact ce hK l h
theorem bX {P:Program} {S:Hp} {K K':SP} (hK:∀ T H nx,K T H nx→K' T H nx):∀ (l:List (Op2 × Nat)) {T:Tm} {H:Hp} {nx:Nat},ar P S l T H nx K→ar P S l T H nx K'
 | [],_,_,_,h=>hK _ _ _ h
 | (o,0) :: l,T,H,nx,h=>by
  simp only [ar] at h ⊢
  cases hg:g2 T o.g with
  | none=>rw [hg] at h; exact h.elim
  | some b =>
   rw [hg] at h
   cases b with
   | true =>
    have h:af (ak T S o.i) fun r=>ar P S l (ag T o.d r) H nx K:=h
    show af (ak T S o.i) fun r=>ar P S l (ag T o.d r) H nx K'
    obtain ⟨r,hr,hh⟩:=a6 h
    rw [hr]; exact bX hK l hh
   | false=>exact bX hK l h
 | (o,k + 1) :: l,T,H,nx,h=>by
  simp only [ar] at h ⊢
  cases hg:g2 T o.g with
  | none=>rw [hg] at h; exact h.elim
  | some b =>
   rw [hg] at h
   cases b with
   | true =>
    have h:if k=2 then af (kp T o.i) fun r=>ar P S l (ag T o.d r) H nx K else aE P .text o.i T H nx fun r H' nx'=>(k=0→Sub S H')∧ar P S l (ag T o.d r) H' nx' K:=h
    show if k=2 then af (kp T o.i) fun r=>ar P S l (ag T o.d r) H nx K' else aE P .text o.i T H nx fun r H' nx'=>(k=0→Sub S H')∧ar P S l (ag T o.d r) H' nx' K'
    split
    ·rename_i hk
     rw [if_pos hk] at h
     obtain ⟨r,hr,hh⟩:=a6 h
     rw [hr]; exact bX hK l hh
    ·rename_i hk
     rw [if_neg hk] at h
     exact f9 h (fun _ _ _ hh=>⟨hh.1,bX hK l hh.2⟩)
   | false=>exact bX hK l h
theorem bq {P:Program}:∀ (c:C2) {T:Tm} {H:Hp} {nx:Nat} {K K':CP},ai P c T H nx K→(∀ e T H nx,K e T H nx→K' e T H nx)→ai P c T H nx K'
 | .skip,_,_,_,_,_,h,hK=>hK _ _ _ _ h
 | .exit _,_,_,_,_,_,h,hK=>hK _ _ _ _ h
 | .ret,_,_,_,_,_,h,hK=>hK _ _ _ _ h
 | .ops m l,_,_,_,_,_,h,hK=>let ⟨T,H,nx,Hf,hg,h⟩:=h; ⟨T,H,nx,Hf,hg,ce (hK .normal) l h⟩
 | .mix m l C,_,_,_,_,_,h,hK=>h.imp (fun ⟨h9,T,H,nx,Hf,hg,h⟩=>⟨h9,T,H,nx,Hf,hg,ce (hK .normal) l h⟩) (fun ⟨T,H,nx,Hf,hg,h⟩=>⟨T,H,nx,Hf,hg,ce (hK .normal) _ h⟩)
 | .mixS m l C,_,_,_,_,_,h,hK=>h.imp (fun ⟨h9,T,H,nx,Hf,hg,h⟩=>⟨h9,T,H,nx,Hf,hg,ce (hK .normal) l h⟩) (fun ⟨T,H,nx,Hf,S,hg,hs,h⟩=>⟨T,H,nx,Hf,S,hg,hs,bX (hK .normal) _ h⟩)
 | .seq x y,_,_,_,K,K',h,hK=>by
  refine bq x h (fun e T H nx h=>?_)
  cases e with
  | normal=>exact bq y h hK
  | exit i=>exact hK _ _ _ _ h
  | ret=>exact hK _ _ _ _ h
 | .cond c x y,T,H,nx,K,K',h,hK=>by
  simp only [ai] at h ⊢
  unfold aL at h ⊢
  split at h
  ·exact ⟨fun hb=>bq x (h.1 hb) hK,fun hb=>bq y (h.2 hb) hK⟩
  ·exact h
 | .block id b,_,_,_,_,_,h,hK=>bq b h (fun e T H nx h=>hK _ _ _ _ h)
 | .loop b,T,H,nx,K,K',h,hK=>by
  obtain ⟨n,h⟩:=h
  refine ⟨n,?_⟩
  induction n generalizing T H nx with
  | zero=>exact h
  | succ n ih =>
   obtain ⟨T',H',nx',Hf,hw,h⟩:=h
   refine ⟨T',H',nx',Hf,hw,bq b h (fun e T H nx h=>?_)⟩
   cases e with
   | normal=>exact ih _ _ _ h
   | exit i=>exact hK _ _ _ _ h
   | ret=>exact hK _ _ _ _ h
 | .rangeF g ps a b,T,H,nx,K,K',h,hK=>by
  obtain ⟨f,caps,h1,h2⟩:=h
  refine ⟨f,caps,h1,fun c0 cj hy=>Fn.mono (h2 c0 cj hy) ?_⟩
  rintro r H' nx' (⟨k1,k2⟩ | ⟨e,k1,k2,k3⟩)
  ·exact .inl ⟨k1,hK _ _ _ _ k2⟩
  ·exact .inr ⟨e,k1,k2,hK _ _ _ _ k3⟩
theorem pF {P:Program} {b:C2} {T:Tm} {H:Hp} {nx:Nat} {K:CP} {X:Type} (TT:X→Tm) (HH:X→Hp) (NX:X→Nat) (φ:X→Prop) (μ:X→Nat)
    (start:∃ x,φ x∧∃ Hf,Gh T H nx (TT x) (HH x) (NX x) Hf)
    (step:∀ x,φ x→ai P b (TT x) (HH x) (NX x) fun e T H nx=>am e (∃ y,φ y∧μ y < μ x∧∃ Hf,Gh T H nx (TT y) (HH y) (NX y) Hf) (K e T H nx)):aG (ai P b) T H nx K:=by
 have key:∀ n x T H nx,μ x < n→φ x→(∃ Hf,Gh T H nx (TT x) (HH x) (NX x) Hf)→gj (ai P b) K n T H nx:=by
  intro n
  induction n with
  | zero=>intro x T H nx h; omega
  | succ n ih =>
   intro x T H nx hn hx ⟨Hf,hg⟩
   refine ⟨_,_,_,Hf,hg,bq b (step x hx) (fun e T H nx h=>?_)⟩
   cases e with
   | normal =>
    obtain ⟨y,h1,h2,h3⟩:=h
    exact ih y T H nx (by omega) h1 h3
   | exit i=>exact h
   | ret=>exact h
 obtain ⟨x,hx,hg⟩:=start
 exact ⟨_,key _ x T H nx (Nat.lt_succ_self _) hx hg⟩
def tl:List (Nat × AV)→Tm
 | [],_=>.undef
 | (d,v) :: l,t=>if t=d then v else tl l t
def agr (T:Tm):List (Nat × AV)→Prop
 | []=>True
 | (d,v) :: l=>T d=v∧agr T l
theorem iQ {T:Tm}:∀ {l:List (Nat × AV)},agr T l→∀ t,tl l t=.undef ∨ tl l t=T t
 | [],_,t=>.inl rfl
 | (d,v) :: l,h,t=>by
  simp only [tl]
  split
  ·rename_i e; subst e; exact .inr h.1.symm
  ·exact iQ h.2 t
theorem Gh.weak {T T':Tm} {H:Hp} {nx:Nat} (h:∀ t,T' t=.undef ∨ T' t=T t):Gh T H nx T' H nx ay :=
 ⟨fun _ _ h=>(by cases h),Nat.le_refl _,fun b cs h=>.inl ⟨cs,h,rfl,rfl,fun i x x' h1 h2=>.inl (by rw [h1] at h2; cases h2; rfl)⟩,fun t=>(h t).imp id .inl⟩
theorem qO {P:Program} {b:C2} {T:Tm} {H:Hp} {nx:Nat} {K:CP} {X:Type} (L:X→List (Nat × AV)) (φ:X→Prop) (μ:X→Nat) (x0:X)
    (h0:φ x0) (hT:agr T (L x0))
    (step:∀ x,φ x→ai P b (tl (L x)) H nx fun e T H' nx'=>am e (∃ y,φ y∧μ y < μ x∧agr T (L y)∧H'=H∧nx'=nx) (K e T H' nx')):aG (ai P b) T H nx K:=by
 refine pF (fun x=>tl (L x)) (fun _=>H) (fun _=>nx) φ μ ⟨x0,h0,_,Gh.weak (iQ hT)⟩ (fun x hx=>bq b (step x hx) (fun e T H' nx' h=>?_))
 cases e with
 | normal =>
  obtain ⟨y,h1,h2,h3,rfl,rfl⟩:=h
  exact ⟨y,h1,h2,_,Gh.weak (iQ h3)⟩
 | exit i=>exact h
 | ret=>exact h
@[congr] theorem aloop_congr {b:Tm→Hp→Nat→CP→Prop} {T:Tm} {H:Hp} {nx nx':Nat} {K:CP} (h:nx=nx'):aG b T H nx K=aG b T H nx' K:=by rw [h]
@[congr] theorem awp2_congr {P P':Program} {c:C2} {T:Tm} {H:Hp} {nx:Nat} {K:CP} (h:P=P'):ai P c T H nx K=ai P' c T H nx K:=by rw [h]
@[congr] theorem aops2_congr {P P':Program} {dm:DM} {l:List Op2} {T:Tm} {H:Hp} {nx:Nat} {K:SP} (h:P=P'):ab P dm l T H nx K=ab P' dm l T H nx K:=by rw [h]
@[congr] theorem ains_congr {P P':Program} {dm:DM} {i:Ins} {T:Tm} {H:Hp} {nx:Nat} {K:AV→Hp→Nat→Prop} (h:P=P'):aE P dm i T H nx K=aE P' dm i T H nx K:=by rw [h]
theorem o7 {k:IntKind} {a b:Int} {tb tf:Bool}:aw .lss tb tf (.int k a) (.int k b)=some (.bool (decide (a < b))):=by simp [aw,ck]
theorem o4 {k:IntKind} {a b:Int} {tb tf:Bool}:aw .leq tb tf (.int k a) (.int k b)=some (.bool (decide (a ≤ b))):=by simp [aw,ck]
theorem o8 {k:IntKind} {a b:Int} {tb tf:Bool}:aw .gtr tb tf (.int k a) (.int k b)=some (.bool (decide (a > b))):=by simp [aw,ck]
theorem pd {k:IntKind} {a b:Int} {tb tf:Bool}:aw .geq tb tf (.int k a) (.int k b)=some (.bool (decide (a ≥ b))):=by simp [aw,ck]
theorem pr {k:IntKind} {a b:Int} {tb tf:Bool}:aw .eql tb tf (.int k a) (.int k b)=some (.bool (decide (a=b))):=by
 simp only [aw,ck]; simp; by_cases h:a=b <;> simp [h]
theorem pq {k:IntKind} {a b:Int} {tb tf:Bool}:aw .neq tb tf (.int k a) (.int k b)=some (.bool (decide (a ≠ b))):=by
 simp [aw,ck,bne]; rfl
theorem po {k:IntKind} {a b:Int} {tb tf:Bool}:aw .add tb tf (.int k a) (.int k b)=some (.int k (k.wrap (a + b))):=by simp [aw,ck]
theorem o0 {k:IntKind} {a b:Int} {tb tf:Bool}:aw .sub tb tf (.int k a) (.int k b)=some (.int k (k.wrap (a - b))):=by simp [aw,ck]
theorem pj {k:IntKind} {a b:Int} {tb tf:Bool}:aw .mul tb tf (.int k a) (.int k b)=some (.int k (k.wrap (a * b))):=by simp [aw,ck]
theorem oq {a:Int} (h1:-9223372036854775808 ≤ a) (h2:a ≤ 9223372036854775807):IntKind.wrap .i64 a=a:=by
 rw [IntKind.wrap_i64]; omega
end Go.Abs
namespace Go.Abs
open Go.RowKit
variable {P:Program} {T:Tm} {H:Hp} {nx:Nat}
theorem p6 {K:CP} (h:K .normal T H nx):ai P .skip T H nx K:=h
theorem qn {K:CP} {i:Nat} (h:K (.exit i) T H nx):ai P (.exit i) T H nx K:=h
theorem qM {K:CP} (h:K .ret T H nx):ai P .ret T H nx K:=h
theorem pV {K:CP} {l:List Op2} (h:ab P .text l T H nx fun T H nx=>K .normal T H nx):ai P (.ops 0 l) T H nx K:=⟨T,H,nx,_,Gh.refl _ _ _,h⟩
theorem qb {K:CP} {l:List Op2} {C:List Nat} (h:ab P .draw l T H nx fun T H nx=>K .normal T H nx):ai P (.mix 1 l C) T H nx K:=.inl ⟨by decide,T,H,nx,_,Gh.refl _ _ _,h⟩
theorem qd {K:CP} {l:List Op2} {C:List Nat} (h:ab P (.fresh nx) l T H nx fun T H nx=>K .normal T H nx):ai P (.mix 2 l C) T H nx K:=.inl ⟨by decide,T,H,nx,_,Gh.refl _ _ _,h⟩
theorem pp {K:CP} {l:List Op2} {C:List (Nat × Nat)} (h:ab P .draw l T H nx fun T H nx=>K .normal T H nx):ai P (.mixS 1 l C) T H nx K:=.inl ⟨by decide,T,H,nx,_,Gh.refl _ _ _,h⟩
theorem pg {K:CP} {l:List Op2} {C:List (Nat × Nat)} (h:ab P (.fresh nx) l T H nx fun T H nx=>K .normal T H nx):ai P (.mixS 2 l C) T H nx K:=.inl ⟨by decide,T,H,nx,_,Gh.refl _ _ _,h⟩
theorem qj (S:Hp) {K:CP} {m:Nat} {l:List Op2} {alt:List (Op2 × Nat)} {C:List (Nat × Nat)} (ha:(C.map fun k=>(l.getD k.1 ⟨none,none,.dead⟩,k.2))=alt) (hs:Sub S H) (h:ar P S alt T H nx fun T H nx=>K .normal T H nx):ai P (.mixS m l C) T H nx K:=by
 subst ha
 exact .inr ⟨T,H,nx,_,S,Gh.refl _ _ _,hs,h⟩
theorem qC {S:Hp} {K:SP} (h:K T H nx):ar P S [] T H nx K:=h
theorem qr {S:Hp} {K:SP} {l:List (Op2 × Nat)} {d:Option Nat} {i:Ins} {r:AV} (h:ak T S i=some r) (k:ar P S l (ag T d r) H nx K):ar P S ((⟨d,none,i⟩,0) :: l) T H nx K:=by
 show af (ak T S i) fun r=>ar P S l (ag T d r) H nx K
 rw [h]; exact k
theorem pE {S:Hp} {K:SP} {l:List (Op2 × Nat)} {d:Option Nat} {i:Ins} (k:ab P .text [⟨d,none,i⟩] T H nx fun T H nx=>ar P S l T H nx K):ar P S ((⟨d,none,i⟩,2) :: l) T H nx K:=by
 have k:aE P .text i T H nx fun r H nx=>ar P S l (ag T d r) H nx K:=k
 show aE P .text i T H nx fun r H' nx'=>(1=0→Sub S H')∧ar P S l (ag T d r) H' nx' K
 exact f9 k (fun _ _ _ h=>⟨fun hh=>absurd hh (by decide),h⟩)
theorem pX {K:CP} {l:List Op2} (h:ab P .draw l T H nx fun T H nx=>K .normal T H nx):ai P (.ops 1 l) T H nx K:=⟨T,H,nx,_,Gh.refl _ _ _,h⟩
theorem qf {K:CP} {l:List Op2} (h:ab P (.fresh nx) l T H nx fun T H nx=>K .normal T H nx):ai P (.ops 2 l) T H nx K:=⟨T,H,nx,_,Gh.refl _ _ _,h⟩
theorem oh {K:CP} {x y:C2} (h:ai P x T H nx fun e T H nx=>am e (ai P y T H nx K) (K e T H nx)):ai P (.seq x y) T H nx K:=h
theorem mB {K:CP} {i:Nat} {b:C2} (h:ai P b T H nx fun e T H nx=>K (eM i e) T H nx):ai P (.block i b) T H nx K:=h
theorem mf {K:CP} {c:Opd} {x y:C2} {b:Bool} (hc:ov T c=.bool b) (h1:b=true→ai P x T H nx K) (h2:b=false→ai P y T H nx K):ai P (.cond c x y) T H nx K:=by
 simp only [ai,hc]; exact ⟨h1,h2⟩
theorem jP {K:CP} {c:Opd} {x y:C2} (hc:ov T c=.bool true) (h1:ai P x T H nx K):ai P (.cond c x y) T H nx K :=
 mf hc (fun _=>h1) (fun h=>by cases h)
theorem jR {K:CP} {c:Opd} {x y:C2} (hc:ov T c=.bool false) (h2:ai P y T H nx K):ai P (.cond c x y) T H nx K :=
 mf hc (fun h=>by cases h) (fun _=>h2)
theorem p7 {K:CP} {b:C2} (h:aG (ai P b) T H nx K):ai P (.loop b) T H nx K:=h
theorem a_n {A B:Prop} (h:A):am .normal A B:=h
theorem a_x {A B:Prop} {i:Nat} (h:B):am (.exit i) A B:=h
theorem a_r {A B:Prop} (h:B):am .ret A B:=h
theorem qw {dm:DM} {K:SP} (h:K T H nx):ab P dm [] T H nx K:=h
theorem pM {dm:DM} {K:SP} {l:List Op2} {d:Option Nat} {i:Ins} {r:AV} (hi:ic i=.val) (hd:dm2 dm T i=true) (h:ak T H i=some r) (k:ab P dm l (ag T d r) H nx K):ab P dm (⟨d,none,i⟩ :: l) T H nx K:=by
 show aE P dm i T H nx fun r H nx=>ab P dm l (ag T d r) H nx K
 unfold aE; rw [hi]; exact ⟨hd,by rw [h]; exact k⟩
theorem mr {dm:DM} {K:SP} {l:List Op2} {d:Option Nat} {i:Ins} {r:AV} {H':Hp} {nx':Nat} (hi:ic i=.eff) (hd:dm2 dm T i=true) (h:dv T H nx i=some (r,H',nx')) (k:ab P dm l (ag T d r) H' nx' K):ab P dm (⟨d,none,i⟩ :: l) T H nx K:=by
 show aE P dm i T H nx fun r H nx=>ab P dm l (ag T d r) H nx K
 unfold aE; rw [hi]; exact ⟨hd,by rw [h]; exact k⟩
theorem oB {K:SP} {l:List Op2} {d:Option Nat} {f:Opd} {args:List Opd} {g:FuncId} {caps:List AV} (hf:ov T f=.func g caps) (k:Fn P g (args.map (ov T) ++ caps) H nx fun r H nx=>ab P .text l (ag T d r) H nx K) :
    ab P .text (⟨d,none,.call f args⟩ :: l) T H nx K:=by
 left
 show af (fQ (ov T f)) _
 rw [hf]; exact k
theorem oZ {dm:DM} (hdm:dm.isText=false) {K:SP} {l:List Op2} {d:Option Nat} {f:Opd} {args:List Opd} {g:FuncId} {caps:List AV} (hf:ov T f=.func g caps) (k:aC P g (args.map (ov T) ++ caps) H fun r=>ab P dm l (ag T d r) H nx K) :
    ab P dm (⟨d,none,.call f args⟩ :: l) T H nx K:=by
 left
 show af (fQ (ov T f)) _
 rw [hf]
 show (match dm.isText with | false=>_ | true=>_)
 rw [hdm]
 exact k
theorem pO {K:SP} {l:List Op2} {d:Option Nat} {i:Ins} (hi:ic i=.sp) (k:isp i T H nx fun r H nx=>ab P .text l (ag T d r) H nx K):ab P .text (⟨d,none,i⟩ :: l) T H nx K:=by
 show aE P .text i T H nx fun r H nx=>ab P .text l (ag T d r) H nx K
 unfold aE; rw [hi]; exact ⟨rfl,k⟩
theorem qU {K:SP} {l:List Op2} {d:Option Nat} (k:ab P .text l (ag T d (.mp nx)) (ae H nx [.omap [] []]) (nx + 1) K):ab P .text (⟨d,none,.mkm none⟩ :: l) T H nx K:=pO rfl ⟨.inl rfl,k⟩
theorem pY {K:SP} {l:List Op2} {d:Option Nat} {kk:MK} {m key x:Opd} {b:Nat} {ks vs:List AV} {kv xv:AV} {r:Option Nat} (hm:ov T m=.mp b) (hb:H b=some [.omap ks vs]) (hk:ov T key=kv) (hx:ov T x=xv) (hfit:f8 kk kv=true) (hr:bm kk kv ks=some r)
    (k:ab P .text l (ag T d (.tup [])) (ae H b [.omap (bK kv r ks) (e9 xv r vs)]) nx K):ab P .text (⟨d,none,.mput kk m key x⟩ :: l) T H nx K:=by
 subst hk hx
 exact pO rfl ⟨b,ks,vs,r,hm,hb,hfit,hr,k⟩
theorem oe {K:SP} {l:List Op2} {d:Option Nat} {kk:MK} {z:AV} {ok:Bool} {m key:Opd} {b:Nat} {ks vs:List AV} {kv:AV} {r:Option Nat} (hm:ov T m=.mp b) (hb:H b=some [.omap ks vs]) (hk:ov T key=kv) (hfit:f8 kk kv=true) (hr:bm kk kv ks=some r)
    (k:ab P .text l (ag T d (mget z ok r vs)) H nx K):ab P .text (⟨d,none,.mget kk z ok m key⟩ :: l) T H nx K:=by
 subst hk
 exact pO rfl ⟨b,ks,vs,r,hm,hb,hfit,hr,k⟩
theorem oF {K:CP} {g:Opd} {ps:List Nat} {a b:C2} {f:FuncId} {caps:List AV} (hg:ov T g=.func f caps)
    (h:∀ (c0:AV) (cj:AEx→AV),(∀ (args:List AV) (H':Hp) (nx':Nat) (K':AV→Hp→Nat→Prop),H' nx=some [c0]→args.length=ps.length →
        ai P a (dB T ps args) H' nx' (fun e T2 H2 nx2=>am e (H2 nx=some [c0]∧ai P b T2 (bl H2 nx) nx2 fun e T3 H3 nx3=>am e (K' (.bool true) (ae H3 nx [c0]) nx3) (K' (.bool false) (ae H3 nx [cj e]) nx3)) False) →
        Yl P nx args H' nx' K') →
     Fn P f (.yld nx :: caps) (ae H nx [c0]) (nx + 1) fun _ H' nx'=>(H' nx=some [c0]∧K .normal T (bl H' nx) nx') ∨ ∃ e,e ≠ .normal∧H' nx=some [cj e]∧K e T (bl H' nx) nx'):ai P (.rangeF g ps a b) T H nx K:=⟨f,caps,hg,h⟩
theorem pW {dm:DM} {K:SP} {l:List Op2} {d:Option Nat} {i:Ins} {t:Nat} {w:Bool} (h:T t=.bool w) (k:ab P dm (⟨d,none,i⟩ :: l) T H nx K):ab P dm (⟨d,some (t,w),i⟩ :: l) T H nx K:=by
 show ap (g2 T (some (t,w))) _ _
 have:g2 T (some (t,w))=some true:=by simp [g2,h]
 rw [this]; exact k
theorem qo {dm:DM} {K:SP} {l:List Op2} {d:Option Nat} {i:Ins} {t:Nat} {w:Bool} (h:T t=.bool (!w) ∨ T t=.tup []) (k:ab P dm l (ag T d (.tup [])) H nx K):ab P dm (⟨d,some (t,w),i⟩ :: l) T H nx K:=by
 show ap (g2 T (some (t,w))) _ _
 have:g2 T (some (t,w))=some false:=by
  rcases h with h | h
  ·cases w <;> simp [g2,h]
  ·simp [g2,h]
 rw [this]; exact k
theorem aK {e:AEx} {A:Prop} (he:e.ends=true) (h:A):ao e.ends A:=⟨he,h⟩
theorem r_1 {K:AV→Prop} {a:RV} {x:AV} (ha:rv T H a=some x) (h:K x):aW T H K [a]:=by
 show af (rv T H a) K
 rw [ha]; exact h
theorem r_2 {K:AV→Prop} {a b:RV} {x y:AV} (ha:rv T H a=some x) (hb:rv T H b=some y) (h:K (.tup [x,y])):aW T H K [a,b]:=by
 show af (rv T H a) _
 rw [ha]
 show af (rv T H b) _
 rw [hb]; exact h
theorem r_3 {K:AV→Prop} {a b c:RV} {x y z:AV} (ha:rv T H a=some x) (hb:rv T H b=some y) (hc:rv T H c=some z) (h:K (.tup [x,y,z])):aW T H K [a,b,c]:=by
 show af (rv T H a) _
 rw [ha]
 show af (rv T H b) _
 rw [hb]
 show af (rv T H c) _
 rw [hc]; exact h
theorem lv {T:Tm} {t:Nat} {v:AV} (h:T t=v):upd T t v=T:=by
 funext x; simp only [upd]; split
 ·rename_i e; rw [e,h]
 ·rfl
theorem qL {dm:DM} {K:SP} {l:List Op2} {d:Option Nat} {i:Ins} {t:Nat} {w b:Bool} (h:T t=.bool b) (k1:b=w→ab P dm (⟨d,none,i⟩ :: l) (upd T t (.bool w)) H nx K)
    (k2:b=!w→ab P dm l (ag (upd T t (.bool (!w))) d (.tup [])) H nx K):ab P dm (⟨d,some (t,w),i⟩ :: l) T H nx K:=by
 by_cases hb:b=w
 ·subst hb
  have:=k1 rfl
  rw [lv h] at this
  exact pW h this
 ·have hb':b=!w:=by cases b <;> cases w <;> simp_all
  subst hb'
  have:=k2 rfl
  rw [lv h] at this
  exact qo (.inl h) this
theorem kK {α:Type} {f:α→AV} {l:List α} {k:Nat} {u:AV} (d:α) (h:k < l.length):(l.map f).getD k u=f (l.getD k d):=by
 simp [List.getD,h]
theorem nK {c:Prop} [Decidable c] {x:Option AV} {r:AV} (hc:c) (h:x=some r):(if c then x else none)=some r:=by rw [if_pos hc]; exact h
end Go.Abs
namespace Go.Abs
open Go.RowKit
def Dat (x:AV):Prop:=∀ H,Snap H x x
theorem Dat.int {k:IntKind} {n:Int}:Dat (.int k n):=fun _=>.int _ _
theorem Dat.bool {b:Bool}:Dat (.bool b):=fun _=>.bool _
theorem Dat.str {s:ByteArray}:Dat (.str s):=fun _=>.str _
theorem Dat.esl:Dat .esl:=fun _=>.esl
theorem Dat.nilp:Dat .nilp:=fun _=>.nilp
theorem Dat.nilf:Dat .nilf:=fun _=>.nilf
theorem Dat.sl {sz:Nat} {l:List AV} (h:∀ x ∈ l,∀ c ∈ x.cells,Dat c):Dat (.sl sz l):=fun H =>
 .sl sz l l rfl (fun i x y hx hy=>by rw [hx] at hy; cases hy; rfl) (fun i j x y a b hx hy ha hb=>by
  rw [hx] at hy; cases hy; rw [ha] at hb; cases hb
  exact h x (List.mem_of_getElem? hx) a (List.mem_of_getElem? ha) H)
theorem Dat.agg {l:List AV} (h:∀ x ∈ l,Dat x):Dat (.agg l):=fun H =>
 .agg l l rfl (fun i a c ha hc=>by rw [ha] at hc; cases hc; exact h a (List.mem_of_getElem? ha) H)
theorem Dat.tup {l:List AV} (h:∀ x ∈ l,Dat x):Dat (.tup l):=fun H =>
 .tup l l rfl (fun i a c ha hc=>by rw [ha] at hc; cases hc; exact h a (List.mem_of_getElem? ha) H)
theorem Dat.func {f:FuncId} {l:List AV} (h:∀ x ∈ l,Dat x):Dat (.func f l):=fun H =>
 .func f l l rfl (fun i a c ha hc=>by rw [ha] at hc; cases hc; exact h a (List.mem_of_getElem? ha) H)
def cH (l:List Int):AV:=.sl 1 (l.map (AV.int .i64))
def dE (l:List (List Int)):AV:=.sl 1 (l.map cH)
theorem iv (l:List Int):Dat (cH l):=Dat.sl (fun x hx c hc=>by
 obtain ⟨n,_,rfl⟩:=List.mem_map.1 hx
 simp only [AV.cells,List.mem_singleton] at hc; subst hc; exact .int)
theorem mX (l:List (List Int)):Dat (dE l):=Dat.sl (fun x hx c hc=>by
 obtain ⟨n,_,rfl⟩:=List.mem_map.1 hx
 simp only [cH,AV.cells,List.mem_singleton] at hc; subst hc; exact iv n)
theorem l8 {l:List Int}:(cH l).cells=[cH l]:=rfl
theorem az {H:Hp}:al H [] []:=al.nil
theorem aF {H:Hp} {x:AV} {xs ys:List AV} (h:Dat x) (hs:al H xs ys):al H (x :: xs) (x :: ys):=al.cons (h H) hs
class DatI (x:AV):Prop where
 d:Dat x
instance datI_int {k:IntKind} {n:Int}:DatI (.int k n):=⟨.int⟩
instance datI_bool {b:Bool}:DatI (.bool b):=⟨.bool⟩
instance datI_str {s:ByteArray}:DatI (.str s):=⟨.str⟩
instance datI_esl:DatI .esl:=⟨.esl⟩
instance datI_nilf:DatI .nilf:=⟨.nilf⟩
instance datI_encV {l:List Int}:DatI (cH l):=⟨iv l⟩
instance datI_encVV {l:List (List Int)}:DatI (dE l):=⟨mX l⟩
theorem aZ {H:Hp} {x:AV} {xs ys:List AV} [h:DatI x] (hs:al H xs ys):al H (x :: xs) (x :: ys):=aF h.d hs
variable {P:Program} {T:Tm} {H:Hp} {nx:Nat}
theorem mw {dm:DM} {K:SP} {l:List Op2} {d:Option Nat} {f:Opd} {args:List Opd} {g:FuncId} {caps xs ys:List AV} {r:AV} (hf:ov T f=.func g caps) (ha:args.map (ov T) ++ caps=xs)
    (hp:Pure P g ys r) (hs:ah H xs ys r) (k:ab P dm l (ag T d r) H nx K):ab P dm (⟨d,none,.call f args⟩ :: l) T H nx K:=by
 subst ha
 cases hd:dm.isText with
 | false=>exact oZ hd hf (aC.of_pure hp hs k)
 | true =>
  cases dm with
  | text=>exact oB hf (Fn.of_pure hp hs k)
  | draw=>cases hd
  | fresh m=>cases hd
theorem ms {dm:DM} {K:SP} {l:List Op2} {d:Option Nat} {f:Opd} {args:List Opd} {g:FuncId} {caps xs:List AV} {r:AV} (hf:ov T f=.func g caps) (ha:args.map (ov T) ++ caps=xs)
    (hp:Pure P g xs r) (hs:ah H xs xs r) (k:ab P dm l (ag T d r) H nx K):ab P dm (⟨d,none,.call f args⟩ :: l) T H nx K:=mw hf ha hp hs k
theorem aH {xs ys:List AV} {r:AV} {H:Hp} (h:al ay xs ys):ah H xs ys r:=.inl h
theorem au {xs ys:List AV} {r:AV} {H:Hp} (h:al H xs ys) (hr:r.sca=true):ah H xs ys r:=.inr ⟨h,hr⟩
theorem iG {α:Type} [Inhabited α] {f:α→AV} {l:List α} {sz:Nat} {k:IntKind} {n:Int}:dN sz (.sl sz (l.map f)) (.int k n)=if 0 ≤ n∧n < l.length then some (.iptr (f (l.getD n.toNat default)).cells 0) else none:=by
 simp only [dN,true_and,List.length_map]
 split
 ·rename_i h
  rw [kK default (by omega)]
 ·rfl
theorem fV {α:Type} {f:α→AV} {l:List α} {sz:Nat}:bR (.sl sz (l.map f))=some (.int .i64 l.length):=by simp [bR]
theorem m8 {l:List Int} {k:IntKind} {n:Int}:dN 1 (cH l) (.int k n)=if 0 ≤ n∧n < l.length then some (.iptr [.int .i64 (l.getD n.toNat default)] 0) else none:=iG
theorem mg {l:List (List Int)} {k:IntKind} {n:Int}:dN 1 (dE l) (.int k n)=if 0 ≤ n∧n < l.length then some (.iptr [cH (l.getD n.toNat default)] 0) else none:=iG
theorem l6 {l:List Int}:bR (cH l)=some (.int .i64 l.length):=fV
theorem k8 {l:List (List Int)}:bR (dE l)=some (.int .i64 l.length):=fV
end Go.Abs
namespace Go.Abs
theorem SA:(∀ (T:Tm) (n:Nat),ov T (.t n)=T n)∧(∀ (T:Tm) (v:AV),ov T (.c v)=v)∧(∀ (T:Tm) (d t:Nat) (v:AV),upd T d v t=if t=d then v else T t)∧(∀ (T:Tm) (d:Nat) (v:AV),ag T (some d) v=upd T d v) ∧
    (∀ (T:Tm) (v:AV),ag T none v=T)∧(∀ (x:AV) (l:List AV),T0 (x :: l) 0=x)∧(∀ (x:AV) (l:List AV) (n:Nat),T0 (x :: l) (n + 1)=T0 l n)∧(∀ n:Nat,T0 [] n=.undef) ∧
    (∀ (d t:Nat) (v:AV) (l:List (Nat × AV)),tl ((d,v) :: l) t=if t=d then v else tl l t)∧(∀ t:Nat,tl [] t=.undef) ∧
    (∀ (T:Tm) (t:Nat) (ts:List Nat) (x:AV) (xs:List AV),dB T (t :: ts) (x :: xs)=dB (upd T t x) ts xs)∧(∀ (T:Tm) (xs:List AV),dB T [] xs=T) :=
 ⟨fun _ _=>rfl,fun _ _=>rfl,fun _ _ _ _=>rfl,fun _ _ _=>rfl,fun _ _=>rfl,fun _ _=>rfl,fun _ _ _=>rfl,fun _=>rfl,fun _ _ _ _=>rfl,fun _=>rfl,fun _ _ _ _ _=>rfl,fun _ xs=>by cases xs <;> rfl⟩
theorem SV:(∀ (T:Tm) (H:Hp) (x:Opd),ak T H (.mov x)=some (ov T x)) ∧
    (∀ (T:Tm) (H:Hp) (c a b:Opd),ak T H (.pick c a b)=match ov T c with | .bool t=>some (if t=true then ov T a else ov T b) | _=>none) ∧
    (∀ (T:Tm) (H:Hp) (a:Opd),ak T H (.ld1 a)=rd1 H (ov T a))∧(∀ (T:Tm) (H:Hp) (k:Nat) (a:Opd),ak T H (.ldn k a)=(rd H k (ov T a)).map .agg) ∧
    (∀ (T:Tm) (H:Hp) (op:BinOp) (tb tf:Bool) (x y:Opd),ak T H (.bin op tb tf x y)=aw op tb tf (ov T x) (ov T y)) ∧
    (∀ (T:Tm) (H:Hp) (op:UnOp) (x:Opd),ak T H (.un op x)=aun op (ov T x)) ∧
    (∀ (T:Tm) (H:Hp) (f:FuncId) (caps:List Opd),ak T H (.mkfn f caps)=some (.func f (caps.map (ov T)))) ∧
    (∀ (T:Tm) (H:Hp) (k:Nat) (p:Opd),ak T H (.fa k p)=d7 k (ov T p)) ∧
    (∀ (T:Tm) (H:Hp) (sz:Nat) (x i:Opd),ak T H (.ixaS sz x i)=dN sz (ov T x) (ov T i)) ∧
    (∀ (T:Tm) (H:Hp) (x:Opd) (i:Nat),ak T H (.ext x i)=cq (ov T x) i) ∧
    (∀ (T:Tm) (H:Hp) (x:Opd),ak T H (.lenS x)=bR (ov T x)) ∧
    (∀ (T:Tm) (H:Hp) (z:List AV) (parts:List (Nat × Nat × Opd)),ak T H (.bld z parts)=(bC z (parts.map fun p=>(p.1,p.2.1,ov T p.2.2))).map .agg) ∧
    (∀ (T:Tm) (H:Hp) (x:Opd) (l:List Opd),ak T H (.mx x l)=cu fJ (ov T x) (l.map (ov T))) ∧
    (∀ (T:Tm) (H:Hp) (x:Opd) (l:List Opd),ak T H (.mn x l)=cu fC (ov T x) (l.map (ov T))) ∧
    (∀ (T:Tm) (H:Hp) (k:IntKind) (x:Opd),ak T H (.conv k x)=fv (ov T x) fun n=>some (.int k (k.wrap n))) ∧
    (∀ (T:Tm) (H:Hp) (sz:Nat) (x:Opd) (lo hi mx:Option Opd),ak T H (.sls sz x lo hi mx)=pQ sz (ov T x) (lo.map (ov T)) (hi.map (ov T)) (mx.map (ov T))) ∧
    (∀ (T:Tm) (H:Hp) (off:Nat) (x:Opd),ak T H (.part1 off x)=be (ov T x) fun cs=>cs[off]?) ∧
    (∀ (T:Tm) (H:Hp) (op:BinOp) (ks:List TK) (x y:Opd),ak T H (.binS op ks x y)=be (ov T x) fun xs=>be (ov T y) fun ys=>gC op ks xs ys) :=
 ⟨fun _ _ _=>rfl,fun _ _ _ _ _=>rfl,fun _ _ _=>rfl,fun _ _ _ _=>rfl,fun _ _ _ _ _ _ _=>rfl,fun _ _ _ _=>rfl,fun _ _ _ _=>rfl,fun _ _ _ _=>rfl,fun _ _ _ _ _=>rfl,fun _ _ _ _=>rfl,fun _ _ _=>rfl,
  fun _ _ _ _=>rfl,fun _ _ _ _=>rfl,fun _ _ _ _=>rfl,fun _ _ _ _=>rfl,fun _ _ _ _ _ _ _=>rfl,fun _ _ _ _=>rfl,fun _ _ _ _ _ _=>rfl⟩
def g8:AV→Option AV
 | .str s=>some (.int .i64 s.size)
 | _=>none
def ki:AV→AV→Option AV
 | .str s,.int _ n=>if 0 ≤ n∧n < s.size then some (.int .u8 (s[n.toNat]?.getD 0).toNat) else none
 | _,_=>none
theorem SV2:(∀ (T:Tm) (H:Hp) (n:Nat) (x:Opd) (lo hi:Option Opd),ak T H (.slsA n x lo hi)=kQ n (ov T x) (lo.map (ov T)) (hi.map (ov T)) none) ∧
    (∀ (T:Tm) (H:Hp) (f:FuncId) (l:List Opd),ak T H (.mkbf f l)=some (.bfn f (l.map (ov T)))) ∧
    (∀ (T:Tm) (H:Hp) (x:Opd),ak T H (.lenStr x)=g8 (ov T x)) ∧
    (∀ (T:Tm) (H:Hp) (x i:Opd),ak T H (.ixStr x i)=ki (ov T x) (ov T i)) ∧
    (∀ (T:Tm) (H:Hp) (x:Opd) (lo hi:Option Opd),ak T H (.slstr x lo hi)=ke (ov T x) (lo.map (ov T)) (hi.map (ov T))) ∧
    (∀ (T:Tm) (H:Hp) (off k:Nat) (x:Opd),ak T H (.partn off k x)=be (ov T x) fun cs=>if off + k ≤ cs.length then some (.agg ((cs.drop off).take k)) else none) ∧
    (∀ (T:Tm) (H:Hp) (n:Nat),ak T H (.lenC n)=some (.int .i64 n)) ∧
    (∀ (s:ByteArray),g8 (.str s)=some (.int .i64 s.size)) ∧
    (∀ (s:ByteArray) (k:IntKind) (n:Int),ki (.str s) (.int k n)=if 0 ≤ n∧n < s.size then some (.int .u8 (s[n.toNat]?.getD 0).toNat) else none) :=
 ⟨fun _ _ _ _ _ _=>rfl,fun _ _ _ _=>rfl,fun T H x=>by
  simp only [ak]
  cases ov T x <;> rfl,fun T H x i=>by
  simp only [ak]
  cases ov T x <;> cases ov T i <;> rfl,fun _ _ _ _ _=>rfl,fun _ _ _ _ _=>rfl,fun _ _ _=>rfl,fun _=>rfl,fun _ _ _=>rfl⟩
theorem SN:(∀ (k:IntKind) (a b:Int) (tb tf:Bool),aw .lss tb tf (.int k a) (.int k b)=some (.bool (decide (a < b))))∧(∀ (k:IntKind) (a b:Int) (tb tf:Bool),aw .leq tb tf (.int k a) (.int k b)=some (.bool (decide (a ≤ b)))) ∧
    (∀ (k:IntKind) (a b:Int) (tb tf:Bool),aw .gtr tb tf (.int k a) (.int k b)=some (.bool (decide (b < a))))∧(∀ (k:IntKind) (a b:Int) (tb tf:Bool),aw .geq tb tf (.int k a) (.int k b)=some (.bool (decide (b ≤ a)))) ∧
    (∀ (k:IntKind) (a b:Int) (tb tf:Bool),aw .eql tb tf (.int k a) (.int k b)=some (.bool (decide (a=b))))∧(∀ (k:IntKind) (a b:Int) (tb tf:Bool),aw .neq tb tf (.int k a) (.int k b)=some (.bool (decide (a ≠ b)))) ∧
    (∀ (k:IntKind) (a b:Int) (tb tf:Bool),aw .add tb tf (.int k a) (.int k b)=some (.int k (k.wrap (a + b))))∧(∀ (k:IntKind) (a b:Int) (tb tf:Bool),aw .sub tb tf (.int k a) (.int k b)=some (.int k (k.wrap (a - b)))) ∧
    (∀ (k:IntKind) (a b:Int) (tb tf:Bool),aw .mul tb tf (.int k a) (.int k b)=some (.int k (k.wrap (a * b)))) ∧
    (∀ (a b:Bool) (tf:Bool),aw .eql true tf (.bool a) (.bool b)=some (.bool (a == b)))∧(∀ (a b:Bool) (tf:Bool),aw .neq true tf (.bool a) (.bool b)=some (.bool (!(a == b)))) ∧
    (∀ tb:Bool,aw .eql tb true .nilf .nilf=some (.bool true))∧(∀ tb:Bool,aw .neq tb true .nilf .nilf=some (.bool false)) ∧
    (∀ (tb:Bool) (f:FuncId) (c:List AV),aw .eql tb true (.func f c) .nilf=some (.bool false))∧(∀ (tb:Bool) (f:FuncId) (c:List AV),aw .neq tb true (.func f c) .nilf=some (.bool true)) ∧
    (∀ b:Bool,aun .not (.bool b)=some (.bool (!b))) ∧
    (∀ (k:IntKind) (a b:Int),fJ (.int k a) (.int k b)=some (.int k (max a b)))∧(∀ (k:IntKind) (a b:Int),fC (.int k a) (.int k b)=some (.int k (min a b))) ∧
    (∀ (f:AV→AV→Option AV) (x:AV),cu f x []=some x)∧(∀ (f:AV→AV→Option AV) (x y:AV) (l:List AV),cu f x (y :: l)=match f x y with | some z=>cu f z l | none=>none) ∧
    (∀ (k:Nat) (b n off:Nat),d7 k (.ptr b n off)=some (.ptr b n (off + k)))∧(∀ (k:Nat) (cs:List AV) (off:Nat),d7 k (.iptr cs off)=some (.iptr cs (off + k))) ∧
    (∀ (cs:List AV) (off:Nat),rd1 ay (.iptr cs off)=cs[off]?) :=
 ⟨fun _ _ _ _ _=>o7,fun _ _ _ _ _=>o4,fun _ _ _ _ _=>o8,fun _ _ _ _ _=>pd,fun _ _ _ _ _=>pr,fun _ _ _ _ _=>pq,fun _ _ _ _ _=>po,fun _ _ _ _ _=>o0,fun _ _ _ _ _=>pj,
  fun _ _ _=>rfl,fun _ _ _=>rfl,fun _=>rfl,fun _=>rfl,fun _ _ _=>rfl,fun _ _ _=>rfl,fun _=>rfl,
  fun k a b=>by simp only [fJ,Int.max_def]; split <;> split <;> simp <;> omega,fun k a b=>by simp only [fC,Int.min_def]; split <;> split <;> simp <;> omega,fun _ _=>rfl,fun _ _ _ _=>rfl,fun _ _ _ _=>rfl,fun _ _ _=>rfl,fun _ _=>rfl⟩
theorem SL:(∀ (a:AV) (l:List AV),(a :: l)[0]?=some a)∧(∀ (a:AV) (l:List AV) (n:Nat),(a :: l)[n + 1]?=l[n]?)∧(∀ (l:List AV),l.drop 0=l)∧(∀ (a:AV) (l:List AV) (n:Nat),(a :: l).drop (n + 1)=l.drop n)∧(∀ n:Nat,([]:List AV).drop n=[]) ∧
    (∀ (l:List AV),l.take 0=[])∧(∀ (a:AV) (l:List AV) (n:Nat),(a :: l).take (n + 1)=a :: l.take n)∧(∀ n:Nat,([]:List AV).take n=[])∧(∀ (l:List AV),[] ++ l=l)∧(∀ (l:List AV),l ++ []=l)∧(∀ (a:AV) (l m:List AV),(a :: l) ++ m=a :: (l ++ m)) ∧
    (∀ (cs:List AV) (off:Nat) (new:List AV),cw cs off new=cs.take off ++ new ++ cs.drop (off + new.length))∧(([]:List AV).length=0)∧(∀ (a:AV) (l:List AV),(a :: l).length=l.length + 1) ∧
    (∀ (k:IntKind) (n:Int),(AV.int k n).cells=[.int k n])∧(∀ b:Bool,(AV.bool b).cells=[.bool b])∧(∀ s:ByteArray,(AV.str s).cells=[.str s])∧(∀ (k:Nat) (l:List AV),(AV.sl k l).cells=[.sl k l])∧(∀ l:List AV,(AV.agg l).cells=l)∧(AV.esl.cells=[.esl])∧(AV.nilf.cells=[.nilf]) ∧
    (∀ (f:FuncId) (c:List AV),(AV.func f c).cells=[.func f c])∧(∀ (b n off:Nat),(AV.ptr b n off).cells=[.ptr b n off])∧(∀ (c:List AV) (off:Nat),(AV.iptr c off).cells=[.iptr c off])∧(∀ (b n sz off len:Nat),(AV.msl b n sz off len).cells=[.msl b n sz off len])∧(∀ b:Nat,(AV.yld b).cells=[.yld b])∧(∀ b:Nat,(AV.mp b).cells=[.mp b])∧(AV.nilp.cells=[.nilp])∧(∀ (f:FuncId) (c:List AV),(AV.bfn f c).cells=[.bfn f c]) :=
 ⟨fun _ _=>rfl,fun _ _ _=>rfl,fun _=>rfl,fun _ _ _=>rfl,fun n=>by cases n <;> rfl,fun _=>rfl,fun _ _ _=>rfl,fun n=>by cases n <;> rfl,fun _=>rfl,fun l=>List.append_nil l,fun _ _ _=>rfl,fun _ _ _=>rfl,rfl,fun _ _=>rfl,
  fun _ _=>rfl,fun _=>rfl,fun _=>rfl,fun _ _=>rfl,fun _=>rfl,rfl,rfl,fun _ _=>rfl,fun _ _ _=>rfl,fun _ _=>rfl,fun _ _ _ _ _=>rfl,fun _=>rfl,fun _=>rfl,rfl,fun _ _=>rfl⟩
def AV.ones (l:List AV):Bool:=l.all AV.one
theorem SO:(AV.ones []=true)∧(∀ (a:AV) (l:List AV),AV.ones (a :: l)=(a.one && AV.ones l))∧(∀ (k:IntKind) (n:Int),(AV.int k n).one=true)∧(∀ b:Bool,(AV.bool b).one=true)∧(∀ s:ByteArray,(AV.str s).one=true)∧(∀ (k:Nat) (l:List AV),(AV.sl k l).one=true)∧(AV.esl.one=true)∧(AV.nilf.one=true) ∧
    (∀ (f:FuncId) (c:List AV),(AV.func f c).one=true)∧(∀ (b n off:Nat),(AV.ptr b n off).one=true)∧(∀ (c:List AV) (off:Nat),(AV.iptr c off).one=true)∧(∀ (b n sz off len:Nat),(AV.msl b n sz off len).one=true)∧(∀ b:Nat,(AV.yld b).one=true)∧(∀ b:Nat,(AV.mp b).one=true)∧(AV.nilp.one=true)∧(∀ l:List AV,l.all AV.one=AV.ones l) :=
 ⟨rfl,fun _ _=>by simp [AV.ones],fun _ _=>rfl,fun _=>rfl,fun _=>rfl,fun _ _=>rfl,rfl,rfl,fun _ _=>rfl,fun _ _ _=>rfl,fun _ _=>rfl,fun _ _ _ _ _=>rfl,fun _=>rfl,fun _=>rfl,rfl,fun _=>rfl⟩
variable {P:Program} {T:Tm} {H:Hp} {nx:Nat}
theorem oW {dm:DM} {K:SP} {l:List Op2} {d:Option Nat} {z:AV} {cs:List AV} (hd:dm2 dm T (.alloc z)=true) (hc:z.cells=cs) (ho:AV.ones cs=true) (k:ab P dm l (ag T d (.ptr nx cs.length 0)) (ae H nx cs) (nx + 1) K):ab P dm (⟨d,none,.alloc z⟩ :: l) T H nx K:=by
 subst hc
 refine mr rfl hd ?_ k
 simp only [dv,gU]; rw [if_pos (show z.flat=true from ho)]
theorem pL {dm:DM} {K:SP} {l:List Op2} {d:Option Nat} {x:Opd} {v:AV} {cs:List AV} (hd:dm2 dm T (.box x)=true) (hx:ov T x=v) (hc:v.cells=cs) (ho:AV.ones cs=true) (k:ab P dm l (ag T d (.ptr nx cs.length 0)) (ae H nx cs) (nx + 1) K):ab P dm (⟨d,none,.box x⟩ :: l) T H nx K:=by
 subst hc hx
 refine mr rfl hd ?_ k
 simp only [dv,gU]; rw [if_pos (show (ov T x).flat=true from ho)]
theorem rx {dm:DM} {K:SP} {l:List Op2} {d:Option Nat} {sz:Nat} {p x:Opd} {b n off:Nat} {v:AV} {cs vs:List AV} (hd:dm2 dm T (.st sz p x)=true) (hp:ov T p=.ptr b n off) (hx:ov T x=v) (hb:H b=some cs) (hc:v.cells=vs) (ho:AV.ones vs=true) (hn:cs.length=n) (hl:vs.length=sz) (hf:off + sz ≤ n)
    (k:ab P dm l (ag T d (.tup [])) (ae H b (cw cs off vs)) nx K):ab P dm (⟨d,none,.st sz p x⟩ :: l) T H nx K:=by
 subst hc hx
 refine mr rfl hd ?_ k
 simp only [dv,hp,hb]
 rw [if_pos ⟨hn,ho,hl,hf⟩]
theorem qE {dm:DM} {K:SP} {l:List Op2} {d:Option Nat} {sz len:Nat} {z:List AV} {parts:List (Nat × Nat × Opd)} {pv:List (Nat × Nat × AV)} {cs:List AV} (hd:dm2 dm T (.bldS sz len z parts)=true) (hl:len ≠ 0) (hp:parts.map (fun p=>(p.1,p.2.1,ov T p.2.2))=pv) (hc:bC (av (.agg z) len) pv=some cs)
    (k:ab P dm l (ag T d (.msl nx cs.length sz 0 len)) (ae H nx cs) (nx + 1) K):ab P dm (⟨d,none,.bldS sz len z parts⟩ :: l) T H nx K:=by
 refine mr rfl hd ?_ k
 simp only [dv,hl,if_false,hp,hc]
theorem SR:(∀ (H:Hp) (b n off:Nat),rd1 H (.ptr b n off)=match H b with | some cs=>if cs.length=n then cs[off]? else none | none=>none) ∧
    (∀ (H:Hp) (k b n off:Nat),rd H k (.ptr b n off)=match H b with | some cs=>if cs.length=n∧off + k ≤ n then some ((cs.drop off).take k) else none | none=>none) ∧
    (∀ (H:Hp) (cs:List AV) (off:Nat),rd1 H (.iptr cs off)=cs[off]?)∧(∀ (H:Hp) (cs:List AV) (off k:Nat),rd H k (.iptr cs off)=if off + k ≤ cs.length then some ((cs.drop off).take k) else none) ∧
    (∀ (l:List AV) (i:Nat),cq (.tup l) i=l[i]?)∧(∀ (l:List AV) (f:List AV→Option AV),be (.agg l) f=f l)∧(∀ (k:IntKind) (n:Int) (f:Int→Option AV),fv (.int k n) f=f n) ∧
    (∀ (cs:List AV),bC cs []=some cs) ∧
    (∀ (cs:List AV) (off sz:Nat) (x:AV) (r:List (Nat × Nat × AV)),bC cs ((off,sz,x) :: r)=if AV.ones x.cells=true∧x.cells.length=sz∧off + sz ≤ cs.length then bC (cw cs off x.cells) r else none) ∧
    (∀ (b n sz off len:Nat),bR (.msl b n sz off len)=some (.int .i64 len))∧(bR .esl=some (.int .i64 0))∧(∀ (sz:Nat) (l:List AV),bR (.sl sz l)=some (.int .i64 l.length)) ∧
    (∀ (z:AV),av z 0=[])∧(∀ (z:AV) (n:Nat),av z (n + 1)=z.cells ++ av z n) :=
 ⟨fun _ _ _ _=>rfl,fun _ _ _ _ _=>rfl,fun _ _ _=>rfl,fun _ _ _ _=>rfl,fun l i=>by cases l <;> rfl,fun _ _=>rfl,fun _ _ _=>rfl,fun _=>rfl,fun _ _ _ _ _=>rfl,fun _ _ _ _ _=>rfl,rfl,fun _ _=>rfl,fun _=>rfl,fun z n=>by simp [av,List.replicate_succ]⟩
end Go.Abs
namespace Go.Abs
theorem eU {H:Hp} {a b:Bool} (h:a=b):Snap H (.bool a) (.bool b):=by subst h; exact .bool _
theorem da {H:Hp} {k:IntKind} {a b:Int} (h:a=b):Snap H (.int k a) (.int k b):=by subst h; exact .int _ _
theorem oP {H:Hp} {l m:List AV} (h:al H l m):Snap H (.tup l) (.tup m):=.tup l m h.1 h.2
theorem fl {H:Hp} {x y:AV} {xs ys:List AV} (h:Snap H x y) (hs:al H xs ys):al H (x :: xs) (y :: ys):=al.cons h hs
theorem Dat.snap {H:Hp} {x:AV} (h:Dat x):Snap H x x:=h H
theorem mh {P:Program} {b:C2} {T:Tm} {H:Hp} {nx:Nat} {K:CP} {X:Type} (L:X→List (Nat × AV)) (I:X→Hp→Nat→Prop) (μ:X→Nat) (x0:X) (h0:I x0 H nx) (hT:agr T (L x0))
    (step:∀ x H nx,I x H nx→ai P b (tl (L x)) H nx fun e T H' nx'=>am e (∃ y,μ y < μ x∧I y H' nx'∧agr T (L y)) (K e T H' nx')):aG (ai P b) T H nx K:=by
 refine pF (X:=X × Hp × Nat) (fun x=>tl (L x.1)) (fun x=>x.2.1) (fun x=>x.2.2) (fun x=>I x.1 x.2.1 x.2.2) (fun x=>μ x.1) ⟨(x0,H,nx),h0,_,Gh.weak (iQ hT)⟩ (fun x hx=>bq b (step x.1 x.2.1 x.2.2 hx) (fun e T H' nx' h=>?_))
 cases e with
 | normal =>
  obtain ⟨y,h1,h2,h3⟩:=h
  exact ⟨(y,H',nx'),h2,h1,_,Gh.weak (iQ h3)⟩
 | exit i=>exact h
 | ret=>exact h
def fD (Hf:Hp) (cs cs':List AV):Prop:=cs'.length=cs.length∧∀ (i:Nat) (x x':AV),cs[i]?=some x→cs'[i]?=some x'→x'=x ∨ Snap Hf x x'
theorem fD.refl (Hf:Hp) (cs:List AV):fD Hf cs cs:=⟨rfl,fun i x x' h1 h2=>.inl (by rw [h1] at h2; cases h2; rfl)⟩
structure Fz (Hf H H':Hp):Prop where
 sub:∀ b cs,Hf b=some cs→H b=some cs
 to:∀ b cs',H' b=some cs'→∃ cs,H b=some cs∧Hf b=none∧fD Hf cs cs'
def only (b:Nat) (cs:List AV):Hp:=fun x=>if x=b then some cs else none
theorem Fz.one {H:Hp} {b:Nat} {cs:List AV} (hb:H b=some cs):Fz (only b cs) H (bl H b) :=
 ⟨fun x c h=>by unfold only at h; split at h <;> cases h; subst_vars; exact hb,fun x c h=>by
  have:=eR h
  exact ⟨c,this.2,by simp [only,this.1],fD.refl _ _⟩⟩
theorem Fz.all {H:Hp}:Fz H H ay:=⟨fun _ _ h=>h,fun _ _ h=>(by cases h)⟩
theorem Fz.none {H:Hp}:Fz ay H H:=⟨fun _ _ h=>(by cases h),fun b cs h=>⟨cs,h,rfl,fD.refl _ _⟩⟩
theorem jx {α:Type} [DecidableEq α] (k:MK) (enc:α→AV) (h:∀ a b,gH k (enc a) (enc b)=some (decide (a=b))) (v:α):∀ ks:List α,bm k (enc v) (ks.map enc)=some (if v ∈ ks then some (ks.idxOf v) else none)
 | []=>rfl
 | x :: l=>by
  simp only [List.map_cons,bm,h]
  by_cases e:v=x
  ·subst e; simp
  ·have e':x ≠ v:=fun h=>e h.symm
   simp only [e,decide_false,jx k enc h v l,Option.map_some,List.mem_cons,false_or]
   by_cases hm:v ∈ l
   ·simp only [hm,if_true,Option.map_some]
    simp [List.idxOf_cons,beq_eq_false_iff_ne.2 e']
   ·simp [hm]
theorem jm {α:Type} {l:List α} {n k:Nat} {d:α} (h:k < n):(l.take n).getD k d=l.getD k d:=by
 simp only [List.getD,List.getElem?_take,if_pos h]
theorem bk {H:Hp} {b:Nat} {cs:List AV}:ae H b cs b=some cs:=if_pos rfl
theorem Dat.iptr {cs:List AV} {off:Nat} (h:∀ x ∈ cs,Dat x):Dat (.iptr cs off):=fun H=>.iptr cs cs off rfl (fun i a c ha hc=>by rw [ha] at hc; cases hc; exact h a (List.mem_of_getElem? ha) H)
theorem DatL.nil:∀ x ∈ ([]:List AV),Dat x:=by simp
theorem DatL.cons {x:AV} {l:List AV} (h:Dat x) (hl:∀ y ∈ l,Dat y):∀ y ∈ x :: l,Dat y:=fun y hy=>(List.mem_cons.1 hy).elim (fun e=>e ▸ h) (hl y)
theorem oC {H:Hp} {b n off len:Nat} {cs:List AV} {l:List AV} (hb:H b=some cs) (hn:cs.length=n) (hf:off + len ≤ n) (hl:l.length=len) (hc:∀ y ∈ l,y.cells=[y]) (h:∀ (i:Nat) (a c:AV),cs[off + i]?=some a→l[i]?=some c→Snap H a c):Snap H (.msl b n 1 off len) (.sl 1 l):=by
 refine .msl b n 1 off len cs l hb hn (by omega) hl (fun y hy=>by rw [hc y hy]; rfl) (fun i j y a c hy hc' ha=>?_)
 rw [hc y (List.mem_of_getElem? hy)] at hc'
 cases j with
 | zero=>simp at hc'; subst hc'; exact h i a y (by simpa using ha) hy
 | succ j=>simp at hc'
theorem oQ {H:Hp} {b n len:Nat} {l:List Int} (hb:H b=some (l.map (AV.int .i64))) (hn:n=len) (hl:l.length=len):Snap H (.msl b n 1 0 len) (cH l):=by
 subst hn
 refine oC hb (by simp [hl]) (by omega) (by simp [hl]) (fun y hy=>by simp at hy; obtain ⟨n,_,rfl⟩:=hy; rfl) (fun i a c ha hc=>?_)
 rw [Nat.zero_add] at ha
 rw [ha] at hc; cases hc
 simp at ha
 obtain ⟨n,_,rfl⟩:=ha
 exact .int _ _
theorem oo {α:Type} [Inhabited α] {l:List α} {k:Nat} (h:k < l.length):l.getD k default ∈ l:=by
 have:l.getD k default=l[k]:=by simp [List.getD,h]
 rw [this]; exact List.getElem_mem h
theorem eA {l:List Int}:(cH l).one=true:=rfl
theorem dR {l:List (List Int)}:(dE l).one=true:=rfl
theorem r_0 {T:Tm} {H:Hp} {K:AV→Prop} (h:K (.tup [])):aW T H K []:=h
theorem getElem?_map_lt {α:Type} [Inhabited α] {f:α→AV} {l:List α} {k:Nat} (h:k < l.length):(l.map f)[k]?=some (f (l.getD k default)):=by
 simp [List.getD,h]
theorem n3 {sz b m off len:Nat} {k:IntKind} {n:Int}:dN sz (.msl b m sz off len) (.int k n)=if 0 ≤ n∧n < len then some (.ptr b m (off + n.toNat * sz)) else none:=by simp [dN]
end Go.Abs
namespace Go.Abs
inductive Row (H:Hp) (sz:Nat):AV→List AV→Prop
 | nil:Row H sz .esl []
 | box (b len:Nat) (cs:List AV) (hb:H b=some cs) (hl:cs.length=len * sz):Row H sz (.msl b (len * sz) sz 0 len) cs
def lc:AV→Option Nat
 | .msl b _ _ _ _=>some b
 | _=>none
theorem Row.len {H:Hp} {sz:Nat} {s:AV} {cs:List AV} (h:Row H sz s cs):∃ n:Nat,bR s=some (.int .i64 n)∧cs.length=n * sz:=by
 cases h with
 | nil=>exact ⟨0,rfl,by simp⟩
 | box b len cs hb hl=>exact ⟨len,rfl,hl⟩
theorem Row.lenS {H:Hp} {sz n:Nat} {s:AV} {cs:List AV} (h:Row H sz s cs) (hl:cs.length=n * sz) (hz:0 < sz):bR s=some (.int .i64 n):=by
 obtain ⟨m,h1,h2⟩:=h.len
 have:m=n:=Nat.eq_of_mul_eq_mul_right hz (by omega)
 subst this; exact h1
theorem Row.same {H H':Hp} {sz:Nat} {s:AV} {cs:List AV} (h:Row H sz s cs) (hs:∀ b,lc s=some b→H' b=H b):Row H' sz s cs:=by
 cases h with
 | nil=>exact .nil
 | box b len cs hb hl=>exact .box b len cs ((hs b rfl).trans hb) hl
theorem Row.one {H:Hp} {sz:Nat} {s:AV} {cs:List AV} (h:Row H sz s cs):s.one=true∧s.cells=[s]:=by
 cases h <;> exact ⟨rfl,rfl⟩
theorem a8 {H:Hp} {b x:Nat} {cs:List AV} (h:x ≠ b):ae H b cs x=H x:=if_neg h
theorem pk {H:Hp} {b x:Nat} (h:x ≠ b):bl H b x=H x:=if_neg h
variable {P:Program} {T:Tm} {H:Hp} {nx:Nat}
theorem Row.snap {H:Hp} {sz:Nat} {s:AV} {elems:List AV} (h:Row H sz s (elems.flatMap AV.cells)) (hc:∀ y ∈ elems,y.cells.length=sz) (hz:0 < sz) (hd:∀ y ∈ elems,∀ c ∈ y.cells,Dat c):Snap H s (.sl sz elems):=by
 obtain ⟨f1,f2⟩:=bv elems hc
 generalize he:elems.flatMap AV.cells=cs at h
 cases h with
 | nil =>
  have:elems.length * sz=0:=by rw [← f1,he]; rfl
  have:elems=[]:=List.length_eq_zero_iff.1 (by
   rcases Nat.mul_eq_zero.1 this with h | h
   ·exact h
   ·omega)
  subst this; exact .eslsl sz
 | box b len cs hb hl =>
  have hlen:elems.length=len:=Nat.eq_of_mul_eq_mul_right hz (by rw [← f1,he,hl])
  refine .msl b (len * sz) sz 0 len cs elems hb hl (by omega) hlen hc (fun i j y a c hy hc' ha=>?_)
  have hj:j < sz:=by rw [← hc y (List.mem_of_getElem? hy)]; exact (List.getElem?_eq_some_iff.1 hc').1
  have key:∀ (l:List AV) (i j:Nat) (y c:AV),(∀ z ∈ l,z.cells.length=sz)→l[i]?=some y→y.cells[j]?=some c→j < sz→(l.flatMap AV.cells)[i * sz + j]?=some c:=by
   intro l
   induction l with
   | nil=>intro i j y c _ h; simp at h
   | cons x l ih =>
    intro i j y c hl hy hc hj
    rw [List.flatMap_cons]
    cases i with
    | zero =>
     simp at hy; subst hy
     rw [Nat.zero_mul,Nat.zero_add,List.getElem?_append_left (by rw [hl x (by simp)]; exact hj)]; exact hc
    | succ i =>
     rw [List.getElem?_append_right (by rw [hl x (by simp),Nat.add_mul]; omega),hl x (by simp)]
     have:=ih i j y c (fun z hz=>hl z (by simp [hz])) (by simpa using hy) hc hj
     rw [← this]; congr 1; rw [Nat.add_mul]; omega
  have:=key elems i j y c hc hy hc' hj
  rw [he,← Nat.zero_add (i * sz)] at this
  rw [this] at ha; cases ha
  exact hd y (List.mem_of_getElem? hy) a (List.mem_of_getElem? hc') H
theorem ji {α:Type} {f:α→AV} (h:∀ x,(f x).cells=[f x]) (l:List α):(l.map f).flatMap AV.cells=l.map f:=by
 induction l with
 | nil=>rfl
 | cons a l ih=>rw [List.map_cons,List.flatMap_cons,ih,h]; rfl
theorem Row.snapV {H:Hp} {s:AV} {l:List (List Int)} (h:Row H 1 s (l.map cH)):Snap H s (dE l):=by
 refine Row.snap (elems:=l.map cH) (by rw [ji (fun _=>rfl)]; exact h) (fun y hy=>?_) Nat.one_pos (fun y hy c hc=>?_)
 ·simp at hy; obtain ⟨n,_,rfl⟩:=hy; rfl
 ·simp at hy; obtain ⟨n,_,rfl⟩:=hy
  simp only [l8,List.mem_singleton] at hc; subst hc; exact iv n
end Go.Abs
namespace Go.Abs
theorem qR:(∀ l:List Int,(cH l).cells=[cH l])∧(∀ l:List (List Int),(dE l).cells=[dE l])∧(∀ x:Nat,ay x=none) ∧
    (∀ (α β:Type) (f:α→β) (a:α) (l:List α),(a :: l).map f=f a :: l.map f)∧(∀ (α β:Type) (f:α→β),([]:List α).map f=[])∧(∀ (α β:Type) (f:α→β) (a:α),(some a).map f=some (f a))∧(∀ (α β:Type) (f:α→β),(none:Option α).map f=none) ∧
    (∀ n:Nat,0 + n=n)∧(∀ n:Nat,n + 0=n)∧(∀ p:Prop,(p∧p)=p)∧(∀ p:Prop,(p∧True)=p)∧(∀ p:Prop,(True∧p)=p)∧((!true)=false)∧((!false)=true) ∧
    (∀ (α:Type) (a:α) (l m:List α),(a :: l) ++ m=a :: (l ++ m))∧(∀ (α:Type) (l:List α),[] ++ l=l)∧(∀ (α:Type) (l:List α),l ++ []=l) :=
 ⟨fun _=>rfl,fun _=>rfl,fun _=>rfl,fun _ _ _ _ _=>rfl,fun _ _ _=>rfl,fun _ _ _ _=>rfl,fun _ _ _=>rfl,Nat.zero_add,Nat.add_zero,and_self,and_true,true_and,rfl,rfl,fun _ _ _ _=>rfl,fun _ _=>rfl,fun _ l=>List.append_nil l⟩
theorem c9:(∀ (H:Hp) (b x:Nat) (cs:List AV),ae H b cs x=if x=b then some cs else H x)∧(∀ (H:Hp) (b x:Nat),bl H b x=if x=b then none else H x):=⟨fun _ _ _ _=>rfl,fun _ _ _=>rfl⟩
theorem bD:(∀ (H:Hp) (b:Nat) (cs:List AV),ae H b cs b=some cs)∧(∀ (H:Hp) (b x:Nat) (cs:List AV),x ≠ b→ae H b cs x=H x)∧(∀ (H:Hp) (b:Nat),bl H b b=none)∧(∀ (H:Hp) (b x:Nat),x ≠ b→bl H b x=H x)∧(∀ a b c:Nat,a + b + c=a + (b + c)) :=
 ⟨fun _ _ _=>bk,fun _ _ _ _ h=>a8 h,fun _ _=>dG,fun _ _ _ h=>pk h,Nat.add_assoc⟩
theorem ZA:((∀ l:List Int,(cH l).cells=[cH l])∧(∀ l:List (List Int),(dE l).cells=[dE l])∧(∀ x:Nat,ay x=none) ∧
    (∀ (α β:Type) (f:α→β) (a:α) (l:List α),(a :: l).map f=f a :: l.map f)∧(∀ (α β:Type) (f:α→β),([]:List α).map f=[])∧(∀ (α β:Type) (f:α→β) (a:α),(some a).map f=some (f a))∧(∀ (α β:Type) (f:α→β),(none:Option α).map f=none) ∧
    (∀ n:Nat,0 + n=n)∧(∀ n:Nat,n + 0=n)∧(∀ p:Prop,(p∧p)=p)∧(∀ p:Prop,(p∧True)=p)∧(∀ p:Prop,(True∧p)=p)∧((!true)=false)∧((!false)=true) ∧
    (∀ (α:Type) (a:α) (l m:List α),(a :: l) ++ m=a :: (l ++ m))∧(∀ (α:Type) (l:List α),[] ++ l=l)∧(∀ (α:Type) (l:List α),l ++ []=l)) ∧
    ((∀ (T:Tm) (n:Nat),ov T (.t n)=T n)∧(∀ (T:Tm) (v:AV),ov T (.c v)=v)∧(∀ (T:Tm) (d t:Nat) (v:AV),upd T d v t=if t=d then v else T t)∧(∀ (T:Tm) (d:Nat) (v:AV),ag T (some d) v=upd T d v) ∧
    (∀ (T:Tm) (v:AV),ag T none v=T)∧(∀ (x:AV) (l:List AV),T0 (x :: l) 0=x)∧(∀ (x:AV) (l:List AV) (n:Nat),T0 (x :: l) (n + 1)=T0 l n)∧(∀ n:Nat,T0 [] n=.undef) ∧
    (∀ (d t:Nat) (v:AV) (l:List (Nat × AV)),tl ((d,v) :: l) t=if t=d then v else tl l t)∧(∀ t:Nat,tl [] t=.undef) ∧
    (∀ (T:Tm) (t:Nat) (ts:List Nat) (x:AV) (xs:List AV),dB T (t :: ts) (x :: xs)=dB (upd T t x) ts xs)∧(∀ (T:Tm) (xs:List AV),dB T [] xs=T)) ∧
    ((∀ (T:Tm) (H:Hp) (x:Opd),ak T H (.mov x)=some (ov T x)) ∧
    (∀ (T:Tm) (H:Hp) (c a b:Opd),ak T H (.pick c a b)=match ov T c with | .bool t=>some (if t=true then ov T a else ov T b) | _=>none) ∧
    (∀ (T:Tm) (H:Hp) (a:Opd),ak T H (.ld1 a)=rd1 H (ov T a))∧(∀ (T:Tm) (H:Hp) (k:Nat) (a:Opd),ak T H (.ldn k a)=(rd H k (ov T a)).map .agg) ∧
    (∀ (T:Tm) (H:Hp) (op:BinOp) (tb tf:Bool) (x y:Opd),ak T H (.bin op tb tf x y)=aw op tb tf (ov T x) (ov T y)) ∧
    (∀ (T:Tm) (H:Hp) (op:UnOp) (x:Opd),ak T H (.un op x)=aun op (ov T x)) ∧
    (∀ (T:Tm) (H:Hp) (f:FuncId) (caps:List Opd),ak T H (.mkfn f caps)=some (.func f (caps.map (ov T)))) ∧
    (∀ (T:Tm) (H:Hp) (k:Nat) (p:Opd),ak T H (.fa k p)=d7 k (ov T p)) ∧
    (∀ (T:Tm) (H:Hp) (sz:Nat) (x i:Opd),ak T H (.ixaS sz x i)=dN sz (ov T x) (ov T i)) ∧
    (∀ (T:Tm) (H:Hp) (x:Opd) (i:Nat),ak T H (.ext x i)=cq (ov T x) i) ∧
    (∀ (T:Tm) (H:Hp) (x:Opd),ak T H (.lenS x)=bR (ov T x)) ∧
    (∀ (T:Tm) (H:Hp) (z:List AV) (parts:List (Nat × Nat × Opd)),ak T H (.bld z parts)=(bC z (parts.map fun p=>(p.1,p.2.1,ov T p.2.2))).map .agg) ∧
    (∀ (T:Tm) (H:Hp) (x:Opd) (l:List Opd),ak T H (.mx x l)=cu fJ (ov T x) (l.map (ov T))) ∧
    (∀ (T:Tm) (H:Hp) (x:Opd) (l:List Opd),ak T H (.mn x l)=cu fC (ov T x) (l.map (ov T))) ∧
    (∀ (T:Tm) (H:Hp) (k:IntKind) (x:Opd),ak T H (.conv k x)=fv (ov T x) fun n=>some (.int k (k.wrap n))) ∧
    (∀ (T:Tm) (H:Hp) (sz:Nat) (x:Opd) (lo hi mx:Option Opd),ak T H (.sls sz x lo hi mx)=pQ sz (ov T x) (lo.map (ov T)) (hi.map (ov T)) (mx.map (ov T))) ∧
    (∀ (T:Tm) (H:Hp) (off:Nat) (x:Opd),ak T H (.part1 off x)=be (ov T x) fun cs=>cs[off]?) ∧
    (∀ (T:Tm) (H:Hp) (op:BinOp) (ks:List TK) (x y:Opd),ak T H (.binS op ks x y)=be (ov T x) fun xs=>be (ov T y) fun ys=>gC op ks xs ys)) ∧
    ((∀ (T:Tm) (H:Hp) (n:Nat) (x:Opd) (lo hi:Option Opd),ak T H (.slsA n x lo hi)=kQ n (ov T x) (lo.map (ov T)) (hi.map (ov T)) none) ∧
    (∀ (T:Tm) (H:Hp) (f:FuncId) (l:List Opd),ak T H (.mkbf f l)=some (.bfn f (l.map (ov T)))) ∧
    (∀ (T:Tm) (H:Hp) (x:Opd),ak T H (.lenStr x)=g8 (ov T x)) ∧
    (∀ (T:Tm) (H:Hp) (x i:Opd),ak T H (.ixStr x i)=ki (ov T x) (ov T i)) ∧
    (∀ (T:Tm) (H:Hp) (x:Opd) (lo hi:Option Opd),ak T H (.slstr x lo hi)=ke (ov T x) (lo.map (ov T)) (hi.map (ov T))) ∧
    (∀ (T:Tm) (H:Hp) (off k:Nat) (x:Opd),ak T H (.partn off k x)=be (ov T x) fun cs=>if off + k ≤ cs.length then some (.agg ((cs.drop off).take k)) else none) ∧
    (∀ (T:Tm) (H:Hp) (n:Nat),ak T H (.lenC n)=some (.int .i64 n)) ∧
    (∀ (s:ByteArray),g8 (.str s)=some (.int .i64 s.size)) ∧
    (∀ (s:ByteArray) (k:IntKind) (n:Int),ki (.str s) (.int k n)=if 0 ≤ n∧n < s.size then some (.int .u8 (s[n.toNat]?.getD 0).toNat) else none)) ∧
    ((∀ (k:IntKind) (a b:Int) (tb tf:Bool),aw .lss tb tf (.int k a) (.int k b)=some (.bool (decide (a < b))))∧(∀ (k:IntKind) (a b:Int) (tb tf:Bool),aw .leq tb tf (.int k a) (.int k b)=some (.bool (decide (a ≤ b)))) ∧
    (∀ (k:IntKind) (a b:Int) (tb tf:Bool),aw .gtr tb tf (.int k a) (.int k b)=some (.bool (decide (b < a))))∧(∀ (k:IntKind) (a b:Int) (tb tf:Bool),aw .geq tb tf (.int k a) (.int k b)=some (.bool (decide (b ≤ a)))) ∧
    (∀ (k:IntKind) (a b:Int) (tb tf:Bool),aw .eql tb tf (.int k a) (.int k b)=some (.bool (decide (a=b))))∧(∀ (k:IntKind) (a b:Int) (tb tf:Bool),aw .neq tb tf (.int k a) (.int k b)=some (.bool (decide (a ≠ b)))) ∧
    (∀ (k:IntKind) (a b:Int) (tb tf:Bool),aw .add tb tf (.int k a) (.int k b)=some (.int k (k.wrap (a + b))))∧(∀ (k:IntKind) (a b:Int) (tb tf:Bool),aw .sub tb tf (.int k a) (.int k b)=some (.int k (k.wrap (a - b)))) ∧
    (∀ (k:IntKind) (a b:Int) (tb tf:Bool),aw .mul tb tf (.int k a) (.int k b)=some (.int k (k.wrap (a * b)))) ∧
    (∀ (a b:Bool) (tf:Bool),aw .eql true tf (.bool a) (.bool b)=some (.bool (a == b)))∧(∀ (a b:Bool) (tf:Bool),aw .neq true tf (.bool a) (.bool b)=some (.bool (!(a == b)))) ∧
    (∀ tb:Bool,aw .eql tb true .nilf .nilf=some (.bool true))∧(∀ tb:Bool,aw .neq tb true .nilf .nilf=some (.bool false)) ∧
    (∀ (tb:Bool) (f:FuncId) (c:List AV),aw .eql tb true (.func f c) .nilf=some (.bool false))∧(∀ (tb:Bool) (f:FuncId) (c:List AV),aw .neq tb true (.func f c) .nilf=some (.bool true)) ∧
    (∀ b:Bool,aun .not (.bool b)=some (.bool (!b))) ∧
    (∀ (k:IntKind) (a b:Int),fJ (.int k a) (.int k b)=some (.int k (max a b)))∧(∀ (k:IntKind) (a b:Int),fC (.int k a) (.int k b)=some (.int k (min a b))) ∧
    (∀ (f:AV→AV→Option AV) (x:AV),cu f x []=some x)∧(∀ (f:AV→AV→Option AV) (x y:AV) (l:List AV),cu f x (y :: l)=match f x y with | some z=>cu f z l | none=>none) ∧
    (∀ (k:Nat) (b n off:Nat),d7 k (.ptr b n off)=some (.ptr b n (off + k)))∧(∀ (k:Nat) (cs:List AV) (off:Nat),d7 k (.iptr cs off)=some (.iptr cs (off + k))) ∧
    (∀ (cs:List AV) (off:Nat),rd1 ay (.iptr cs off)=cs[off]?)) ∧
    ((∀ (H:Hp) (b n off:Nat),rd1 H (.ptr b n off)=match H b with | some cs=>if cs.length=n then cs[off]? else none | none=>none) ∧
    (∀ (H:Hp) (k b n off:Nat),rd H k (.ptr b n off)=match H b with | some cs=>if cs.length=n∧off + k ≤ n then some ((cs.drop off).take k) else none | none=>none) ∧
    (∀ (H:Hp) (cs:List AV) (off:Nat),rd1 H (.iptr cs off)=cs[off]?)∧(∀ (H:Hp) (cs:List AV) (off k:Nat),rd H k (.iptr cs off)=if off + k ≤ cs.length then some ((cs.drop off).take k) else none) ∧
    (∀ (l:List AV) (i:Nat),cq (.tup l) i=l[i]?)∧(∀ (l:List AV) (f:List AV→Option AV),be (.agg l) f=f l)∧(∀ (k:IntKind) (n:Int) (f:Int→Option AV),fv (.int k n) f=f n) ∧
    (∀ (cs:List AV),bC cs []=some cs) ∧
    (∀ (cs:List AV) (off sz:Nat) (x:AV) (r:List (Nat × Nat × AV)),bC cs ((off,sz,x) :: r)=if AV.ones x.cells=true∧x.cells.length=sz∧off + sz ≤ cs.length then bC (cw cs off x.cells) r else none) ∧
    (∀ (b n sz off len:Nat),bR (.msl b n sz off len)=some (.int .i64 len))∧(bR .esl=some (.int .i64 0))∧(∀ (sz:Nat) (l:List AV),bR (.sl sz l)=some (.int .i64 l.length)) ∧
    (∀ (z:AV),av z 0=[])∧(∀ (z:AV) (n:Nat),av z (n + 1)=z.cells ++ av z n)) ∧
    ((∀ (a:AV) (l:List AV),(a :: l)[0]?=some a)∧(∀ (a:AV) (l:List AV) (n:Nat),(a :: l)[n + 1]?=l[n]?)∧(∀ (l:List AV),l.drop 0=l)∧(∀ (a:AV) (l:List AV) (n:Nat),(a :: l).drop (n + 1)=l.drop n)∧(∀ n:Nat,([]:List AV).drop n=[]) ∧
    (∀ (l:List AV),l.take 0=[])∧(∀ (a:AV) (l:List AV) (n:Nat),(a :: l).take (n + 1)=a :: l.take n)∧(∀ n:Nat,([]:List AV).take n=[])∧(∀ (l:List AV),[] ++ l=l)∧(∀ (l:List AV),l ++ []=l)∧(∀ (a:AV) (l m:List AV),(a :: l) ++ m=a :: (l ++ m)) ∧
    (∀ (cs:List AV) (off:Nat) (new:List AV),cw cs off new=cs.take off ++ new ++ cs.drop (off + new.length))∧(([]:List AV).length=0)∧(∀ (a:AV) (l:List AV),(a :: l).length=l.length + 1) ∧
    (∀ (k:IntKind) (n:Int),(AV.int k n).cells=[.int k n])∧(∀ b:Bool,(AV.bool b).cells=[.bool b])∧(∀ s:ByteArray,(AV.str s).cells=[.str s])∧(∀ (k:Nat) (l:List AV),(AV.sl k l).cells=[.sl k l])∧(∀ l:List AV,(AV.agg l).cells=l)∧(AV.esl.cells=[.esl])∧(AV.nilf.cells=[.nilf]) ∧
    (∀ (f:FuncId) (c:List AV),(AV.func f c).cells=[.func f c])∧(∀ (b n off:Nat),(AV.ptr b n off).cells=[.ptr b n off])∧(∀ (c:List AV) (off:Nat),(AV.iptr c off).cells=[.iptr c off])∧(∀ (b n sz off len:Nat),(AV.msl b n sz off len).cells=[.msl b n sz off len])∧(∀ b:Nat,(AV.yld b).cells=[.yld b])∧(∀ b:Nat,(AV.mp b).cells=[.mp b])∧(AV.nilp.cells=[.nilp])∧(∀ (f:FuncId) (c:List AV),(AV.bfn f c).cells=[.bfn f c])) ∧
    ((∀ (b:Bool) (x y:AV),(match (AV.bool b:AV) with | .bool t=>some (if t=true then x else y) | _=>none)=some (if b=true then x else y))) :=
 ⟨qR,SA,SV,SV2,SN,SR,SL,fun _ _ _=>rfl⟩
theorem ZV:((AV.ones []=true)∧(∀ (a:AV) (l:List AV),AV.ones (a :: l)=(a.one && AV.ones l))∧(∀ (k:IntKind) (n:Int),(AV.int k n).one=true)∧(∀ b:Bool,(AV.bool b).one=true)∧(∀ s:ByteArray,(AV.str s).one=true)∧(∀ (k:Nat) (l:List AV),(AV.sl k l).one=true)∧(AV.esl.one=true)∧(AV.nilf.one=true) ∧
    (∀ (f:FuncId) (c:List AV),(AV.func f c).one=true)∧(∀ (b n off:Nat),(AV.ptr b n off).one=true)∧(∀ (c:List AV) (off:Nat),(AV.iptr c off).one=true)∧(∀ (b n sz off len:Nat),(AV.msl b n sz off len).one=true)∧(∀ b:Nat,(AV.yld b).one=true)∧(∀ b:Nat,(AV.mp b).one=true)∧(AV.nilp.one=true)∧(∀ l:List AV,l.all AV.one=AV.ones l))∧(∀ l:List Int,(cH l).one=true)∧(∀ l:List (List Int),(dE l).one=true)∧(∀ b:Bool,(b && b)=b)∧((false=true)=False)∧(∀ a:Int,-9223372036854775808 ≤ a→a ≤ 9223372036854775807→IntKind.wrap .i64 a=a) ∧
    (∀ (l:List Int) (k:IntKind) (n:Int),dN 1 (cH l) (.int k n)=if 0 ≤ n∧n < l.length then some (.iptr [.int .i64 (l.getD n.toNat default)] 0) else none)∧(∀ (l:List (List Int)) (k:IntKind) (n:Int),dN 1 (dE l) (.int k n)=if 0 ≤ n∧n < l.length then some (.iptr [cH (l.getD n.toNat default)] 0) else none) ∧
    (∀ l:List Int,bR (cH l)=some (.int .i64 l.length))∧(∀ l:List (List Int),bR (dE l)=some (.int .i64 l.length))∧(∀ n:Nat,(n:Int).toNat=n)∧(∀ (α β:Type) (f:α→β) (l:List α),(l.map f).length=l.length) ∧
    (∀ (sz b m off len:Nat) (k:IntKind) (n:Int),dN sz (.msl b m sz off len) (.int k n)=if 0 ≤ n∧n < len then some (.ptr b m (off + n.toNat * sz)) else none)∧(∀ (α:Type) (_:Inhabited α) (f:α→AV) (l:List α) (k:Nat),k < l.length→(l.map f)[k]?=some (f (l.getD k default)))∧(∀ n:Nat,n * 1=n) :=
 ⟨SO,fun _=>rfl,fun _=>rfl,Bool.and_self,Bool.false_eq_true,fun _=>oq,fun _ _ _=>m8,fun _ _ _=>mg,fun _=>l6,fun _=>k8,Int.toNat_natCast,fun _ _ _ _=>List.length_map _,fun _ _ _ _ _ _ _=>n3,fun _ _ _ _ _ h=>getElem?_map_lt h,Nat.mul_one⟩
theorem ZG:((∀ (T:Tm) (n:Nat),ov T (.t n)=T n)∧(∀ (T:Tm) (v:AV),ov T (.c v)=v)∧(∀ (T:Tm) (d t:Nat) (v:AV),upd T d v t=if t=d then v else T t)∧(∀ (T:Tm) (d:Nat) (v:AV),ag T (some d) v=upd T d v) ∧
    (∀ (T:Tm) (v:AV),ag T none v=T)∧(∀ (x:AV) (l:List AV),T0 (x :: l) 0=x)∧(∀ (x:AV) (l:List AV) (n:Nat),T0 (x :: l) (n + 1)=T0 l n)∧(∀ n:Nat,T0 [] n=.undef) ∧
    (∀ (d t:Nat) (v:AV) (l:List (Nat × AV)),tl ((d,v) :: l) t=if t=d then v else tl l t)∧(∀ t:Nat,tl [] t=.undef) ∧
    (∀ (T:Tm) (t:Nat) (ts:List Nat) (x:AV) (xs:List AV),dB T (t :: ts) (x :: xs)=dB (upd T t x) ts xs)∧(∀ (T:Tm) (xs:List AV),dB T [] xs=T))∧(∀ a:Int,-9223372036854775808 ≤ a→a ≤ 9223372036854775807→IntKind.wrap .i64 a=a)∧(∀ a b:Nat,((a + b:Nat):Int)=(a:Int) + (b:Int))∧(((1:Nat):Int)=1)∧(((0:Nat):Int)=0)∧(∀ p:Prop,(p∧True)=p)∧(∀ p:Prop,(p∧p)=p) :=
 ⟨SA,fun _=>oq,Int.natCast_add,rfl,rfl,and_true,and_self⟩
end Go.Abs
namespace Go.Abs
theorem qH {P:Program} {b:C2} {T:Tm} {H:Hp} {nx:Nat} {K:CP} (L:Nat→List (Nat × AV)) (n:Nat) (p:Nat→Prop) (hT:agr T (L 0))
    (step:∀ k,k ≤ n→(∀ i,i < k→p i)→ai P b (tl (L k)) H nx fun e T H' nx'=>am e (k < n∧p k∧agr T (L (k + 1))∧H'=H∧nx'=nx) (K e T H' nx')):aG (ai P b) T H nx K:=by
 refine qO (X:=Nat) L (fun k=>k ≤ n∧∀ i,i < k→p i) (fun k=>n - k) 0 ⟨Nat.zero_le _,fun i h=>(by omega)⟩ hT ?_
 rintro k ⟨h1,h2⟩
 refine bq b (step k h1 h2) (fun e T H' nx' h=>?_)
 cases e with
 | normal =>
  obtain ⟨g1,g2,g3,g4,g5⟩:=h
  refine ⟨k + 1,⟨by omega,fun i hi=>?_⟩,by omega,g3,g4,g5⟩
  rcases Nat.lt_succ_iff_lt_or_eq.1 hi with h | rfl
  ·exact h2 i h
  ·exact g2
 | exit i=>exact h
 | ret=>exact h
def lI {α:Type} (sz:Nat) (f:α→AV) (l:List α):AV:=.sl sz (l.map f)
section
variable {α:Type} {sz:Nat} {f:α→AV} {l:List α}
theorem kL (h:∀ x ∈ l,∀ c ∈ (f x).cells,Dat c):Dat (lI sz f l):=Dat.sl (fun x hx c hc=>by
 obtain ⟨y,hy,rfl⟩:=List.mem_map.1 hx
 exact h y hy c hc)
theorem mW [Inhabited α] {k:IntKind} {n:Int}:dN sz (lI sz f l) (.int k n)=if 0 ≤ n∧n < l.length then some (.iptr (f (l.getD n.toNat default)).cells 0) else none:=iG
theorem lJ:bR (lI sz f l)=some (.int .i64 l.length):=fV
end
end Go.Abs
namespace Go.Abs
theorem pn {P:Program} {T:Tm} {H:Hp} {nx:Nat} {K:SP} {l:List Op2} {d:Option Nat} {f:Opd} {args:List Opd} {g:FuncId} {caps xs:List AV} {R:AV→Hp→Nat→Prop} (hf:ov T f=.func g caps) (ha:args.map (ov T) ++ caps=xs) (hc:Fn P g xs H nx R)
    (k:∀ r H' nx',R r H' nx'→ab P .text l (ag T d r) H' nx' K):ab P .text (⟨d,none,.call f args⟩ :: l) T H nx K:=by
 subst ha
 exact oB hf (Fn.mono hc k)
def qs (l:List UInt8):AV:=.str ⟨l.toArray⟩
theorem oK (l:List UInt8):Dat (qs l):=.str
instance datI_encS {l:List UInt8}:DatI (qs l):=⟨oK l⟩
end Go.Abs
namespace Go.Abs
open Go.RowKit
variable {P:Program} {T:Tm} {H:Hp} {nx:Nat}
theorem aI {a b:Prop} (x:a) (y:b):a∧b:=⟨x,y⟩
theorem ev0 {α:Type} {a b:α} (h:a=b:=by (try simp only [c9,ZA,Nat.reduceEqDiff,↓reduceIte,Nat.reduceAdd,Nat.reduceLeDiff]); (try with_reducible rfl); first | done | fail):a=b:=h
theorem ag0 {T:Tm} {l:List (Nat × AV)} (h:agr T l:=by simp (disch:=omega) only [agr,ZG,Nat.reduceEqDiff,↓reduceIte]; first | done | fail):agr T l:=h
theorem vZ {dm:DM} {K:SP} {l:List Op2} {d:Option Nat} {i:Ins} {r:AV} (k:ab P dm l (ag T d r) H nx K) (hi:ic i=.val:=by rfl) (hd:dm2 dm T i=true:=by rfl) (h:ak T H i=some r:=by (try simp (disch:=omega) only [c9,ZA,Nat.reduceEqDiff,↓reduceIte,Nat.reduceAdd,Nat.reduceLeDiff,ZV,reduceCtorEq,zz]); first | with_reducible rfl | (apply nK; (focus omega); with_reducible rfl)):ab P dm (⟨d,none,i⟩ :: l) T H nx K:=pM hi hd h k
theorem cZ {dm:DM} {K:SP} {l:List Op2} {d:Option Nat} {f:Opd} {args:List Opd} {g:FuncId} {caps xs:List AV} {r:AV} (k:ab P dm l (ag T d r) H nx K) (hf:ov T f=.func g caps:=by (try simp only [c9,ZA,Nat.reduceEqDiff,↓reduceIte,Nat.reduceAdd,Nat.reduceLeDiff,zz]); (try with_reducible rfl); first | done | fail) (ha:args.map (ov T) ++ caps=xs:=by (try simp only [c9,ZA,Nat.reduceEqDiff,↓reduceIte,Nat.reduceAdd,Nat.reduceLeDiff,zz]); (try with_reducible rfl); first | done | fail) (hp:Pure P g xs r) (hs:ah H xs xs r:=by (first | refine au ?_ rfl | apply aH); (repeat' (first | exact az | apply aZ | (apply aF; (focus with_reducible assumption)))); first | done | fail):ab P dm (⟨d,none,.call f args⟩ :: l) T H nx K:=ms hf ha hp hs k
theorem bxZ {dm:DM} {K:SP} {l:List Op2} {d:Option Nat} {x:Opd} {v:AV} {cs:List AV} (k:ab P dm l (ag T d (.ptr nx cs.length 0)) (ae H nx cs) (nx + 1) K) (hd:dm2 dm T (.box x)=true:=by rfl) (hx:ov T x=v:=by (try simp only [c9,ZA,Nat.reduceEqDiff,↓reduceIte,Nat.reduceAdd,Nat.reduceLeDiff,zz]); (try with_reducible rfl); first | done | fail) (hc:v.cells=cs:=by (try simp only [c9,ZA,Nat.reduceEqDiff,↓reduceIte,Nat.reduceAdd,Nat.reduceLeDiff,zz]); (try with_reducible rfl); first | done | fail) (ho:AV.ones cs=true:=by simp only [SO,Bool.and_self,eA,dR,zz]; first | done | fail):ab P dm (⟨d,none,.box x⟩ :: l) T H nx K:=pL hd hx hc ho k
theorem blZ {dm:DM} {K:SP} {l:List Op2} {d:Option Nat} {sz len:Nat} {z:List AV} {parts:List (Nat × Nat × Opd)} {pv:List (Nat × Nat × AV)} {cs:List AV} (k:ab P dm l (ag T d (.msl nx cs.length sz 0 len)) (ae H nx cs) (nx + 1) K) (hd:dm2 dm T (.bldS sz len z parts)=true:=by rfl) (hl:len ≠ 0:=by exact Nat.succ_ne_zero _) (hp:parts.map (fun p=>(p.1,p.2.1,ov T p.2.2))=pv:=by (try simp only [c9,ZA,Nat.reduceEqDiff,↓reduceIte,Nat.reduceAdd,Nat.reduceLeDiff,zz]); (try with_reducible rfl); first | done | fail) (hc:bC (av (.agg z) len) pv=some cs:=by (try simp only [c9,ZA,Nat.reduceEqDiff,↓reduceIte,Nat.reduceAdd,Nat.reduceLeDiff,SO,Bool.and_self,eA,dR,zz]); (try with_reducible rfl); first | done | fail):ab P dm (⟨d,none,.bldS sz len z parts⟩ :: l) T H nx K:=qE hd hl hp hc k
theorem gTZ {dm:DM} {K:SP} {l:List Op2} {d:Option Nat} {i:Ins} {t:Nat} {w:Bool} (k:ab P dm (⟨d,none,i⟩ :: l) T H nx K) (h:T t=.bool w:=by simp only [c9,ZA,Nat.reduceEqDiff,↓reduceIte,Nat.reduceAdd,Nat.reduceLeDiff,zz]; first | done | fail):ab P dm (⟨d,some (t,w),i⟩ :: l) T H nx K:=pW h k
theorem gFZ {dm:DM} {K:SP} {l:List Op2} {d:Option Nat} {i:Ins} {t:Nat} {w:Bool} (k:ab P dm l (ag T d (.tup [])) H nx K) (h:T t=.bool (!w) ∨ T t=.tup []:=by simp only [c9,ZA,Nat.reduceEqDiff,↓reduceIte,Nat.reduceAdd,Nat.reduceLeDiff,or_true,true_or,zz]; first | done | fail):ab P dm (⟨d,some (t,w),i⟩ :: l) T H nx K:=qo h k
theorem cTZ {K:CP} {c:Opd} {x y:C2} (h1:ai P x T H nx K) (hc:ov T c=.bool true:=by simp only [c9,ZA,Nat.reduceEqDiff,↓reduceIte,Nat.reduceAdd,Nat.reduceLeDiff,zz]; first | done | fail):ai P (.cond c x y) T H nx K:=jP hc h1
theorem cFZ {K:CP} {c:Opd} {x y:C2} (h2:ai P y T H nx K) (hc:ov T c=.bool false:=by simp only [c9,ZA,Nat.reduceEqDiff,↓reduceIte,Nat.reduceAdd,Nat.reduceLeDiff,zz]; first | done | fail):ai P (.cond c x y) T H nx K:=jR hc h2
theorem r1Z {K:AV→Prop} {a:RV} {x:AV} (h:K x) (ha:rv T H a=some x:=by simp only [rv,c9,ZA,Nat.reduceEqDiff,↓reduceIte,Nat.reduceAdd,Nat.reduceLeDiff,zz]; with_reducible rfl):aW T H K [a]:=r_1 ha h
theorem vY {dm:DM} {K:SP} {l:List Op2} {d:Option Nat} {i:Ins} {r:AV} (k:ab P dm l (ag T d r) H nx K) (hi:ic i=.val:=by rfl) (hd:dm2 dm T i=true:=by first | rfl | (simp (disch:=omega) only [dm2,kq,np,bD,ZA,Nat.reduceEqDiff,↓reduceIte,Nat.reduceAdd,Nat.reduceLeDiff,zz,decide_eq_true_eq]; first | done | omega)) (h:ak T H i=some r:=by (try simp (disch:=omega) only [bD,ZA,Nat.reduceEqDiff,↓reduceIte,Nat.reduceAdd,Nat.reduceLeDiff,ZV,reduceCtorEq,zz]); first | with_reducible rfl | (apply nK; (focus omega); with_reducible rfl)):ab P dm (⟨d,none,i⟩ :: l) T H nx K:=pM hi hd h k
theorem nvY {S:Hp} {K:SP} {l:List (Op2 × Nat)} {d:Option Nat} {i:Ins} {r:AV} (k:ar P S l (ag T d r) H nx K) (h:ak T S i=some r:=by (try simp (disch:=omega) only [bD,ZA,Nat.reduceEqDiff,↓reduceIte,Nat.reduceAdd,Nat.reduceLeDiff,ZV,reduceCtorEq,zz]); first | with_reducible rfl | (apply nK; (focus omega); with_reducible rfl)):ar P S ((⟨d,none,i⟩,0) :: l) T H nx K:=qr h k
theorem cY {dm:DM} {K:SP} {l:List Op2} {d:Option Nat} {f:Opd} {args:List Opd} {g:FuncId} {caps xs:List AV} {r:AV} (k:ab P dm l (ag T d r) H nx K) (hf:ov T f=.func g caps:=by (try simp (disch:=omega) only [bD,ZA,Nat.reduceEqDiff,↓reduceIte,Nat.reduceAdd,Nat.reduceLeDiff,zz]); (try with_reducible rfl); first | done | fail) (ha:args.map (ov T) ++ caps=xs:=by (try simp (disch:=omega) only [bD,ZA,Nat.reduceEqDiff,↓reduceIte,Nat.reduceAdd,Nat.reduceLeDiff,zz]); (try with_reducible rfl); first | done | fail) (hp:Pure P g xs r) (hs:ah H xs xs r:=by (first | refine au ?_ rfl | apply aH); (repeat' (first | exact az | apply aZ | (apply aF; (focus with_reducible assumption)))); first | done | fail):ab P dm (⟨d,none,.call f args⟩ :: l) T H nx K:=ms hf ha hp hs k
theorem alY {dm:DM} {K:SP} {l:List Op2} {d:Option Nat} {z:AV} {cs:List AV} (k:ab P dm l (ag T d (.ptr nx cs.length 0)) (ae H nx cs) (nx + 1) K) (hd:dm2 dm T (.alloc z)=true:=by first | rfl | (simp (disch:=omega) only [dm2,kq,np,bD,ZA,Nat.reduceEqDiff,↓reduceIte,Nat.reduceAdd,Nat.reduceLeDiff,zz,decide_eq_true_eq]; first | done | omega)) (hc:z.cells=cs:=by (try simp (disch:=omega) only [bD,ZA,Nat.reduceEqDiff,↓reduceIte,Nat.reduceAdd,Nat.reduceLeDiff,zz]); (try with_reducible rfl); first | done | fail) (ho:AV.ones cs=true:=by simp (disch:=omega) only [SO,Bool.and_self,eA,dR,zz]; first | done | fail):ab P dm (⟨d,none,.alloc z⟩ :: l) T H nx K:=oW hd hc ho k
theorem bxY {dm:DM} {K:SP} {l:List Op2} {d:Option Nat} {x:Opd} {v:AV} {cs:List AV} (k:ab P dm l (ag T d (.ptr nx cs.length 0)) (ae H nx cs) (nx + 1) K) (hd:dm2 dm T (.box x)=true:=by first | rfl | (simp (disch:=omega) only [dm2,kq,np,bD,ZA,Nat.reduceEqDiff,↓reduceIte,Nat.reduceAdd,Nat.reduceLeDiff,zz,decide_eq_true_eq]; first | done | omega)) (hx:ov T x=v:=by (try simp (disch:=omega) only [bD,ZA,Nat.reduceEqDiff,↓reduceIte,Nat.reduceAdd,Nat.reduceLeDiff,zz]); (try with_reducible rfl); first | done | fail) (hc:v.cells=cs:=by (try simp (disch:=omega) only [bD,ZA,Nat.reduceEqDiff,↓reduceIte,Nat.reduceAdd,Nat.reduceLeDiff,zz]); (try with_reducible rfl); first | done | fail) (ho:AV.ones cs=true:=by simp (disch:=omega) only [SO,Bool.and_self,eA,dR,zz]; first | done | fail):ab P dm (⟨d,none,.box x⟩ :: l) T H nx K:=pL hd hx hc ho k
theorem stY {dm:DM} {K:SP} {l:List Op2} {d:Option Nat} {sz:Nat} {p x:Opd} {b n off:Nat} {v:AV} {cs vs:List AV} (k:ab P dm l (ag T d (.tup [])) (ae H b (cw cs off vs)) nx K) (hd:dm2 dm T (.st sz p x)=true:=by first | rfl | (simp (disch:=omega) only [dm2,kq,np,bD,ZA,Nat.reduceEqDiff,↓reduceIte,Nat.reduceAdd,Nat.reduceLeDiff,zz,decide_eq_true_eq]; first | done | omega)) (hp:ov T p=.ptr b n off:=by (try simp (disch:=omega) only [bD,ZA,Nat.reduceEqDiff,↓reduceIte,Nat.reduceAdd,Nat.reduceLeDiff,zz]); (try with_reducible rfl); first | done | fail) (hx:ov T x=v:=by (try simp (disch:=omega) only [bD,ZA,Nat.reduceEqDiff,↓reduceIte,Nat.reduceAdd,Nat.reduceLeDiff,zz]); (try with_reducible rfl); first | done | fail) (hb:H b=some cs:=by (try simp (disch:=omega) only [bD,ZA,Nat.reduceEqDiff,↓reduceIte,Nat.reduceAdd,Nat.reduceLeDiff,zz]); (try with_reducible rfl); first | done | fail) (hc:v.cells=vs:=by (try simp (disch:=omega) only [bD,ZA,Nat.reduceEqDiff,↓reduceIte,Nat.reduceAdd,Nat.reduceLeDiff,zz]); (try with_reducible rfl); first | done | fail) (ho:AV.ones vs=true:=by simp (disch:=omega) only [SO,Bool.and_self,eA,dR,zz]; first | done | fail) (hn:cs.length=n:=by (try simp only [SL,Nat.reduceAdd,Nat.reduceMul,List.length_map]); first | done | omega) (hl:vs.length=sz:=by (try simp only [SL,Nat.reduceAdd,Nat.reduceMul,List.length_map]); first | done | omega) (hf:off + sz ≤ n:=by (try simp only [SL,Nat.reduceAdd,Nat.reduceMul,List.length_map]); first | done | omega):ab P dm (⟨d,none,.st sz p x⟩ :: l) T H nx K:=rx hd hp hx hb hc ho hn hl hf k
theorem gTY {dm:DM} {K:SP} {l:List Op2} {d:Option Nat} {i:Ins} {t:Nat} {w:Bool} (k:ab P dm (⟨d,none,i⟩ :: l) T H nx K) (h:T t=.bool w:=by simp (disch:=omega) only [bD,ZA,Nat.reduceEqDiff,↓reduceIte,Nat.reduceAdd,Nat.reduceLeDiff,zz]; first | done | fail):ab P dm (⟨d,some (t,w),i⟩ :: l) T H nx K:=pW h k
theorem gFY {dm:DM} {K:SP} {l:List Op2} {d:Option Nat} {i:Ins} {t:Nat} {w:Bool} (k:ab P dm l (ag T d (.tup [])) H nx K) (h:T t=.bool (!w) ∨ T t=.tup []:=by simp (disch:=omega) only [bD,ZA,Nat.reduceEqDiff,↓reduceIte,Nat.reduceAdd,Nat.reduceLeDiff,or_true,true_or,zz]; first | done | fail):ab P dm (⟨d,some (t,w),i⟩ :: l) T H nx K:=qo h k
theorem cTY {K:CP} {c:Opd} {x y:C2} (h1:ai P x T H nx K) (hc:ov T c=.bool true:=by simp (disch:=omega) only [bD,ZA,Nat.reduceEqDiff,↓reduceIte,Nat.reduceAdd,Nat.reduceLeDiff,zz]; first | done | fail):ai P (.cond c x y) T H nx K:=jP hc h1
theorem cFY {K:CP} {c:Opd} {x y:C2} (h2:ai P y T H nx K) (hc:ov T c=.bool false:=by simp (disch:=omega) only [bD,ZA,Nat.reduceEqDiff,↓reduceIte,Nat.reduceAdd,Nat.reduceLeDiff,zz]; first | done | fail):ai P (.cond c x y) T H nx K:=jR hc h2
theorem r1Y {K:AV→Prop} {a:RV} {x:AV} (h:K x) (ha:rv T H a=some x:=by simp (disch:=omega) only [rv,bD,ZA,Nat.reduceEqDiff,↓reduceIte,Nat.reduceAdd,Nat.reduceLeDiff,zz]; with_reducible rfl):aW T H K [a]:=r_1 ha h
theorem r2Y {K:AV→Prop} {a b:RV} {x y:AV} (h:K (.tup [x,y])) (ha:rv T H a=some x:=by simp (disch:=omega) only [rv,bD,ZA,Nat.reduceEqDiff,↓reduceIte,Nat.reduceAdd,Nat.reduceLeDiff,zz]; with_reducible rfl) (hb:rv T H b=some y:=by simp (disch:=omega) only [rv,bD,ZA,Nat.reduceEqDiff,↓reduceIte,Nat.reduceAdd,Nat.reduceLeDiff,zz]; with_reducible rfl):aW T H K [a,b]:=r_2 ha hb h
class StW (A:Prop) (B:outParam Prop):Prop where st:B→A
class StO (A:Prop) (B:outParam Prop):Prop where st:B→A
class StM (A:Prop) (B:outParam Prop):Prop where st:B→A
theorem zW {A B:Prop} [i:StW A B] (h:B):A:=i.st h
theorem zO {A B:Prop} [i:StO A B] (h:B):A:=i.st h
theorem zM {A B:Prop} [i:StM A B] (h:B):A:=i.st h
instance {K:CP} {x y:C2}:StW (ai P (.seq x y) T H nx K) (ai P x T H nx fun e T H nx=>am e (ai P y T H nx K) (K e T H nx)):=⟨oh⟩
instance {K:CP} {i:Nat} {b:C2}:StW (ai P (.block i b) T H nx K) (ai P b T H nx fun e T H nx=>K (eM i e) T H nx):=⟨mB⟩
instance {K:CP} {b:C2}:StW (ai P (.loop b) T H nx K) (aG (ai P b) T H nx K):=⟨p7⟩
instance {K:CP}:StO (ai P .skip T H nx K) (K .normal T H nx):=⟨p6⟩
instance {K:CP} {i:Nat}:StO (ai P (.exit i) T H nx K) (K (.exit i) T H nx):=⟨qn⟩
instance {K:CP}:StO (ai P .ret T H nx K) (K .ret T H nx):=⟨qM⟩
instance {K:CP} {l:List Op2}:StO (ai P (.ops 0 l) T H nx K) (ab P .text l T H nx fun T H nx=>K .normal T H nx):=⟨pV⟩
instance {K:CP} {l:List Op2}:StO (ai P (.ops 1 l) T H nx K) (ab P .draw l T H nx fun T H nx=>K .normal T H nx):=⟨pX⟩
instance {K:CP} {l:List Op2}:StO (ai P (.ops 2 l) T H nx K) (ab P (.fresh nx) l T H nx fun T H nx=>K .normal T H nx):=⟨qf⟩
instance {K:CP} {l:List Op2} {C:List Nat}:StO (ai P (.mix 1 l C) T H nx K) (ab P .draw l T H nx fun T H nx=>K .normal T H nx):=⟨qb⟩
instance {K:CP} {l:List Op2} {C:List Nat}:StO (ai P (.mix 2 l C) T H nx K) (ab P (.fresh nx) l T H nx fun T H nx=>K .normal T H nx):=⟨qd⟩
instance {dm:DM} {K:SP}:StO (ab P dm [] T H nx K) (K T H nx):=⟨qw⟩
instance {S:Hp} {K:SP}:StO (ar P S [] T H nx K) (K T H nx):=⟨qC⟩
instance {S:Hp} {K:SP} {l:List (Op2 × Nat)} {d:Option Nat} {i:Ins}:StO (ar P S ((⟨d,none,i⟩,2) :: l) T H nx K) (ab P .text [⟨d,none,i⟩] T H nx fun T H nx=>ar P S l T H nx K):=⟨pE⟩
instance {K:AV→Prop}:StO (aW T H K []) (K (.tup [])):=⟨r_0⟩
instance {K:CP} {l:List Op2} {C:List (Nat × Nat)}:StM (ai P (.mixS 1 l C) T H nx K) (ab P .draw l T H nx fun T H nx=>K .normal T H nx):=⟨pp⟩
instance {K:CP} {l:List Op2} {C:List (Nat × Nat)}:StM (ai P (.mixS 2 l C) T H nx K) (ab P (.fresh nx) l T H nx fun T H nx=>K .normal T H nx):=⟨pg⟩
class NZ (b w:Bool) (p q:outParam Prop):Prop where
 t:b=w→p
 f:b=!w→q
instance (priority:=10) {b:Bool}:NZ b true (b=true) (b=false):=⟨id,id⟩
instance (priority:=10) {b:Bool}:NZ b false (b=false) (b=true):=⟨id,id⟩
instance {p:Prop} {i:Decidable p}:NZ (decide p) true p (¬ p):=⟨of_decide_eq_true,of_decide_eq_false⟩
instance {p:Prop} {i:Decidable p}:NZ (decide p) false (¬ p) p:=⟨of_decide_eq_false,of_decide_eq_true⟩
instance (priority:=2000):NZ true true True False:=⟨fun _=>trivial,fun h=>by cases h⟩
instance (priority:=2000):NZ true false False True:=⟨fun h=>(by cases h),fun _=>trivial⟩
instance (priority:=2000):NZ false true False True:=⟨fun h=>(by cases h),fun _=>trivial⟩
instance (priority:=2000):NZ false false True False:=⟨fun _=>trivial,fun h=>by cases h⟩
instance (priority:=2000) {i:Decidable True}:NZ (decide True) true True False:=⟨fun _=>trivial,fun h=>of_decide_eq_false h trivial⟩
instance (priority:=2000) {i:Decidable True}:NZ (decide True) false False True:=⟨fun h=>of_decide_eq_false h trivial,fun _=>trivial⟩
instance (priority:=2000) {i:Decidable False}:NZ (decide False) true False True:=⟨of_decide_eq_true,fun _=>trivial⟩
instance (priority:=2000) {i:Decidable False}:NZ (decide False) false True False:=⟨fun _=>trivial,of_decide_eq_true⟩
instance {b w:Bool} {p q:Prop} [i:NZ b w p q]:NZ (!b) w q p:=⟨fun h=>i.f (by cases b <;> cases w <;> simp_all),fun h=>i.t (by cases b <;> cases w <;> simp_all)⟩
class StG (A:Prop) (v:outParam AV) (w:outParam Bool) (B C:outParam Prop):Prop where
 st:∀ b:Bool,v=.bool b→(b=w→B)→(b=!w→C)→A
instance {K:CP} {c:Opd} {x y:C2}:StG (ai P (.cond c x y) T H nx K) (ov T c) true (ai P x T H nx K) (ai P y T H nx K):=⟨fun _ h k1 k2=>mf h k1 k2⟩
instance {dm:DM} {K:SP} {l:List Op2} {d:Option Nat} {i:Ins} {t:Nat}:StG (ab P dm (⟨d,some (t,true),i⟩ :: l) T H nx K) (T t) true (ab P dm (⟨d,none,i⟩ :: l) (upd T t (.bool true)) H nx K) (ab P dm l (ag (upd T t (.bool false)) d (.tup [])) H nx K):=⟨fun _ h k1 k2=>qL h k1 k2⟩
instance {dm:DM} {K:SP} {l:List Op2} {d:Option Nat} {i:Ins} {t:Nat}:StG (ab P dm (⟨d,some (t,false),i⟩ :: l) T H nx K) (T t) false (ab P dm (⟨d,none,i⟩ :: l) (upd T t (.bool false)) H nx K) (ab P dm l (ag (upd T t (.bool true)) d (.tup [])) H nx K):=⟨fun _ h k1 k2=>qL h k1 k2⟩
theorem zGZ {A:Prop} {v:AV} {w b:Bool} {B C p q:Prop} [i:StG A v w B C] [n:NZ b w p q] (k1:p→B) (k2:q→C) (h:v=.bool b:=by (try simp only [c9,ZA,Nat.reduceEqDiff,↓reduceIte,Nat.reduceAdd,Nat.reduceLeDiff,zz]); (try with_reducible rfl); first | done | fail):A:=i.st b h (fun h=>k1 (n.t h)) (fun h=>k2 (n.f h))
theorem zGY {A:Prop} {v:AV} {w b:Bool} {B C p q:Prop} [i:StG A v w B C] [n:NZ b w p q] (k1:p→B) (k2:q→C) (h:v=.bool b:=by (try simp (disch:=omega) only [bD,ZA,Nat.reduceEqDiff,↓reduceIte,Nat.reduceAdd,Nat.reduceLeDiff,zz]); (try with_reducible rfl); first | done | fail):A:=i.st b h (fun h=>k1 (n.t h)) (fun h=>k2 (n.f h))
end Go.Abs
namespace Go.Abs
open Go.RowKit
inductive PT (α:Type) where
 | leaf
 | node (v:Option α) (l r:PT α)
def PT.get {α:Type}:PT α→Nat→Option α
 | .leaf,_=>none
 | .node v l r,n=>match n with
  | 0=>v
  | n + 1=>match n % 2 with
   | 0=>l.get (n / 2)
   | _ + 1=>r.get (n / 2)
def PT.set {α:Type}:Nat→PT α→Nat→Option α→Option (PT α)
 | 0,_,_,_=>none
 | k + 1,t,n,x=>match t with
  | .leaf=>match n with
   | 0=>some (.node x .leaf .leaf)
   | n + 1=>match n % 2 with
    | 0=>match PT.set k .leaf (n / 2) x with
     | some l=>some (.node none l .leaf)
     | none=>none
    | _ + 1=>match PT.set k .leaf (n / 2) x with
     | some r=>some (.node none .leaf r)
     | none=>none
  | .node v l r=>match n with
   | 0=>some (.node x l r)
   | n + 1=>match n % 2 with
    | 0=>match PT.set k l (n / 2) x with
     | some l=>some (.node v l r)
     | none=>none
    | _ + 1=>match PT.set k r (n / 2) x with
     | some r=>some (.node v l r)
     | none=>none
theorem PT.get_even {α:Type} {v:Option α} {l r:PT α} {n:Nat} (h:n % 2=0):(PT.node v l r).get (n + 1)=l.get (n / 2):=by
 simp only [PT.get,h]
theorem PT.get_odd {α:Type} {v:Option α} {l r:PT α} {n:Nat} (h:n % 2=1):(PT.node v l r).get (n + 1)=r.get (n / 2):=by
 simp only [PT.get,h]
theorem PT.get_set {α:Type}:∀ (k:Nat) {t t':PT α} {n:Nat} {x:Option α},PT.set k t n x=some t'→∀ m,t'.get m=if m=n then x else t.get m
 | 0,_,_,_,_,h=>by cases h
 | k + 1,t,t',n,x,h=>by
  intro m
  have two:∀ a:Nat,a % 2=0 ∨ a % 2=1:=fun a=>by omega
  cases t with
  | leaf =>
   cases n with
   | zero =>
    cases h
    cases m with
    | zero=>rfl
    | succ m =>
     rw [if_neg (by omega)]
     rcases two m with e | e
     ·rw [get_even e]; rfl
     ·rw [get_odd e]; rfl
   | succ n =>
    rcases two n with en | en
    ·simp only [PT.set,en] at h
     split at h
     ·rename_i l hl
      cases h
      have ih:=PT.get_set k hl
      cases m with
      | zero=>rw [if_neg (by omega)]; rfl
      | succ m =>
       rcases two m with e | e
       ·rw [get_even e,ih]
        by_cases hh:m / 2=n / 2
        ·rw [if_pos hh,if_pos (by omega)]
        ·rw [if_neg hh,if_neg (by omega)]; rfl
       ·rw [get_odd e,if_neg (by omega)]; rfl
     ·cases h
    ·simp only [PT.set,en] at h
     split at h
     ·rename_i l hl
      cases h
      have ih:=PT.get_set k hl
      cases m with
      | zero=>rw [if_neg (by omega)]; rfl
      | succ m =>
       rcases two m with e | e
       ·rw [get_even e,if_neg (by omega)]; rfl
       ·rw [get_odd e,ih]
        by_cases hh:m / 2=n / 2
        ·rw [if_pos hh,if_pos (by omega)]
        ·rw [if_neg hh,if_neg (by omega)]; rfl
     ·cases h
  | node v l r =>
   cases n with
   | zero =>
    cases h
    cases m with
    | zero=>rfl
    | succ m =>
     rw [if_neg (by omega)]
     rcases two m with e | e
     ·rw [get_even e,get_even e]
     ·rw [get_odd e,get_odd e]
   | succ n =>
    rcases two n with en | en
    ·simp only [PT.set,en] at h
     split at h
     ·rename_i l' hl
      cases h
      have ih:=PT.get_set k hl
      cases m with
      | zero=>rw [if_neg (by omega)]; rfl
      | succ m =>
       rcases two m with e | e
       ·rw [get_even e,ih,get_even e]
        by_cases hh:m / 2=n / 2
        ·rw [if_pos hh,if_pos (by omega)]
        ·rw [if_neg hh,if_neg (by omega)]
       ·rw [get_odd e,if_neg (by omega),get_odd e]
     ·cases h
    ·simp only [PT.set,en] at h
     split at h
     ·rename_i l' hl
      cases h
      have ih:=PT.get_set k hl
      cases m with
      | zero=>rw [if_neg (by omega)]; rfl
      | succ m =>
       rcases two m with e | e
       ·rw [get_even e,if_neg (by omega),get_even e]
       ·rw [get_odd e,ih,get_odd e]
        by_cases hh:m / 2=n / 2
        ·rw [if_pos hh,if_pos (by omega)]
        ·rw [if_neg hh,if_neg (by omega)]
     ·cases h
inductive BC where
 | cells (cs:List AV)
 | mark (e:Option AEx)
abbrev TT:=PT AV
abbrev HT:=PT BC
abbrev LV:=Nat→Option AEx→List AV
def bcL (L:LV) (n:Nat):Option BC→Option (List AV)
 | some (.cells cs)=>some cs
 | some (.mark e)=>some (L n e)
 | none=>none
def bc0:Option BC→Option (List AV)
 | some (.cells cs)=>some cs
 | _=>none
def toT (t:TT):Tm:=fun n=>(t.get n).getD .undef
def toH (L:LV) (t:HT):Hp:=fun n=>bcL L n (t.get n)
def bu (t:HT):Hp:=fun n=>bc0 (t.get n)
def LIM:Nat:=24
theorem aS {L:LV} {t:HT}:Sub (bu t) (toH L t):=fun b cs h=>by
 unfold bu at h
 unfold toH
 cases hg:t.get b with
 | none=>rw [hg] at h; cases h
 | some c =>
  rw [hg] at h
  cases c with
  | cells x=>exact h
  | mark e=>cases h
theorem j9 {k:Nat} {T T':TT} {d:Nat} {v:AV} (h:PT.set k T d (some v)=some T'):toT T'=upd (toT T) d v:=by
 funext m
 simp only [toT,upd,PT.get_set k h]
 split <;> rfl
theorem cm {L:LV} {k:Nat} {H H':HT} {b:Nat} {cs:List AV} (h:PT.set k H b (some (.cells cs))=some H'):toH L H'=ae (toH L H) b cs:=by
 funext m
 simp only [toH,ae,PT.get_set k h]
 split <;> rfl
theorem fO {L:LV} {k:Nat} {H H':HT} {b:Nat} {e:Option AEx} (h:PT.set k H b (some (.mark e))=some H'):toH L H'=ae (toH L H) b (L b e):=by
 funext m
 simp only [toH,ae,PT.get_set k h]
 split
 ·rename_i hm; subst hm; rfl
 ·rfl
theorem j2 {L:LV} {k:Nat} {H H':HT} {b:Nat} (h:PT.set k H b none=some H'):toH L H'=bl (toH L H) b:=by
 funext m
 simp only [toH,bl,PT.get_set k h]
 split <;> rfl
def stT (T:TT) (d:Option Nat) (v:AV):Option TT:=match d with
 | none=>some T
 | some d=>PT.set LIM T d (some v)
theorem ft {T T':TT} {d:Option Nat} {v:AV} (h:stT T d v=some T'):toT T'=ag (toT T) d v:=by
 cases d with
 | none=>cases h; rfl
 | some d=>exact j9 h
def dZ:Nat→List AV→TT→Option TT
 | _,[],T=>some T
 | i,x :: l,T=>match PT.set LIM T i (some x) with
  | some T=>dZ (i + 1) l T
  | none=>none
theorem e7:∀ (l:List AV) (i:Nat) {T T':TT},dZ i l T=some T'→∀ m,toT T' m=if i ≤ m∧m < i + l.length then l.getD (m - i) .undef else toT T m
 | [],i,T,T',h,m=>by cases h; rw [if_neg (by simp only [List.length_nil]; omega)]
 | x :: l,i,T,T',h,m=>by
  simp only [dZ] at h
  split at h
  ·rename_i T1 h1
   rw [e7 l (i + 1) h m,j9 h1]
   simp only [upd,List.length_cons]
   by_cases e:m=i
   ·subst e
    rw [if_neg (by omega),if_pos rfl,if_pos (by omega)]
    simp
   ·by_cases e2:i + 1 ≤ m∧m < i + 1 + l.length
    ·rw [if_pos e2,if_pos (by omega)]
     obtain ⟨j,rfl⟩:∃ j,m=i + 1 + j:=⟨m - (i + 1),by omega⟩
     rw [show i + 1 + j - (i + 1)=j by omega,show i + 1 + j - i=j + 1 by omega]
     rfl
    ·rw [if_neg e2,if_neg e,if_neg (by omega)]
  ·cases h
def nM (l:List AV):Option TT:=dZ 0 l .leaf
theorem ny {l:List AV} {T:TT} (h:nM l=some T):toT T=T0 l:=by
 funext m
 rw [e7 l 0 h m]
 simp only [T0,Nat.zero_le,true_and,Nat.zero_add,Nat.sub_zero]
 split
 ·rfl
 ·rename_i hm
  have:l[m]?=none:=by simp; omega
  simp [List.getD,this,toT,PT.get]
def frN {α:Type} (n:Nat) (K:Nat→α):α:=match n with
 | 0=>K 0
 | m + 1=>K (m + 1)
def frI {α:Type} (n:Int) (K:Int→α):α:=match n with
 | .ofNat m=>frN m fun m=>K (.ofNat m)
 | .negSucc m=>frN m fun m=>K (.negSucc m)
def frV {α:Type} (x:AV) (K:AV→α):α:=match x with
 | .int k n=>frI n fun n=>K (.int k n)
 | .ptr b n off=>frN b fun b=>frN n fun n=>frN off fun off=>K (.ptr b n off)
 | .msl b n sz off len=>frN b fun b=>frN n fun n=>frN sz fun sz=>frN off fun off=>frN len fun len=>K (.msl b n sz off len)
 | x=>K x
def frL {α:Type}:List AV→(List AV→α)→α
 | [],K=>K []
 | x :: l,K=>frV x fun x=>frL l fun l=>K (x :: l)
theorem nI {α:Type} {n:Nat} {K:Nat→α}:frN n K=K n:=by cases n <;> rfl
theorem qe {α:Type} {n:Int} {K:Int→α}:frI n K=K n:=by cases n <;> simp [frI,nI]
theorem gi {α:Type} {x:AV} {K:AV→α}:frV x K=K x:=by cases x <;> simp [frV,qe,nI]
theorem ef {α:Type}:∀ {l:List AV} {K:List AV→α},frL l K=K l
 | [],_=>rfl
 | x :: l,K=>by simp [frL,gi,ef]
def touch (T:Tm) (nx:Nat):Ins→Option Nat
 | .alloc _=>some nx
 | .box _=>some nx
 | .bldS _ len _ _=>if len=0 then none else some nx
 | .mks ..=>some nx
 | .st _ p _=>match ov T p with
  | .ptr b _ _=>some b
  | _=>none
 | .app _ _ s _=>match ov T s with
  | .esl=>some nx
  | .msl b _ _ _ _=>some b
  | _=>none
 | .apz ..=>some nx
 | _=>none
theorem im {S H:Hp} (hs:Sub S H) {sz:Nat} {x:AV} {r:Nat × List AV} (h:dw sz S x=some r):dw sz H x=some r:=by
 cases x <;> simp only [dw] at h ⊢ <;> try (first | exact h | (cases h; done))
 rename_i b n sz' off len
 split at h
 ·rename_i h0; rw [if_pos h0]; exact h
 ·rename_i h0
  rw [if_neg h0]
  split at h
  ·rename_i cs hb
   rw [hs b cs hb]; exact h
  ·cases h
theorem mV {S H:Hp} (hs:Sub S H) {T:Tm} {i:Ins} {r:AV} (h:ak T S i=some r):ak T H i=some r:=by
 cases i <;> try exact h
 ·exact jG hs h
 ·rename_i k a
  simp only [ak] at h ⊢
  cases hr:rd S k (ov T a) with
  | none=>rw [hr] at h; cases h
  | some l=>rw [hr] at h; rw [lV hs hr]; exact h
theorem fq {S H:Hp} (hs:Sub S H) {T:Tm} {a:RV} {r:AV} (h:rv T S a=some r):rv T H a=some r:=by
 cases a with
 | t n=>exact h
 | c1 n=>exact jG hs h
 | cn n k =>
  simp only [rv] at h ⊢
  cases hr:rd S k (T n) with
  | none=>rw [hr] at h; cases h
  | some l=>rw [hr] at h; rw [lV hs hr]; exact h
theorem md {T:Tm} {S S' H:Hp} (hs:Sub S H) {nx nx':Nat} {i:Ins} {r:AV} (h:dv T S nx i=some (r,S',nx')) :
    (touch T nx i=none→dv T H nx i=some (r,H,nx'))∧∀ b,touch T nx i=some b→∃ cs,S'=ae S b cs∧dv T H nx i=some (r,ae H b cs,nx'):=by
 cases i <;> simp only [dv] at h ⊢ <;> try (cases h; done)
 case alloc z =>
  unfold gU at h ⊢
  split at h <;> cases h
  rename_i hz
  rw [if_pos hz]
  exact ⟨fun h=>by simp [touch] at h,fun b h=>by simp [touch] at h; subst h; exact ⟨_,rfl,rfl⟩⟩
 case box x =>
  unfold gU at h ⊢
  split at h <;> cases h
  rename_i hz
  rw [if_pos hz]
  exact ⟨fun h=>by simp [touch] at h,fun b h=>by simp [touch] at h; subst h; exact ⟨_,rfl,rfl⟩⟩
 case bldS sz len z parts =>
  split at h
  ·rename_i hl
   rw [if_pos hl]
   split at h <;> cases h
   rename_i hp
   rw [if_pos hp]
   exact ⟨fun _=>rfl,fun b h=>by simp [touch,hl] at h⟩
  ·rename_i hl
   rw [if_neg hl]
   split at h <;> cases h
   exact ⟨fun h=>by simp [touch,hl] at h,fun b h=>by simp [touch,hl] at h; subst h; exact ⟨_,rfl,rfl⟩⟩
 case mks sz bytes z l c =>
  split at h
  ·rename_i h1 h2
   split at h <;> cases h
   rename_i hc
   rw [if_pos hc]
   exact ⟨fun h=>by simp [touch] at h,fun b h=>by simp [touch] at h; subst h; exact ⟨_,rfl,rfl⟩⟩
  ·cases h
 case apz sz bytes z s x =>
  split at h
  ·rename_i h1 h2
   split at h <;> cases h
   rename_i hc
   rw [if_pos hc]
   exact ⟨fun h=>by simp [touch] at h,fun b h=>by simp [touch] at h; subst h; exact ⟨_,rfl,rfl⟩⟩
  ·cases h
 case st k p x =>
  split at h
  ·rename_i b n off hp
   split at h
   ·rename_i cs hb
    split at h <;> cases h
    rename_i hc
    simp only [hs b cs hb]
    rw [if_pos hc]
    exact ⟨fun h=>by simp [touch,hp] at h,fun b h=>by simp [touch,hp] at h; subst h; exact ⟨_,rfl,rfl⟩⟩
   ·cases h
  ·cases h
 case app sz bytes s x =>
  unfold qt at h ⊢
  split at h
  ·cases h
  ·rename_i k new hsrc
   rw [im hs hsrc]
   simp only
   split at h
   ·rename_i hone
    rw [if_pos hone]
    split at h
    ·rename_i he
     split at h <;> cases h
     rename_i hc
     rw [if_pos hc]
     exact ⟨fun h=>by simp [touch,he] at h,fun b h=>by simp [touch,he] at h; subst h; exact ⟨_,rfl,rfl⟩⟩
    ·rename_i b n s' off len he
     split at h
     ·rename_i cs hb
      simp only [hs b cs hb]
      split at h
      ·rename_i hc
       rw [if_pos hc]
       split at h
       ·rename_i hc2
        rw [if_pos hc2]
        cases h
        exact ⟨fun h=>by simp [touch,he] at h,fun b h=>by simp [touch,he] at h; subst h; exact ⟨_,rfl,rfl⟩⟩
       ·rename_i hc2
        rw [if_neg hc2]
        split at h
        ·rename_i hc3
         rw [if_pos hc3]
         cases h
         exact ⟨fun h=>by simp [touch,he] at h,fun b h=>by simp [touch,he] at h; subst h; exact ⟨_,rfl,rfl⟩⟩
        ·rename_i hc3
         rw [if_neg hc3]
         split at h <;> cases h
         rename_i hc4
         rw [if_pos hc4]
         exact ⟨fun h=>by simp [touch,he] at h,fun b h=>by simp [touch,he] at h; subst h; exact ⟨_,rfl,rfl⟩⟩
      ·cases h
     ·cases h
    ·cases h
   ·cases h
def qm (T:TT) (H:HT) (nx:Nat) (i:Ins):Option (AV × HT × Nat) :=
 match dv (toT T) (bu H) nx i with
 | none=>none
 | some (r,H',nx')=>match touch (toT T) nx i with
  | none=>some (r,H,nx')
  | some b=>match H' b with
   | none=>none
   | some cs=>frL cs fun cs=>match PT.set LIM H b (some (.cells cs)) with
    | some H2=>some (r,H2,nx')
    | none=>none
theorem pm {L:LV} {T:TT} {H H2:HT} {nx nx':Nat} {i:Ins} {r:AV} (h:qm T H nx i=some (r,H2,nx')):dv (toT T) (toH L H) nx i=some (r,toH L H2,nx'):=by
 unfold qm at h
 split at h
 ·cases h
 ·rename_i r1 H1 nx1 he
  obtain ⟨t1,t2⟩:=md (aS (L:=L)) he
  split at h
  ·rename_i ht
   cases h
   exact t1 ht
  ·rename_i b ht
   obtain ⟨cs,rfl,e⟩:=t2 b ht
   rw [show ae (bu H) b cs b=some cs from if_pos rfl] at h
   simp only [ef] at h
   split at h
   ·rename_i H3 hset
    cases h
    rw [e,cm hset]
   ·cases h
def eO:List AV→Option (List UInt8)
 | []=>some []
 | .int .u8 n :: l=>if 0 ≤ n∧n.toNat < 256 then (match eO l with | some bs=>some (UInt8.ofNat n.toNat :: bs) | none=>none) else none
 | _ :: _=>none
theorem iC:∀ {l:List AV} {bs:List UInt8},eO l=some bs→l=bs.map eW
 | [],bs,h=>by cases h; rfl
 | x :: l,bs,h=>by
  cases x <;> try (simp only [eO] at h; cases h; done)
  rename_i k n
  cases k <;> try (simp only [eO] at h; cases h; done)
  simp only [eO] at h
  split at h
  ·rename_i hn
   split at h
   ·rename_i bs' hb
    cases h
    rw [List.map_cons,← iC hb]
    congr 1
    unfold eW
    rw [UInt8.toNat_ofNat_of_lt' hn.2]
    congr 1
    omega
   ·cases h
  ·cases h
def rsp (T:Tm) (H:HT) (nx:Nat):Ins→Option (AV × HT × Nat)
 | .mkm h=>match h with
  | none=>match PT.set LIM H nx (some (.cells [.omap [] []])) with
   | some H'=>some (.mp nx,H',nx + 1)
   | none=>none
  | some x=>match ov T x with
   | .int _ _=>match PT.set LIM H nx (some (.cells [.omap [] []])) with
    | some H'=>some (.mp nx,H',nx + 1)
    | none=>none
   | _=>none
 | .mput k m key x=>match ov T m with
  | .mp b=>match H.get b with
   | some (.cells [.omap ks vs])=>if f8 k (ov T key)=true then match bm k (ov T key) ks with
       | some r=>frL (bK (ov T key) r ks) fun ks=>frL (e9 (ov T x) r vs) fun vs=>match PT.set LIM H b (some (.cells [.omap ks vs])) with
        | some H'=>some (.tup [],H',nx)
        | none=>none
       | none=>none
    else none
   | _=>none
  | _=>none
 | .mget k z ok m key=>match ov T m with
  | .mp b=>match H.get b with
   | some (.cells [.omap ks vs])=>if f8 k (ov T key)=true then match bm k (ov T key) ks with
       | some r=>some (Go.Abs.mget z ok r vs,H,nx)
       | none=>none
    else none
   | _=>none
  | _=>none
 | .mplc k z m key=>match ov T m with
  | .mp b=>match H.get b with
   | some (.cells [.omap ks vs])=>if f8 k (ov T key)=true then match bm k (ov T key) ks with
       | some r=>frL (bK (ov T key) r ks) fun ks'=>frL (lw z r vs) fun vs'=>match PT.set LIM H b (some (.cells [.omap ks' vs'])) with
        | some H'=>some (.tup [pb z r vs,.int .i64 (oU r ks)],H',nx)
        | none=>none
       | none=>none
    else none
   | _=>none
  | _=>none
 | .mpst m s x=>match ov T m with
  | .mp b=>match H.get b with
   | some (.cells [.omap ks vs])=>match ov T s with
    | .int .i64 (.ofNat i)=>if i < ks.length then frL (vs.set i (ov T x)) fun vs'=>match PT.set LIM H b (some (.cells [.omap ks vs'])) with
     | some H'=>some (.tup [],H',nx)
     | none=>none
     else none
    | _=>none
   | _=>none
  | _=>none
 | .mlen m=>match ov T m with
  | .mp b=>match H.get b with
   | some (.cells [.omap ks vs])=>some (.int .i64 ks.length,H,nx)
   | _=>none
  | _=>none
 | .cpy sz d s=>match gB sz (ov T d) (ov T s) (bu H) with
  | none=>none
  | some (n,H')=>match n with
   | 0=>some (.int .i64 (0:Nat),H,nx)
   | n + 1=>match ov T d with
    | .msl b _ _ _ _=>match H' b with
     | some cs=>frL cs fun cs=>match PT.set LIM H b (some (.cells cs)) with
      | some H2=>some (.int .i64 (n + 1:Nat),H2,nx)
      | none=>none
     | none=>none
    | _=>none
 | .clr sz z x=>match eG sz z (ov T x) (bu H) with
  | none=>none
  | some H'=>match ov T x with
   | .msl b _ _ _ 0=>some (.tup [],H,nx)
   | .msl b _ _ _ (_ + 1)=>match H' b with
    | some cs=>frL cs fun cs=>match PT.set LIM H b (some (.cells cs)) with
     | some H2=>some (.tup [],H2,nx)
     | none=>none
    | none=>none
   | _=>none
 | .slp len sz x=>match ov T x with
  | .ptr b n off=>match H.get b with
   | some (.cells cs)=>if cs.length=n∧off + len * sz=n then some (.msl b n sz off len,H,nx) else none
   | _=>none
  | _=>none
 | .snil neg x=>match gv (ov T x) with
  | some (k + 1)=>some (.bool neg,H,nx)
  | _=>none
 | .s2b x=>match ov T x with
  | .str bs=>if bs.size=0 then some (.sl 1 [],H,nx) else frL (bs.data.toList.map eW) fun cs=>match PT.set LIM H nx (some (.cells cs)) with
   | some H'=>some (.msl nx bs.size 1 0 bs.size,H',nx + 1)
   | none=>none
  | _=>none
 | .b2s x=>match dw 1 (bu H) (ov T x) with
  | some (n,l)=>match eO l with
   | some bs=>some (.str ⟨bs.toArray⟩,H,nx)
   | none=>none
  | none=>none
 | _=>none
theorem la {sz n:Nat} {d s:AV} {S S' H:Hp} (hs:Sub S H) (h:gB sz d s S=some (n,S')):(n=0→gB sz d s H=some (0,H))∧(n ≠ 0→∀ b m z o l,d=.msl b m z o l→∃ cs,S'=ae S b cs∧gB sz d s H=some (n,ae H b cs)):=by
 unfold gB at h ⊢
 split at h
 ·rename_i ld ls h1 h2
  split at h
  ·rename_i hm
   rw [if_pos hm]
   cases h; exact ⟨fun _=>rfl,fun h=>absurd rfl h⟩
  ·rename_i hm
   rw [if_neg hm]
   split at h
   ·split at h
    ·rename_i cs m new hb hsrc
     simp only [hs _ _ hb,im hs hsrc]
     split at h
     ·rename_i hc
      rw [if_pos hc]
      cases h
      refine ⟨fun h=>absurd h hm,fun _ b m z o l e=>?_⟩
      cases e; exact ⟨_,rfl,rfl⟩
     ·cases h
    ·cases h
   ·cases h
 ·cases h
theorem kd {sz:Nat} {z x:AV} {S S' H:Hp} (hs:Sub S H) (h:eG sz z x S=some S'):∀ b m s o l,x=.msl b m s o l→(l=0→eG sz z x H=some H)∧(l ≠ 0→∃ cs,S'=ae S b cs∧eG sz z x H=some (ae H b cs)):=by
 intro b m s o l hx
 subst hx
 simp only [eG] at h ⊢
 split at h
 ·rename_i h0
  rw [if_pos h0]
  exact ⟨fun _=>rfl,fun h=>absurd h0 h⟩
 ·rename_i h0
  rw [if_neg h0]
  refine ⟨fun h=>absurd h h0,fun _=>?_⟩
  split at h
  ·rename_i cs hb
   simp only [hs _ _ hb]
   split at h
   ·rename_i hc
    rw [if_pos hc]
    cases h
    exact ⟨_,rfl,rfl⟩
   ·cases h
  ·cases h
theorem dF {L:LV} {H:HT} {b:Nat} {cs:List AV} (h:H.get b=some (.cells cs)):toH L H b=some cs:=by
 simp only [toH,h,bcL]
theorem qa {L:LV} {T:Tm} {H H2:HT} {nx nx':Nat} {i:Ins} {r:AV} {K:AV→Hp→Nat→Prop} (h:rsp T H nx i=some (r,H2,nx')) (hK:K r (toH L H2) nx'):isp i T (toH L H) nx K:=by
 cases i <;> simp only [rsp] at h <;> try (cases h; done)
 case mkm x =>
  cases x with
  | none =>
   simp only at h
   split at h
   ·rename_i H' hs
    cases h
    exact ⟨.inl rfl,by rw [cm hs] at hK; exact hK⟩
   ·cases h
  | some x =>
   simp only at h
   split at h
   ·rename_i k n hx
    split at h
    ·rename_i H' hs
     cases h
     exact ⟨.inr ⟨x,k,n,rfl,hx⟩,by rw [cm hs] at hK; exact hK⟩
    ·cases h
   ·cases h
 case mput k m key x =>
  split at h
  ·rename_i b hm
   split at h
   ·rename_i ks vs hb
    split at h
    ·rename_i hf
     split at h
     ·rename_i r1 hr
      simp only [ef] at h
      split at h
      ·rename_i H' hs
       cases h
       exact ⟨b,ks,vs,r1,hm,dF hb,hf,hr,by rw [cm hs] at hK; exact hK⟩
      ·cases h
     ·cases h
    ·cases h
   ·cases h
  ·cases h
 case mget k z ok m key =>
  split at h
  ·rename_i b hm
   split at h
   ·rename_i ks vs hb
    split at h
    ·rename_i hf
     split at h
     ·rename_i r1 hr
      cases h
      exact ⟨b,ks,vs,r1,hm,dF hb,hf,hr,hK⟩
     ·cases h
    ·cases h
   ·cases h
  ·cases h
 case mplc k z m key =>
  split at h
  ·rename_i b hm
   split at h
   ·rename_i ks vs hb
    split at h
    ·rename_i hf
     split at h
     ·rename_i r1 hr
      simp only [ef] at h
      split at h
      ·rename_i H' hs
       cases h
       exact ⟨b,ks,vs,r1,hm,dF hb,hf,hr,by rw [cm hs] at hK; exact hK⟩
      ·cases h
     ·cases h
    ·cases h
   ·cases h
  ·cases h
 case mpst m s x =>
  split at h
  ·rename_i b hm
   split at h
   ·rename_i ks vs hb
    split at h
    ·rename_i i hi
     split at h
     ·rename_i hlt
      simp only [ef] at h
      split at h
      ·rename_i H' hs
       cases h
       exact ⟨b,ks,vs,i,hm,dF hb,hi,hlt,by rw [cm hs] at hK; exact hK⟩
      ·cases h
     ·cases h
    ·cases h
   ·cases h
  ·cases h
 case mlen m =>
  split at h
  ·rename_i b hm
   split at h
   ·rename_i ks vs hb
    cases h
    exact ⟨b,ks,vs,hm,dF hb,hK⟩
   ·cases h
  ·cases h
 case cpy sz d s =>
  split at h
  ·cases h
  ·rename_i n H' hc
   obtain ⟨t1,t2⟩:=la (aS (L:=L)) hc
   split at h
   ·cases h
    exact ⟨0,_,t1 rfl,hK⟩
   ·rename_i n
    split at h
    ·rename_i b m z o l hd
     obtain ⟨cs,rfl,e⟩:=t2 (Nat.succ_ne_zero _) _ _ _ _ _ hd
     rw [show ae (bu H) b cs b=some cs from if_pos rfl] at h
     simp only [ef] at h
     split at h
     ·rename_i H3 hs
      cases h
      exact ⟨_,_,e,by rw [cm hs] at hK; exact hK⟩
     ·cases h
    ·cases h
 case clr sz z x =>
  split at h
  ·cases h
  ·rename_i H' hc
   have ht:=kd (aS (L:=L)) hc
   split at h
   ·rename_i b m s o hx
    cases h
    exact ⟨_,(ht _ _ _ _ _ hx).1 rfl,hK⟩
   ·rename_i b m s o l hx
    obtain ⟨cs,rfl,e⟩:=(ht _ _ _ _ _ hx).2 (Nat.succ_ne_zero _)
    rw [show ae (bu H) b cs b=some cs from if_pos rfl] at h
    simp only [ef] at h
    split at h
    ·rename_i H3 hs
     cases h
     exact ⟨_,e,by rw [cm hs] at hK; exact hK⟩
    ·cases h
   ·cases h
 case slp len sz x =>
  split at h
  ·rename_i b n off hx
   split at h
   ·rename_i cs hb
    split at h
    ·rename_i hc
     cases h
     exact ⟨b,n,off,cs,hx,dF hb,hc.1,hc.2,hK⟩
    ·cases h
   ·cases h
  ·cases h
 case snil neg x =>
  split at h
  ·rename_i k hx
   cases h
   exact ⟨k + 1,hx,fun _=>hK,fun h=>absurd h (Nat.succ_ne_zero _)⟩
  ·cases h
 case s2b x =>
  split at h
  ·rename_i bs hx
   split at h
   ·rename_i h0
    cases h
    exact ⟨bs,hx,fun _=>hK,fun h=>absurd h0 h⟩
   ·rename_i h0
    simp only [ef] at h
    split at h
    ·rename_i H' hs
     cases h
     exact ⟨bs,hx,fun h=>absurd h h0,fun _=>by rw [cm hs] at hK; exact hK⟩
    ·cases h
  ·cases h
 case b2s x =>
  split at h
  ·rename_i n l hx
   split at h
   ·rename_i bs hb
    cases h
    exact ⟨n,bs,by rw [im aS hx,iC hb],hK⟩
   ·cases h
  ·cases h
def aY (f:AV→Option AV):List AV→Option (List AV)
 | []=>some []
 | x :: l=>match f x with
  | some y=>match aY f l with
   | some m=>some (y :: m)
   | none=>none
  | none=>none
theorem a5 {f:AV→Option AV}:∀ {l m:List AV},aY f l=some m→m.length=l.length∧∀ (i:Nat) (a c:AV),l[i]?=some a→m[i]?=some c→f a=some c
 | [],m,h=>by cases h; exact ⟨rfl,by simp⟩
 | x :: l,m,h=>by
  simp only [aY] at h
  split at h
  ·rename_i y hy
   split at h
   ·rename_i m' hm
    cases h
    obtain ⟨h1,h2⟩:=a5 hm
    refine ⟨by simp [h1],fun i a c ha hc=>?_⟩
    cases i with
    | zero=>simp at ha hc; subst ha hc; exact hy
    | succ i=>exact h2 i a c (by simpa using ha) (by simpa using hc)
   ·cases h
  ·cases h
def mkE:List AV→AV
 | [.agg a]=>.agg [.agg a]
 | [c]=>c
 | cs=>.agg cs
theorem mY (cs:List AV):(mkE cs).cells=cs:=by
 rcases cs with _ | ⟨a,_ | ⟨b,l⟩⟩
 ·rfl
 ·cases a <;> rfl
 ·cases a <;> rfl
def fL (sz:Nat):Nat→List AV→List AV
 | 0,_=>[]
 | n + 1,ds=>mkE (ds.take sz) :: fL sz n (ds.drop sz)
theorem fY (sz:Nat):∀ (n:Nat) (ds:List AV),(fL sz n ds).length=n
 | 0,_=>rfl
 | n + 1,ds=>by simp [fL,fY]
theorem fT (sz:Nat):∀ (n:Nat) (ds:List AV),ds.length=n * sz→∀ (i:Nat) (y:AV),(fL sz n ds)[i]?=some y→y.cells.length=sz∧∀ (j:Nat) (c:AV),y.cells[j]?=some c→ds[i * sz + j]?=some c
 | 0,_,_,i,y,h=>by simp [fL] at h
 | n + 1,ds,hl,i,y,h=>by
  rw [Nat.add_mul,Nat.one_mul] at hl
  cases i with
  | zero =>
   simp only [fL,List.getElem?_cons_zero,Option.some.injEq] at h
   subst h
   rw [mY]
   refine ⟨by rw [List.length_take]; omega,fun j c hc=>?_⟩
   rw [Nat.zero_mul,Nat.zero_add]
   rw [List.getElem?_take] at hc
   split at hc
   ·exact hc
   ·cases hc
  | succ i =>
   simp only [fL,List.getElem?_cons_succ] at h
   obtain ⟨h1,h2⟩:=fT sz n (ds.drop sz) (by rw [List.length_drop]; omega) i y h
   refine ⟨h1,fun j c hc=>?_⟩
   have:=h2 j c hc
   rw [List.getElem?_drop] at this
   rw [← this]
   congr 1
   rw [Nat.add_mul]; omega
def oG (f:AV→Option AV):AV→Option AV
 | .agg cs=>match aY f cs with
  | some ds=>some (.agg ds)
  | none=>none
 | x=>match f x with
  | some (.agg _)=>none
  | some y=>some y
  | none=>none
theorem kR {f:AV→Option AV} {x y:AV} (h:oG f x=some y):y.cells.length=x.cells.length∧∀ (j:Nat) (a b:AV),x.cells[j]?=some a→y.cells[j]?=some b→f a=some b:=by
 unfold oG at h
 split at h
 ·split at h
  ·rename_i hm
   cases h
   exact a5 hm
  ·cases h
 ·rename_i hna
  have hx:x.cells=[x]:=by cases x <;> first | rfl | exact absurd rfl (hna _)
  split at h
  ·cases h
  ·rename_i y' hny hy
   cases h
   have hyc:y.cells=[y]:=by cases y <;> first | rfl | exact absurd hy (by intro hh; exact hny _ rfl)
   rw [hx,hyc]
   refine ⟨rfl,fun j a b ha hb=>?_⟩
   cases j with
   | zero=>simp at ha hb; subst ha hb; exact hy
   | succ j=>simp at ha
  ·cases h
def snapV (H:Hp):Nat→AV→Option AV
 | 0,_=>none
 | k + 1,x=>match x with
  | .bool b=>some (.bool b)
  | .int k n=>some (.int k n)
  | .str s=>some (.str s)
  | .nilp=>some .nilp
  | .nilf=>some .nilf
  | .nilm=>some .nilm
  | .esl=>some .esl
  | .sl sz l=>match aY (oG (snapV H k)) l with
   | some m=>some (.sl sz m)
   | none=>none
  | .msl b n sz off len=>match len with
   | 0=>some (.sl sz [])
   | len + 1=>match H b with
    | some cs=>if cs.length=n∧off + (len + 1) * sz ≤ n then match aY (snapV H k) ((cs.drop off).take ((len + 1) * sz)) with
        | some ds=>some (.sl sz (fL sz (len + 1) ds))
        | none=>none
     else none
    | none=>none
  | .ptr b n off=>match H b with
   | some cs=>if cs.length=n then match aY (snapV H k) cs with
       | some ds=>some (.iptr ds off)
       | none=>none
    else none
   | none=>none
  | .iptr cs off=>match aY (snapV H k) cs with
   | some ds=>some (.iptr ds off)
   | none=>none
  | .func f cs=>match aY (snapV H k) cs with
   | some ds=>some (.func f ds)
   | none=>none
  | .agg cs=>match aY (snapV H k) cs with
   | some ds=>some (.agg ds)
   | none=>none
  | .tup cs=>match aY (snapV H k) cs with
   | some ds=>some (.tup ds)
   | none=>none
  | _=>none
theorem bi {S H:Hp} (hs:Sub S H):∀ (k:Nat) {x y:AV},snapV S k x=some y→Snap H x y
 | 0,_,_,h=>by cases h
 | k + 1,x,y,h=>by
  have ih:=@bi S H hs k
  have om:∀ {l m:List AV},aY (snapV S k) l=some m→m.length=l.length∧∀ (i:Nat) (a c:AV),l[i]?=some a→m[i]?=some c→Snap H a c:=fun hm =>
   ⟨(a5 hm).1,fun i a c ha hc=>ih ((a5 hm).2 i a c ha hc)⟩
  cases x <;> simp only [snapV] at h <;> try (cases h; done)
  case bool=>cases h; exact .bool _
  case int=>cases h; exact .int _ _
  case str=>cases h; exact .str _
  case nilp=>cases h; exact .nilp
  case nilf=>cases h; exact .nilf
  case nilm=>cases h; exact .nilm
  case esl=>cases h; exact .esl
  case sl sz l =>
   split at h
   ·rename_i m hm
    cases h
    obtain ⟨h1,h2⟩:=a5 hm
    exact .sl sz l m h1.symm (fun i x y hx hy=>(kR (h2 i x y hx hy)).1) (fun i j x y a b hx hy ha hb=>ih ((kR (h2 i x y hx hy)).2 j a b ha hb))
   ·cases h
  case msl b n sz off len =>
   split at h
   ·cases h; exact .mslnil _ _ _ _ _
   ·rename_i len
    split at h
    ·rename_i cs hb
     split at h
     ·rename_i hc
      split at h
      ·rename_i ds hds
       cases h
       obtain ⟨h1,h2⟩:=om hds
       have hdl:ds.length=(len + 1) * sz:=by rw [h1,List.length_take,List.length_drop]; omega
       have hg:=fT sz (len + 1) ds hdl
       refine .msl b n sz off (len + 1) cs _ (hs _ _ hb) hc.1 hc.2 (fY _ _ _) (fun y hy=>?_) (fun i j y a c hy hc' ha=>?_)
       ·obtain ⟨i,hi⟩:=List.getElem?_of_mem hy
        exact (hg i y hi).1
       ·obtain ⟨g1,g2⟩:=hg i y hy
        have g3:=g2 j c hc'
        refine h2 (i * sz + j) a c ?_ g3
        have hlt:i * sz + j < (len + 1) * sz:=by
         rw [← hdl]; exact (List.getElem?_eq_some_iff.1 g3).1
        rw [List.getElem?_take,if_pos hlt,List.getElem?_drop,← ha]
        congr 1; omega
      ·cases h
     ·cases h
    ·cases h
  case ptr b n off =>
   split at h
   ·rename_i cs hb
    split at h
    ·rename_i hn
     split at h
     ·rename_i ds hds
      cases h
      exact .ptr b n off cs ds (hs _ _ hb) hn (by rw [(om hds).1,hn]) (om hds).2
     ·cases h
    ·cases h
   ·cases h
  case iptr cs off =>
   split at h
   ·rename_i ds hds
    cases h
    exact .iptr cs ds off (om hds).1 (om hds).2
   ·cases h
  case func f cs =>
   split at h
   ·rename_i ds hds
    cases h
    exact .func f cs ds (om hds).1 (om hds).2
   ·cases h
  case agg cs =>
   split at h
   ·rename_i ds hds
    cases h
    exact .agg cs ds (om hds).1 (om hds).2
   ·cases h
  case tup cs =>
   split at h
   ·rename_i ds hds
    cases h
    exact .tup cs ds (om hds).1 (om hds).2
   ·cases h
theorem Snap.self {H H':Hp} {x y:AV} (h:Snap H x y):Snap H' y y:=by
 induction h with
 | bool b=>exact .bool _
 | int k n=>exact .int _ _
 | str s=>exact .str _
 | nilp=>exact .nilp
 | nilf=>exact .nilf
 | nilm=>exact .nilm
 | esl=>exact .esl
 | eslsl sz=>exact .slnil _ _
 | sl sz l l' hl hc h ih =>
  refine .sl sz l' l' rfl (fun i x y hx hy=>by rw [hx] at hy; cases hy; rfl) (fun i j x y a b hx hy ha hb=>?_)
  rw [hx] at hy; cases hy
  rw [ha] at hb; cases hb
  have hlt:i < l.length:=by rw [hl]; exact (List.getElem?_eq_some_iff.1 hx).1
  have hz:l[i]?=some l[i]:=by simp [hlt]
  have hcl:=hc i _ _ hz hx
  have hj:j < l[i].cells.length:=by rw [← hcl]; exact (List.getElem?_eq_some_iff.1 ha).1
  exact ih i j l[i] x l[i].cells[j] a hz hx (by simp [hj]) ha
 | slnil sz sz'=>exact .slnil _ _
 | msl b n sz off len cs l' hb hn hfit hl hc h ih =>
  refine .sl sz l' l' rfl (fun i x y hx hy=>by rw [hx] at hy; cases hy; rfl) (fun i j x y a c hx hy ha hc'=>?_)
  rw [hx] at hy; cases hy
  rw [ha] at hc'; cases hc'
  have hi:i < len:=by rw [← hl]; exact (List.getElem?_eq_some_iff.1 hx).1
  have hj:j < sz:=by rw [← hc x (List.mem_of_getElem? hx)]; exact (List.getElem?_eq_some_iff.1 ha).1
  have hlt:off + i * sz + j < cs.length:=by
   have:(i + 1) * sz ≤ len * sz:=Nat.mul_le_mul_right _ hi
   rw [Nat.add_mul] at this; omega
  exact ih i j x cs[off + i * sz + j] a hx ha (by simp [hlt])
 | mslnil b n sz off sz'=>exact .slnil _ _
 | ptr b n off cs cs' hb hn hl h ih =>
  refine .iptr cs' cs' off rfl (fun i a c ha hc=>?_)
  rw [ha] at hc; cases hc
  have hlt:i < cs.length:=by rw [hn,← hl]; exact (List.getElem?_eq_some_iff.1 ha).1
  exact ih i cs[i] a (by simp [hlt]) ha
 | iptr cs cs' off hl h ih =>
  refine .iptr cs' cs' off rfl (fun i a c ha hc=>?_)
  rw [ha] at hc; cases hc
  have hlt:i < cs.length:=by rw [← hl]; exact (List.getElem?_eq_some_iff.1 ha).1
  exact ih i cs[i] a (by simp [hlt]) ha
 | func f cs cs' hl h ih =>
  refine .func f cs' cs' rfl (fun i a c ha hc=>?_)
  rw [ha] at hc; cases hc
  have hlt:i < cs.length:=by rw [← hl]; exact (List.getElem?_eq_some_iff.1 ha).1
  exact ih i cs[i] a (by simp [hlt]) ha
 | agg cs cs' hl h ih =>
  refine .agg cs' cs' rfl (fun i a c ha hc=>?_)
  rw [ha] at hc; cases hc
  have hlt:i < cs.length:=by rw [← hl]; exact (List.getElem?_eq_some_iff.1 ha).1
  exact ih i cs[i] a (by simp [hlt]) ha
 | tup cs cs' hl h ih =>
  refine .tup cs' cs' rfl (fun i a c ha hc=>?_)
  rw [ha] at hc; cases hc
  have hlt:i < cs.length:=by rw [← hl]; exact (List.getElem?_eq_some_iff.1 ha).1
  exact ih i cs[i] a (by simp [hlt]) ha
theorem Fn.of_pureZ {P:Program} {f:FuncId} {args args':List AV} {r:AV} (hp:Pure P f args' r) {H Hf H':Hp} {nx:Nat} (hsub:∀ b cs,Hf b=some cs→H b=some cs) (hH:∀ b cs,H' b=some cs→H b=some cs∧Hf b=none) (hs:al Hf args args')
    {R:AV→Hp→Nat→Prop} (hR:R r H' nx):Fn P f args H nx R:=by
 refine ⟨hp.1,fun E w vs hE hh hfr hv=>?_⟩
 have hsim:Sim E { n:=vs.length } ⟨T0 args,H,nx⟩ { tmps:=vs.toArray,defers:=[] } w:=by
  refine ⟨hE,hh,hfr,fun l hl=>(by cases hl),Nat.zero_le _,by simp,fun t=>?_,⟨List.Pairwise.nil,fun d hd=>(by cases hd)⟩⟩
  show Rel E w (T0 args t) (vs.toArray.getD t Go.undef)
  by_cases ht:t < args.length
  ·have h1:args[t]?=some args[t]:=by simp [ht]
   have h2:vs[t]?=some (vs[t]'(by rw [hv.1]; exact ht)):=by simp [hv.1,ht]
   have:=hv.2 t _ _ h1 h2
   have e1:T0 args t=args[t]:=by simp [T0,List.getD,ht]
   have e2:vs.toArray.getD t Go.undef=vs[t]'(by rw [hv.1]; exact ht):=by simp [Array.getD,hv.1,ht]
   rw [e1,e2]; exact this
  ·have e1:T0 args t=.undef:=by simp [T0,List.getD,ht]
   rw [e1]; exact .undef _
 have hg:Gh (T0 args) H nx (T0 args') H' nx Hf:=by
  refine ⟨hsub,Nat.le_refl _,fun b cs' hb=>?_,fun t=>?_⟩
  ·obtain ⟨h1,h2⟩:=hH b cs' hb
   exact .inl ⟨cs',h1,h2,rfl,fun i x x' hx hx'=>.inl (by rw [hx] at hx'; cases hx'; rfl)⟩
  ·by_cases ht:t < args.length
   ·have h1:args[t]?=some args[t]:=by simp [ht]
    have h2:args'[t]?=some (args'[t]'(by rw [hs.1]; exact ht)):=by simp [hs.1,ht]
    have:=hs.2 t _ _ h1 h2
    have e1:T0 args t=args[t]:=by simp [T0,List.getD,ht]
    have e2:T0 args' t=args'[t]'(by rw [hs.1]; exact ht):=by simp [T0,List.getD,hs.1,ht]
    right; right; left
    rw [e1,e2]; exact this
   ·left
    simp [T0,List.getD,hs.1,ht]
 obtain ⟨E',he,hsim'⟩:=hsim.ghost hg
 have hself:al ay args' args':=⟨rfl,fun i x y hx hy=>by
  rw [hx] at hy; cases hy
  have hlt:i < args.length:=by rw [← hs.1]; exact (List.getElem?_eq_some_iff.1 hx).1
  exact (hs.2 i args[i] x (by simp [hlt]) hx).self⟩
 have hv':aX E' w args' vs:=by
  refine ⟨by rw [hv.1,hs.1],fun i x v hx hvi=>?_⟩
  have hlt:i < vs.length:=(List.getElem?_eq_some_iff.1 hvi).1
  have hla:i < args'.length:=(List.getElem?_eq_some_iff.1 hx).1
  have:=hsim'.tmps i
  have e1:T0 args' i=x:=by
   have:=(List.getElem?_eq_some_iff.1 hx).2
   simp [T0,List.getD,hx]
  have e2:vs.toArray.getD i Go.undef=v:=by
   have:=(List.getElem?_eq_some_iff.1 hvi).2
   simp [Array.getD,hlt,this]
  simp only at this
  rw [e1,e2] at this
  exact this
 refine ((Fn.of_pure hp (.inl hself) (H:=H') (nx:=nx) (R:=R) hR).2 E' w vs hsim'.env hsim'.heap hsim'.fresh hv').mono ?_
 rintro e w' ⟨v,E2,r2,H2,nx2,k1,k2,k3,k4,k5,k6,k7⟩
 exact ⟨v,E2,r2,H2,nx2,k1,he.trans k2,k3,k4,k5,k6,k7⟩
def dx (H:Hp):Nat→AV→Option AV
 | 0,_=>none
 | k + 1,x=>match x with
  | .bool b=>some (.bool b)
  | .int k n=>some (.int k n)
  | .str s=>some (.str s)
  | .nilp=>some .nilp
  | .nilf=>some .nilf
  | .nilm=>some .nilm
  | .esl=>some .esl
  | .sl sz l=>match l with
   | []=>some (.sl sz [])
   | _ :: _=>none
  | .msl b n sz off len=>match len with
   | 0=>some (.sl sz [])
   | len + 1=>match H b with
    | some cs=>if cs.length=n∧off + (len + 1) * sz ≤ n then match aY (dx H k) ((cs.drop off).take ((len + 1) * sz)) with
        | some ds=>some (.sl sz (fL sz (len + 1) ds))
        | none=>none
     else none
    | none=>none
  | .ptr b n off=>match H b with
   | some cs=>if cs.length=n then match aY (dx H k) cs with
       | some ds=>some (.iptr ds off)
       | none=>none
    else none
   | none=>none
  | .func f cs=>match aY (dx H k) cs with
   | some ds=>some (.func f ds)
   | none=>none
  | .agg cs=>match aY (dx H k) cs with
   | some ds=>some (.agg ds)
   | none=>none
  | .tup cs=>match aY (dx H k) cs with
   | some ds=>some (.tup ds)
   | none=>none
  | _=>none
theorem gd {S H:Hp} (hs:Sub S H):∀ (k:Nat) {x y:AV},dx S k x=some y→SnapF H x y
 | 0,_,_,h=>by cases h
 | k + 1,x,y,h=>by
  have ih:=@gd S H hs k
  have om:∀ {l m:List AV},aY (dx S k) l=some m→m.length=l.length∧∀ (i:Nat) (a c:AV),l[i]?=some a→m[i]?=some c→SnapF H a c:=fun hm =>
   ⟨(a5 hm).1,fun i a c ha hc=>ih ((a5 hm).2 i a c ha hc)⟩
  cases x <;> simp only [dx] at h <;> try (cases h; done)
  case bool=>cases h; exact .bool _
  case int=>cases h; exact .int _ _
  case str=>cases h; exact .str _
  case nilp=>cases h; exact .nilp
  case nilf=>cases h; exact .nilf
  case nilm=>cases h; exact .nilm
  case esl=>cases h; exact .esl
  case sl sz l =>
   split at h
   ·cases h; exact .slnil _ _
   ·cases h
  case msl b n sz off len =>
   split at h
   ·cases h; exact .mslnil _ _ _ _ _
   ·rename_i len
    split at h
    ·rename_i cs hb
     split at h
     ·rename_i hc
      split at h
      ·rename_i ds hds
       cases h
       obtain ⟨h1,h2⟩:=om hds
       have hdl:ds.length=(len + 1) * sz:=by rw [h1,List.length_take,List.length_drop]; omega
       have hg:=fT sz (len + 1) ds hdl
       refine .msl b n sz off (len + 1) cs _ (hs _ _ hb) hc.1 hc.2 (fY _ _ _) (fun y hy=>?_) (fun i j y a c hy hc' ha=>?_)
       ·obtain ⟨i,hi⟩:=List.getElem?_of_mem hy
        exact (hg i y hi).1
       ·obtain ⟨g1,g2⟩:=hg i y hy
        have g3:=g2 j c hc'
        refine h2 (i * sz + j) a c ?_ g3
        have hlt:i * sz + j < (len + 1) * sz:=by
         rw [← hdl]; exact (List.getElem?_eq_some_iff.1 g3).1
        rw [List.getElem?_take,if_pos hlt,List.getElem?_drop,← ha]
        congr 1; omega
      ·cases h
     ·cases h
    ·cases h
  case ptr b n off =>
   split at h
   ·rename_i cs hb
    split at h
    ·rename_i hn
     split at h
     ·rename_i ds hds
      cases h
      exact .ptr b n off cs ds (hs _ _ hb) hn (by rw [(om hds).1,hn]) (om hds).2
     ·cases h
    ·cases h
   ·cases h
  case func f cs =>
   split at h
   ·rename_i ds hds
    cases h
    exact .func f cs ds (om hds).1 (om hds).2
   ·cases h
  case agg cs =>
   split at h
   ·rename_i ds hds
    cases h
    exact .agg cs ds (om hds).1 (om hds).2
   ·cases h
  case tup cs =>
   split at h
   ·rename_i ds hds
    cases h
    exact .tup cs ds (om hds).1 (om hds).2
   ·cases h
end Go.Abs
namespace Go.Abs
open Go.RowKit
def SF:Nat:=40
abbrev CL:=FuncId→List AV→HT→Nat→Option (AV × HT × Nat)
abbrev PC:=FuncId→List AV→HT→Option AV
def px (cl:CL) (pc:PC) (yl:CL) (dm:DM) (i:Ins) (T:TT) (H:HT) (nx:Nat):Option (AV × HT × Nat) :=
 match ic i with
 | .val=>match dm2 dm (toT T) i with
  | true=>match ak (toT T) (bu H) i with
   | some r=>some (r,H,nx)
   | none=>none
  | false=>none
 | .eff=>match dm2 dm (toT T) i with
  | true=>qm T H nx i
  | false=>none
 | .call=>match i with
  | .call f args=>match ov (toT T) f with
   | .func g caps=>match dm.isText with
    | true=>cl g (args.map (ov (toT T)) ++ caps) H nx
    | false=>match pc g (args.map (ov (toT T)) ++ caps) H with
     | some r=>some (r,H,nx)
     | none=>none
   | .bfn g fs=>match dm.isText with
    | true=>cl g (fs ++ args.map (ov (toT T))) H nx
    | false=>none
   | .yld b=>match dm.isText with
    | true=>yl b (args.map (ov (toT T))) H nx
    | false=>none
   | _=>none
  | _=>none
 | .sp=>match dm.isText with
  | true=>rsp (toT T) H nx i
  | false=>none
def jQ (cl:CL) (pc:PC) (yl:CL) (dm:DM):List Op2→TT→HT→Nat→Option (TT × HT × Nat)
 | [],T,H,nx=>some (T,H,nx)
 | o :: l,T,H,nx=>match g2 (toT T) o.g with
  | none=>none
  | some false=>match stT T o.d (.tup []) with
   | some T=>jQ cl pc yl dm l T H nx
   | none=>none
  | some true=>match px cl pc yl dm o.i T H nx with
   | none=>none
   | some (r,H,nx)=>frV r fun r=>match stT T o.d r with
    | some T=>jQ cl pc yl dm l T H nx
    | none=>none
structure CLok (P:Program) (L:LV) (cl:CL) (pc:PC) (yl:CL):Prop where
 cl:∀ {g:FuncId} {args:List AV} {H H':HT} {nx nx':Nat} {r:AV} {R:AV→Hp→Nat→Prop},cl g args H nx=some (r,H',nx')→R r (toH L H') nx'→Fn P g args (toH L H) nx R
 pc:∀ {g:FuncId} {args:List AV} {H:HT} {r:AV},pc g args H=some r→ey P g args (toH L H) r
 yl:∀ {g:Nat} {args:List AV} {H H':HT} {nx nx':Nat} {r:AV} {R:AV→Hp→Nat→Prop},yl g args H nx=some (r,H',nx')→R r (toH L H') nx'→Yl P g args (toH L H) nx R
theorem mP {P:Program} {L:LV} {cl:CL} {pc:PC} {yl:CL} (hk:CLok P L cl pc yl) {dm:DM} {i:Ins} {T:TT} {H H':HT} {nx nx':Nat} {r:AV} {K:AV→Hp→Nat→Prop}
    (h:px cl pc yl dm i T H nx=some (r,H',nx')) (hK:K r (toH L H') nx'):aE P dm i (toT T) (toH L H) nx K:=by
 unfold px at h
 unfold aE
 cases hi:ic i with
 | val =>
  rw [hi] at h
  simp only at h ⊢
  split at h
  ·rename_i hd
   split at h
   ·rename_i r' hr
    cases h
    exact ⟨hd,by rw [mV aS hr]; exact hK⟩
   ·cases h
  ·cases h
 | eff =>
  rw [hi] at h
  simp only at h ⊢
  split at h
  ·rename_i hd
   exact ⟨hd,by rw [pm h]; exact hK⟩
  ·cases h
 | sp =>
  rw [hi] at h
  simp only at h ⊢
  split at h
  ·rename_i hd
   exact ⟨hd,qa h hK⟩
  ·cases h
 | call =>
  rw [hi] at h
  simp only at h ⊢
  cases i <;> try (cases hi; done)
  rename_i f args
  simp only at h ⊢
  cases hf:ov (toT T) f <;> rw [hf] at h <;> simp only at h <;> try (cases h; done)
  ·rename_i g caps
   left
   show match dm.isText with | false=>_ | true=>_
   cases hd:dm.isText with
   | true=>rw [hd] at h; exact hk.cl h hK
   | false =>
    rw [hd] at h
    simp only at h
    split at h
    ·rename_i r' hr
     cases h
     exact ⟨_,hk.pc hr,hK⟩
    ·cases h
  ·rename_i g fs
   right
   cases hd:dm.isText with
   | true=>rw [hd] at h; exact ⟨rfl,.inr ⟨g,fs,rfl,hk.cl h hK⟩⟩
   | false=>rw [hd] at h; cases h
  ·rename_i b
   right
   cases hd:dm.isText with
   | true=>rw [hd] at h; exact ⟨rfl,.inl ⟨b,rfl,hk.yl h hK⟩⟩
   | false=>rw [hd] at h; cases h
theorem d6 {P:Program} {L:LV} {cl:CL} {pc:PC} {yl:CL} (hk:CLok P L cl pc yl) {dm:DM} {K:SP}:∀ {l:List Op2} {T T':TT} {H H':HT} {nx nx':Nat},
    jQ cl pc yl dm l T H nx=some (T',H',nx')→K (toT T') (toH L H') nx'→ab P dm l (toT T) (toH L H) nx K
 | [],_,_,_,_,_,_,h,hK=>by cases h; exact hK
 | o :: l,T,T',H,H',nx,nx',h,hK=>by
  simp only [jQ] at h
  show ap (g2 (toT T) o.g) _ _
  cases hg:g2 (toT T) o.g with
  | none=>rw [hg] at h; cases h
  | some b =>
   rw [hg] at h
   cases b with
   | false =>
    simp only at h
    split at h
    ·rename_i T1 hs
     have:=d6 hk h hK
     rw [ft hs] at this
     exact this
    ·cases h
   | true =>
    simp only at h
    split at h
    ·cases h
    ·rename_i r H1 nx1 hr
     simp only [gi] at h
     split at h
     ·rename_i T1 hs
      have:=d6 hk h hK
      rw [ft hs] at this
      exact mP (K:=fun r H nx=>ab P dm l (ag (toT T) o.d r) H nx K) hk hr this
     ·cases h
def fc (f:AV→AV→Bool):List AV→List AV→Bool
 | [],[]=>true
 | x :: l,y :: m=>match f x y with
  | true=>fc f l m
  | false=>false
 | _,_=>false
theorem hU {f:AV→AV→Bool} (h:∀ x y,f x y=true→x=y):∀ {l m:List AV},fc f l m=true→l=m
 | [],[],_=>rfl
 | [],_ :: _,h=>by cases h
 | _ :: _,[],h=>by cases h
 | x :: l,y :: m,he=>by
  simp only [fc] at he
  split at he
  ·rename_i hx
   rw [h _ _ hx,hU h he]
  ·cases he
def kg:Nat→AV→AV→Bool
 | 0,_,_=>false
 | k + 1,x,y=>match x with
  | .undef=>match y with
   | .undef=>true
   | _=>false
  | .bool a=>match y with
   | .bool b=>decide (a=b)
   | _=>false
  | .int j a=>match y with
   | .int i b=>decide (j=i) && decide (a=b)
   | _=>false
  | .str a=>match y with
   | .str b=>decide (a=b)
   | _=>false
  | .nilp=>match y with
   | .nilp=>true
   | _=>false
  | .nilf=>match y with
   | .nilf=>true
   | _=>false
  | .nilm=>match y with
   | .nilm=>true
   | _=>false
  | .esl=>match y with
   | .esl=>true
   | _=>false
  | .ptr b n o=>match y with
   | .ptr b' n' o'=>Nat.beq b b' && Nat.beq n n' && Nat.beq o o'
   | _=>false
  | .msl b n s o l=>match y with
   | .msl b' n' s' o' l'=>Nat.beq b b' && Nat.beq n n' && Nat.beq s s' && Nat.beq o o' && Nat.beq l l'
   | _=>false
  | .mp b=>match y with
   | .mp b'=>Nat.beq b b'
   | _=>false
  | .yld b=>match y with
   | .yld b'=>Nat.beq b b'
   | _=>false
  | .sl s l=>match y with
   | .sl s' l'=>Nat.beq s s' && fc (kg k) l l'
   | _=>false
  | .iptr l s=>match y with
   | .iptr l' s'=>Nat.beq s s' && fc (kg k) l l'
   | _=>false
  | .func s l=>match y with
   | .func s' l'=>Nat.beq s s' && fc (kg k) l l'
   | _=>false
  | .agg l=>match y with
   | .agg l'=>fc (kg k) l l'
   | _=>false
  | .tup l=>match y with
   | .tup l'=>fc (kg k) l l'
   | _=>false
  | _=>false
theorem mJ:∀ (k:Nat) (x y:AV),kg k x y=true→x=y
 | 0,_,_,h=>by cases h
 | k + 1,x,y,h=>by
  have ih:∀ {l m:List AV},fc (kg k) l m=true→l=m:=fun h=>hU (mJ k) h
  cases x <;> simp only [kg] at h <;> (try (cases h; done)) <;> cases y <;> simp only [Bool.and_eq_true,decide_eq_true_eq] at h <;> (try (cases h; done)) <;> (try rfl)
  ·rw [h]
  ·rw [h.1,h.2]
  ·rw [h]
  ·rw [Nat.eq_of_beq_eq_true h.1.1,Nat.eq_of_beq_eq_true h.1.2,Nat.eq_of_beq_eq_true h.2]
  ·rw [Nat.eq_of_beq_eq_true h.1,ih h.2]
  ·rw [Nat.eq_of_beq_eq_true h.1,ih h.2]
  ·rw [Nat.eq_of_beq_eq_true h.1.1.1.1,Nat.eq_of_beq_eq_true h.1.1.1.2,Nat.eq_of_beq_eq_true h.1.1.2,Nat.eq_of_beq_eq_true h.1.2,Nat.eq_of_beq_eq_true h.2]
  ·rw [show _=_ from Nat.eq_of_beq_eq_true h.1,ih h.2]
  ·rw [Nat.eq_of_beq_eq_true h]
  ·rw [Nat.eq_of_beq_eq_true h]
  ·rw [ih h]
  ·rw [ih h]
def loadAt (T:Tm):Ins→Option Nat
 | .ld1 a=>match ov T a with
  | .ptr b _ _=>some b
  | _=>none
 | .ldn _ a=>match ov T a with
  | .ptr b _ _=>some b
  | _=>none
 | _=>none
def fm:List (Op2 × Nat)→TT→HT→List Nat→List Nat
 | [],_,_,acc=>acc
 | (o,0) :: l,T,H,acc=>match g2 (toT T) o.g with
  | some true=>match ak (toT T) (bu H) o.i with
   | some r=>match stT T o.d r with
    | some T'=>match loadAt (toT T) o.i with
     | some b=>fm l T' H (b :: acc)
     | none=>fm l T' H acc
    | none=>acc
   | none=>fm l T H acc
  | _=>fm l T H acc
 | (_,_ + 1) :: l,T,H,acc=>fm l T H acc
def iR (H0 H:HT):List Nat→Bool
 | []=>true
 | b :: l=>match bu H0 b with
  | none=>iR H0 H l
  | some x=>match bu H b with
   | some y=>match fc (kg SF) x y with
    | true=>iR H0 H l
    | false=>false
   | none=>false
def ia (H0:HT) (ids:List Nat):Hp:=fun b=>match ids.elem b with
 | true=>bu H0 b
 | false=>none
theorem iz {H0 H:HT}:∀ {ids:List Nat},iR H0 H ids=true→∀ b cs,ids.elem b=true→bu H0 b=some cs→bu H b=some cs
 | [],_,b,cs,hb,_=>by cases hb
 | a :: l,h,b,cs,hb,hc=>by
  simp only [iR] at h
  have hb':b=a ∨ l.elem b=true:=by
   rw [List.elem_cons] at hb
   cases e:b == a with
   | true=>exact .inl (eq_of_beq e)
   | false=>rw [e] at hb; exact .inr hb
  split at h
  ·rename_i hn
   rcases hb' with rfl | hb'
   ·rw [hn] at hc; cases hc
   ·exact iz h b cs hb' hc
  ·rename_i x hx
   split at h
   ·rename_i y hy
    split at h
    ·rename_i he
     rcases hb' with rfl | hb'
     ·rw [hx] at hc; cases hc
      rw [hy,hU (mJ SF) he]
     ·exact iz h b cs hb' hc
    ·cases h
   ·cases h
theorem jC {L:LV} {H0 H:HT} {ids:List Nat} (h:iR H0 H ids=true):Sub (ia H0 ids) (toH L H):=fun b cs hb=>by
 unfold ia at hb
 split at hb
 ·rename_i he
  exact aS b cs (iz h b cs he hb)
 ·cases hb
def dY (cl:CL) (pc:PC) (yl:CL) (H0:HT) (ids:List Nat):List (Op2 × Nat)→TT→HT→Nat→Option (TT × HT × Nat)
 | [],T,H,nx=>some (T,H,nx)
 | (o,0) :: l,T,H,nx=>match g2 (toT T) o.g with
  | none=>none
  | some false=>match stT T o.d (.tup []) with
   | some T=>dY cl pc yl H0 ids l T H nx
   | none=>none
  | some true=>match ak (toT T) (ia H0 ids) o.i with
   | none=>none
   | some r=>frV r fun r=>match stT T o.d r with
    | some T=>dY cl pc yl H0 ids l T H nx
    | none=>none
 | (o,k + 1) :: l,T,H,nx=>match g2 (toT T) o.g with
  | none=>none
  | some false=>match stT T o.d (.tup []) with
   | some T=>dY cl pc yl H0 ids l T H nx
   | none=>none
  | some true=>if k=2 then (match kp (toT T) o.i with
      | none=>none
      | some r=>frV r fun r=>match stT T o.d r with
       | some T=>dY cl pc yl H0 ids l T H nx
       | none=>none)
   else match px cl pc yl .text o.i T H nx with
    | none=>none
    | some (r,H,nx)=>match (match k with | 0=>iR H0 H ids | _=>true) with
     | true=>frV r fun r=>match stT T o.d r with
      | some T=>dY cl pc yl H0 ids l T H nx
      | none=>none
     | false=>none
theorem cW {P:Program} {L:LV} {cl:CL} {pc:PC} {yl:CL} (hk:CLok P L cl pc yl) {H0:HT} {ids:List Nat} {K:SP}:∀ {l:List (Op2 × Nat)} {T T':TT} {H H':HT} {nx nx':Nat},
    dY cl pc yl H0 ids l T H nx=some (T',H',nx')→K (toT T') (toH L H') nx'→ar P (ia H0 ids) l (toT T) (toH L H) nx K
 | [],_,_,_,_,_,_,h,hK=>by cases h; exact hK
 | (o,0) :: l,T,T',H,H',nx,nx',h,hK=>by
  simp only [dY] at h
  show ap (g2 (toT T) o.g) _ _
  cases hg:g2 (toT T) o.g with
  | none=>rw [hg] at h; cases h
  | some b =>
   rw [hg] at h
   cases b with
   | false =>
    simp only at h
    split at h
    ·rename_i T1 hs
     have:=cW hk h hK
     rw [ft hs] at this
     exact this
    ·cases h
   | true =>
    simp only at h
    split at h
    ·cases h
    ·rename_i r hr
     simp only [gi] at h
     split at h
     ·rename_i T1 hs
      have:=cW hk h hK
      rw [ft hs] at this
      show af (ak (toT T) (ia H0 ids) o.i) _
      rw [hr]; exact this
     ·cases h
 | (o,k + 1) :: l,T,T',H,H',nx,nx',h,hK=>by
  simp only [dY] at h
  show ap (g2 (toT T) o.g) _ _
  cases hg:g2 (toT T) o.g with
  | none=>rw [hg] at h; cases h
  | some b =>
   rw [hg] at h
   cases b with
   | false =>
    simp only at h
    split at h
    ·rename_i T1 hs
     have:=cW hk h hK
     rw [ft hs] at this
     exact this
    ·cases h
   | true =>
    simp only at h
    show if k=2 then _ else _
    split at h
    ·rename_i h2
     rw [if_pos h2]
     split at h
     ·cases h
     ·rename_i r hr
      simp only [gi] at h
      split at h
      ·rename_i T1 hs
       have:=cW hk h hK
       rw [ft hs] at this
       rw [hr]; exact this
      ·cases h
    ·rename_i h2
     rw [if_neg h2]
     split at h
     ·cases h
     ·rename_i r H1 nx1 hr
      split at h
      ·rename_i hkeep
       simp only [gi] at h
       split at h
       ·rename_i T1 hs
        have:=cW hk h hK
        rw [ft hs] at this
        refine mP (K:=fun r H' nx'=>(k=0→Sub (ia H0 ids) H')∧ar P (ia H0 ids) l (ag (toT T) o.d r) H' nx' K) hk hr ⟨fun hk0=>?_,this⟩
        subst hk0
        exact jC hkeep
       ·cases h
      ·cases h
def rvs (T:Tm) (H:Hp):List RV→Option (List AV)
 | []=>some []
 | a :: l=>match rv T H a with
  | some x=>match rvs T H l with
   | some xs=>some (x :: xs)
   | none=>none
  | none=>none
def qp (T:Tm) (H:Hp):List RV→Option AV
 | []=>some (.tup [])
 | [a]=>rv T H a
 | [a,b]=>match rv T H a,rv T H b with
  | some x,some y=>some (.tup [x,y])
  | _,_=>none
 | [a,b,c]=>match rv T H a,rv T H b,rv T H c with
  | some x,some y,some z=>some (.tup [x,y,z])
  | _,_,_=>none
 | a :: b :: c :: d :: l=>(rvs T H (a :: b :: c :: d :: l)).map .tup
theorem k9 {T:Tm} {S H:Hp} (hs:Sub S H):∀ {l:List RV} {xs:List AV} {K:List AV→Prop},rvs T S l=some xs→K xs→nH T H l K
 | [],xs,K,h,hK=>by cases h; exact hK
 | a :: l,xs,K,h,hK=>by
  simp only [rvs] at h
  split at h
  ·rename_i x hx
   split at h
   ·rename_i ys hy
    cases h
    show af (rv T H a) _
    rw [fq hs hx]
    exact k9 hs hy hK
   ·cases h
  ·cases h
theorem o5 {T:Tm} {S H:Hp} (hs:Sub S H) {l:List RV} {r:AV} {K:AV→Prop} (h:qp T S l=some r) (hK:K r):aW T H K l:=by
 rcases l with _ | ⟨a,_ | ⟨b,_ | ⟨c,_ | ⟨d,l⟩⟩⟩⟩ <;> simp only [qp] at h
 ·cases h; exact hK
 ·exact r_1 (fq hs h) hK
 ·split at h
  ·rename_i x y hx hy
   cases h; exact r_2 (fq hs hx) (fq hs hy) hK
  ·cases h
 ·split at h
  ·rename_i x y z hx hy hz
   cases h; exact r_3 (fq hs hx) (fq hs hy) (fq hs hz) hK
  ·cases h
 ·cases ho:rvs T S (a :: b :: c :: d :: l) with
  | none=>rw [ho] at h; cases h
  | some xs =>
   rw [ho] at h
   cases h
   exact k9 hs ho hK
structure LFr where
 y:Nat
 ps:List Nat
 a:C2
 b:C2
 T:TT
abbrev RN:=List LFr→C2→TT→HT→Nat→Option (AEx × TT × HT × Nat)
def e8 (code:FuncId→Option F2) (rn:RN) (fr:List LFr):CL:=fun g args H nx =>
 match code g with
 | none=>none
 | some F=>if args.length ≤ F.n then match nM args with
     | none=>none
     | some T=>match rn fr F.body T H nx with
      | none=>none
      | some (e,T',H',nx')=>match e.ends with
       | true=>match qp (toT T') (bu H') F.res with
        | some r=>frV r fun r=>some (r,H',nx')
        | none=>none
       | false=>none
  else none
def fI (code:FuncId→Option F2) (rn:RN):PC:=fun g args H =>
 match aY (snapV ay SF) args with
 | some a=>match e8 code rn [] g a .leaf 0 with
  | some (v,H',_)=>snapV (bu H') SF v
  | none=>none
 | none=>match aY (snapV (bu H) SF) args with
  | some a=>match e8 code rn [] g a .leaf 0 with
   | some (v,H',_)=>match snapV (bu H') SF v with
    | some r=>match r.sca with
     | true=>some r
     | false=>dx (bu H') SF v
    | none=>none
   | none=>none
  | none=>none
def eH (H:Hp):Nat→List AV→List Nat→List Nat
 | 0,_,acc=>acc
 | _ + 1,[],acc=>acc
 | k + 1,x :: l,acc=>match x with
  | .msl b _ _ _ _=>match acc.elem b with
   | true=>eH H k l acc
   | false=>eH H k ((H b).getD [] ++ l) (b :: acc)
  | .ptr b _ _=>match acc.elem b with
   | true=>eH H k l acc
   | false=>eH H k ((H b).getD [] ++ l) (b :: acc)
  | .sl _ cs=>eH H k (cs ++ l) acc
  | .iptr cs _=>eH H k (cs ++ l) acc
  | .func _ cs=>eH H k (cs ++ l) acc
  | .agg cs=>eH H k (cs ++ l) acc
  | .tup cs=>eH H k (cs ++ l) acc
  | _=>eH H k l acc
def RF2:Nat:=100000
def fZ:List Nat→HT→Option HT
 | [],H=>some H
 | b :: l,H=>match PT.set LIM H b none with
  | some H=>fZ l H
  | none=>none
def og (code:FuncId→Option F2) (rn:RN):CL:=fun g args H nx =>
 match aY (snapV ay SF) args with
 | some a=>match e8 code rn [] g a .leaf 0 with
  | some (v,H',_)=>match snapV (bu H') SF v with
   | some r=>some (r,H,nx)
   | none=>none
  | none=>none
 | none=>match aY (snapV (bu H) SF) args with
  | some a=>match e8 code rn [] g a .leaf 0 with
   | some (v,H',_)=>match snapV (bu H') SF v with
    | some r=>match r.sca with
     | true=>some (r,H,nx)
     | false=>match dx (bu H') SF v with
      | some r=>some (r,H,nx)
      | none=>match fZ (eH (bu H) RF2 args []) H with
       | some H2=>match aY (snapV (fun b=>match (bu H2 b).isSome with | true=>none | false=>bu H b) SF) args with
        | some a2=>match e8 code rn [] g a2 .leaf 0 with
         | some (v,H',_)=>match snapV (bu H') SF v with
          | some r=>some (r,H2,nx)
          | none=>none
         | none=>none
        | none=>none
       | none=>none
    | none=>none
   | none=>none
  | none=>none
structure CT where
 c:FuncId→List AV→Nat→Option AV
 q:FuncId→List AV→Option AV
def qV:CT:=⟨fun _ _ _=>none,fun _ _=>none⟩
structure CTok (P:Program) (ct:CT):Prop where
 c:∀ (g:FuncId) (args:List AV) (nx:Nat) (r:AV),ct.c g args nx=some r→∀ (H:Hp) (R:AV→Hp→Nat→Prop),R r (ae H nx []) (nx + 1)→Fn P g args H nx R
 q:∀ (g:FuncId) (args:List AV) (r:AV),ct.q g args=some r→Pure P g args r
theorem ph {P:Program}:CTok P qV:=⟨fun _ _ _ _ h=>(by cases h),fun _ _ _ h=>(by cases h)⟩
def pB (q:FuncId→List AV→Option AV) (g:FuncId) (args:List AV):Option AV :=
 match aY (snapV ay SF) args with
 | some a=>q g a
 | none=>none
def gM (code:FuncId→Option F2) (pf:FuncId→Bool) (ct:CT) (rn:RN) (fr:List LFr):CL:=fun g args H nx =>
 match ct.c g args nx with
 | some r=>match PT.set LIM H nx (some (.cells [])) with
  | some H2=>some (r,H2,nx + 1)
  | none=>none
 | none=>match pf g with
  | true=>match pB ct.q g args with
   | some r=>some (r,H,nx)
   | none=>og code rn g args H nx
  | false=>e8 code rn fr g args H nx
def iP:List LFr→Nat→Option (LFr × List LFr)
 | [],_=>none
 | F :: l,y=>match Nat.beq F.y y with
  | true=>some (F,l)
  | false=>iP l y
def stL (T:TT):List Nat→List AV→Option TT
 | t :: ts,x :: xs=>match PT.set LIM T t (some x) with
  | some T=>stL T ts xs
  | none=>none
 | _,_=>some T
def oA:AEx→Bool
 | .normal=>true
 | _=>false
def lu (rn:RN) (fr:List LFr):CL:=fun y args H nx =>
 match iP fr y with
 | none=>none
 | some (F,l)=>match H.get y with
  | some (.mark none)=>match Nat.beq args.length F.ps.length with
   | true=>match stL F.T F.ps args with
    | none=>none
    | some T1=>match rn l F.a T1 H nx with
     | some (.normal,T2,H2,nx2)=>match H2.get y with
      | some (.mark none)=>match PT.set LIM H2 y none with
       | none=>none
       | some H3=>match rn l F.b T2 H3 nx2 with
        | none=>none
        | some (e,T4,H4,nx4)=>match e with
         | .normal=>match PT.set LIM H4 y (some (.mark none)) with
          | some H5=>some (.bool true,H5,nx4)
          | none=>none
         | e=>match PT.set LIM H4 y (some (.mark (some e))) with
          | some H5=>some (.bool false,H5,nx4)
          | none=>none
      | _=>none
     | _=>none
   | false=>none
  | _=>none
def qQ (m nx:Nat):DM:=match m with
 | 0=>.text
 | 1=>.draw
 | _=>.fresh nx
def mO (m nx:Nat):DM:=match m with
 | 1=>.draw
 | _=>.fresh nx
def kN (x:Option (TT × HT × Nat)):Option (AEx × TT × HT × Nat):=match x with
 | some (T,H,nx)=>some (.normal,T,H,nx)
 | none=>none
def run (code:FuncId→Option F2) (pf:FuncId→Bool) (ct:CT):Nat→RN
 | 0,_,_,_,_,_=>none
 | n + 1,fr,c,T,H,nx=>match c with
  | .skip=>some (.normal,T,H,nx)
  | .exit i=>some (.exit i,T,H,nx)
  | .ret=>some (.ret,T,H,nx)
  | .ops m l=>kN (jQ (gM code pf ct (run code pf ct n) fr) (fI code (run code pf ct n)) (lu (run code pf ct n) fr) (qQ m nx) l T H nx)
  | .mix m l C=>match Nat.beq m 9 with
   | true=>kN (jQ (gM code pf ct (run code pf ct n) fr) (fI code (run code pf ct n)) (lu (run code pf ct n) fr) .text (C.map fun k=>l.getD k ⟨none,none,.dead⟩) T H nx)
   | false=>match jQ (gM code pf ct (run code pf ct n) fr) (fI code (run code pf ct n)) (lu (run code pf ct n) fr) (mO m nx) l T H nx with
    | some x=>kN (some x)
    | none=>kN (jQ (gM code pf ct (run code pf ct n) fr) (fI code (run code pf ct n)) (lu (run code pf ct n) fr) .text (C.map fun k=>l.getD k ⟨none,none,.dead⟩) T H nx)
  | .mixS m l C=>match (match Nat.beq m 9 with
      | true=>none
      | false=>jQ (gM code pf ct (run code pf ct n) fr) (fI code (run code pf ct n)) (lu (run code pf ct n) fr) (mO m nx) l T H nx) with
   | some x=>kN (some x)
   | none=>match iR H H (fm (C.map fun k=>(l.getD k.1 ⟨none,none,.dead⟩,k.2)) T H []) with
    | true=>kN (dY (gM code pf ct (run code pf ct n) fr) (fI code (run code pf ct n)) (lu (run code pf ct n) fr) H (fm (C.map fun k=>(l.getD k.1 ⟨none,none,.dead⟩,k.2)) T H []) (C.map fun k=>(l.getD k.1 ⟨none,none,.dead⟩,k.2)) T H nx)
    | false=>none
  | .seq a b=>match run code pf ct n fr a T H nx with
   | some (.normal,T,H,nx)=>run code pf ct n fr b T H nx
   | r=>r
  | .cond c a b=>match ov (toT T) c with
   | .bool true=>run code pf ct n fr a T H nx
   | .bool false=>run code pf ct n fr b T H nx
   | _=>none
  | .block id b=>match run code pf ct n fr b T H nx with
   | some (e,T,H,nx)=>some (eM id e,T,H,nx)
   | none=>none
  | .loop b=>match run code pf ct n fr b T H nx with
   | some (.normal,T,H,nx)=>run code pf ct n fr (.loop b) T H nx
   | r=>r
  | .rangeF g ps a b=>match ov (toT T) g with
   | .func f caps=>match iP fr nx with
    | some _=>none
    | none=>match PT.set LIM H nx (some (.mark none)) with
     | none=>none
     | some H1=>match e8 code (run code pf ct n) (⟨nx,ps,a,b,T⟩ :: fr) f (.yld nx :: caps) H1 (nx + 1) with
      | none=>none
      | some (_,H2,nx2)=>match H2.get nx with
       | some (.mark st)=>match PT.set LIM H2 nx none with
        | none=>none
        | some H3=>match st with
         | none=>some (.normal,T,H3,nx2)
         | some e=>match oA e with
          | true=>none
          | false=>some (e,T,H3,nx2)
       | _=>none
   | _=>none
def ew (P:Program) (code:FuncId→Option F2):Prop:=∀ {f:FuncId} {F:F2},code f=some F→Is P f F
def bB (P:Program) (L:LV):List LFr→Prop
 | []=>True
 | F :: fr => (∀ (args : List AV) (H' : Hp) (nx' : Nat) (K' : AV → Hp → Nat → Prop), H' F.y = some (L F.y none) → args.length = F.ps.length →
       ai P F.a (dB (toT F.T) F.ps args) H' nx' (fun e T2 H2 nx2=>am e (H2 F.y=some (L F.y none)∧ai P F.b T2 (bl H2 F.y) nx2 fun e T3 H3 nx3=>am e (K' (.bool true) (ae H3 F.y (L F.y none)) nx3) (K' (.bool false) (ae H3 F.y (L F.y (some e))) nx3)) False) →
       Yl P F.y args H' nx' K')∧bB P L fr
def pG:List Nat→FuncId→Bool
 | [],_=>false
 | k :: l,f=>match Nat.beq k f with
  | true=>true
  | false=>pG l f
theorem kB {P:Program} {L:LV}:∀ {fr:List LFr} {y:Nat} {F:LFr} {l:List LFr},bB P L fr→iP fr y=some (F,l)→F.y=y∧bB P L (F :: l)
 | [],_,_,_,_,h=>by cases h
 | G :: fr,y,F,l,hf,h=>by
  simp only [iP] at h
  split at h
  ·rename_i e
   cases h
   exact ⟨Nat.eq_of_beq_eq_true e,hf⟩
  ·exact kB hf.2 h
theorem i0 {P:Program} {L L':LV} {y:Nat} (hL:∀ b e,b ≠ y→L' b e=L b e):∀ {fr:List LFr},bB P L fr→iP fr y=none→bB P L' fr
 | [],_,_=>trivial
 | G :: fr,hf,h=>by
  simp only [iP] at h
  split at h
  ·cases h
  ·rename_i e
   have hne:G.y ≠ y:=fun he=>by rw [he,Nat.beq_refl] at e; cases e
   refine ⟨?_,i0 hL hf.2 h⟩
   have h1:∀ e,L' G.y e=L G.y e:=fun e=>hL _ _ hne
   simp only [h1]
   exact hf.1
theorem n6:∀ {ts:List Nat} {xs:List AV} {T T':TT},stL T ts xs=some T'→toT T'=dB (toT T) ts xs
 | [],_,_,_,h=>by cases h; rfl
 | _ :: _,[],_,_,h=>by cases h; rfl
 | t :: ts,x :: xs,T,T',h=>by
  simp only [stL] at h
  split at h
  ·rename_i T1 h1
   rw [n6 h,j9 h1]
   rfl
  ·cases h
structure RunOk (P:Program) (rn:RN):Prop where
 ok:∀ {L:LV} {fr:List LFr} {c:C2} {T T':TT} {H H':HT} {nx nx':Nat} {e:AEx} {K:CP},bB P L fr→rn fr c T H nx=some (e,T',H',nx')→K e (toT T') (toH L H') nx'→ai P c (toT T) (toH L H) nx K
theorem bz {P:Program} {code:FuncId→Option F2} (hc:ew P code) {rn:RN} (hr:RunOk P rn) {L:LV} {fr:List LFr} (hf:bB P L fr) {g:FuncId} {args:List AV} {H H':HT} {nx nx':Nat} {r:AV}
    (h:e8 code rn fr g args H nx=some (r,H',nx')):∃ F,Is P g F∧args.length ≤ F.n∧∀ K:AV→Hp→Nat→Prop,K r (toH L H') nx'→ai P F.body (T0 args) (toH L H) nx fun e T H nx=>ao e.ends (aW T H (fun x=>K x H nx) F.res):=by
 unfold e8 at h
 split at h
 ·cases h
 ·rename_i F hF
  split at h
  ·rename_i hl
   split at h
   ·cases h
   ·rename_i T hT
    split at h
    ·cases h
    ·rename_i e T' H1 nx1 hrun
     split at h
     ·rename_i he
      split at h
      ·rename_i r1 hres
       simp only [gi] at h
       cases h
       refine ⟨F,hc hF,hl,fun K hK=>?_⟩
       rw [← ny hT]
       exact hr.ok hf hrun ⟨he,o5 aS hres hK⟩
      ·cases h
     ·cases h
  ·cases h
def L0:LV:=fun _ _=>[]
theorem n8 {P:Program} {code:FuncId→Option F2} (hm:P.follows .mixedOrders=true) (hc:ew P code) {rn:RN} (hr:RunOk P rn) {L:LV} {g:FuncId} {args:List AV} {H:HT} {r:AV} (h:fI code rn g args H=some r):ey P g args (toH L H) r:=by
    have hf0:bB P L0 []:=trivial
    have n0:Sub ay ay:=fun _ _ h=>h
    unfold fI at h
    split at h
    ·rename_i a ha
     split at h
     ·rename_i v H' nx' hcall
      obtain ⟨F,h1,h2,h3⟩:=bz hc hr hf0 hcall
      have hp:Pure P g a r:=Pure.of_c2 hm h1 h2 (h3 (fun x H _=>Snap H x r) (bi aS _ h))
      obtain ⟨o1,o2⟩:=a5 ha
      exact hp.callOk (.inl ⟨o1,fun i x y hx hy=>bi n0 _ (o2 i x y hx hy)⟩)
     ·cases h
    ·split at h
     ·rename_i a ha
      obtain ⟨o1,o2⟩:=a5 ha
      have hs:al (toH L H) args a:=⟨o1,fun i x y hx hy=>bi aS _ (o2 i x y hx hy)⟩
      split at h
      ·rename_i v H' nx' hcall
       obtain ⟨F,h1,h2,h3⟩:=bz hc hr hf0 hcall
       split at h
       ·rename_i r1 hr1
        split at h
        ·rename_i hsc
         cases h
         have hp:Pure P g a r:=Pure.of_c2 hm h1 h2 (h3 (fun x H _=>Snap H x r) (bi aS _ hr1))
         exact hp.callOk (.inr ⟨hs,hsc⟩)
        ·have hp:ee P g a r:=ee.of_c2 hm h1 h2 (h3 (fun x H _=>SnapF H x r) (gd aS _ h))
         exact hp.callOk hs
       ·cases h
      ·cases h
     ·cases h
theorem hO:∀ {l:List Nat} {H H2:HT},fZ l H=some H2→∀ {b:Nat} {c:BC},H2.get b=some c→H.get b=some c
 | [],_,_,h,_,_,hb=>by cases h; exact hb
 | b :: l,H,H2,h,b',c,hb=>by
  simp only [fZ] at h
  split at h
  ·rename_i H1 h1
   have:=hO h hb
   rw [PT.get_set _ h1] at this
   split at this
   ·cases this
   ·exact this
  ·cases h
theorem gg {L:LV}:∀ {l:List Nat} {H H2:HT},fZ l H=some H2→∀ b cs,toH L H2 b=some cs→toH L H b=some cs
 | [],_,_,h=>by cases h; exact fun _ _ h=>h
 | b :: l,H,H2,h=>by
  simp only [fZ] at h
  split at h
  ·rename_i H1 h1
   intro b' cs hb
   have:=gg h b' cs hb
   rw [j2 h1] at this
   exact (eR this).2
  ·cases h
theorem nL {P:Program} {code:FuncId→Option F2} (hm:P.follows .mixedOrders=true) (hc:ew P code) {rn:RN} (hr:RunOk P rn) {L:LV} {g:FuncId} {args:List AV} {H H2:HT} {nx nx':Nat} {r:AV} {R:AV→Hp→Nat→Prop} (h:og code rn g args H nx=some (r,H2,nx')) (hR:R r (toH L H2) nx'):Fn P g args (toH L H) nx R:=by
 have hf0:bB P L0 []:=trivial
 have n0:Sub ay ay:=fun _ _ h=>h
 unfold og at h
 split at h
 ·rename_i a ha
  split at h
  ·rename_i v H' nx1 hcall
   split at h
   ·rename_i r1 hr1
    cases h
    obtain ⟨F,h1,h2,h3⟩:=bz hc hr hf0 hcall
    have hp:Pure P g a r:=Pure.of_c2 hm h1 h2 (h3 (fun x H _=>Snap H x r) (bi aS _ hr1))
    obtain ⟨o1,o2⟩:=a5 ha
    exact Fn.of_pure hp (.inl ⟨o1,fun i x y hx hy=>bi n0 _ (o2 i x y hx hy)⟩) hR
   ·cases h
  ·cases h
 ·split at h
  ·rename_i a ha
   obtain ⟨o1,o2⟩:=a5 ha
   have hs:al (toH L H) args a:=⟨o1,fun i x y hx hy=>bi aS _ (o2 i x y hx hy)⟩
   split at h
   ·rename_i v H' nx1 hcall
    obtain ⟨F,h1,h2,h3⟩:=bz hc hr hf0 hcall
    split at h
    ·rename_i r1 hr1
     split at h
     ·rename_i hsc
      cases h
      have hp:Pure P g a r:=Pure.of_c2 hm h1 h2 (h3 (fun x H _=>Snap H x r) (bi aS _ hr1))
      exact Fn.of_pure hp (.inr ⟨hs,hsc⟩) hR
     ·split at h
      ·rename_i r2 hr2
       cases h
       have hp:ee P g a r:=ee.of_c2 hm h1 h2 (h3 (fun x H _=>SnapF H x r) (gd aS _ hr2))
       exact Fn.of_callOk (hp.callOk hs) hR
      ·split at h
       ·rename_i H3 bl
        split at h
        ·rename_i a2 ha2
         obtain ⟨q1,q2⟩:=a5 ha2
         split at h
         ·rename_i v2 H4 nx4 hcall2
          obtain ⟨F2,k1,k2,k3⟩:=bz hc hr hf0 hcall2
          split at h
          ·rename_i r2 hr2
           cases h
           have hp:Pure P g a2 r:=Pure.of_c2 hm k1 k2 (k3 (fun x H _=>Snap H x r) (bi aS _ hr2))
           have hsubF:Sub (fun b=>match (bu H2 b).isSome with | true=>none | false=>bu H b) (fun b=>match (bu H2 b).isSome with | true=>none | false=>bu H b):=fun _ _ h=>h
           refine Fn.of_pureZ (Hf:=fun b=>match (bu H2 b).isSome with | true=>none | false=>bu H b) hp (fun b cs hb=>?_) (fun b cs hb=>⟨gg bl b cs hb,?_⟩) ⟨q1,fun i x y hx hy=>bi hsubF _ (q2 i x y hx hy)⟩ hR
           ·split at hb
            ·cases hb
            ·exact aS b cs hb
           ·split
            ·rfl
            ·rename_i hn
             have:=gg bl b cs hb
             unfold bu at hn ⊢
             unfold toH at hb this
             cases hg:H2.get b with
             | none=>rw [hg] at hb; cases hb
             | some c =>
              cases c with
              | cells cs'=>rw [hg] at hn; cases hn
              | mark e =>
               cases hg2:H.get b with
               | none=>rfl
               | some c2=>cases c2 with
                | mark e2=>rfl
                | cells cs2=>exact absurd (hO bl hg) (by rw [hg2]; intro h; cases h)
          ·cases h
         ·cases h
        ·cases h
       ·cases h
    ·cases h
   ·cases h
  ·cases h
theorem nY {P:Program} {code:FuncId→Option F2} {pf:FuncId→Bool} {ct:CT} (hm:P.follows .mixedOrders=true) (hc:ew P code) (hct:CTok P ct) {rn:RN} (hr:RunOk P rn) {L:LV} {fr:List LFr} (hf:bB P L fr):CLok P L (gM code pf ct rn fr) (fI code rn) (lu rn fr) where
 cl:=fun {g args H H' nx nx' r R} h hR=>by
  unfold gM at h
  split at h
  ·rename_i hx
   split at h
   ·rename_i hset
    cases h
    rw [cm hset] at hR
    exact hct.c _ _ _ _ hx _ _ hR
   ·cases h
  split at h
  ·split at h
   ·rename_i hq
    cases h
    unfold pB at hq
    split at hq
    ·rename_i a ha
     obtain ⟨o1,o2⟩:=a5 ha
     have n0:Sub ay ay:=fun _ _ h=>h
     exact Fn.of_pure (hct.q _ _ _ hq) (.inl ⟨o1,fun i x y hx hy=>bi n0 _ (o2 i x y hx hy)⟩) hR
    ·cases hq
   ·exact nL hm hc hr h hR
  ·obtain ⟨F,h1,h2,h3⟩:=bz hc hr hf h
   exact Fn.of_c2 hm h1 h2 (h3 _ hR)
 pc:=fun {g args H r} h=>n8 hm hc hr h
 yl:=fun {y args H H' nx nx' r R} h hR=>by
  unfold lu at h
  split at h
  ·cases h
  ·rename_i F l hF
   obtain ⟨rfl,hfr⟩:=kB hf hF
   obtain ⟨hy,hl⟩:=hfr
   split at h
   ·rename_i hg
    split at h
    ·rename_i hlen
     split at h
     ·cases h
     ·rename_i T1 hT1
      split at h
      ·rename_i T2 H2 nx2 hrun
       split at h
       ·rename_i hg2
        split at h
        ·cases h
        ·rename_i H3 hdel3
         split at h
         ·cases h
         ·rename_i e T4 H4 nx4 hrun2
          refine hy args (toH L H) nx R (by simp only [toH,hg,bcL]) (Nat.eq_of_beq_eq_true hlen) ?_
          rw [← n6 hT1]
          refine hr.ok (K:=fun e T2 H2 nx2=>am e (H2 F.y=some (L F.y none)∧ai P F.b T2 (bl H2 F.y) nx2 fun e T3 H3 nx3=>am e (R (.bool true) (ae H3 F.y (L F.y none)) nx3) (R (.bool false) (ae H3 F.y (L F.y (some e))) nx3)) False) hl hrun ⟨by simp only [toH,hg2,bcL],?_⟩
          rw [← j2 hdel3]
          refine hr.ok hl hrun2 ?_
          cases e with
          | normal =>
           simp only at h
           split at h
           ·rename_i H5 h5
            cases h
            rw [fO h5] at hR
            exact hR
           ·cases h
          | exit i =>
           simp only at h
           split at h
           ·rename_i H5 h5
            cases h
            rw [fO h5] at hR
            exact hR
           ·cases h
          | ret =>
           simp only at h
           split at h
           ·rename_i H5 h5
            cases h
            rw [fO h5] at hR
            exact hR
           ·cases h
       ·cases h
      ·cases h
    ·cases h
   ·cases h
theorem eT {x:Option (TT × HT × Nat)} {e:AEx} {T:TT} {H:HT} {nx:Nat} (h:kN x=some (e,T,H,nx)):x=some (T,H,nx)∧e=.normal:=by
 unfold kN at h
 split at h
 ·cases h; exact ⟨rfl,rfl⟩
 ·cases h
theorem nQ {P:Program} {code:FuncId→Option F2} {pf:FuncId→Bool} {ct:CT} (hm:P.follows .mixedOrders=true) (hc:ew P code) (hct:CTok P ct):∀ n,RunOk P (run code pf ct n)
 | 0=>⟨fun _ h=>by cases h⟩
 | n + 1=>by
  refine ⟨?_⟩
  intro L fr c T T' H H' nx nx' e K hf h hK
  have ih:RunOk P (run code pf ct n):=nQ hm hc hct n
  have hk:=nY (pf:=pf) (ct:=ct) hm hc hct ih hf
  cases c with
  | skip=>cases h; exact hK
  | exit i=>cases h; exact hK
  | ret=>cases h; exact hK
  | ops m l =>
   obtain ⟨h1,rfl⟩:=eT h
   have:=d6 hk (K:=K .normal) h1 hK
   refine ⟨_,_,_,_,Gh.refl _ _ _,?_⟩
   unfold qQ at this
   exact this
  | mix m l C =>
   simp only [run] at h
   split at h
   ·obtain ⟨h1,rfl⟩:=eT h
    exact .inr ⟨_,_,_,_,Gh.refl _ _ _,d6 hk (K:=K .normal) h1 hK⟩
   ·rename_i hb
    split at h
    ·rename_i x hx
     obtain ⟨h1,rfl⟩:=eT h
     cases h1
     have:=d6 hk (K:=K .normal) hx hK
     refine .inl ⟨fun e=>?_,_,_,_,_,Gh.refl _ _ _,?_⟩
     ·subst e; cases hb
     ·unfold mO at this; exact this
    ·obtain ⟨h1,rfl⟩:=eT h
     exact .inr ⟨_,_,_,_,Gh.refl _ _ _,d6 hk (K:=K .normal) h1 hK⟩
  | mixS m l C =>
   simp only [run] at h
   split at h
   ·rename_i x hx
    split at hx
    ·cases hx
    ·rename_i hb
     obtain ⟨h1,rfl⟩:=eT h
     cases h1
     have:=d6 hk (K:=K .normal) hx hK
     refine .inl ⟨fun e=>?_,_,_,_,_,Gh.refl _ _ _,?_⟩
     ·subst e; cases hb
     ·unfold mO at this; exact this
   ·split at h
    ·rename_i hkeep
     obtain ⟨h1,rfl⟩:=eT h
     exact .inr ⟨_,_,_,_,_,Gh.refl _ _ _,jC hkeep,cW hk (K:=K .normal) h1 hK⟩
    ·cases h
  | seq a b =>
   simp only [run] at h
   split at h
   ·rename_i T1 H1 nx1 h1
    exact oh (ih.ok (K:=fun e T H nx=>am e (ai P b T H nx K) (K e T H nx)) hf h1 (ih.ok hf h hK))
   ·rename_i hne
    refine oh (ih.ok (K:=fun e T H nx=>am e (ai P b T H nx K) (K e T H nx)) hf h ?_)
    cases e with
    | normal=>exact absurd h (hne _ _ _)
    | exit i=>exact hK
    | ret=>exact hK
  | cond c a b =>
   simp only [run] at h
   split at h
   ·rename_i hv
    exact jP hv (ih.ok hf h hK)
   ·rename_i hv
    exact jR hv (ih.ok hf h hK)
   ·cases h
  | block id b =>
   simp only [run] at h
   split at h
   ·rename_i e1 T1 H1 nx1 h1
    cases h
    exact mB (ih.ok (K:=fun e T H nx=>K (eM id e) T H nx) hf h1 hK)
   ·cases h
  | loop b =>
   simp only [run] at h
   split at h
   ·rename_i T1 H1 nx1 h1
    obtain ⟨k,hl⟩:=ih.ok hf h hK
    exact ⟨k + 1,_,_,_,_,Gh.refl _ _ _,ih.ok (K:=fun e T H nx=>am e (gj (ai P b) K k T H nx) (K e T H nx)) hf h1 hl⟩
   ·rename_i hne
    refine ⟨1,_,_,_,_,Gh.refl _ _ _,ih.ok (K:=fun e T H nx=>am e (gj (ai P b) K 0 T H nx) (K e T H nx)) hf h ?_⟩
    cases e with
    | normal=>exact absurd h (hne _ _ _)
    | exit i=>exact hK
    | ret=>exact hK
  | rangeF g ps a b =>
   simp only [run] at h
   split at h
   ·rename_i f caps hg
    split at h
    ·cases h
    ·rename_i hnone
     split at h
     ·cases h
     ·rename_i H1 hset
      split at h
      ·cases h
      ·rename_i v H2 nx2 hcall
       split at h
       ·rename_i st hst
        split at h
        ·cases h
        ·rename_i H3 hdel3
         refine oF hg fun c0 cj hy=>?_
         let L':LV:=fun b e=>if b=nx then (match e with | none=>[c0] | some e=>[cj e]) else L b e
         have hL:∀ b e,b ≠ nx→L' b e=L b e:=fun b e hb=>if_neg hb
         have hn:L' nx none=[c0]:=if_pos rfl
         have hs:∀ e,L' nx (some e)=[cj e]:=fun e=>if_pos rfl
         have hf':bB P L' (⟨nx,ps,a,b,T⟩ :: fr):=by
          refine ⟨?_,i0 hL hf hnone⟩
          intro args H' nx' K' h1 h2 h3
          simp only [hn,hs] at h1 h3
          exact hy args H' nx' K' h1 h2 h3
         have e1:ae (toH L H) nx [c0]=toH L' H1:=by
          rw [fO hset,hn]
          funext m
          simp only [ae]
          split
          ·rfl
          ·rename_i hm
           simp only [toH]
           cases H.get m with
           | none=>rfl
           | some x=>cases x with
            | cells cs=>rfl
            | mark e=>simp only [bcL,hL m e hm]
         have e2:bl (toH L' H2) nx=toH L H3:=by
          rw [j2 hdel3]
          funext m
          simp only [bl]
          split
          ·rfl
          ·rename_i hm
           simp only [toH]
           cases H2.get m with
           | none=>rfl
           | some x=>cases x with
            | cells cs=>rfl
            | mark e=>simp only [bcL,hL m e hm]
         rw [e1]
         obtain ⟨F,k1,k2,k3⟩:=bz hc ih hf' hcall
         refine Fn.of_c2 hm k1 k2 (k3 _ ?_)
         cases st with
         | none =>
          cases h
          left
          refine ⟨by simp only [toH,hst,bcL,hn],?_⟩
          rw [e2]; exact hK
         | some e1' =>
          simp only at h
          split at h
          ·cases h
          ·rename_i hnn
           cases h
           right
           refine ⟨e,(fun hh=>by rw [hh] at hnn; cases hnn),by simp only [toH,hst,bcL,hs],?_⟩
           rw [e2]; exact hK
       ·cases h
   ·cases h
def pS (code:FuncId→Option F2) (pf:FuncId→Bool) (ct:CT) (n:Nat) (f:FuncId) (args:List AV) (good:AV→Bool):Bool :=
 match e8 code (run code pf ct n) [] f args .leaf 0 with
 | some (v,H',_)=>match snapV (bu H') SF v with
  | some r=>good r
  | none=>false
 | none=>false
theorem Pure.of_runC {P:Program} {code:FuncId→Option F2} {pf:FuncId→Bool} {ct:CT} (hm:P.follows .mixedOrders=true) (hc:ew P code) (hct:CTok P ct) {n:Nat} {f:FuncId} {args:List AV} {good:AV→Bool} {r:AV} (h:pS code pf ct n f args good=true) (hg:∀ x,good x=true→x=r):Pure P f args r:=by
 unfold pS at h
 split at h
 ·rename_i v H' nx' hcall
  split at h
  ·rename_i r1 hr1
   have:=hg _ h
   subst this
   obtain ⟨F,h1,h2,h3⟩:=bz hc (nQ hm hc hct n) (L:=L0) (fr:=[]) trivial hcall
   exact Pure.of_c2 hm h1 h2 (h3 (fun x H _=>Snap H x r1) (bi aS _ hr1))
  ·cases h
 ·cases h
theorem Pure.of_run {P:Program} {code:FuncId→Option F2} {pf:FuncId→Bool} (hm:P.follows .mixedOrders=true) (hc:ew P code) {n:Nat} {f:FuncId} {args:List AV} {good:AV→Bool} {r:AV} (h:pS code pf qV n f args good=true) (hg:∀ x,good x=true→x=r):Pure P f args r :=
 Pure.of_runC hm hc ph h hg
def isTrue:AV→Bool | .bool true=>true | _=>false
theorem nz:∀ x,isTrue x=true→x=.bool true:=by
 intro x h
 cases x <;> try (cases h; done)
 rename_i b
 cases b
 ·cases h
 ·rfl
def lookup:List (Nat × F2)→FuncId→Option F2
 | [],_=>none
 | (k,F) :: l,f=>match Nat.beq k f with
  | true=>some F
  | false=>lookup l f
theorem mS {P:Program}:ew P (lookup []):=fun h=>by cases h
theorem aa {P:Program} {k:Nat} {F:F2} {l:List (Nat × F2)} (h:Is P k F) (hs:ew P (lookup l)):ew P (lookup ((k,F) :: l)):=fun {f F'} hf=>by
 simp only [lookup] at hf
 split at hf
 ·rename_i e
  cases hf
  rw [Nat.eq_of_beq_eq_true e] at h
  exact h
 ·exact hs hf
end Go.Abs
namespace Go.Abs
open Go Go.RowKit
def jE (W:World):Nat→Prop:=fun b=>b < W.heap.size
theorem nc {W:World} {a:Addr} {v:Value} (h:W.cell? a=some v):jE W a.block∧a.spot=none:=by
 unfold World.cell? at h
 unfold jE
 cases hb:W.heap[a.block]? with
 | none=>simp [hb] at h
 | some o =>
  refine ⟨(Array.getElem?_eq_some_iff.1 hb).1,?_⟩
  cases hs:a.spot with
  | none=>rfl
  | some s=>cases o <;> simp [hb,hs] at h
section
variable {H:Type} {enc:TypeId × Value→H} {P:Program} {W:World}
def bZ (enc:TypeId × Value→H) (P:Program) (W:World) (t:TypeId) {α:Type} (f:α→AV) (good:α→Prop):Prop :=
 ∀ (n:Nat) (cs:List Value) (x:DataW H × List MemPlace),DataW.trod enc P W 0 (fun _=>true) true n t cs=some x→(∀ k ∈ x.1.weights P t,k ≤ reachBytes)→∃ a:α,good a∧aX (E0 (jE W)) W (f a).cells cs
theorem bZ.mono {t:TypeId} {α:Type} {f:α→AV} {good good':α→Prop} (h:bZ enc P W t f good) (hg:∀ a,good a→good' a):bZ enc P W t f good' :=
 fun n cs x hx hw=>let ⟨a,h1,h2⟩:=h n cs x hx hw; ⟨a,hg a h1,h2⟩
theorem ik {E:Env} {w:World} {x:AV} {y:Value} (h:Rel E w x y):aX E w [x] [y]:=⟨rfl,fun i a b ha hb=>by
 cases i with
 | zero=>simp at ha hb; subst ha hb; exact h
 | succ i=>simp at ha⟩
theorem aX.app {E:Env} {w:World} {xs xs':List AV} {ys ys':List Value} (h:aX E w xs ys) (h':aX E w xs' ys'):aX E w (xs ++ xs') (ys ++ ys'):=by
 have hl:xs.length=ys.length:=h.1.symm
 refine ⟨by simp [h.1,h'.1],fun i a b ha hb=>?_⟩
 by_cases hi:i < xs.length
 ·rw [List.getElem?_append_left hi] at ha
  rw [List.getElem?_append_left (by omega)] at hb
  exact h.2 i a b ha hb
 ·rw [List.getElem?_append_right (by omega)] at ha
  rw [List.getElem?_append_right (by omega)] at hb
  rw [hl] at ha
  exact h'.2 _ a b ha hb
theorem nj {t:TypeId} {k:IntKind} (ht:P.underlying t=some (.int k)):bZ enc P W t (AV.int k) (fun n=>(Lit.int k n).wf=true):=fun n cs x hx _=>by
 obtain ⟨a,rfl,rfl,hw⟩:=DataW.trod_int ht hx
 exact ⟨a,hw,ik (.int _ _)⟩
theorem iX {e:TypeId} {l:List (DataW H)} {d:DataW H} (h:d ∈ l) {k:Nat} (hk:k ∈ d.weights P e):k ∈ DataW.weightsAll P e l:=by
 induction l with
 | nil=>cases h
 | cons a l ih =>
  unfold DataW.weightsAll
  rcases List.mem_cons.1 h with rfl | h
  ·exact List.mem_append_left _ hk
  ·exact List.mem_append_right _ (ih h)
theorem lq {α:Type} {len:Nat} {Q:Nat→α→Prop} (h:∀ i,i < len→∃ a,Q i a):∃ l:List α,l.length=len∧∀ i a,l[i]?=some a→Q i a:=by
 induction len with
 | zero=>exact ⟨[],rfl,fun i a h=>by simp at h⟩
 | succ n ih =>
  obtain ⟨l,h1,h2⟩:=ih (fun i hi=>h i (by omega))
  obtain ⟨a,ha⟩:=h n (by omega)
  refine ⟨l ++ [a],by simp [h1],fun i b hb=>?_⟩
  by_cases hi:i < l.length
  ·rw [List.getElem?_append_left hi] at hb; exact h2 i b hb
  ·rw [List.getElem?_append_right (by omega)] at hb
   have:i - l.length=0:=by
    by_cases h0:i - l.length=0
    ·exact h0
    ·rw [List.getElem?_eq_none (by simp; omega)] at hb; cases hb
   rw [this] at hb; simp at hb; subst hb
   have:i=n:=by omega
   subst this; exact ha
theorem lb {t e:TypeId} {sz by_:Nat} {α:Type} {f:α→AV} {good:α→Prop} (ht:P.underlying t=some (.slice e)) (hsz:P.cellsOf e=sz) (hby:P.bytesOf e=by_) (hpos:0 < sz) (hc:∀ a,(f a).cells.length=sz)
    (he:bZ enc P W e f good):bZ enc P W t (lI sz f) (fun l=>(∀ a ∈ l,good a)∧l.length ≤ 9223372036854775807∧l.length * by_ ≤ 140737488351232):=fun n cs x hx hw=>by
 rcases Go.Deep.open_slice ht hx with ⟨rfl,rfl⟩ | ⟨a,len,cap,m,n',D,Pl,rfl,hb,hlc,hcm,hm,hxe,hel⟩
 ·exact ⟨[],⟨fun _ h=>(by cases h),by simp,by simp⟩,ik (.slnil _)⟩
 simp only [if_true] at hm
 subst hxe
 subst hm
 have hw':∀ k ∈ ((DataW.slice (H:=H) ((List.range len).map D) ((List.range (m - len)).map fun j=>D (len + j))).weights P t),k ≤ reachBytes:=hw
 simp only [DataW.weights,ht] at hw'
 have hlen:(((List.range len).map D).length + ((List.range (m - len)).map fun j=>D (len + j)).length) * P.bytesOf e ≤ reachBytes:=hw' _ (List.mem_cons_self ..)
 have hbd:len * by_ ≤ 140737488351232:=by
  rw [hby] at hlen
  simp only [List.length_map,List.length_range] at hlen
  have h1:len * by_ ≤ (len + (m - len)) * by_:=Nat.mul_le_mul_right _ (by omega)
  have h2:reachBytes=140737488351232:=rfl
  omega
 have hlm:len ≤ 9223372036854775807:=Nat.le_trans hlc hcm
 have key:∀ i,i < len→∃ a':α,good a'∧∃ cs',W.cells? 0 (a.add (i * sz)) sz=some cs'∧aX (E0 (jE W)) W (f a').cells cs':=fun i hi=>by
  obtain ⟨cs',h1,h2⟩:=hel i (by omega)
  rw [hsz] at h1
  obtain ⟨a',g1,g2⟩:=he n' cs' _ h2 (fun k hk=>hw' k (List.mem_cons_of_mem _ (List.mem_append_left _ (iX (List.mem_map.2 ⟨i,List.mem_range.2 hi,rfl⟩) hk))))
  exact ⟨a',g1,cs',h1,g2⟩
 obtain ⟨l,hl,hq⟩:=lq key
 refine ⟨l,⟨fun x hx=>?_,by omega,by rw [hl]; exact hbd⟩,ik ?_⟩
 ·obtain ⟨i,hi⟩:=List.getElem?_of_mem hx
  exact (hq i x hi).1
 by_cases h0:len=0
 ·subst h0
  have:l=[]:=List.length_eq_zero_iff.1 hl
  subst this
  exact .slempty _ _ _
 have hcell:∀ i j,i < len→j < sz→∃ v,W.cell? ((a.add (i * sz)).add j)=some v:=fun i j hi hj=>by
  obtain ⟨a',_,cs',h1,h2⟩:=key i hi
  unfold World.cells? at h1
  rw [if_pos (Nat.zero_le _)] at h1
  have h3:=mapM_some_get h1 j j (by simp [hj])
  have h4:j < cs'.length:=by
   have:=mapM_some_length h1
   simp at this; omega
  exact ⟨cs'[j],by rw [h3]; simp [h4]⟩
 obtain ⟨v0,hv0⟩:=hcell 0 0 (by omega) hpos
 have ho:=nc hv0
 simp only [Nat.zero_mul,Addr.add,if_true] at ho
 obtain ⟨blk,off,sp⟩:=a
 obtain ⟨ho,hsp⟩:=ho
 simp only at hsp ho
 subst hsp
 have hadd:∀ i j,((⟨blk,off,none⟩:Addr).add (i * sz)).add j=⟨blk,off + (i * sz + j),none⟩:=fun i j=>by
  rw [aM,aM,Nat.add_assoc]
 have hcell':∀ k,k < len * sz→∃ v,W.cell? ⟨blk,off + k,none⟩=some v:=fun k hk=>by
  have h1:k / sz < len:=Nat.div_lt_of_lt_mul (by rw [Nat.mul_comm]; exact hk)
  have h2:k % sz < sz:=Nat.mod_lt _ hpos
  obtain ⟨v,hv⟩:=hcell (k / sz) (k % sz) h1 h2
  rw [hadd,Nat.div_add_mod'] at hv
  exact ⟨v,hv⟩
 have hlen2:(l.map f).length=len:=by simp [hl]
 have:=Rel.sl (E:=E0 (jE W)) (w:=W) sz (l.map f) blk off m (fun k=>(W.cell? ⟨blk,off + k,none⟩).getD Go.undef) ho (by rw [hlen2]; exact hlc)
  (fun x hx=>by obtain ⟨b,_,rfl⟩:=List.mem_map.1 hx; exact hc b)
  (fun k hk=>by
   rw [hlen2] at hk
   obtain ⟨v,hv⟩:=hcell' k hk
   simp only [hv,Option.getD_some])
  (fun i j x y hx hy=>by
   rw [List.getElem?_map,Option.map_eq_some_iff] at hx
   obtain ⟨a',ha',rfl⟩:=hx
   obtain ⟨_,cs',h1,h2⟩:=hq i a' ha'
   have hj:j < sz:=by
    have:=(List.getElem?_eq_some_iff.1 hy).1
    rwa [hc] at this
   have hi:i < len:=by
    have:=(List.getElem?_eq_some_iff.1 ha').1
    omega
   unfold World.cells? at h1
   rw [if_pos (Nat.zero_le _)] at h1
   have h3:=mapM_some_get h1 j j (by simp [hj])
   have h4:j < cs'.length:=by
    have:=mapM_some_length h1
    simp at this; omega
   rw [hadd] at h3
   have h5:cs'[j]?=some cs'[j]:=by simp [h4]
   rw [h5] at h3
   simp only [h3,Option.getD_some]
   exact h2.2 j y _ hy h5)
 rw [hlen2] at this
 exact this
def jX (enc:TypeId × Value→H) (P:Program) (W:World) (fs:List Field) (off:Nat) {α:Type} (g:α→List AV) (good:α→Prop):Prop :=
 ∀ (n tot:Nat) (cs:List Value) (ys:List (DataW H × List MemPlace)),ys.length=fs.length→(∀ (i:Nat) (f:Field),fs[i]?=some f→DataW.trod enc P W 0 (fun _=>true) true n f.type ((cs.drop f.offset).take (P.cellsOf f.type))=ys[i]?) →
  (∀ k ∈ DataW.weightsEach P (fs.map fun f:Field=>f.type) (ys.map (·.1)),k ≤ reachBytes)→cs.length=tot→tot=off + (fs.map fun f:Field=>P.cellsOf f.type).sum→∃ a:α,good a∧aX (E0 (jE W)) W (g a) (cs.drop off)
theorem iW {off:Nat}:jX enc P W [] off (fun _:Unit=>[]) (fun _=>True):=fun n tot cs ys _ _ _ h1 h2=>by
 refine ⟨(),trivial,?_⟩
 rw [List.drop_eq_nil_of_le (by simp at h2; omega)]
 exact ⟨rfl,fun i a b h=>by simp at h⟩
theorem dl {fd:Field} {fs:List Field} {off off':Nat} {α β:Type} {f:α→AV} {g:β→List AV} {good:α→Prop} {good':β→Prop} (ho:fd.offset=off) (ho':off + P.cellsOf fd.type=off')
    (h:bZ enc P W fd.type f good) (h':jX enc P W fs off' g good'):jX enc P W (fd :: fs) off (fun a:α × β=>(f a.1).cells ++ g a.2) (fun a=>good a.1∧good' a.2):=fun n tot cs ys hl hy hw h1 h2=>by
 obtain ⟨y,ys,rfl⟩:∃ y ys',ys=y :: ys':=by
  cases ys with
  | nil=>simp at hl
  | cons y ys=>exact ⟨y,ys,rfl⟩
 have hy0:=hy 0 fd rfl
 simp only [List.getElem?_cons_zero] at hy0
 rw [ho] at hy0
 simp only [List.map_cons,DataW.weightsEach] at hw
 obtain ⟨a,g1,g2⟩:=h n _ y hy0 (fun k hk=>hw k (List.mem_append_left _ hk))
 simp only [List.map_cons,List.sum_cons] at h2
 obtain ⟨b,g3,g4⟩:=h' n tot cs ys (by simpa using hl) (fun i f hf=>by
  have:=hy (i + 1) f (by simpa using hf)
  simpa using this) (fun k hk=>hw k (List.mem_append_right _ hk)) h1 (by omega)
 refine ⟨(a,b),⟨g1,g3⟩,?_⟩
 have e:cs.drop off=(cs.drop off).take (P.cellsOf fd.type) ++ cs.drop off':=by
  rw [← ho',← List.drop_drop,List.take_append_drop]
 rw [e]
 exact aX.app g2 g4
theorem fx {t:TypeId} {fs:Array Field} {α:Type} {g:α→List AV} {good:α→Prop} (ht:P.underlying t=some (.struct fs)) (hsum:P.cellsOf t=(fs.toList.map fun f:Field=>P.cellsOf f.type).sum)
    (h:jX enc P W fs.toList 0 g good):bZ enc P W t (fun a=>.agg (g a)) good:=fun n cs x hx hw=>by
 obtain ⟨ys,n',rfl,rfl,hl,hs,hy⟩:=DataW.trod_struct ht hx
 obtain ⟨a,g1,g2⟩:=h n' _ cs ys (by rw [hs]; simp) (fun i f hf=>hy i f (by simpa using hf)) (fun k hk=>hw k (by
  simp only [DataW.weights,ht]; exact hk)) hl (by rw [Nat.zero_add,hsum])
 exact ⟨a,g1,by rw [List.drop_zero] at g2; exact g2⟩
theorem bZ.map {t:TypeId} {α β:Type} {f:α→AV} {good:α→Prop} {f':β→AV} {good':β→Prop} (h:bZ enc P W t f good) (φ:α→β) (hg:∀ a,good a→good' (φ a)) (hf:∀ a,good a→(f' (φ a)).cells=(f a).cells):bZ enc P W t f' good':=fun n cs x hx hw=>by
 obtain ⟨a,h1,h2⟩:=h n cs x hx hw
 exact ⟨φ a,hg a h1,by rw [hf a h1]; exact h2⟩
theorem bZ.at {t u:TypeId} {α:Type} {f:α→AV} {good:α→Prop} (e:t=u) (h:bZ enc P W u f good):bZ enc P W t f good:=e ▸ h
theorem bZ.argA {t:TypeId} {α:Type} {f:α→AV} {good:α→Prop} (h:bZ enc P W t f good) {r:Reach} {base:Nat} {v:Value} {d:DataW H} {ps:List MemPlace} (ht:gV P t=true) (hf:∀ a,∃ cs,f a=.agg cs)
    (hval:Value.okWide P W r base t v) (hd:DataW.Trod enc P W 0 (fun _=>true) true t v d ps) (hw:∀ k ∈ d.weights P t,k ≤ reachBytes):∃ a,good a∧Rel (E0 (jE W)) W (f a) v:=by
 obtain ⟨n,hn⟩:=hd
 obtain ⟨a,h1,h2⟩:=h n _ _ hn hw
 refine ⟨a,h1,?_⟩
 obtain ⟨cs,hcs,_⟩:∃ cs,v=.agg cs∧True:=by
  unfold Value.okWide at hval
  unfold gV at ht
  split at hval
  ·obtain ⟨cs,h,_⟩:=hval; exact ⟨cs,h,trivial⟩
  ·obtain ⟨cs,h,_⟩:=hval; exact ⟨cs,h,trivial⟩
  ·rename_i k1 k2
   revert ht
   cases hu:P.underlying t with
   | none=>simp
   | some u =>
    cases u with
    | struct fs=>exact absurd hu (k1 fs)
    | array m e=>exact absurd hu (k2 m e)
    | _=>simp
 subst hcs
 obtain ⟨xs,hx⟩:=hf a
 rw [hx] at h2 ⊢
 exact .agg xs cs.toList h2.1 h2.2
theorem e5 (hl:laidOutB P=true) {W':World} (hb:Below W.heap.size W W') {sp:Nat→Bool}:∀ {ts:List TypeId} {vs:List Value} {ds:List (DataW H)} {ps:List MemPlace},(∀ t ∈ ts,P.readableRec t=true∧t < P.types.size) →
    DataW.TrodAll enc P W 0 (fun _=>true) true ts vs ds ps→(∀ p ∈ ps,p.block < W.heap.size)→(∀ p ∈ ps,sp p.block=true)→DataW.TrodAll enc P W' 0 sp true ts vs ds ps
 | [],[],[],ps,_,h,_,_=>h
 | t :: ts,v :: vs,d :: ds,ps,hr,⟨p,q,h1,h2,e⟩,hlt,hsp=>by
  subst e
  exact ⟨p,q,WideElems.Trod_stays hl (hr t (List.mem_cons_self ..)).1 (hr t (List.mem_cons_self ..)).2 h1 (fun x hx=>hb.same (hlt x (List.mem_append_left _ hx))) (fun x hx=>hsp x (List.mem_append_left _ hx)),
   e5 hl hb (fun t ht=>hr t (List.mem_cons_of_mem _ ht)) h2 (fun x hx=>hlt x (List.mem_append_right _ hx)) (fun x hx=>hsp x (List.mem_append_right _ hx)),rfl⟩
 | [],_ :: _,_,_,_,h,_,_=>h.elim
 | [],[],_ :: _,_,_,h,_,_=>h.elim
 | _ :: _,[],_,_,_,h,_,_=>h.elim
 | _ :: _,_ :: _,[],_,_,h,_,_=>h.elim
theorem eL:∀ {ts:List TypeId} {ds:List (DataW H)} {i:Nat} {t:TypeId} {d:DataW H},ts[i]?=some t→ds[i]?=some d→∀ k ∈ d.weights P t,k ∈ DataW.weightsEach P ts ds
 | t :: ts,d :: ds,0,_,_,h1,h2,k,hk=>by
  simp at h1 h2; subst h1 h2
  unfold DataW.weightsEach
  exact List.mem_append_left _ hk
 | t :: ts,d :: ds,i + 1,_,_,h1,h2,k,hk=>by
  unfold DataW.weightsEach
  exact List.mem_append_right _ (eL (ts:=ts) (ds:=ds) (by simpa using h1) (by simpa using h2) k hk)
 | [],_,i,_,_,h1,_,_,_=>by simp at h1
 | _ :: _,[],i,_,_,_,h2,_,_=>by simp at h2
end
end Go.Abs