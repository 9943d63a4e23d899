/- Texts of this claim, one after the other: AbsC2, AbsC3, AbsC4, AbsC5, AbsC6, AbsC7, AbsC8, AbsC9, AbsD1, AbsD2, AbsZ, AbsI, AbsI2, AbsO. -/
import Derived.Test.YtbgdcebmgjafjaaGreatXG2
import Derived.IntWalk
import Derived.ChangeArms
import Derived.Carry
import Derived.Deep.Slices
import Derived.Lib.SmallJoins

set_option linter.unusedSimpArgs false
set_option linter.unusedVariables false
namespace Go.Abs
open Go.RowKit
structure Op2 where
 d:Option Nat
 g:Option (Nat × Bool)
 i:Ins
inductive C2 where
 | skip
 | ops (m:Nat) (l:List Op2)
 | mix (m:Nat) (l:List Op2) (C:List Nat)
 | mixS (m:Nat) (l:List Op2) (C:List (Nat × Nat))
 | seq (a b:C2)
 | cond (c:Opd) (a b:C2)
 | block (id:Nat) (b:C2)
 | loop (b:C2)
 | exit (id:Nat)
 | ret
 | rangeF (g:Opd) (ps:List Nat) (a b:C2)
inductive IC where
 | val | eff | call | sp
 deriving DecidableEq
def ic:Ins→IC
 | .alloc _ | .box _ | .bldS .. | .mks .. | .st .. | .app .. | .apz ..=>.eff
 | .call ..=>.call
 | .mkm .. | .mput .. | .mget .. | .mlen _ | .mrng _ | .mnxt _ | .ment _ | .cpy .. | .clr .. | .snil .. | .s2b _ | .b2s _ | .mplc .. | .mpst .. | .slp ..=>.sp
 | _=>.val
def ms (m:Nat) (p:AV):Bool:=match p with | .ptr b _ _=>b < m | _=>true
def oY (m:Nat) (p:AV):Bool:=match p with | .ptr b _ _=>m ≤ b | _=>true
def dm2 (dm:DM) (T:Tm) (i:Ins):Bool:=match dm with
 | .fresh m=>match i with
  | .ld1 a=>ms m (ov T a)
  | .ldn _ a=>ms m (ov T a)
  | .st _ p _=>oY m (ov T p)
  | .app ..=>false
  | .apz ..=>false
  | _=>true
 | _=>true
def bd (P:Program) (dm:DM) (i:Ins) (T:Tm) (H:Hp) (nx:Nat) (K:AV→Hp→Nat→Prop):Prop :=
 match ic i with
 | .val=>aV (dm2 dm T i) (aB (aU T H i) fun r=>K r H nx)
 | .eff=>aV (dm2 dm T i) (aB (eu T H nx i) fun x=>K x.1 x.2.1 x.2.2)
 | .call=>match i with
  | .call f args=>(aB (iL (ov T f)) fun y=>match dm.isText with
   | false=>ba P y.1 (args.map (ov T) ++ y.2) H fun r=>K r H nx
   | true=>Fn P y.1 (args.map (ov T) ++ y.2) H nx K) ∨ (dm.isText=true∧((∃ b,ov T f=.yld b∧Yl P b (args.map (ov T)) H nx K) ∨ ∃ g fs,ov T f=.bfn g fs∧Fn P g (fs ++ args.map (ov T)) H nx K))
  | _=>False
 | .sp=>dm.isText=true∧isp i T H nx K
def g2 (T:Tm):Option (Nat × Bool)→Option Bool
 | none=>some true
 | some (t,want)=>match T t with
  | .bool b=>some (b == want)
  | .tup []=>some false
  | _=>none
def aj (P:Program) (dm:DM):List Op2→Tm→Hp→Nat→SP→Prop
 | [],T,H,nx,K=>K T H nx
 | o :: l,T,H,nx,K=>aX (g2 T o.g) (bd P dm o.i T H nx fun r H nx=>aj P dm l (aA T o.d r) H nx K) (aj P dm l (aA T o.d (.tup [])) H nx K)
def pC (T:Tm):Ins→Option AV
 | .bldS sz len z parts=>np (eu T a9 0 (.bldS sz len z parts))
 | _=>none
def aZ (P:Program) (S:Hp):List (Op2 × Nat)→Tm→Hp→Nat→SP→Prop
 | [],T,H,nx,K=>K T H nx
 | (o,0) :: l,T,H,nx,K=>aX (g2 T o.g) (aB (aU T S o.i) fun r=>aZ P S l (aA T o.d r) H nx K) (aZ P S l (aA T o.d (.tup [])) H nx K)
 | (o,k + 1) :: l,T,H,nx,K=>aX (g2 T o.g) (if k=2 then aB (pC T o.i) fun r=>aZ P S l (aA T o.d r) H nx K else bd P .text o.i T H nx fun r H' nx'=>(k=0→Sub S H')∧aZ P S l (aA T o.d r) H' nx' K) (aZ P S l (aA T o.d (.tup [])) H nx K)
def aE (P:Program):C2→Tm→Hp→Nat→CP→Prop
 | .skip,T,H,nx,K=>K .normal T H nx
 | .ops m l,T₀,H₀,nx₀,K=>∃ T H nx Hf,Gh T₀ H₀ nx₀ T H nx Hf∧aj P (match m with | 0=>.text | 1=>.draw | _=>.fresh nx) l T H nx (K .normal)
 | .mix m l C,T₀,H₀,nx₀,K=>(m ≠ 9∧∃ T H nx Hf,Gh T₀ H₀ nx₀ T H nx Hf∧aj P (match m with | 1=>.draw | _=>.fresh nx) l T H nx (K .normal)) ∨
     ∃ T H nx Hf,Gh T₀ H₀ nx₀ T H nx Hf∧aj P .text (C.map fun k=>l.getD k ⟨none,none,.dead⟩) T H nx (K .normal)
 | .mixS m l C,T₀,H₀,nx₀,K=>(m ≠ 9∧∃ T H nx Hf,Gh T₀ H₀ nx₀ T H nx Hf∧aj P (match m with | 1=>.draw | _=>.fresh nx) l T H nx (K .normal)) ∨
     ∃ T H nx Hf S,Gh T₀ H₀ nx₀ T H nx Hf∧Sub S H∧aZ P S (C.map fun k=>(l.getD k.1 ⟨none,none,.dead⟩,k.2)) T H nx (K .normal)
 | .seq x y,T,H,nx,K=>aE P x T H nx fun e T H nx=>aM e (aE P y T H nx K) (K e T H nx)
 | .cond c x y,T,H,nx,K=>bf (ov T c) (aE P x T H nx K) (aE P y T H nx K)
 | .block id b,T,H,nx,K=>aE P b T H nx fun e T H nx=>K (gu id e) T H nx
 | .loop b,T,H,nx,K=>bb (aE P b) T H nx K
 | .exit id,T,H,nx,K=>K (.exit id) T H nx
 | .ret,T,H,nx,K=>K .ret T H nx
 | .rangeF g ps a b,T,H,nx,K=>∃ f caps,ov T g=.func f caps∧∀ (c0:AV) (cj:AEx→AV),
     (∀ (args:List AV) (H':Hp) (nx':Nat) (K':AV→Hp→Nat→Prop),H' nx=some [c0]→args.length=ps.length →
      aE P a (fe T ps args) H' nx' (fun e T2 H2 nx2=>aM e (H2 nx=some [c0]∧aE P b T2 (ca H2 nx) nx2 fun e T3 H3 nx3=>aM e (K' (.bool true) (ak H3 nx [c0]) nx3) (K' (.bool false) (ak H3 nx [cj e]) nx3)) False) →
      Yl P nx args H' nx' K') →
     Fn P f (.yld nx :: caps) (ak H nx [c0]) (nx + 1) fun _ H' nx'=>(H' nx=some [c0]∧K .normal T (ca H' nx) nx') ∨ ∃ e,e ≠ .normal∧H' nx=some [cj e]∧K e T (ca H' nx) nx'
def mz:Op→Option IC
 | .call { callee:=.value _,.. }=>some .call
 | op=>match opk op with
  | .pure | .touch=>some .val
  | .alloc | .write=>some .eff
  | .other=>none
def ea (P:Program) (op:Op):Option Ins:=match mz op with
 | some .call=>match gc op with
  | some (f,args)=>some (.call (.of f) (args.toList.map .of))
  | none=>none
 | some .val=>match ee P op with
  | some i=>if ic i=.val then some i else none
  | none=>none
 | some .eff=>match gn P op with
  | some i=>if ic i=.eff then some i else none
  | none=>none
 | _=>none
def dz (P:Program) (op:Op):Ins:=match ea P op with
 | some i=>i
 | none=>match ph P op with
  | some i=>if ic i=.sp then i else .dead
  | none=>.dead
def uz (dsts:List (Option Nat)):Option (Nat × Bool)→Option (Option (Nat × Bool))
 | none=>some none
 | some (j,want)=>match dsts[j]? with
  | some (some d)=>some (some (d,want))
  | _=>none
def o7 (P:Program) (N:Nat) (dsts:List (Option Nat)) (o:Oper):Option Op2 :=
 if dok N o.dst then (match uz dsts o.guard with
  | some g=>some ⟨o.dst,g,dz P o.op⟩
  | none=>none) else none
def i7 (P:Program) (N:Nat) (dsts:List (Option Nat)):List Oper→Option (List Op2)
 | []=>some []
 | o :: l=>match o7 P N dsts o,i7 P N dsts l with
  | some o,some l=>some (o :: l)
  | _,_=>none
def vpP (P:Program) (op:Op):Bool:=ue op || (opk op == .pure && (ea P op).isSome)
theorem lM (P:Program):VP (vpP P):=⟨fun op h=>by
 unfold vpP at h
 rw [Bool.or_eq_true,Bool.and_eq_true] at h
 rcases h with h | h
 ·exact qM h
 ·simpa using h.1,fun op h=>by unfold vpP; rw [h]; rfl⟩
def nH (P:Program) (ops:List Oper):Bool:=ops.any fun o=>opk o.op == .other || (opk o.op == .pure && !vpP P o.op)
def xF (P:Program) (ops:List Oper):List Nat :=
 let m:=Region.before ops.toArray
 let r:=List.range ops.length
 let sp:=r.filter fun i=>!vpP P (ops.getD i default).op
 let C:=sp.foldl (fun acc s=>acc ++ (r.filter fun i=>vpP P (ops.getD i default).op && !acc.contains i && !sp.any fun q=>c9 m i q && !acc.contains q) ++ [s]) []
 C ++ r.filter fun i=>!C.contains i
def xn (P:Program) (N:Nat) (ops:List Oper):Bool :=
 (nH P ops || ops.any fun o=>mz o.op == some .call) && ou (vpP P) N ops (xF P ops)
def svP (P:Program) (op:Op):Bool:=sv (vpP P) op
def wh (P:Program) (ops:List Oper):List Nat :=
 let m:=Region.before ops.toArray
 let r:=List.range ops.length
 let sp:=r.filter fun i=>!svP P (ops.getD i default).op
 let C:=sp.foldl (fun acc s=>acc ++ (r.filter fun i=>svP P (ops.getD i default).op && !acc.contains i && !sp.any fun q=>c9 m i q && !acc.contains q) ++ [s]) []
 C ++ r.filter fun i=>!C.contains i
def wo (P:Program) (N:Nat) (ops:List Oper):Bool :=
 (nH P ops || (ops.any fun o=>mz o.op == some .call) || !b8 false ops) && (ops.all fun o=>!dD o.op || (ea P o.op).isSome) && i9 (vpP P) (fun _=>false) N ops (wh P ops)
def ec (P:Program) (bp:Op→Bool) (ops:List Oper) (k:Nat):Nat:=if (bp (ops.getD k default).op && d9 (ops.getD k default).op)=true then 3 else if svP P (ops.getD k default).op=true then 0 else if ed ops k=true then 1 else 2
def qW (P:Program) (bp:Op→Bool) (ops:List Oper):List Nat :=
 let m:=Region.before ops.toArray
 let r:=List.range ops.length
 let v:=fun i=>svP P (ops.getD i default).op || (bp (ops.getD i default).op && d9 (ops.getD i default).op)
 let sp:=r.filter fun i=>!v i
 let C:=sp.foldl (fun acc s=>acc ++ (r.filter fun i=>v i && !acc.contains i && !sp.any fun q=>c9 m i q && !acc.contains q) ++ [s]) []
 C ++ r.filter fun i=>!C.contains i
def re (P:Program) (bp:Op→Bool) (N:Nat) (ops:List Oper):Bool :=
 (ops.all fun o=>!(dD o.op || (bp o.op && d9 o.op)) || (ea P o.op).isSome) && i9 (vpP P) bp N ops (qW P bp ops)
def bpA (P:Program) (op:Op):Bool:=match ea P op with
 | some (.bldS 1 _ _ _)=>true
 | _=>false
def vV (P:Program) (N:Nat) (ops:List Oper):Bool :=
 (ops.any fun o=>bpA P o.op) && (ops.any fun o=>d9 o.op && !bpA P o.op) && re P (bpA P) N ops
def gR (P:Program) (N:Nat):Code→Option C2
 | .skip=>some .skip
 | .label _=>some .skip
 | .region _ ops draw=>match i7 P N (ops.toList.map (·.dst)) ops.toList with
  | some l=>if draw=true then (if vV P N ops.toList=true then some (.mixS 9 l ((qW P (bpA P) ops.toList).map fun k=>(k,ec P (bpA P) ops.toList k))) else if xn P N ops.toList=true then some (.mix (if nH P ops.toList=true then 9 else if b8 false ops.toList=true then 1 else if b8 true ops.toList=true then 2 else 9) l (xF P ops.toList)) else if wo P N ops.toList=true then some (.mixS (if nH P ops.toList=true then 9 else if b8 false ops.toList=true then 1 else if b8 true ops.toList=true then 2 else 9) l ((wh P ops.toList).map fun k=>(k,ec P (fun _=>false) ops.toList k))) else if b8 false ops.toList=true then some (.ops 1 l) else if b8 true ops.toList=true then some (.ops 2 l) else if re P (fun _=>true) N ops.toList=true then some (.mixS 9 l ((qW P (fun _=>true) ops.toList).map fun k=>(k,ec P (fun _=>true) ops.toList k))) else none) else some (.ops 0 l)
  | none=>none
 | .seq a b=>match gR P N a,gR P N b with
  | some a,some b=>some (.seq a b)
  | _,_=>none
 | .cond c a b=>match gR P N a,gR P N b with
  | some a,some b=>some (.cond (.of c) a b)
  | _,_=>none
 | .block id b=>match gR P N b with
  | some b=>some (.block id b)
  | none=>none
 | .loop b=>match gR P N b with
  | some b=>some (.loop b)
  | none=>none
 | .exit id=>some (.exit id)
 | .ret=>some .ret
 | .rangeFunc g ps a b=>if ps.toList.all (fun t=>decide (t < N))=true then (match gR P N a,gR P N b with
  | some a,some b=>some (.rangeF (.of g) ps.toList a b)
  | _,_=>none) else none
 | _=>none
theorem ia {α:Type} {x:Option α} {A B:α→Prop} (hab:∀ a,A a→B a) (h:aB x A):aB x B:=by
 cases x with
 | none=>exact h
 | some a=>exact hab a h
theorem tQ {P:Program} {dm:DM} {op:Op} {i:Ins} {T:Tm} (hc:(ee P op=some i∧opk op ≠ .write) ∨ gn P op=some i) (h:dm2 dm T i=true):li dm T op=true:=by
 cases dm with
 | text=>rfl
 | draw=>rfl
 | fresh m =>
  rcases hc with ⟨hc,hk⟩ | hc
  ·cases op with
   | load t a =>
    simp only [ee] at hc
    split at hc
    ·split at hc
     ·split at hc
      ·cases hc
       simp only [dm2,ms,bc] at h
       simp only [li,kd]; exact h
      ·cases hc
     ·cases hc
      simp only [dm2,ms,bc] at h
      simp only [li,kd]; exact h
    ·cases hc
   | store t p x=>exact absurd rfl hk
   | _=>simpa [li,kd] using hk
  ·cases op with
   | store t p x =>
    simp only [gn] at hc
    split at hc
    ·cases hc
     simp only [dm2,oY,bc] at h
     simp only [li,kd]; exact h
    ·cases hc
   | alloc e=>rfl
   | box e x=>rfl
   | buildSlice t len parts=>rfl
   | makeSlice t l c=>rfl
   | call c =>
    obtain ⟨callee,args,argTypes⟩:=c
    cases callee with
    | builtin b =>
     obtain ⟨args⟩:=args
     obtain ⟨argTypes⟩:=argTypes
     cases b with
     | append =>
      rcases args with _ | ⟨x,_ | ⟨y,_ | ⟨z,l⟩⟩⟩
      ·cases hc
      ·cases hc
      ·rcases argTypes with _ | ⟨t,_ | ⟨u,_ | ⟨v,l⟩⟩⟩
       ·cases hc
       ·cases hc
       ·simp only [gn] at hc
        split at hc
        ·cases hc
        ·split at hc
         ·cases hc
          cases h
         ·split at hc
          ·split at hc
           ·split at hc
            ·cases hc
             cases h
            ·cases hc
           ·cases hc
          ·cases hc
       ·cases hc
      ·cases hc
     | _=>cases hc
    | _=>cases hc
   | _=>cases hc
theorem vt {P:Program} {dm:DM} {op:Op} {i:Ins} {T:Tm} {H:Hp} {nx:Nat} {K:AV→Hp→Nat→Prop} (hc:ea P op=some i) (h:bd P dm i T H nx K):ko P dm op T H nx K:=by
 unfold ko
 unfold ea at hc
 split at hc
 ·rename_i hk
  split at hc
  ·rename_i f args hf
   cases hc
   have h:(aB (iL (ov T (.of f))) fun y=>match (generalizing:=false) dm.isText with
    | false=>ba P y.1 ((args.toList.map Opd.of).map (ov T) ++ y.2) H fun r=>K r H nx
    | true=>Fn P y.1 ((args.toList.map Opd.of).map (ov T) ++ y.2) H nx K) ∨ (dm.isText=true∧((∃ b,ov T (.of f)=.yld b∧Yl P b ((args.toList.map Opd.of).map (ov T)) H nx K) ∨ ∃ g fs,ov T (.of f)=.bfn g fs∧Fn P g (fs ++ (args.toList.map Opd.of).map (ov T)) H nx K)):=h
   rw [bc,fh] at h
   obtain ⟨ts,rfl⟩:=gI hf
   rcases h with h | ⟨h1,⟨b,h2,h3⟩ | ⟨g,fs,h2,h3⟩⟩
   ·exact .inl h
   ·exact .inr ⟨h1,oL h2 h3⟩
   ·exact .inr ⟨h1,oC h2 h3⟩
  ·cases hc
 ·rename_i hk
  split at hc
  ·rename_i j hj
   split at hc
   ·rename_i hic
    cases hc
    have hoc:opc op=.val∧opk op ≠ .write:=by
     unfold mz at hk
     split at hk
     ·cases hk
     ·rename_i hn
      unfold opc
      split
      ·rename_i a b c; exact absurd rfl (hn _ _ _)
      ·split at hk <;> rename_i hkk <;> (try rw [hkk]) <;> first | (cases hk; done) | (exact ⟨rfl,by decide⟩)
    unfold bd at h
    rw [hic] at h
    simp only at h
    left
    unfold fi
    rw [hoc.1]
    simp only
    refine ⟨tQ (.inl ⟨hj,hoc.2⟩) h.1,?_⟩
    have h:=h.2
    cases hv:aU T H i with
    | none=>rw [hv] at h; exact h.elim
    | some r=>rw [nz hj hv]; rw [hv] at h; exact h
   ·cases hc
  ·cases hc
 ·rename_i hk
  split at hc
  ·rename_i j hj
   split at hc
   ·rename_i hic
    cases hc
    have hoc:opc op=.eff:=by
     unfold mz at hk
     split at hk
     ·cases hk
     ·rename_i hn
      unfold opc
      split
      ·rename_i a b c; exact absurd rfl (hn _ _ _)
      ·split at hk <;> rename_i hkk <;> (try rw [hkk]) <;> cases hk
    unfold bd at h
    rw [hic] at h
    simp only at h
    left
    unfold fi
    rw [hoc]
    simp only
    refine ⟨tQ (.inr hj) h.1,?_⟩
    have h:=h.2
    cases hv:eu T H nx i with
    | none=>rw [hv] at h; exact h.elim
    | some r=>rw [ri hj hv]; rw [hv] at h; exact h
   ·cases hc
  ·cases hc
 ·cases hc
theorem k9 {P:Program} {dm:DM} {op:Op} {T:Tm} {H:Hp} {nx:Nat} {K:AV→Hp→Nat→Prop} (h:bd P dm (dz P op) T H nx K):ko P dm op T H nx K:=by
 unfold dz at h
 split at h
 ·rename_i i hi; exact vt hi h
 ·split at h
  ·rename_i i hi
   split at h
   ·rename_i hic
    unfold bd at h
    rw [hic] at h
    exact .inr ⟨h.1,wI hi h.2⟩
   ·exact h.2.elim
  ·exact h.2.elim
theorem tg {dsts:List (Option Nat)} {T:Tm} {g:Option (Nat × Bool)} {g':Option (Nat × Bool)} (h:uz dsts g=some g'):gval T dsts g=g2 T g':=by
 unfold uz at h
 split at h
 ·cases h; rfl
 ·split at h
  ·rename_i d hd
   cases h
   simp only [gval,hd,g2]
   generalize T d=v
   cases v <;> try rfl
  ·cases h
theorem dE {P:Program} {N:Nat} {dm:DM} {dsts:List (Option Nat)} {K:SP}:∀ (l:List Oper) (l2:List Op2) {T:Tm} {H:Hp} {nx:Nat},i7 P N dsts l=some l2→aj P dm l2 T H nx K→jd P N dm dsts l T H nx K
 | [],l2,T,H,nx,hc,h=>by cases hc; exact h
 | o :: l,l2,T,H,nx,hc,h=>by
  simp only [i7] at hc
  split at hc
  ·rename_i o2 r2 ho hr
   cases hc
   unfold o7 at ho
   split at ho
   ·rename_i hd
    split at ho
    ·rename_i g hg
     cases ho
     refine ⟨hd,?_⟩
     rw [tg hg]
     have h:aX (g2 T g) (bd P dm (dz P o.op) T H nx fun r H nx=>aj P dm r2 (aA T o.dst r) H nx K) (aj P dm r2 (aA T o.dst (.tup [])) H nx K):=h
     cases hgv:g2 T g with
     | none=>rw [hgv] at h; exact h.elim
     | some b =>
      rw [hgv] at h
      cases b with
      | true =>
       have h:bd P dm (dz P o.op) T H nx fun r H nx=>aj P dm r2 (aA T o.dst r) H nx K:=h
       exact eA (k9 h) (fun r H nx hh=>dE l r2 hr hh)
      | false=>exact dE l r2 hr h
    ·cases ho
   ·cases ho
  ·cases hc
theorem ua {P:Program} {op:Op} {T:Tm} {H:Hp} {nx:Nat} {K:AV→Hp→Nat→Prop} (h:bd P .text (dz P op) T H nx K):eb (vpP P) P op T H nx K:=by
 unfold eb
 split
 ·rename_i hk0
  have hk:=(lM P).pure _ hk0
  have hsome:(ea P op).isSome=true:=by
   unfold vpP at hk0
   rw [Bool.or_eq_true,Bool.and_eq_true] at hk0
   rcases hk0 with h | h
   ·cases op <;> first | (cases h; done) | rfl
   ·exact h.2
  obtain ⟨i,hi⟩:=Option.isSome_iff_exists.1 hsome
  unfold dz at h
  rw [hi] at h
  have h:bd P .text i T H nx K:=h
  unfold ea at hi
  have hic:mz op=some .val:=by
   unfold mz
   split
   ·simp [opk] at hk
   ·rw [hk]
  rw [hic] at hi
  simp only at hi
  split at hi
  ·rename_i j hj
   split at hi
   ·rename_i hc
    cases hi
    unfold bd at h
    rw [hc] at h
    obtain ⟨_,h⟩:=h
    obtain ⟨r,hr,hk⟩:=bQ h
    rw [nz hj hr]; exact hk
   ·cases hi
  ·cases hi
 ·exact k9 h
theorem jq {P:Program} {N:Nat} {dsts:List (Option Nat)}:∀ {l:List Oper} {l2:List Op2},i7 P N dsts l=some l2→∀ {k:Nat} {o:Oper},l[k]?=some o→∃ o2,l2[k]?=some o2∧o7 P N dsts o=some o2
 | [],l2,h,k,o,ho=>by simp at ho
 | x :: l,l2,h,k,o,ho=>by
  simp only [i7] at h
  split at h
  ·rename_i o2 r2 h1 h2
   cases h
   cases k with
   | zero=>simp at ho; subst ho; exact ⟨o2,rfl,h1⟩
   | succ k =>
    obtain ⟨o3,h3,h4⟩:=jq h2 (k:=k) (o:=o) (by simpa using ho)
    exact ⟨o3,by simpa using h3,h4⟩
  ·cases h
theorem ml {P:Program} {N:Nat} {ops:List Oper} {l:List Op2} (hl:i7 P N (ops.map (·.dst)) ops=some l) {K:SP}:∀ (C:List Nat),(∀ k ∈ C,k < ops.length)→∀ {T:Tm} {H:Hp} {nx:Nat},
    aj P .text (C.map fun k=>l.getD k ⟨none,none,.dead⟩) T H nx K→fZ (vpP P) P N (ops.map (·.dst)) (C.map fun k=>ops.getD k default) T H nx K
 | [],_,_,_,_,h=>h
 | k :: C,hC,T,H,nx,h=>by
  have hk:=hC k (by simp)
  obtain ⟨o,ho⟩:=bH hk
  obtain ⟨o2,ho2,hc⟩:=jq hl ho
  have e1:ops.getD k default=o:=bR ho
  have e2:l.getD k ⟨none,none,.dead⟩=o2:=by simp [List.getD,ho2]
  rw [List.map_cons,e1]
  rw [List.map_cons,e2] at h
  unfold o7 at hc
  split at hc
  ·rename_i hd
   split at hc
   ·rename_i g hg
    cases hc
    refine ⟨hd,?_⟩
    rw [tg hg]
    have h:aX (g2 T g) (bd P .text (dz P o.op) T H nx fun r H nx=>aj P .text (C.map fun k=>l.getD k ⟨none,none,.dead⟩) (aA T o.dst r) H nx K) (aj P .text (C.map fun k=>l.getD k ⟨none,none,.dead⟩) (aA T o.dst (.tup [])) H nx K):=h
    cases hgv:g2 T g with
    | none=>rw [hgv] at h; exact h.elim
    | some b =>
     rw [hgv] at h
     cases b with
     | true =>
      have h:bd P .text (dz P o.op) T H nx fun r H nx=>aj P .text (C.map fun k=>l.getD k ⟨none,none,.dead⟩) (aA T o.dst r) H nx K:=h
      exact ij (ua h) (fun r H nx hh=>ml hl C (fun q hq=>hC q (by simp [hq])) hh)
     | false=>exact ml hl C (fun q hq=>hC q (by simp [hq])) h
   ·cases hc
  ·cases hc
theorem vS {P:Program} {op:Op} {T:Tm} {r:AV} (hb:d9 op=true) (hc:(ea P op).isSome=true) (h:pC T (dz P op)=some r):oM P T op=some r:=by
 obtain ⟨i,hi⟩:=Option.isSome_iff_exists.1 hc
 have hcd:dz P op=i:=by unfold dz; rw [hi]
 rw [hcd] at h
 cases op <;> first | (cases hb; done) | skip
 rename_i t len parts
 have hi2:gn P (.buildSlice t len parts)=some i:=by
  unfold ea at hi
  have:mz (.buildSlice t len parts)=some .eff:=rfl
  rw [this] at hi
  simp only at hi
  split at hi
  ·rename_i j hj
   split at hi
   ·cases hi; exact hj
   ·cases hi
  ·cases hi
 unfold oM
 rw [if_pos hb]
 unfold pC at h
 split at h
 ·rename_i sz len' z parts'
  obtain ⟨n,H',k,cs,h1,h2,h3,h4,h5⟩:=jJ h
  rw [ri hi2 h1]
  rw [h1] at h
  exact h
 ·cases h
theorem lY {P:Program} {bp:Op→Bool} {N:Nat} {ops:List Oper} {l:List Op2} (hl:i7 P N (ops.map (·.dst)) ops=some l) (hld:(ops.all fun o=>!dD o.op || (ea P o.op).isSome)=true) (hbd:(ops.all fun o=>!(bp o.op && d9 o.op) || (ea P o.op).isSome)=true) {S:Hp} {K:SP}:∀ (C:List Nat),(∀ k ∈ C,k < ops.length)→∀ {T:Tm} {H:Hp} {nx:Nat},
    aZ P S (C.map fun k=>(l.getD k ⟨none,none,.dead⟩,ec P bp ops k)) T H nx K→eV (vpP P) bp P N (ops.map (·.dst)) S (C.map (f0 ops)) T H nx K
 | [],_,_,_,_,h=>h
 | k :: C,hC,T,H,nx,h=>by
  have hk:=hC k (by simp)
  obtain ⟨o,ho⟩:=bH hk
  obtain ⟨o2,ho2,hc⟩:=jq hl ho
  have e1:ops.getD k default=o:=bR ho
  have e2:l.getD k ⟨none,none,.dead⟩=o2:=by simp [List.getD,ho2]
  have hrec:=fun (T:Tm) (H:Hp) (nx:Nat) hh=>lY hl hld hbd (S:=S) (K:=K) C (fun q hq=>hC q (by simp [hq])) (T:=T) (H:=H) (nx:=nx) hh
  rw [List.map_cons]
  rw [List.map_cons,e2] at h
  have ep:f0 ops k=(o,ed ops k):=by unfold f0; rw [e1]
  have ek:ec P bp ops k=if (bp o.op && d9 o.op)=true then 3 else if sv (vpP P) o.op=true then 0 else if ed ops k=true then 1 else 2:=by unfold ec svP; rw [e1]
  rw [ep]
  rw [ek] at h
  unfold o7 at hc
  split at hc
  case isFalse=>cases hc
  rename_i hd
  split at hc
  case h_2=>cases hc
  rename_i g hg
  cases hc
  refine ⟨hd,?_⟩
  show aX (gval T (ops.map (·.dst)) o.guard) (di (vpP P) bp P S o.op (ed ops k) T H nx fun r H' nx'=>eV (vpP P) bp P N (ops.map (·.dst)) S (C.map (f0 ops)) (aA T o.dst r) H' nx' K) (eV (vpP P) bp P N (ops.map (·.dst)) S (C.map (f0 ops)) (aA T o.dst (.tup [])) H nx K)
  rw [tg hg]
  by_cases hbl:(bp o.op && d9 o.op)=true
  ·rw [if_pos hbl] at h
   have h:aX (g2 T g) (aB (pC T (dz P o.op)) fun r=>aZ P S (C.map fun k=>(l.getD k ⟨none,none,.dead⟩,ec P bp ops k)) (aA T o.dst r) H nx K) (aZ P S (C.map fun k=>(l.getD k ⟨none,none,.dead⟩,ec P bp ops k)) (aA T o.dst (.tup [])) H nx K):=h
   cases hgv:g2 T g with
   | none=>rw [hgv] at h; exact h.elim
   | some b =>
    rw [hgv] at h
    cases b with
    | false=>exact hrec _ _ _ h
    | true =>
     have h:aB (pC T (dz P o.op)) fun r=>aZ P S (C.map fun k=>(l.getD k ⟨none,none,.dead⟩,ec P bp ops k)) (aA T o.dst r) H nx K:=h
     show di (vpP P) bp P S o.op (ed ops k) T H nx _
     unfold di
     rw [if_pos (show nv (vpP P) bp o.op=true by unfold nv; rw [hbl,Bool.or_true])]
     obtain ⟨r,hr,hh⟩:=bQ h
     rw [Bool.and_eq_true] at hbl
     have hsome:(ea P o.op).isSome=true:=by
      have:=List.all_eq_true.1 hbd o (List.mem_of_getElem? ho)
      rw [hbl.1,hbl.2] at this
      simpa using this
     unfold lh
     rw [if_pos (show (bp o.op && d9 o.op)=true by rw [hbl.1,hbl.2]; rfl),vS hbl.2 hsome hr]
     exact hrec _ _ _ hh
  have hnv:nv (vpP P) bp o.op=sv (vpP P) o.op:=by
   unfold nv
   cases hb:(bp o.op && d9 o.op) with
   | true=>exact absurd hb hbl
   | false=>rw [Bool.or_false]
  have hnval:lh P bp T S o.op=bB P T S o.op:=by unfold lh; rw [if_neg hbl]
  rw [if_neg hbl] at h
  by_cases hs:sv (vpP P) o.op=true
  ·rw [if_pos hs] at h
   have h:aX (g2 T g) (aB (aU T S (dz P o.op)) fun r=>aZ P S (C.map fun k=>(l.getD k ⟨none,none,.dead⟩,ec P bp ops k)) (aA T o.dst r) H nx K) (aZ P S (C.map fun k=>(l.getD k ⟨none,none,.dead⟩,ec P bp ops k)) (aA T o.dst (.tup [])) H nx K):=h
   cases hgv:g2 T g with
   | none=>rw [hgv] at h; exact h.elim
   | some b =>
    rw [hgv] at h
    cases b with
    | false=>exact hrec _ _ _ h
    | true =>
     have h:aB (aU T S (dz P o.op)) fun r=>aZ P S (C.map fun k=>(l.getD k ⟨none,none,.dead⟩,ec P bp ops k)) (aA T o.dst r) H nx K:=h
     show di (vpP P) bp P S o.op (ed ops k) T H nx _
     unfold di
     rw [if_pos (hnv.trans hs),hnval]
     obtain ⟨r,hr,hh⟩:=bQ h
     have hsome:(ea P o.op).isSome=true:=by
      unfold sv at hs
      rw [Bool.or_eq_true] at hs
      rcases hs with hs | hs
      ·unfold vpP at hs
       rw [Bool.or_eq_true,Bool.and_eq_true] at hs
       rcases hs with h | h
       ·revert h; cases o.op <;> intro h <;> first | (cases h; done) | rfl
       ·exact h.2
      ·have:=List.all_eq_true.1 hld o (List.mem_of_getElem? ho)
       rw [hs] at this
       simpa using this
     obtain ⟨i,hi⟩:=Option.isSome_iff_exists.1 hsome
     have hcd:dz P o.op=i:=by unfold dz; rw [hi]
     rw [hcd] at hr
     have hic:mz o.op=some .val:=by
      unfold sv at hs
      rw [Bool.or_eq_true] at hs
      rcases hs with hs | hs
      ·have hk:=(lM P).pure _ hs
       unfold mz
       split
       ·rename_i heq; rw [heq] at hk; simp [opk] at hk
       ·rw [hk]
      ·revert hs; cases o.op <;> intro hs <;> first | (cases hs; done) | rfl
     unfold ea at hi
     rw [hic] at hi
     simp only at hi
     split at hi
     ·rename_i j hj
      split at hi
      ·cases hi
       rw [nz hj hr]; exact hrec _ _ _ hh
      ·cases hi
     ·cases hi
  ·rw [if_neg hs] at h
   obtain ⟨q,hq,hq2,hq3⟩:∃ q,(if ed ops k=true then 1 else 2)=q + 1∧(ed ops k=true→q=0)∧q ≠ 2:=by
    by_cases hkk:ed ops k=true
    ·exact ⟨0,by rw [if_pos hkk],fun _=>rfl,by omega⟩
    ·exact ⟨1,by rw [if_neg hkk],fun h=>absurd h hkk,by omega⟩
   rw [hq] at h
   simp only [aZ,if_neg hq3] at h
   have h:aX (g2 T g) (bd P .text (dz P o.op) T H nx fun r H' nx'=>(q=0→Sub S H')∧aZ P S (C.map fun k=>(l.getD k ⟨none,none,.dead⟩,ec P bp ops k)) (aA T o.dst r) H' nx' K) (aZ P S (C.map fun k=>(l.getD k ⟨none,none,.dead⟩,ec P bp ops k)) (aA T o.dst (.tup [])) H nx K):=h
   cases hgv:g2 T g with
   | none=>rw [hgv] at h; exact h.elim
   | some b =>
    rw [hgv] at h
    cases b with
    | false=>exact hrec _ _ _ h
    | true =>
     have h:bd P .text (dz P o.op) T H nx fun r H' nx'=>(q=0→Sub S H')∧aZ P S (C.map fun k=>(l.getD k ⟨none,none,.dead⟩,ec P bp ops k)) (aA T o.dst r) H' nx' K:=h
     show di (vpP P) bp P S o.op (ed ops k) T H nx _
     unfold di
     rw [if_neg (by rw [hnv]; exact hs)]
     exact eA (k9 h) (fun r H nx hh=>⟨fun hkk=>hh.1 (hq2 hkk),hrec _ _ _ hh.2⟩)
theorem rl {P:Program} {bp:Op→Bool} {N:Nat} {rid:Nat} {ops:Array Oper} {l:List Op2} (hl:i7 P N (ops.toList.map (·.dst)) ops.toList=some l) (hmx:re P bp N ops.toList=true) {T:Tm} {H:Hp} {nx:Nat} {K:CP}
    (h:aE P (.mixS 9 l ((qW P bp ops.toList).map fun k=>(k,ec P bp ops.toList k))) T H nx K):awp P N (.region rid ops true) T H nx K:=by
 unfold re at hmx
 rw [Bool.and_eq_true] at hmx
 obtain ⟨hld,hok⟩:=hmx
 rcases h with ⟨h9,_⟩ | ⟨T,H,nx,Hf,S,hg,hs,h⟩
 ·exact absurd rfl h9
 ·rw [List.map_map] at h
  rw [List.all_eq_true] at hld
  refine ⟨T,H,nx,Hf,hg,.inr (.inr ⟨_,bp,_,S,lM P,hok,hs,lY hl ?_ ?_ _ (ju hok).lt h⟩)⟩
  ·rw [List.all_eq_true]
   intro o ho
   have:=hld o ho
   cases h1:dD o.op with
   | false=>rfl
   | true=>rw [h1] at this; simpa using this
  ·rw [List.all_eq_true]
   intro o ho
   have:=hld o ho
   cases h1:(bp o.op && d9 o.op) with
   | false=>rfl
   | true=>rw [h1] at this; simpa using this
theorem eg {P:Program} {N:Nat} (hm:P.follows .mixedOrders=true):∀ (c:Code) (c2:C2) {T:Tm} {H:Hp} {nx:Nat} {K:CP},gR P N c=some c2→aE P c2 T H nx K→awp P N c T H nx K
 | .skip,c2,_,_,_,_,hc,h=>by cases hc; exact h
 | .label _,c2,_,_,_,_,hc,h=>by cases hc; exact h
 | .exit _,c2,_,_,_,_,hc,h=>by cases hc; exact h
 | .ret,c2,_,_,_,_,hc,h=>by cases hc; exact h
 | .region _ ops draw,c2,_,_,_,_,hc,h=>by
  simp only [gR] at hc
  split at hc
  ·rename_i l hl
   cases draw with
   | true =>
    simp only [if_true] at hc
    split at hc
    ·rename_i hmx
     cases hc
     unfold vV at hmx
     rw [Bool.and_eq_true] at hmx
     exact rl hl hmx.2 h
    split at hc
    ·rename_i hmx
     cases hc
     unfold xn at hmx
     rw [Bool.and_eq_true] at hmx
     obtain ⟨_,hok⟩:=hmx
     rcases h with ⟨h9,T,H,nx,Hf,hg,h⟩ | ⟨T,H,nx,Hf,hg,h⟩
     ·refine ⟨T,H,nx,Hf,hg,.inl ?_⟩
      split at h9
      ·exact absurd rfl h9
      ·rename_i ho
       rw [if_neg ho] at h
       split at h9
       ·rename_i hd
        rw [if_pos hd] at h ⊢
        exact dE _ _ hl h
       ·rename_i hd
        rw [if_neg hd] at h ⊢
        split at h9
        ·rename_i hd2
         rw [if_pos hd2] at h
         exact ⟨hd2,dE _ _ hl h⟩
        ·exact absurd rfl h9
     ·exact ⟨T,H,nx,Hf,hg,  .inr (.inl ⟨_,_,lM P,hok,ml hl _ (pE hok).lt h⟩)⟩
    ·split at hc
     ·rename_i hmx
      cases hc
      unfold wo at hmx
      rw [Bool.and_eq_true,Bool.and_eq_true] at hmx
      obtain ⟨⟨_,hld⟩,hok⟩:=hmx
      rcases h with ⟨h9,T,H,nx,Hf,hg,h⟩ | ⟨T,H,nx,Hf,S,hg,hs,h⟩
      ·refine ⟨T,H,nx,Hf,hg,.inl ?_⟩
       split at h9
       ·exact absurd rfl h9
       ·rename_i ho
        rw [if_neg ho] at h
        split at h9
        ·rename_i hd
         rw [if_pos hd] at h ⊢
         exact dE _ _ hl h
        ·rename_i hd
         rw [if_neg hd] at h ⊢
         split at h9
         ·rename_i hd2
          rw [if_pos hd2] at h
          exact ⟨hd2,dE _ _ hl h⟩
         ·exact absurd rfl h9
      ·rw [List.map_map] at h
       exact ⟨T,H,nx,Hf,hg,.inr (.inr ⟨_,fun _=>false,_,S,lM P,hok,hs,lY hl hld (List.all_eq_true.2 fun _ _=>rfl) _ (ju hok).lt h⟩)⟩
     split at hc
     ·rename_i hd
      cases hc
      obtain ⟨T,H,nx,Hf,hg,h⟩:=h
      refine ⟨T,H,nx,Hf,hg,?_⟩
      simp only
      rw [if_pos hd]
      exact .inl (dE _ _ hl h)
     ·rename_i hd
      split at hc
      ·rename_i hd2
       cases hc
       obtain ⟨T,H,nx,Hf,hg,h⟩:=h
       refine ⟨T,H,nx,Hf,hg,?_⟩
       simp only
       rw [if_neg hd]
       exact .inl ⟨hd2,dE _ _ hl h⟩
      ·split at hc
       ·rename_i hmx
        cases hc
        exact rl hl hmx h
       ·cases hc
   | false =>
    simp only [Bool.false_eq_true,if_false] at hc
    cases hc
    obtain ⟨T,H,nx,Hf,hg,h⟩:=h
    exact ⟨T,H,nx,Hf,hg,dE _ _ hl h⟩
  ·cases hc
 | .seq a b,c2,_,_,_,K,hc,h=>by
  simp only [gR] at hc
  split at hc
  ·rename_i a2 b2 ha hb
   cases hc
   refine dl a (eg hm a a2 ha h) (fun e T H nx h=>?_)
   cases e with
   | normal=>exact eg hm b b2 hb h
   | exit i=>exact h
   | ret=>exact h
  ·cases hc
 | .cond c a b,c2,_,_,_,K,hc,h=>by
  simp only [gR] at hc
  split at hc
  ·rename_i a2 b2 ha hb
   cases hc
   simp only [aE,bc] at h
   simp only [awp]
   unfold bf at h ⊢
   split at h
   ·exact ⟨fun hh=>eg hm a a2 ha (h.1 hh),fun hh=>eg hm b b2 hb (h.2 hh)⟩
   ·exact h
  ·cases hc
 | .block id b,c2,_,_,_,K,hc,h=>by
  simp only [gR] at hc
  split at hc
  ·rename_i b2 hb
   cases hc
   exact eg hm b b2 hb h
  ·cases hc
 | .loop b,c2,T,H,nx,K,hc,h=>by
  simp only [gR] at hc
  split at hc
  ·rename_i b2 hb
   cases hc
   obtain ⟨n,h⟩:=h
   refine ⟨n,?_⟩
   induction n generalizing T H nx with
   | zero=>exact h
   | succ n ih =>
    obtain ⟨T',H',nx',Hf,hg,h⟩:=h
    refine ⟨T',H',nx',Hf,hg,dl b (eg hm b b2 hb h) (fun e T H nx h=>?_)⟩
    cases e with
    | normal=>exact ih _ _ _ h
    | exit i=>exact h
    | ret=>exact h
  ·cases hc
 | .rangeFunc g ps a b,c2,T,H,nx,K,hc,h=>by
  simp only [gR] at hc
  split at hc
  case isFalse=>cases hc
  case isTrue hps =>
  split at hc
  ·rename_i a2 b2 ha hb
   cases hc
   obtain ⟨f,caps,h1,h2⟩:=h
   rw [bc] at h1
   show RF P N _ T H nx K
   refine x3 h1 (fun r hr=>?_)
   refine h2 (.oloop r T) (ni r T) (fun args H' nx' K' hH hl hw=>?_)
   refine Yl.of_awp hr hm (fun t ht=>by simpa using List.all_eq_true.1 hps t ht) hH (by simpa using hl) (dl a (eg hm a a2 ha hw) (fun e T2 H2 nx2 h=>?_))
   cases e with
   | normal=>exact ⟨h.1,eg hm b b2 hb h.2⟩
   | exit i=>exact h
   | ret=>exact h
  ·cases hc
 | .scope _,_,_,_,_,_,hc,_=>by cases hc
 | .goto _,_,_,_,_,_,hc,_=>by cases hc
 | .refuse _,_,_,_,_,_,hc,_=>by cases hc
inductive RV where
 | t (n:Nat)
 | c1 (n:Nat)
 | cn (n k:Nat)
structure F2 where
 n:Nat
 res:List RV
 body:C2
def fw (P:Program):List ResultVar→Option (List RV)
 | []=>some []
 | .tmp t :: l=>match fw P l with | some l=>some (.t t :: l) | none=>none
 | .cell a t :: l=>if tok P t=true then (match fw P l with
  | some l=>if iU P t=true then (if 0 < P.cellsOf t then some (.cn a (P.cellsOf t) :: l) else none) else some (.c1 a :: l)
  | none=>none) else none
def qP (P:Program) (fn:Func):Option F2 :=
 match fn.body with
 | some c=>if fn.name == "runtime.NumGoroutine" then none else match gR P fn.ntmps c,fw P fn.results.toList with
  | some b,some r=>some ⟨fn.ntmps,r,b⟩
  | _,_=>none
 | none=>none
def rv (T:Tm) (H:Hp):RV→Option AV
 | .t n=>some (T n)
 | .c1 n=>rd1 H (T n)
 | .cn n k=>(rd H k (T n)).map .agg
def sB (T:Tm) (H:Hp):List RV→(List AV→Prop)→Prop
 | [],K=>K []
 | a :: l,K=>aB (rv T H a) fun x=>sB T H l fun xs=>K (x :: xs)
def br (T:Tm) (H:Hp) (K:AV→Prop):List RV→Prop
 | [a]=>aB (rv T H a) K
 | [a,b]=>aB (rv T H a) fun x=>aB (rv T H b) fun y=>K (.tup [x,y])
 | [a,b,c]=>aB (rv T H a) fun x=>aB (rv T H b) fun y=>aB (rv T H c) fun z=>K (.tup [x,y,z])
 | []=>K (.tup [])
 | a :: b :: c :: d :: l=>sB T H (a :: b :: c :: d :: l) fun xs=>K (.tup xs)
theorem lj {P:Program} {T:Tm} {H:Hp} {r:ResultVar} {l:List ResultVar} {x:RV} {xs:List RV} {v:AV} (h:fw P (r :: l)=some (x :: xs)) (hv:rv T H x=some v) :
    fw P l=some xs∧gx P T H (r :: l)=(match gx P T H l with | some ys=>some (v :: ys) | none=>none):=by
 cases r with
 | tmp t =>
  simp only [fw] at h
  split at h
  ·rename_i ys hy
   cases h
   cases hv
   exact ⟨hy,rfl⟩
  ·cases h
 | cell a t =>
  simp only [fw] at h
  split at h
  ·rename_i h1
   split at h
   ·rename_i ys hy
    split at h
    ·rename_i h2
     split at h
     ·rename_i h3
      cases h
      refine ⟨hy,?_⟩
      simp only [rv] at hv
      simp only [gx,fq,h1,h2,if_true,if_pos h3,hv]
      cases gx P T H l <;> rfl
     ·cases h
    ·rename_i h2
     cases h
     refine ⟨hy,?_⟩
     simp only [rv] at hv
     simp only [gx,fq,h1,h2,if_true,hv]
     cases gx P T H l <;> rfl
   ·cases h
  ·cases h
theorem fA {P:Program} {l:List ResultVar} (h:fw P l=some []):l=[]:=by
 cases l with
 | nil=>rfl
 | cons r l =>
  cases r with
  | tmp t=>simp only [fw] at h; split at h <;> cases h
  | cell a t =>
   simp only [fw] at h
   split at h
   ·split at h
    ·split at h
     ·split at h <;> cases h
     ·cases h
    ·cases h
   ·cases h
theorem dt {P:Program} {l:List ResultVar} {x:RV} {xs:List RV} (h:fw P l=some (x :: xs)):∃ r l',l=r :: l':=by
 cases l with
 | nil=>cases h
 | cons r l=>exact ⟨r,l,rfl⟩
theorem rp {P:Program} {T:Tm} {H:Hp}:∀ {r:List RV} {l:List ResultVar} {K:List AV→Prop},fw P l=some r→sB T H r K→∃ xs,gx P T H l=some xs∧xs.length=r.length∧K xs
 | [],l,K,h,hk=>by
  have:=fA h; subst this; exact ⟨[],rfl,rfl,hk⟩
 | a :: r,l,K,h,hk=>by
  obtain ⟨r1,l1,rfl⟩:=dt h
  have hk:aB (rv T H a) fun x=>sB T H r fun xs=>K (x :: xs):=hk
  cases hv:rv T H a with
  | none=>rw [hv] at hk; exact hk.elim
  | some v =>
   rw [hv] at hk
   obtain ⟨h1,e1⟩:=lj h hv
   obtain ⟨xs,h2,h3,h4⟩:=rp h1 hk
   exact ⟨v :: xs,by rw [e1,h2],by simp [h3],h4⟩
theorem vD {P:Program} {T:Tm} {H:Hp} {K:AV→Prop} {l:List ResultVar} {r:List RV} (h:fw P l=some r) (hk:br T H K r):aB (iB P T H l) K:=by
 have one:∀ {x:RV} {K':AV→Prop},aB (rv T H x) K'→∃ v,rv T H x=some v∧K' v:=by
  intro x K' h
  cases hv:rv T H x with
  | none=>rw [hv] at h; exact h.elim
  | some v=>rw [hv] at h; exact ⟨v,rfl,h⟩
 rcases r with _ | ⟨a,_ | ⟨b,_ | ⟨c,_ | ⟨d,r⟩⟩⟩⟩
 ·have:=fA h; subst this; exact hk
 ·obtain ⟨r1,l1,rfl⟩:=dt h
  obtain ⟨v,hv,hk⟩:=one hk
  obtain ⟨h1,e1⟩:=lj h hv
  have:=fA h1; subst this
  simp only [iB,e1,gx]; exact hk
 ·obtain ⟨r1,l1,rfl⟩:=dt h
  obtain ⟨v,hv,hk⟩:=one hk
  obtain ⟨h1,e1⟩:=lj h hv
  obtain ⟨r2,l2,rfl⟩:=dt h1
  obtain ⟨v2,hv2,hk⟩:=one hk
  obtain ⟨h2,e2⟩:=lj h1 hv2
  have:=fA h2; subst this
  simp only [iB,e1,e2,gx]; exact hk
 ·obtain ⟨r1,l1,rfl⟩:=dt h
  obtain ⟨v,hv,hk⟩:=one hk
  obtain ⟨h1,e1⟩:=lj h hv
  obtain ⟨r2,l2,rfl⟩:=dt h1
  obtain ⟨v2,hv2,hk⟩:=one hk
  obtain ⟨h2,e2⟩:=lj h1 hv2
  obtain ⟨r3,l3,rfl⟩:=dt h2
  obtain ⟨v3,hv3,hk⟩:=one hk
  obtain ⟨h3,e3⟩:=lj h2 hv3
  have:=fA h3; subst this
  simp only [iB,e1,e2,e3,gx]; exact hk
 ·have hk:sB T H (a :: b :: c :: d :: r) fun xs=>K (.tup xs):=hk
  obtain ⟨xs,h1,h2,h3⟩:=rp h hk
  unfold iB
  rw [h1]
  rcases xs with _ | ⟨x,_ | ⟨y,xs⟩⟩
  ·simp at h2
  ·simp at h2
  ·exact h3
structure Is (P:Program) (f:FuncId) (F:F2):Prop where
 out:∃ fn,P.funcs[f]?=some fn∧qP P fn=some F
theorem Is.mk' {P:Program} {f:FuncId} {F:F2} {fn:Func} (h1:P.funcs[f]?=some fn) (h2:qP P fn=some F):Is P f F:=⟨fn,h1,h2⟩
theorem Is.cok {P:Program} {f:FuncId} {F:F2} (h:Is P f F):cok P f=true:=by
 obtain ⟨fn,h1,h2⟩:=h.out
 unfold qP at h2
 split at h2
 ·rename_i c hc
  split at h2
  ·cases h2
  ·rename_i hn
   unfold Go.Abs.cok
   simp only [h1,hc,Option.isSome_some,Bool.true_and,Bool.not_eq_true']
   simpa using hn
 ·cases h2
theorem Is.bodyOk {P:Program} {f:FuncId} {F:F2} (h:Is P f F) (hm:P.follows .mixedOrders=true) {args:List AV} {H:Hp} {nx:Nat} {K:AV→Hp→Nat→Prop} (hl:args.length ≤ F.n)
    (hb:aE P F.body (T0 args) H nx fun e T H nx=>aV e.ends (br T H (fun x=>K x H nx) F.res)):∃ fn,P.funcs[f]?=some fn∧nD P fn args H nx K:=by
 obtain ⟨fn,h1,h2⟩:=h.out
 refine ⟨fn,h1,?_⟩
 unfold qP at h2
 split at h2
 ·rename_i c hc
  split at h2
  ·cases h2
  ·split at h2
   ·rename_i b r hb' hr
    cases h2
    exact ⟨c,hc,hl,dl c (eg hm c b hb' hb) (fun e T H nx hh=>⟨hh.1,vD hr hh.2⟩)⟩
   ·cases h2
 ·cases h2
theorem Pure.of_c2 {P:Program} {f:FuncId} {F:F2} {args:List AV} {r:AV} (hm:P.follows .mixedOrders=true) (hf:Is P f F) (hl:args.length ≤ F.n)
    (hb:aE P F.body (T0 args) a9 0 fun e T H nx=>aV e.ends (br T H (fun x=>Snap H x r) F.res)):Pure P f args r:=by
 obtain ⟨fn,h1,h2⟩:=hf.bodyOk hm (K:=fun x H nx=>Snap H x r) hl hb
 exact Pure.of_body hm h1 hf.cok h2
theorem Fn.of_c2 {P:Program} {f:FuncId} {F:F2} {args:List AV} {H:Hp} {nx:Nat} {K:AV→Hp→Nat→Prop} (hm:P.follows .mixedOrders=true) (hf:Is P f F) (hl:args.length ≤ F.n)
    (hb:aE P F.body (T0 args) H nx fun e T H nx=>aV e.ends (br T H (fun x=>K x H nx) F.res)):Fn P f args H nx K:=by
 obtain ⟨fn,h1,h2⟩:=hf.bodyOk hm (K:=K) hl hb
 exact Fn.of_body hm h1 hf.cok h2
theorem eZ.of_c2 {P:Program} {f:FuncId} {F:F2} {args:List AV} {r:AV} (hm:P.follows .mixedOrders=true) (hf:Is P f F) (hl:args.length ≤ F.n)
    (hb:aE P F.body (T0 args) a9 0 fun e T H nx=>aV e.ends (br T H (fun x=>SnapF H x r) F.res)):eZ P f args r :=
 eZ.of_fn (Fn.of_c2 hm hf hl hb)
end Go.Abs
namespace Go.Abs
open Go.RowKit
theorem uH {i:Ins} {T:Tm} {H:Hp} {nx:Nat} {K K':AV→Hp→Nat→Prop} (h:isp i T H nx K) (hK:∀ r H nx,K r H nx→K' r H nx):isp i T H nx K':=by
 cases i <;> first | exact h | skip
 ·exact ⟨h.1,hK _ _ _ h.2⟩
 ·obtain ⟨b,ks,vs,r,h1,h2,h3,h4,h5⟩:=h; exact ⟨b,ks,vs,r,h1,h2,h3,h4,hK _ _ _ h5⟩
 ·obtain ⟨b,ks,vs,r,h1,h2,h3,h4,h5⟩:=h; exact ⟨b,ks,vs,r,h1,h2,h3,h4,hK _ _ _ h5⟩
 ·obtain ⟨b,ks,vs,h1,h2,h3⟩:=h; exact ⟨b,ks,vs,h1,h2,hK _ _ _ h3⟩
 ·obtain ⟨b,ks,vs,h1,h2,h3⟩:=h; exact ⟨b,ks,vs,h1,h2,hK _ _ _ h3⟩
 ·obtain ⟨b,m,n0,seen,ks,vs,h1,h2,h3,hn,h4,h5⟩:=h; exact ⟨b,m,n0,seen,ks,vs,h1,h2,h3,hn,fun i hi hs=>hK _ _ _ (h4 i hi hs),fun h=>hK _ _ _ (h5 h)⟩
 ·obtain ⟨b,m,n0,i,seen,ks,vs,h1,h2,h3,h4,h5,h6,h7⟩:=h; exact ⟨b,m,n0,i,seen,ks,vs,h1,h2,h3,h4,h5,h6,hK _ _ _ h7⟩
 ·obtain ⟨n,H',h1,h2⟩:=h; exact ⟨n,H',h1,hK _ _ _ h2⟩
 ·obtain ⟨H',h1,h2⟩:=h; exact ⟨H',h1,hK _ _ _ h2⟩
 ·obtain ⟨b,n,off,cs,h1,h2,h3,h4,h5⟩:=h; exact ⟨b,n,off,cs,h1,h2,h3,h4,hK _ _ _ h5⟩
 ·obtain ⟨k,h1,h2⟩:=h; exact ⟨k,h1,fun h=>hK _ _ _ (h2.1 h),fun h=>⟨hK _ _ _ (h2.2 h).1,hK _ _ _ (h2.2 h).2⟩⟩
 ·obtain ⟨bs,h1,h2,h3⟩:=h; exact ⟨bs,h1,fun h=>hK _ _ _ (h2 h),fun h=>hK _ _ _ (h3 h)⟩
 ·obtain ⟨n,bs,h1,h2⟩:=h; exact ⟨n,bs,h1,hK _ _ _ h2⟩
 ·obtain ⟨b,ks,vs,r,h1,h2,h3,h4,h5⟩:=h; exact ⟨b,ks,vs,r,h1,h2,h3,h4,hK _ _ _ h5⟩
 ·obtain ⟨b,ks,vs,i,h1,h2,h3,h4,h5⟩:=h; exact ⟨b,ks,vs,i,h1,h2,h3,h4,hK _ _ _ h5⟩
theorem gM {P:Program} {dm:DM} {i:Ins} {T:Tm} {H:Hp} {nx:Nat} {K K':AV→Hp→Nat→Prop} (h:bd P dm i T H nx K) (hK:∀ r H nx,K r H nx→K' r H nx):bd P dm i T H nx K':=by
 unfold bd at h ⊢
 split at h
 ·exact ⟨h.1,ia (fun a=>hK _ _ _) h.2⟩
 ·exact ⟨h.1,ia (fun a=>hK _ _ _) h.2⟩
 ·split at h
  ·rcases h with h | ⟨h1,⟨b,h2,h3⟩ | ⟨g,fs,h2,h3⟩⟩
   ·left
    refine ia (fun b=>?_) h
    intro h
    cases hd:dm.isText with
    | false=>rw [hd] at h; obtain ⟨r,h1,h3⟩:=h; exact ⟨r,h1,hK _ _ _ h3⟩
    | true=>rw [hd] at h; exact Fn.mono h hK
   ·exact .inr ⟨h1,.inl ⟨b,h2,h3.mono hK⟩⟩
   ·exact .inr ⟨h1,.inr ⟨g,fs,h2,h3.mono hK⟩⟩
  ·exact h
 ·exact ⟨h.1,uH h.2 hK⟩
theorem dP {P:Program} {dm:DM} {K K':SP} (hK:∀ T H nx,K T H nx→K' T H nx):∀ (l:List Op2) {T:Tm} {H:Hp} {nx:Nat},aj P dm l T H nx K→aj P dm l T H nx K'
 | [],_,_,_,h=>hK _ _ _ h
 | o :: l,T,H,nx,h=>by
  have h:aX (g2 T o.g) (bd P dm o.i T H nx fun r H nx=>aj P dm l (aA T o.d r) H nx K) (aj P dm l (aA T o.d (.tup [])) H nx K):=h
  show aX (g2 T o.g) (bd P dm o.i T H nx fun r H nx=>aj P dm l (aA T o.d r) H nx K') (aj P dm l (aA T o.d (.tup [])) H nx K')
  cases hg:g2 T o.g with
  | none=>rw [hg] at h; exact h.elim
  | some b =>
   rw [hg] at h
   cases b with
   | true =>
    have h:bd P dm o.i T H nx fun r H nx=>aj P dm l (aA T o.d r) H nx K:=h
    exact gM h (fun _ _ _ hh=>dP hK l hh)
   | false=>exact dP hK l h
theorem dx {P:Program} {S:Hp} {K K':SP} (hK:∀ T H nx,K T H nx→K' T H nx):∀ (l:List (Op2 × Nat)) {T:Tm} {H:Hp} {nx:Nat},aZ P S l T H nx K→aZ P S l T H nx K'
 | [],_,_,_,h=>hK _ _ _ h
 | (o,0) :: l,T,H,nx,h=>by
  simp only [aZ] at h ⊢
  cases hg:g2 T o.g with
  | none=>rw [hg] at h; exact h.elim
  | some b =>
   rw [hg] at h
   cases b with
   | true =>
    have h:aB (aU T S o.i) fun r=>aZ P S l (aA T o.d r) H nx K:=h
    show aB (aU T S o.i) fun r=>aZ P S l (aA T o.d r) H nx K'
    obtain ⟨r,hr,hh⟩:=bQ h
    rw [hr]; exact dx hK l hh
   | false=>exact dx hK l h
 | (o,k + 1) :: l,T,H,nx,h=>by
  simp only [aZ] at h ⊢
  cases hg:g2 T o.g with
  | none=>rw [hg] at h; exact h.elim
  | some b =>
   rw [hg] at h
   cases b with
   | true =>
    have h:if k=2 then aB (pC T o.i) fun r=>aZ P S l (aA T o.d r) H nx K else bd P .text o.i T H nx fun r H' nx'=>(k=0→Sub S H')∧aZ P S l (aA T o.d r) H' nx' K:=h
    show if k=2 then aB (pC T o.i) fun r=>aZ P S l (aA T o.d r) H nx K' else bd P .text o.i T H nx fun r H' nx'=>(k=0→Sub S H')∧aZ P S l (aA T o.d r) H' nx' K'
    split
    ·rename_i hk
     rw [if_pos hk] at h
     obtain ⟨r,hr,hh⟩:=bQ h
     rw [hr]; exact dx hK l hh
    ·rename_i hk
     rw [if_neg hk] at h
     exact gM h (fun _ _ _ hh=>⟨hh.1,dx hK l hh.2⟩)
   | false=>exact dx hK l h
theorem bT {P:Program}:∀ (c:C2) {T:Tm} {H:Hp} {nx:Nat} {K K':CP},aE P c T H nx K→(∀ e T H nx,K e T H nx→K' e T H nx)→aE P c T H nx K'
 | .skip,_,_,_,_,_,h,hK=>hK _ _ _ _ h
 | .exit _,_,_,_,_,_,h,hK=>hK _ _ _ _ h
 | .ret,_,_,_,_,_,h,hK=>hK _ _ _ _ h
 | .ops m l,_,_,_,_,_,h,hK=>let ⟨T,H,nx,Hf,hg,h⟩:=h; ⟨T,H,nx,Hf,hg,dP (hK .normal) l h⟩
 | .mix m l C,_,_,_,_,_,h,hK=>h.imp (fun ⟨h9,T,H,nx,Hf,hg,h⟩=>⟨h9,T,H,nx,Hf,hg,dP (hK .normal) l h⟩) (fun ⟨T,H,nx,Hf,hg,h⟩=>⟨T,H,nx,Hf,hg,dP (hK .normal) _ h⟩)
 | .mixS m l C,_,_,_,_,_,h,hK=>h.imp (fun ⟨h9,T,H,nx,Hf,hg,h⟩=>⟨h9,T,H,nx,Hf,hg,dP (hK .normal) l h⟩) (fun ⟨T,H,nx,Hf,S,hg,hs,h⟩=>⟨T,H,nx,Hf,S,hg,hs,dx (hK .normal) _ h⟩)
 | .seq x y,_,_,_,K,K',h,hK=>by
  refine bT x h (fun e T H nx h=>?_)
  cases e with
  | normal=>exact bT y h hK
  | exit i=>exact hK _ _ _ _ h
  | ret=>exact hK _ _ _ _ h
 | .cond c x y,T,H,nx,K,K',h,hK=>by
  simp only [aE] at h ⊢
  unfold bf at h ⊢
  split at h
  ·exact ⟨fun hb=>bT x (h.1 hb) hK,fun hb=>bT y (h.2 hb) hK⟩
  ·exact h
 | .block id b,_,_,_,_,_,h,hK=>bT b h (fun e T H nx h=>hK _ _ _ _ h)
 | .loop b,T,H,nx,K,K',h,hK=>by
  obtain ⟨n,h⟩:=h
  refine ⟨n,?_⟩
  induction n generalizing T H nx with
  | zero=>exact h
  | succ n ih =>
   obtain ⟨T',H',nx',Hf,hw,h⟩:=h
   refine ⟨T',H',nx',Hf,hw,bT b h (fun e T H nx h=>?_)⟩
   cases e with
   | normal=>exact ih _ _ _ h
   | exit i=>exact hK _ _ _ _ h
   | ret=>exact hK _ _ _ _ h
 | .rangeF g ps a b,T,H,nx,K,K',h,hK=>by
  obtain ⟨f,caps,h1,h2⟩:=h
  refine ⟨f,caps,h1,fun c0 cj hy=>Fn.mono (h2 c0 cj hy) ?_⟩
  rintro r H' nx' (⟨k1,k2⟩ | ⟨e,k1,k2,k3⟩)
  ·exact .inl ⟨k1,hK _ _ _ _ k2⟩
  ·exact .inr ⟨e,k1,k2,hK _ _ _ _ k3⟩
theorem tv {P:Program} {b:C2} {T:Tm} {H:Hp} {nx:Nat} {K:CP} {X:Type} (TT:X→Tm) (HH:X→Hp) (NX:X→Nat) (φ:X→Prop) (μ:X→Nat)
    (start:∃ x,φ x∧∃ Hf,Gh T H nx (TT x) (HH x) (NX x) Hf)
    (step:∀ x,φ x→aE P b (TT x) (HH x) (NX x) fun e T H nx=>aM e (∃ y,φ y∧μ y < μ x∧∃ Hf,Gh T H nx (TT y) (HH y) (NX y) Hf) (K e T H nx)):bb (aE P b) T H nx K:=by
 have key:∀ n x T H nx,μ x < n→φ x→(∃ Hf,Gh T H nx (TT x) (HH x) (NX x) Hf)→jI (aE P b) K n T H nx:=by
  intro n
  induction n with
  | zero=>intro x T H nx h; omega
  | succ n ih =>
   intro x T H nx hn hx ⟨Hf,hg⟩
   refine ⟨_,_,_,Hf,hg,bT b (step x hx) (fun e T H nx h=>?_)⟩
   cases e with
   | normal =>
    obtain ⟨y,h1,h2,h3⟩:=h
    exact ih y T H nx (by omega) h1 h3
   | exit i=>exact h
   | ret=>exact h
 obtain ⟨x,hx,hg⟩:=start
 exact ⟨_,key _ x T H nx (Nat.lt_succ_self _) hx hg⟩
def tl:List (Nat × AV)→Tm
 | [],_=>.undef
 | (d,v) :: l,t=>if t=d then v else tl l t
def agr (T:Tm):List (Nat × AV)→Prop
 | []=>True
 | (d,v) :: l=>T d=v∧agr T l
theorem lZ {T:Tm}:∀ {l:List (Nat × AV)},agr T l→∀ t,tl l t=.undef ∨ tl l t=T t
 | [],_,t=>.inl rfl
 | (d,v) :: l,h,t=>by
  simp only [tl]
  split
  ·rename_i e; subst e; exact .inr h.1.symm
  ·exact lZ h.2 t
theorem Gh.weak {T T':Tm} {H:Hp} {nx:Nat} (h:∀ t,T' t=.undef ∨ T' t=T t):Gh T H nx T' H nx a9 :=
 ⟨fun _ _ h=>(by cases h),Nat.le_refl _,fun b cs h=>.inl ⟨cs,h,rfl,rfl,fun i x x' h1 h2=>.inl (by rw [h1] at h2; cases h2; rfl)⟩,fun t=>(h t).imp id .inl⟩
theorem wi {P:Program} {b:C2} {T:Tm} {H:Hp} {nx:Nat} {K:CP} {X:Type} (L:X→List (Nat × AV)) (φ:X→Prop) (μ:X→Nat) (x0:X)
    (h0:φ x0) (hT:agr T (L x0))
    (step:∀ x,φ x→aE P b (tl (L x)) H nx fun e T H' nx'=>aM e (∃ y,φ y∧μ y < μ x∧agr T (L y)∧H'=H∧nx'=nx) (K e T H' nx')):bb (aE P b) T H nx K:=by
 refine tv (fun x=>tl (L x)) (fun _=>H) (fun _=>nx) φ μ ⟨x0,h0,_,Gh.weak (lZ hT)⟩ (fun x hx=>bT b (step x hx) (fun e T H' nx' h=>?_))
 cases e with
 | normal =>
  obtain ⟨y,h1,h2,h3,rfl,rfl⟩:=h
  exact ⟨y,h1,h2,_,Gh.weak (lZ h3)⟩
 | exit i=>exact h
 | ret=>exact h
@[congr] theorem aloop_congr {b:Tm→Hp→Nat→CP→Prop} {T:Tm} {H:Hp} {nx nx':Nat} {K:CP} (h:nx=nx'):bb b T H nx K=bb b T H nx' K:=by rw [h]
@[congr] theorem awp2_congr {P P':Program} {c:C2} {T:Tm} {H:Hp} {nx:Nat} {K:CP} (h:P=P'):aE P c T H nx K=aE P' c T H nx K:=by rw [h]
@[congr] theorem aops2_congr {P P':Program} {dm:DM} {l:List Op2} {T:Tm} {H:Hp} {nx:Nat} {K:SP} (h:P=P'):aj P dm l T H nx K=aj P' dm l T H nx K:=by rw [h]
@[congr] theorem ains_congr {P P':Program} {dm:DM} {i:Ins} {T:Tm} {H:Hp} {nx:Nat} {K:AV→Hp→Nat→Prop} (h:P=P'):bd P dm i T H nx K=bd P' dm i T H nx K:=by rw [h]
theorem vH {k:IntKind} {a b:Int} {tb tf:Bool}:aP .lss tb tf (.int k a) (.int k b)=some (.bool (decide (a < b))):=by simp [aP,da]
theorem vF {k:IntKind} {a b:Int} {tb tf:Bool}:aP .leq tb tf (.int k a) (.int k b)=some (.bool (decide (a ≤ b))):=by simp [aP,da]
theorem u5 {k:IntKind} {a b:Int} {tb tf:Bool}:aP .gtr tb tf (.int k a) (.int k b)=some (.bool (decide (a > b))):=by simp [aP,da]
theorem vK {k:IntKind} {a b:Int} {tb tf:Bool}:aP .geq tb tf (.int k a) (.int k b)=some (.bool (decide (a ≥ b))):=by simp [aP,da]
theorem vA {k:IntKind} {a b:Int} {tb tf:Bool}:aP .eql tb tf (.int k a) (.int k b)=some (.bool (decide (a=b))):=by
 simp only [aP,da]; simp; by_cases h:a=b <;> simp [h]
theorem uZ {k:IntKind} {a b:Int} {tb tf:Bool}:aP .neq tb tf (.int k a) (.int k b)=some (.bool (decide (a ≠ b))):=by
 simp [aP,da,bne]; rfl
theorem vw {k:IntKind} {a b:Int} {tb tf:Bool}:aP .add tb tf (.int k a) (.int k b)=some (.int k (k.wrap (a + b))):=by simp [aP,da]
theorem vE {k:IntKind} {a b:Int} {tb tf:Bool}:aP .sub tb tf (.int k a) (.int k b)=some (.int k (k.wrap (a - b))):=by simp [aP,da]
theorem vb {k:IntKind} {a b:Int} {tb tf:Bool}:aP .mul tb tf (.int k a) (.int k b)=some (.int k (k.wrap (a * b))):=by simp [aP,da]
theorem lW {a:Int} (h1:-9223372036854775808 ≤ a) (h2:a ≤ 9223372036854775807):IntKind.wrap .i64 a=a:=by
 rw [IntKind.wrap_i64]; omega
end Go.Abs
namespace Go.Abs
open Go.RowKit
variable {P:Program} {T:Tm} {H:Hp} {nx:Nat}
theorem wO {K:CP} (h:K .normal T H nx):aE P .skip T H nx K:=h
theorem wU {K:CP} {i:Nat} (h:K (.exit i) T H nx):aE P (.exit i) T H nx K:=h
theorem yJ {K:CP} (h:K .ret T H nx):aE P .ret T H nx K:=h
theorem wN {K:CP} {l:List Op2} (h:aj P .text l T H nx fun T H nx=>K .normal T H nx):aE P (.ops 0 l) T H nx K:=⟨T,H,nx,_,Gh.refl _ _ _,h⟩
theorem nM {K:CP} {l:List Op2} {C:List Nat} (h:aj P .draw l T H nx fun T H nx=>K .normal T H nx):aE P (.mix 1 l C) T H nx K:=.inl ⟨by decide,T,H,nx,_,Gh.refl _ _ _,h⟩
theorem pZ {K:CP} {l:List Op2} {C:List Nat} (h:aj P (.fresh nx) l T H nx fun T H nx=>K .normal T H nx):aE P (.mix 2 l C) T H nx K:=.inl ⟨by decide,T,H,nx,_,Gh.refl _ _ _,h⟩
theorem vh {K:CP} {l:List Op2} {C:List (Nat × Nat)} (h:aj P .draw l T H nx fun T H nx=>K .normal T H nx):aE P (.mixS 1 l C) T H nx K:=.inl ⟨by decide,T,H,nx,_,Gh.refl _ _ _,h⟩
theorem uY {K:CP} {l:List Op2} {C:List (Nat × Nat)} (h:aj P (.fresh nx) l T H nx fun T H nx=>K .normal T H nx):aE P (.mixS 2 l C) T H nx K:=.inl ⟨by decide,T,H,nx,_,Gh.refl _ _ _,h⟩
theorem tP (S:Hp) {K:CP} {m:Nat} {l:List Op2} {alt:List (Op2 × Nat)} {C:List (Nat × Nat)} (ha:(C.map fun k=>(l.getD k.1 ⟨none,none,.dead⟩,k.2))=alt) (hs:Sub S H) (h:aZ P S alt T H nx fun T H nx=>K .normal T H nx):aE P (.mixS m l C) T H nx K:=by
 subst ha
 exact .inr ⟨T,H,nx,_,S,Gh.refl _ _ _,hs,h⟩
theorem xx {S:Hp} {K:SP} (h:K T H nx):aZ P S [] T H nx K:=h
theorem yq {S:Hp} {K:SP} {l:List (Op2 × Nat)} {d:Option Nat} {i:Ins} {r:AV} (h:aU T S i=some r) (k:aZ P S l (aA T d r) H nx K):aZ P S ((⟨d,none,i⟩,0) :: l) T H nx K:=by
 show aB (aU T S i) fun r=>aZ P S l (aA T d r) H nx K
 rw [h]; exact k
theorem qf {S:Hp} {K:SP} {l:List (Op2 × Nat)} {d:Option Nat} {i:Ins} (k:aj P .text [⟨d,none,i⟩] T H nx fun T H nx=>Sub S H∧aZ P S l T H nx K):aZ P S ((⟨d,none,i⟩,1) :: l) T H nx K:=by
 have k:bd P .text i T H nx fun r H nx=>Sub S H∧aZ P S l (aA T d r) H nx K:=k
 show bd P .text i T H nx fun r H' nx'=>(0=0→Sub S H')∧aZ P S l (aA T d r) H' nx' K
 exact gM k (fun _ _ _ h=>⟨fun _=>h.1,h.2⟩)
theorem oz {S:Hp} {K:SP} {l:List (Op2 × Nat)} {d:Option Nat} {i:Ins} (k:aj P .text [⟨d,none,i⟩] T H nx fun T H nx=>aZ P S l T H nx K):aZ P S ((⟨d,none,i⟩,2) :: l) T H nx K:=by
 have k:bd P .text i T H nx fun r H nx=>aZ P S l (aA T d r) H nx K:=k
 show bd P .text i T H nx fun r H' nx'=>(1=0→Sub S H')∧aZ P S l (aA T d r) H' nx' K
 exact gM k (fun _ _ _ h=>⟨fun hh=>absurd hh (by decide),h⟩)
theorem xg {K:CP} {l:List Op2} (h:aj P .draw l T H nx fun T H nx=>K .normal T H nx):aE P (.ops 1 l) T H nx K:=⟨T,H,nx,_,Gh.refl _ _ _,h⟩
theorem wH {K:CP} {l:List Op2} (h:aj P (.fresh nx) l T H nx fun T H nx=>K .normal T H nx):aE P (.ops 2 l) T H nx K:=⟨T,H,nx,_,Gh.refl _ _ _,h⟩
theorem dJ {K:CP} {x y:C2} (h:aE P x T H nx fun e T H nx=>aM e (aE P y T H nx K) (K e T H nx)):aE P (.seq x y) T H nx K:=h
theorem dp {K:CP} {i:Nat} {b:C2} (h:aE P b T H nx fun e T H nx=>K (gu i e) T H nx):aE P (.block i b) T H nx K:=h
theorem qa {K:CP} {c:Opd} {x y:C2} {b:Bool} (hc:ov T c=.bool b) (h1:b=true→aE P x T H nx K) (h2:b=false→aE P y T H nx K):aE P (.cond c x y) T H nx K:=by
 simp only [aE,hc]; exact ⟨h1,h2⟩
theorem nX {K:CP} {c:Opd} {x y:C2} (hc:ov T c=.bool true) (h1:aE P x T H nx K):aE P (.cond c x y) T H nx K :=
 qa hc (fun _=>h1) (fun h=>by cases h)
theorem n6 {K:CP} {c:Opd} {x y:C2} (hc:ov T c=.bool false) (h2:aE P y T H nx K):aE P (.cond c x y) T H nx K :=
 qa hc (fun h=>by cases h) (fun _=>h2)
theorem wP {K:CP} {b:C2} (h:bb (aE P b) T H nx K):aE P (.loop b) T H nx K:=h
theorem a_n {A B:Prop} (h:A):aM .normal A B:=h
theorem a_x {A B:Prop} {i:Nat} (h:B):aM (.exit i) A B:=h
theorem a_r {A B:Prop} (h:B):aM .ret A B:=h
theorem tZ {dm:DM} {K:SP} (h:K T H nx):aj P dm [] T H nx K:=h
theorem wa {dm:DM} {K:SP} {l:List Op2} {d:Option Nat} {i:Ins} {r:AV} (hi:ic i=.val) (hd:dm2 dm T i=true) (h:aU T H i=some r) (k:aj P dm l (aA T d r) H nx K):aj P dm (⟨d,none,i⟩ :: l) T H nx K:=by
 show bd P dm i T H nx fun r H nx=>aj P dm l (aA T d r) H nx K
 unfold bd; rw [hi]; exact ⟨hd,by rw [h]; exact k⟩
theorem mg {dm:DM} {K:SP} {l:List Op2} {d:Option Nat} {i:Ins} {r:AV} {H':Hp} {nx':Nat} (hi:ic i=.eff) (hd:dm2 dm T i=true) (h:eu T H nx i=some (r,H',nx')) (k:aj P dm l (aA T d r) H' nx' K):aj P dm (⟨d,none,i⟩ :: l) T H nx K:=by
 show bd P dm i T H nx fun r H nx=>aj P dm l (aA T d r) H nx K
 unfold bd; rw [hi]; exact ⟨hd,by rw [h]; exact k⟩
theorem qw {K:SP} {l:List Op2} {d:Option Nat} {f:Opd} {args:List Opd} {g:FuncId} {caps:List AV} (hf:ov T f=.func g caps) (k:Fn P g (args.map (ov T) ++ caps) H nx fun r H nx=>aj P .text l (aA T d r) H nx K) :
    aj P .text (⟨d,none,.call f args⟩ :: l) T H nx K:=by
 left
 show aB (iL (ov T f)) _
 rw [hf]; exact k
theorem ry {dm:DM} (hdm:dm.isText=false) {K:SP} {l:List Op2} {d:Option Nat} {f:Opd} {args:List Opd} {g:FuncId} {caps:List AV} (hf:ov T f=.func g caps) (k:ba P g (args.map (ov T) ++ caps) H fun r=>aj P dm l (aA T d r) H nx K) :
    aj P dm (⟨d,none,.call f args⟩ :: l) T H nx K:=by
 left
 show aB (iL (ov T f)) _
 rw [hf]
 show (match dm.isText with | false=>_ | true=>_)
 rw [hdm]
 exact k
theorem pX {K:SP} {l:List Op2} {d:Option Nat} {i:Ins} (hi:ic i=.sp) (k:isp i T H nx fun r H nx=>aj P .text l (aA T d r) H nx K):aj P .text (⟨d,none,i⟩ :: l) T H nx K:=by
 show bd P .text i T H nx fun r H nx=>aj P .text l (aA T d r) H nx K
 unfold bd; rw [hi]; exact ⟨rfl,k⟩
theorem v4 {K:SP} {l:List Op2} {d:Option Nat} (k:aj P .text l (aA T d (.mp nx)) (ak H nx [.omap [] []]) (nx + 1) K):aj P .text (⟨d,none,.mkm none⟩ :: l) T H nx K:=pX rfl ⟨.inl rfl,k⟩
theorem wA {K:SP} {l:List Op2} {d:Option Nat} {kk:MK} {m key x:Opd} {b:Nat} {ks vs:List AV} {kv xv:AV} {r:Option Nat} (hm:ov T m=.mp b) (hb:H b=some [.omap ks vs]) (hk:ov T key=kv) (hx:ov T x=xv) (hfit:iY kk kv=true) (hr:co kk kv ks=some r)
    (k:aj P .text l (aA T d (.tup [])) (ak H b [.omap (bS kv r ks) (hY xv r vs)]) nx K):aj P .text (⟨d,none,.mput kk m key x⟩ :: l) T H nx K:=by
 subst hk hx
 exact pX rfl ⟨b,ks,vs,r,hm,hb,hfit,hr,k⟩
theorem nL {K:SP} {l:List Op2} {d:Option Nat} {kk:MK} {z:AV} {ok:Bool} {m key:Opd} {b:Nat} {ks vs:List AV} {kv:AV} {r:Option Nat} (hm:ov T m=.mp b) (hb:H b=some [.omap ks vs]) (hk:ov T key=kv) (hfit:iY kk kv=true) (hr:co kk kv ks=some r)
    (k:aj P .text l (aA T d (mget z ok r vs)) H nx K):aj P .text (⟨d,none,.mget kk z ok m key⟩ :: l) T H nx K:=by
 subst hk
 exact pX rfl ⟨b,ks,vs,r,hm,hb,hfit,hr,k⟩
theorem ut {K:SP} {l:List Op2} {d:Option Nat} {kk:MK} {z:AV} {m key:Opd} {b:Nat} {ks vs:List AV} {kv:AV} {r:Option Nat} (hm:ov T m=.mp b) (hb:H b=some [.omap ks vs]) (hk:ov T key=kv) (hfit:iY kk kv=true) (hr:co kk kv ks=some r)
    (k:aj P .text l (aA T d (.tup [pY z r vs,.int .i64 (oN r ks)])) (ak H b [.omap (bS kv r ks) (gi z r vs)]) nx K):aj P .text (⟨d,none,.mplc kk z m key⟩ :: l) T H nx K:=by
 subst hk
 exact pX rfl ⟨b,ks,vs,r,hm,hb,hfit,hr,k⟩
theorem s0 {K:SP} {l:List Op2} {d:Option Nat} {m s x:Opd} {b i:Nat} {ks vs:List AV} {xv:AV} (hm:ov T m=.mp b) (hb:H b=some [.omap ks vs]) (hi:ov T s=.int .i64 (i:Int)) (hlt:i < ks.length) (hx:ov T x=xv)
    (k:aj P .text l (aA T d (.tup [])) (ak H b [.omap ks (vs.set i xv)]) nx K):aj P .text (⟨d,none,.mpst m s x⟩ :: l) T H nx K:=by
 subst hx
 exact pX rfl ⟨b,ks,vs,i,hm,hb,hi,hlt,k⟩
theorem wc {K:SP} {l:List Op2} {d:Option Nat} {sz:Nat} {z:AV} {x:Opd} {H':Hp} (h:eL sz z (ov T x) H=some H') (k:aj P .text l (aA T d (.tup [])) H' nx K):aj P .text (⟨d,none,.clr sz z x⟩ :: l) T H nx K:=pX rfl ⟨H',h,k⟩
theorem sY {K:SP} {l:List Op2} {d:Option Nat} {neg:Bool} {x:Opd} {k:Nat} (hx:eP (ov T x)=some k) (h1:0 < k→aj P .text l (aA T d (.bool neg)) H nx K) (h2:k=0→aj P .text l (aA T d (.bool true)) H nx K) (h3:k=0→aj P .text l (aA T d (.bool false)) H nx K):aj P .text (⟨d,none,.snil neg x⟩ :: l) T H nx K:=pX rfl ⟨k,hx,h1,fun h=>⟨h2 h,h3 h⟩⟩
theorem uS {K:CP} {g:Opd} {ps:List Nat} {a b:C2} {f:FuncId} {caps:List AV} (hg:ov T g=.func f caps)
    (h:∀ (c0:AV) (cj:AEx→AV),(∀ (args:List AV) (H':Hp) (nx':Nat) (K':AV→Hp→Nat→Prop),H' nx=some [c0]→args.length=ps.length →
        aE P a (fe T ps args) H' nx' (fun e T2 H2 nx2=>aM e (H2 nx=some [c0]∧aE P b T2 (ca H2 nx) nx2 fun e T3 H3 nx3=>aM e (K' (.bool true) (ak H3 nx [c0]) nx3) (K' (.bool false) (ak H3 nx [cj e]) nx3)) False) →
        Yl P nx args H' nx' K') →
     Fn P f (.yld nx :: caps) (ak H nx [c0]) (nx + 1) fun _ H' nx'=>(H' nx=some [c0]∧K .normal T (ca H' nx) nx') ∨ ∃ e,e ≠ .normal∧H' nx=some [cj e]∧K e T (ca H' nx) nx'):aE P (.rangeF g ps a b) T H nx K:=⟨f,caps,hg,h⟩
theorem wZ {dm:DM} {K:SP} {l:List Op2} {d:Option Nat} {i:Ins} {t:Nat} {w:Bool} (h:T t=.bool w) (k:aj P dm (⟨d,none,i⟩ :: l) T H nx K):aj P dm (⟨d,some (t,w),i⟩ :: l) T H nx K:=by
 show aX (g2 T (some (t,w))) _ _
 have:g2 T (some (t,w))=some true:=by simp [g2,h]
 rw [this]; exact k
theorem xl {dm:DM} {K:SP} {l:List Op2} {d:Option Nat} {i:Ins} {t:Nat} {w:Bool} (h:T t=.bool (!w) ∨ T t=.tup []) (k:aj P dm l (aA T d (.tup [])) H nx K):aj P dm (⟨d,some (t,w),i⟩ :: l) T H nx K:=by
 show aX (g2 T (some (t,w))) _ _
 have:g2 T (some (t,w))=some false:=by
  rcases h with h | h
  ·cases w <;> simp [g2,h]
  ·simp [g2,h]
 rw [this]; exact k
theorem ag {e:AEx} {A:Prop} (he:e.ends=true) (h:A):aV e.ends A:=⟨he,h⟩
theorem r_1 {K:AV→Prop} {a:RV} {x:AV} (ha:rv T H a=some x) (h:K x):br T H K [a]:=by
 show aB (rv T H a) K
 rw [ha]; exact h
theorem r_2 {K:AV→Prop} {a b:RV} {x y:AV} (ha:rv T H a=some x) (hb:rv T H b=some y) (h:K (.tup [x,y])):br T H K [a,b]:=by
 show aB (rv T H a) _
 rw [ha]
 show aB (rv T H b) _
 rw [hb]; exact h
theorem r_3 {K:AV→Prop} {a b c:RV} {x y z:AV} (ha:rv T H a=some x) (hb:rv T H b=some y) (hc:rv T H c=some z) (h:K (.tup [x,y,z])):br T H K [a,b,c]:=by
 show aB (rv T H a) _
 rw [ha]
 show aB (rv T H b) _
 rw [hb]
 show aB (rv T H c) _
 rw [hc]; exact h
theorem pS {T:Tm} {t:Nat} {v:AV} (h:T t=v):upd T t v=T:=by
 funext x; simp only [upd]; split
 ·rename_i e; rw [e,h]
 ·rfl
theorem yI {dm:DM} {K:SP} {l:List Op2} {d:Option Nat} {i:Ins} {t:Nat} {w b:Bool} (h:T t=.bool b) (k1:b=w→aj P dm (⟨d,none,i⟩ :: l) (upd T t (.bool w)) H nx K)
    (k2:b=!w→aj P dm l (aA (upd T t (.bool (!w))) d (.tup [])) H nx K):aj P dm (⟨d,some (t,w),i⟩ :: l) T H nx K:=by
 by_cases hb:b=w
 ·subst hb
  have:=k1 rfl
  rw [pS h] at this
  exact wZ h this
 ·have hb':b=!w:=by cases b <;> cases w <;> simp_all
  subst hb'
  have:=k2 rfl
  rw [pS h] at this
  exact xl (.inl h) this
theorem pj {α:Type} {f:α→AV} {l:List α} {k:Nat} {u:AV} (d:α) (h:k < l.length):(l.map f).getD k u=f (l.getD k d):=by
 simp [List.getD,h]
theorem tV {c:Prop} [Decidable c] {x:Option AV} {r:AV} (hc:c) (h:x=some r):(if c then x else none)=some r:=by rw [if_pos hc]; exact h
theorem sJ {k:IntKind} {n:Int}:AV.cells (.int k n)=[.int k n]:=rfl
end Go.Abs
namespace Go.Abs
open Go.RowKit
def Dat (x:AV):Prop:=∀ H,Snap H x x
theorem Dat.int {k:IntKind} {n:Int}:Dat (.int k n):=fun _=>.int _ _
theorem Dat.bool {b:Bool}:Dat (.bool b):=fun _=>.bool _
theorem Dat.str {s:ByteArray}:Dat (.str s):=fun _=>.str _
theorem Dat.esl:Dat .esl:=fun _=>.esl
theorem Dat.nilp:Dat .nilp:=fun _=>.nilp
theorem Dat.nilf:Dat .nilf:=fun _=>.nilf
theorem Dat.sl {sz:Nat} {l:List AV} (h:∀ x ∈ l,∀ c ∈ x.cells,Dat c):Dat (.sl sz l):=fun H =>
 .sl sz l l rfl (fun i x y hx hy=>by rw [hx] at hy; cases hy; rfl) (fun i j x y a b hx hy ha hb=>by
  rw [hx] at hy; cases hy; rw [ha] at hb; cases hb
  exact h x (List.mem_of_getElem? hx) a (List.mem_of_getElem? ha) H)
theorem Dat.agg {l:List AV} (h:∀ x ∈ l,Dat x):Dat (.agg l):=fun H =>
 .agg l l rfl (fun i a c ha hc=>by rw [ha] at hc; cases hc; exact h a (List.mem_of_getElem? ha) H)
theorem Dat.tup {l:List AV} (h:∀ x ∈ l,Dat x):Dat (.tup l):=fun H =>
 .tup l l rfl (fun i a c ha hc=>by rw [ha] at hc; cases hc; exact h a (List.mem_of_getElem? ha) H)
theorem Dat.func {f:FuncId} {l:List AV} (h:∀ x ∈ l,Dat x):Dat (.func f l):=fun H =>
 .func f l l rfl (fun i a c ha hc=>by rw [ha] at hc; cases hc; exact h a (List.mem_of_getElem? ha) H)
def de (l:List Int):AV:=.sl 1 (l.map (AV.int .i64))
def ft (l:List (List Int)):AV:=.sl 1 (l.map de)
theorem gw (l:List Int):Dat (de l):=Dat.sl (fun x hx c hc=>by
 obtain ⟨n,_,rfl⟩:=List.mem_map.1 hx
 simp only [AV.cells,List.mem_singleton] at hc; subst hc; exact .int)
theorem rH (l:List (List Int)):Dat (ft l):=Dat.sl (fun x hx c hc=>by
 obtain ⟨n,_,rfl⟩:=List.mem_map.1 hx
 simp only [de,AV.cells,List.mem_singleton] at hc; subst hc; exact gw n)
theorem qx {l:List Int}:(de l).cells=[de l]:=rfl
theorem ab {H:Hp}:aL H [] []:=aL.nil
theorem ae {H:Hp} {x:AV} {xs ys:List AV} (h:Dat x) (hs:aL H xs ys):aL H (x :: xs) (x :: ys):=aL.cons (h H) hs
class DatI (x:AV):Prop where
 d:Dat x
instance datI_int {k:IntKind} {n:Int}:DatI (.int k n):=⟨.int⟩
instance datI_bool {b:Bool}:DatI (.bool b):=⟨.bool⟩
instance datI_str {s:ByteArray}:DatI (.str s):=⟨.str⟩
instance datI_esl:DatI .esl:=⟨.esl⟩
instance datI_nilf:DatI .nilf:=⟨.nilf⟩
instance datI_encV {l:List Int}:DatI (de l):=⟨gw l⟩
instance datI_encVV {l:List (List Int)}:DatI (ft l):=⟨rH l⟩
theorem ah {H:Hp} {x:AV} {xs ys:List AV} [h:DatI x] (hs:aL H xs ys):aL H (x :: xs) (x :: ys):=ae h.d hs
variable {P:Program} {T:Tm} {H:Hp} {nx:Nat}
theorem dQ {dm:DM} {K:SP} {l:List Op2} {d:Option Nat} {f:Opd} {args:List Opd} {g:FuncId} {caps xs ys:List AV} {r:AV} (hf:ov T f=.func g caps) (ha:args.map (ov T) ++ caps=xs)
    (hp:Pure P g ys r) (hs:ax H xs ys r) (k:aj P dm l (aA T d r) H nx K):aj P dm (⟨d,none,.call f args⟩ :: l) T H nx K:=by
 subst ha
 cases hd:dm.isText with
 | false=>exact ry hd hf (ba.of_pure hp hs k)
 | true =>
  cases dm with
  | text=>exact qw hf (Fn.of_pure hp hs k)
  | draw=>cases hd
  | fresh m=>cases hd
theorem vQ {dm:DM} {K:SP} {l:List Op2} {d:Option Nat} {f:Opd} {args:List Opd} {g:FuncId} {caps xs ys:List AV} {r:AV} (hf:ov T f=.func g caps) (ha:args.map (ov T) ++ caps=xs)
    (hp:eZ P g ys r) (hs:aL H xs ys) (k:aj P dm l (aA T d r) H nx K):aj P dm (⟨d,none,.call f args⟩ :: l) T H nx K:=by
 subst ha
 have hc:=hp.callOk hs
 cases hd:dm.isText with
 | false=>exact ry hd hf (ba.of_callOk hc k)
 | true =>
  cases dm with
  | text=>exact qw hf (Fn.of_callOk hc k)
  | draw=>cases hd
  | fresh m=>cases hd
theorem rz {dm:DM} {K:SP} {l:List Op2} {d:Option Nat} {f:Opd} {args:List Opd} {g:FuncId} {caps xs:List AV} {r:AV} (hf:ov T f=.func g caps) (ha:args.map (ov T) ++ caps=xs)
    (hp:Pure P g xs r) (hs:ax H xs xs r) (k:aj P dm l (aA T d r) H nx K):aj P dm (⟨d,none,.call f args⟩ :: l) T H nx K:=dQ hf ha hp hs k
theorem ac {xs ys:List AV} {r:AV} {H:Hp} (h:aL a9 xs ys):ax H xs ys r:=.inl h
theorem aa {xs ys:List AV} {r:AV} {H:Hp} (h:aL H xs ys) (hr:r.sca=true):ax H xs ys r:=.inr ⟨h,hr⟩
theorem kU {α:Type} [Inhabited α] {f:α→AV} {l:List α} {sz:Nat} {k:IntKind} {n:Int}:dI sz (.sl sz (l.map f)) (.int k n)=if 0 ≤ n∧n < l.length then some (.iptr (f (l.getD n.toNat default)).cells 0) else none:=by
 simp only [dI,true_and,List.length_map]
 split
 ·rename_i h
  rw [pj default (by omega)]
 ·rfl
theorem jr {α:Type} {f:α→AV} {l:List α} {sz:Nat}:cb (.sl sz (l.map f))=some (.int .i64 l.length):=by simp [cb]
theorem rJ {l:List Int} {k:IntKind} {n:Int}:dI 1 (de l) (.int k n)=if 0 ≤ n∧n < l.length then some (.iptr [.int .i64 (l.getD n.toNat default)] 0) else none:=kU
theorem qB {l:List (List Int)} {k:IntKind} {n:Int}:dI 1 (ft l) (.int k n)=if 0 ≤ n∧n < l.length then some (.iptr [de (l.getD n.toNat default)] 0) else none:=kU
theorem qH {l:List Int}:cb (de l)=some (.int .i64 l.length):=jr
theorem oW {l:List (List Int)}:cb (ft l)=some (.int .i64 l.length):=jr
end Go.Abs
namespace Go.Abs
theorem SA:(∀ (T:Tm) (n:Nat),ov T (.t n)=T n)∧(∀ (T:Tm) (v:AV),ov T (.c v)=v)∧(∀ (T:Tm) (d t:Nat) (v:AV),upd T d v t=if t=d then v else T t)∧(∀ (T:Tm) (d:Nat) (v:AV),aA T (some d) v=upd T d v) ∧
    (∀ (T:Tm) (v:AV),aA T none v=T)∧(∀ (x:AV) (l:List AV),T0 (x :: l) 0=x)∧(∀ (x:AV) (l:List AV) (n:Nat),T0 (x :: l) (n + 1)=T0 l n)∧(∀ n:Nat,T0 [] n=.undef) ∧
    (∀ (d t:Nat) (v:AV) (l:List (Nat × AV)),tl ((d,v) :: l) t=if t=d then v else tl l t)∧(∀ t:Nat,tl [] t=.undef) ∧
    (∀ (T:Tm) (t:Nat) (ts:List Nat) (x:AV) (xs:List AV),fe T (t :: ts) (x :: xs)=fe (upd T t x) ts xs)∧(∀ (T:Tm) (xs:List AV),fe T [] xs=T) :=
 ⟨fun _ _=>rfl,fun _ _=>rfl,fun _ _ _ _=>rfl,fun _ _ _=>rfl,fun _ _=>rfl,fun _ _=>rfl,fun _ _ _=>rfl,fun _=>rfl,fun _ _ _ _=>rfl,fun _=>rfl,fun _ _ _ _ _=>rfl,fun _ xs=>by cases xs <;> rfl⟩
theorem SV:(∀ (T:Tm) (H:Hp) (x:Opd),aU T H (.mov x)=some (ov T x)) ∧
    (∀ (T:Tm) (H:Hp) (c a b:Opd),aU T H (.pick c a b)=match ov T c with | .bool t=>some (if t=true then ov T a else ov T b) | _=>none) ∧
    (∀ (T:Tm) (H:Hp) (a:Opd),aU T H (.ld1 a)=rd1 H (ov T a))∧(∀ (T:Tm) (H:Hp) (k:Nat) (a:Opd),aU T H (.ldn k a)=(rd H k (ov T a)).map .agg) ∧
    (∀ (T:Tm) (H:Hp) (op:BinOp) (tb tf:Bool) (x y:Opd),aU T H (.bin op tb tf x y)=aP op tb tf (ov T x) (ov T y)) ∧
    (∀ (T:Tm) (H:Hp) (op:UnOp) (x:Opd),aU T H (.un op x)=aun op (ov T x)) ∧
    (∀ (T:Tm) (H:Hp) (f:FuncId) (caps:List Opd),aU T H (.mkfn f caps)=some (.func f (caps.map (ov T)))) ∧
    (∀ (T:Tm) (H:Hp) (k:Nat) (p:Opd),aU T H (.fa k p)=fY k (ov T p)) ∧
    (∀ (T:Tm) (H:Hp) (sz:Nat) (x i:Opd),aU T H (.ixaS sz x i)=dI sz (ov T x) (ov T i)) ∧
    (∀ (T:Tm) (H:Hp) (x:Opd) (i:Nat),aU T H (.ext x i)=dY (ov T x) i) ∧
    (∀ (T:Tm) (H:Hp) (x:Opd),aU T H (.lenS x)=cb (ov T x)) ∧
    (∀ (T:Tm) (H:Hp) (z:List AV) (parts:List (Nat × Nat × Opd)),aU T H (.bld z parts)=(cz z (parts.map fun p=>(p.1,p.2.1,ov T p.2.2))).map .agg) ∧
    (∀ (T:Tm) (H:Hp) (x:Opd) (l:List Opd),aU T H (.mx x l)=dU iT (ov T x) (l.map (ov T))) ∧
    (∀ (T:Tm) (H:Hp) (x:Opd) (l:List Opd),aU T H (.mn x l)=dU iR (ov T x) (l.map (ov T))) ∧
    (∀ (T:Tm) (H:Hp) (k:IntKind) (x:Opd),aU T H (.conv k x)=iQ (ov T x) fun n=>some (.int k (k.wrap n))) ∧
    (∀ (T:Tm) (H:Hp) (sz:Nat) (x:Opd) (lo hi mx:Option Opd),aU T H (.sls sz x lo hi mx)=ir sz (ov T x) (lo.map (ov T)) (hi.map (ov T)) (mx.map (ov T))) ∧
    (∀ (T:Tm) (H:Hp) (off:Nat) (x:Opd),aU T H (.part1 off x)=b0 (ov T x) fun cs=>cs[off]?) ∧
    (∀ (T:Tm) (H:Hp) (op:BinOp) (ks:List TK) (x y:Opd),aU T H (.binS op ks x y)=b0 (ov T x) fun xs=>b0 (ov T y) fun ys=>iv op ks xs ys) :=
 ⟨fun _ _ _=>rfl,fun _ _ _ _ _=>rfl,fun _ _ _=>rfl,fun _ _ _ _=>rfl,fun _ _ _ _ _ _ _=>rfl,fun _ _ _ _=>rfl,fun _ _ _ _=>rfl,fun _ _ _ _=>rfl,fun _ _ _ _ _=>rfl,fun _ _ _ _=>rfl,fun _ _ _=>rfl,
  fun _ _ _ _=>rfl,fun _ _ _ _=>rfl,fun _ _ _ _=>rfl,fun _ _ _ _=>rfl,fun _ _ _ _ _ _ _=>rfl,fun _ _ _ _=>rfl,fun _ _ _ _ _ _=>rfl⟩
def kE:AV→Option AV
 | .str s=>some (.int .i64 s.size)
 | _=>none
def ib:AV→AV→Option AV
 | .str s,.int _ n=>if 0 ≤ n∧n < s.size then some (.int .u8 (s[n.toNat]?.getD 0).toNat) else none
 | _,_=>none
theorem SV2:(∀ (T:Tm) (H:Hp) (n:Nat) (x:Opd) (lo hi:Option Opd),aU T H (.slsA n x lo hi)=po n (ov T x) (lo.map (ov T)) (hi.map (ov T)) none) ∧
    (∀ (T:Tm) (H:Hp) (f:FuncId) (l:List Opd),aU T H (.mkbf f l)=some (.bfn f (l.map (ov T)))) ∧
    (∀ (T:Tm) (H:Hp) (x:Opd),aU T H (.lenStr x)=kE (ov T x)) ∧
    (∀ (T:Tm) (H:Hp) (x i:Opd),aU T H (.ixStr x i)=ib (ov T x) (ov T i)) ∧
    (∀ (T:Tm) (H:Hp) (x:Opd) (lo hi:Option Opd),aU T H (.slstr x lo hi)=nS (ov T x) (lo.map (ov T)) (hi.map (ov T))) ∧
    (∀ (T:Tm) (H:Hp) (off k:Nat) (x:Opd),aU T H (.partn off k x)=b0 (ov T x) fun cs=>if off + k ≤ cs.length then some (.agg ((cs.drop off).take k)) else none) ∧
    (∀ (T:Tm) (H:Hp) (n:Nat),aU T H (.lenC n)=some (.int .i64 n)) ∧
    (∀ (s:ByteArray),kE (.str s)=some (.int .i64 s.size)) ∧
    (∀ (s:ByteArray) (k:IntKind) (n:Int),ib (.str s) (.int k n)=if 0 ≤ n∧n < s.size then some (.int .u8 (s[n.toNat]?.getD 0).toNat) else none) :=
 ⟨fun _ _ _ _ _ _=>rfl,fun _ _ _ _=>rfl,fun T H x=>by
  simp only [aU]
  cases ov T x <;> rfl,fun T H x i=>by
  simp only [aU]
  cases ov T x <;> cases ov T i <;> rfl,fun _ _ _ _ _=>rfl,fun _ _ _ _ _=>rfl,fun _ _ _=>rfl,fun _=>rfl,fun _ _ _=>rfl⟩
theorem SN:(∀ (k:IntKind) (a b:Int) (tb tf:Bool),aP .lss tb tf (.int k a) (.int k b)=some (.bool (decide (a < b))))∧(∀ (k:IntKind) (a b:Int) (tb tf:Bool),aP .leq tb tf (.int k a) (.int k b)=some (.bool (decide (a ≤ b)))) ∧
    (∀ (k:IntKind) (a b:Int) (tb tf:Bool),aP .gtr tb tf (.int k a) (.int k b)=some (.bool (decide (b < a))))∧(∀ (k:IntKind) (a b:Int) (tb tf:Bool),aP .geq tb tf (.int k a) (.int k b)=some (.bool (decide (b ≤ a)))) ∧
    (∀ (k:IntKind) (a b:Int) (tb tf:Bool),aP .eql tb tf (.int k a) (.int k b)=some (.bool (decide (a=b))))∧(∀ (k:IntKind) (a b:Int) (tb tf:Bool),aP .neq tb tf (.int k a) (.int k b)=some (.bool (decide (a ≠ b)))) ∧
    (∀ (k:IntKind) (a b:Int) (tb tf:Bool),aP .add tb tf (.int k a) (.int k b)=some (.int k (k.wrap (a + b))))∧(∀ (k:IntKind) (a b:Int) (tb tf:Bool),aP .sub tb tf (.int k a) (.int k b)=some (.int k (k.wrap (a - b)))) ∧
    (∀ (k:IntKind) (a b:Int) (tb tf:Bool),aP .mul tb tf (.int k a) (.int k b)=some (.int k (k.wrap (a * b)))) ∧
    (∀ (a b:Bool) (tf:Bool),aP .eql true tf (.bool a) (.bool b)=some (.bool (a == b)))∧(∀ (a b:Bool) (tf:Bool),aP .neq true tf (.bool a) (.bool b)=some (.bool (!(a == b)))) ∧
    (∀ tb:Bool,aP .eql tb true .nilf .nilf=some (.bool true))∧(∀ tb:Bool,aP .neq tb true .nilf .nilf=some (.bool false)) ∧
    (∀ (tb:Bool) (f:FuncId) (c:List AV),aP .eql tb true (.func f c) .nilf=some (.bool false))∧(∀ (tb:Bool) (f:FuncId) (c:List AV),aP .neq tb true (.func f c) .nilf=some (.bool true)) ∧
    (∀ b:Bool,aun .not (.bool b)=some (.bool (!b))) ∧
    (∀ (k:IntKind) (a b:Int),iT (.int k a) (.int k b)=some (.int k (max a b)))∧(∀ (k:IntKind) (a b:Int),iR (.int k a) (.int k b)=some (.int k (min a b))) ∧
    (∀ (f:AV→AV→Option AV) (x:AV),dU f x []=some x)∧(∀ (f:AV→AV→Option AV) (x y:AV) (l:List AV),dU f x (y :: l)=match f x y with | some z=>dU f z l | none=>none) ∧
    (∀ (k:Nat) (b n off:Nat),fY k (.ptr b n off)=some (.ptr b n (off + k)))∧(∀ (k:Nat) (cs:List AV) (off:Nat),fY k (.iptr cs off)=some (.iptr cs (off + k))) ∧
    (∀ (cs:List AV) (off:Nat),rd1 a9 (.iptr cs off)=cs[off]?) :=
 ⟨fun _ _ _ _ _=>vH,fun _ _ _ _ _=>vF,fun _ _ _ _ _=>u5,fun _ _ _ _ _=>vK,fun _ _ _ _ _=>vA,fun _ _ _ _ _=>uZ,fun _ _ _ _ _=>vw,fun _ _ _ _ _=>vE,fun _ _ _ _ _=>vb,
  fun _ _ _=>rfl,fun _ _ _=>rfl,fun _=>rfl,fun _=>rfl,fun _ _ _=>rfl,fun _ _ _=>rfl,fun _=>rfl,
  fun k a b=>by simp only [iT,Int.max_def]; split <;> split <;> simp <;> omega,fun k a b=>by simp only [iR,Int.min_def]; split <;> split <;> simp <;> omega,fun _ _=>rfl,fun _ _ _ _=>rfl,fun _ _ _ _=>rfl,fun _ _ _=>rfl,fun _ _=>rfl⟩
theorem SL:(∀ (a:AV) (l:List AV),(a :: l)[0]?=some a)∧(∀ (a:AV) (l:List AV) (n:Nat),(a :: l)[n + 1]?=l[n]?)∧(∀ (l:List AV),l.drop 0=l)∧(∀ (a:AV) (l:List AV) (n:Nat),(a :: l).drop (n + 1)=l.drop n)∧(∀ n:Nat,([]:List AV).drop n=[]) ∧
    (∀ (l:List AV),l.take 0=[])∧(∀ (a:AV) (l:List AV) (n:Nat),(a :: l).take (n + 1)=a :: l.take n)∧(∀ n:Nat,([]:List AV).take n=[])∧(∀ (l:List AV),[] ++ l=l)∧(∀ (l:List AV),l ++ []=l)∧(∀ (a:AV) (l m:List AV),(a :: l) ++ m=a :: (l ++ m)) ∧
    (∀ (cs:List AV) (off:Nat) (new:List AV),bg cs off new=cs.take off ++ new ++ cs.drop (off + new.length))∧(([]:List AV).length=0)∧(∀ (a:AV) (l:List AV),(a :: l).length=l.length + 1) ∧
    (∀ (k:IntKind) (n:Int),(AV.int k n).cells=[.int k n])∧(∀ b:Bool,(AV.bool b).cells=[.bool b])∧(∀ s:ByteArray,(AV.str s).cells=[.str s])∧(∀ (k:Nat) (l:List AV),(AV.sl k l).cells=[.sl k l])∧(∀ l:List AV,(AV.agg l).cells=l)∧(AV.esl.cells=[.esl])∧(AV.nilf.cells=[.nilf]) ∧
    (∀ (f:FuncId) (c:List AV),(AV.func f c).cells=[.func f c])∧(∀ (b n off:Nat),(AV.ptr b n off).cells=[.ptr b n off])∧(∀ (c:List AV) (off:Nat),(AV.iptr c off).cells=[.iptr c off])∧(∀ (b n sz off len:Nat),(AV.msl b n sz off len).cells=[.msl b n sz off len])∧(∀ b:Nat,(AV.yld b).cells=[.yld b])∧(∀ b:Nat,(AV.mp b).cells=[.mp b])∧(AV.nilp.cells=[.nilp])∧(∀ (f:FuncId) (c:List AV),(AV.bfn f c).cells=[.bfn f c]) :=
 ⟨fun _ _=>rfl,fun _ _ _=>rfl,fun _=>rfl,fun _ _ _=>rfl,fun n=>by cases n <;> rfl,fun _=>rfl,fun _ _ _=>rfl,fun n=>by cases n <;> rfl,fun _=>rfl,fun l=>List.append_nil l,fun _ _ _=>rfl,fun _ _ _=>rfl,rfl,fun _ _=>rfl,
  fun _ _=>rfl,fun _=>rfl,fun _=>rfl,fun _ _=>rfl,fun _=>rfl,rfl,rfl,fun _ _=>rfl,fun _ _ _=>rfl,fun _ _=>rfl,fun _ _ _ _ _=>rfl,fun _=>rfl,fun _=>rfl,rfl,fun _ _=>rfl⟩
def AV.ones (l:List AV):Bool:=l.all AV.one
theorem SO:(AV.ones []=true)∧(∀ (a:AV) (l:List AV),AV.ones (a :: l)=(a.one && AV.ones l))∧(∀ (k:IntKind) (n:Int),(AV.int k n).one=true)∧(∀ b:Bool,(AV.bool b).one=true)∧(∀ s:ByteArray,(AV.str s).one=true)∧(∀ (k:Nat) (l:List AV),(AV.sl k l).one=true)∧(AV.esl.one=true)∧(AV.nilf.one=true) ∧
    (∀ (f:FuncId) (c:List AV),(AV.func f c).one=true)∧(∀ (b n off:Nat),(AV.ptr b n off).one=true)∧(∀ (c:List AV) (off:Nat),(AV.iptr c off).one=true)∧(∀ (b n sz off len:Nat),(AV.msl b n sz off len).one=true)∧(∀ b:Nat,(AV.yld b).one=true)∧(∀ b:Nat,(AV.mp b).one=true)∧(AV.nilp.one=true)∧(∀ l:List AV,l.all AV.one=AV.ones l) :=
 ⟨rfl,fun _ _=>by simp [AV.ones],fun _ _=>rfl,fun _=>rfl,fun _=>rfl,fun _ _=>rfl,rfl,rfl,fun _ _=>rfl,fun _ _ _=>rfl,fun _ _=>rfl,fun _ _ _ _ _=>rfl,fun _=>rfl,fun _=>rfl,rfl,fun _=>rfl⟩
variable {P:Program} {T:Tm} {H:Hp} {nx:Nat}
theorem q0 {dm:DM} {K:SP} {l:List Op2} {d:Option Nat} {z:AV} {cs:List AV} (hd:dm2 dm T (.alloc z)=true) (hc:z.cells=cs) (ho:AV.ones cs=true) (k:aj P dm l (aA T d (.ptr nx cs.length 0)) (ak H nx cs) (nx + 1) K):aj P dm (⟨d,none,.alloc z⟩ :: l) T H nx K:=by
 subst hc
 refine mg rfl hd ?_ k
 simp only [eu,kj]; rw [if_pos (show z.flat=true from ho)]
theorem v9 {dm:DM} {K:SP} {l:List Op2} {d:Option Nat} {x:Opd} {v:AV} {cs:List AV} (hd:dm2 dm T (.box x)=true) (hx:ov T x=v) (hc:v.cells=cs) (ho:AV.ones cs=true) (k:aj P dm l (aA T d (.ptr nx cs.length 0)) (ak H nx cs) (nx + 1) K):aj P dm (⟨d,none,.box x⟩ :: l) T H nx K:=by
 subst hc hx
 refine mg rfl hd ?_ k
 simp only [eu,kj]; rw [if_pos (show (ov T x).flat=true from ho)]
theorem yz {dm:DM} {K:SP} {l:List Op2} {d:Option Nat} {sz:Nat} {p x:Opd} {b n off:Nat} {v:AV} {cs vs:List AV} (hd:dm2 dm T (.st sz p x)=true) (hp:ov T p=.ptr b n off) (hx:ov T x=v) (hb:H b=some cs) (hc:v.cells=vs) (ho:AV.ones vs=true) (hn:cs.length=n) (hl:vs.length=sz) (hf:off + sz ≤ n)
    (k:aj P dm l (aA T d (.tup [])) (ak H b (bg cs off vs)) nx K):aj P dm (⟨d,none,.st sz p x⟩ :: l) T H nx K:=by
 subst hc hx
 refine mg rfl hd ?_ k
 simp only [eu,hp,hb]
 rw [if_pos ⟨hn,ho,hl,hf⟩]
theorem vX {dm:DM} {K:SP} {l:List Op2} {d:Option Nat} {sz len:Nat} {z:List AV} {parts:List (Nat × Nat × Opd)} {pv:List (Nat × Nat × AV)} {cs:List AV} (hd:dm2 dm T (.bldS sz len z parts)=true) (hl:len ≠ 0) (hp:parts.map (fun p=>(p.1,p.2.1,ov T p.2.2))=pv) (hc:cz (a7 (.agg z) len) pv=some cs)
    (k:aj P dm l (aA T d (.msl nx cs.length sz 0 len)) (ak H nx cs) (nx + 1) K):aj P dm (⟨d,none,.bldS sz len z parts⟩ :: l) T H nx K:=by
 refine mg rfl hd ?_ k
 simp only [eu,hl,if_false,hp,hc]
theorem tw {dm:DM} {K:SP} {l:List Op2} {d:Option Nat} {sz:Nat} {z:List AV} (hd:dm2 dm T (.bldS sz 0 z [])=true) (k:aj P dm l (aA T d .esl) H nx K):aj P dm (⟨d,none,.bldS sz 0 z []⟩ :: l) T H nx K:=by
 refine mg rfl hd ?_ k
 simp [eu]
theorem lH {dm:DM} {K:SP} {l:List Op2} {d:Option Nat} {sz bytes n:Nat} {s x:Opd} {v:AV} {new:List AV} (hd:dm2 dm T (.app sz bytes s x)=true) (hs:ov T s=.esl) (hx:ov T x=v) (hsrc:cV sz H v=some (n,new)) (ho:AV.ones new=true) (h1:n * bytes ≤ 140737488355328) (h2:n ≤ 9223372036854775807)
    (k:aj P dm l (aA T d (.msl nx (n * sz) sz 0 n)) (ak H nx new) (nx + 1) K):aj P dm (⟨d,none,.app sz bytes s x⟩ :: l) T H nx K:=by
 subst hx
 refine mg rfl hd ?_ k
 simp only [eu,vC,hs,hsrc]
 rw [if_pos (show new.all AV.one=true from ho),if_pos ⟨h1,h2⟩]
theorem y7 {dm:DM} {K:SP} {l:List Op2} {d:Option Nat} {sz bytes n:Nat} {s x:Opd} {v:AV} {new cs:List AV} {b m len:Nat} (hd:dm2 dm T (.app sz bytes s x)=true) (hs:ov T s=.msl b m sz 0 len) (hb:H b=some cs) (hx:ov T x=v) (hsrc:cV sz H v=some (n,new)) (ho:AV.ones new=true) (hm:cs.length=m) (hl:m=len * sz)
    (h1:(len + n) * bytes ≤ 140737488355328) (h2:len + n ≤ 9223372036854775807)
    (k:aj P dm l (aA T d (.msl b ((len + n) * sz) sz 0 (len + n))) (ak H b (cs ++ new)) nx K):aj P dm (⟨d,none,.app sz bytes s x⟩ :: l) T H nx K:=by
 subst hx
 refine mg rfl hd ?_ k
 simp only [eu,vC,hs,hsrc,hb]
 rw [if_pos (show new.all AV.one=true from ho),if_pos ⟨hm,trivial⟩,if_pos ⟨trivial,hl,h1,h2⟩]
theorem qO {sz:Nat} {l:List AV}:cV sz H (.sl sz l)=some (l.length,l.flatMap AV.cells):=by simp [cV]
theorem iW {sz b n off len:Nat} {cs:List AV} (h:H b=some cs) (hn:cs.length=n) (hf:off + len * sz ≤ n):cV sz H (.msl b n sz off len)=some (len,(cs.drop off).take (len * sz)):=by
 simp only [cV]
 split
 ·rename_i h0; subst h0; simp
 ·simp only [h,hn,true_and,hf,if_true]
theorem SR:(∀ (H:Hp) (b n off:Nat),rd1 H (.ptr b n off)=match H b with | some cs=>if cs.length=n then cs[off]? else none | none=>none) ∧
    (∀ (H:Hp) (k b n off:Nat),rd H k (.ptr b n off)=match H b with | some cs=>if cs.length=n∧off + k ≤ n then some ((cs.drop off).take k) else none | none=>none) ∧
    (∀ (H:Hp) (cs:List AV) (off:Nat),rd1 H (.iptr cs off)=cs[off]?)∧(∀ (H:Hp) (cs:List AV) (off k:Nat),rd H k (.iptr cs off)=if off + k ≤ cs.length then some ((cs.drop off).take k) else none) ∧
    (∀ (l:List AV) (i:Nat),dY (.tup l) i=l[i]?)∧(∀ (l:List AV) (f:List AV→Option AV),b0 (.agg l) f=f l)∧(∀ (k:IntKind) (n:Int) (f:Int→Option AV),iQ (.int k n) f=f n) ∧
    (∀ (cs:List AV),cz cs []=some cs) ∧
    (∀ (cs:List AV) (off sz:Nat) (x:AV) (r:List (Nat × Nat × AV)),cz cs ((off,sz,x) :: r)=if AV.ones x.cells=true∧x.cells.length=sz∧off + sz ≤ cs.length then cz (bg cs off x.cells) r else none) ∧
    (∀ (b n sz off len:Nat),cb (.msl b n sz off len)=some (.int .i64 len))∧(cb .esl=some (.int .i64 0))∧(∀ (sz:Nat) (l:List AV),cb (.sl sz l)=some (.int .i64 l.length)) ∧
    (∀ (z:AV),a7 z 0=[])∧(∀ (z:AV) (n:Nat),a7 z (n + 1)=z.cells ++ a7 z n) :=
 ⟨fun _ _ _ _=>rfl,fun _ _ _ _ _=>rfl,fun _ _ _=>rfl,fun _ _ _ _=>rfl,fun l i=>by cases l <;> rfl,fun _ _=>rfl,fun _ _ _=>rfl,fun _=>rfl,fun _ _ _ _ _=>rfl,fun _ _ _ _ _=>rfl,rfl,fun _ _=>rfl,fun _=>rfl,fun z n=>by simp [a7,List.replicate_succ]⟩
end Go.Abs
namespace Go.Abs
theorem bx {H:Hp} {a b:Bool} (h:a=b):Snap H (.bool a) (.bool b):=by subst h; exact .bool _
theorem bI {H:Hp} {k:IntKind} {a b:Int} (h:a=b):Snap H (.int k a) (.int k b):=by subst h; exact .int _ _
theorem pA {H:Hp} {l m:List AV} (h:aL H l m):Snap H (.tup l) (.tup m):=.tup l m h.1 h.2
theorem pQ {H:Hp} {l m:List AV} (h:aL H l m):Snap H (.agg l) (.agg m):=.agg l m h.1 h.2
theorem aK {H:Hp} {x y:AV} {xs ys:List AV} (h:Snap H x y) (hs:aL H xs ys):aL H (x :: xs) (y :: ys):=aL.cons h hs
theorem Dat.snap {H:Hp} {x:AV} (h:Dat x):Snap H x x:=h H
theorem aO {P:Program} {b:C2} {T:Tm} {H:Hp} {nx:Nat} {K:CP} {X:Type} (L:X→List (Nat × AV)) (I:X→Hp→Nat→Prop) (μ:X→Nat) (x0:X) (h0:I x0 H nx) (hT:agr T (L x0))
    (step:∀ x H nx,I x H nx→aE P b (tl (L x)) H nx fun e T H' nx'=>aM e (∃ y,μ y < μ x∧I y H' nx'∧agr T (L y)) (K e T H' nx')):bb (aE P b) T H nx K:=by
 refine tv (X:=X × Hp × Nat) (fun x=>tl (L x.1)) (fun x=>x.2.1) (fun x=>x.2.2) (fun x=>I x.1 x.2.1 x.2.2) (fun x=>μ x.1) ⟨(x0,H,nx),h0,_,Gh.weak (lZ hT)⟩ (fun x hx=>bT b (step x.1 x.2.1 x.2.2 hx) (fun e T H' nx' h=>?_))
 cases e with
 | normal =>
  obtain ⟨y,h1,h2,h3⟩:=h
  exact ⟨(y,H',nx'),h2,h1,_,Gh.weak (lZ h3)⟩
 | exit i=>exact h
 | ret=>exact h
def fT (Hf:Hp) (cs cs':List AV):Prop:=cs'.length=cs.length∧∀ (i:Nat) (x x':AV),cs[i]?=some x→cs'[i]?=some x'→x'=x ∨ Snap Hf x x'
theorem fT.refl (Hf:Hp) (cs:List AV):fT Hf cs cs:=⟨rfl,fun i x x' h1 h2=>.inl (by rw [h1] at h2; cases h2; rfl)⟩
theorem fT.snoc {Hf:Hp} {cs:List AV} {x x':AV} (h:Snap Hf x x'):fT Hf (cs ++ [x]) (cs ++ [x']):=by
 refine ⟨by simp,fun i y y' h1 h2=>?_⟩
 by_cases hi:i < cs.length
 ·rw [List.getElem?_append_left hi] at h1 h2; rw [h1] at h2; cases h2; exact .inl rfl
 ·rw [List.getElem?_append_right (by omega)] at h1 h2
  cases hj:i - cs.length with
  | zero=>rw [hj] at h1 h2; simp at h1 h2; subst h1 h2; exact .inr h
  | succ j=>rw [hj] at h1; simp at h1
structure Fz (Hf H H':Hp):Prop where
 sub:∀ b cs,Hf b=some cs→H b=some cs
 to:∀ b cs',H' b=some cs'→∃ cs,H b=some cs∧Hf b=none∧fT Hf cs cs'
def p8 (Hf:Hp) (T:Tm):List (Nat × AV)→Prop
 | []=>True
 | (d,v) :: l=>(T d=v ∨ Snap Hf (T d) v)∧p8 Hf T l
theorem rh {Hf:Hp} {T:Tm}:∀ {l:List (Nat × AV)},p8 Hf T l→∀ t,tl l t=.undef ∨ tl l t=T t ∨ Snap Hf (T t) (tl l t)
 | [],_,t=>.inl rfl
 | (d,v) :: l,h,t=>by
  simp only [tl]
  split
  ·rename_i e; subst e
   rcases h.1 with h1 | h1
   ·exact .inr (.inl h1.symm)
   ·exact .inr (.inr h1)
  ·exact rh h.2 t
theorem Fz.gh {Hf H H':Hp} {T:Tm} {l:List (Nat × AV)} {nx:Nat} (h:Fz Hf H H') (ha:p8 Hf T l):Gh T H nx (tl l) H' nx Hf :=
 ⟨h.sub,Nat.le_refl _,fun b cs' hb=>by
  obtain ⟨cs,h1,h2,h3,h4⟩:=h.to b cs' hb
  exact .inl ⟨cs,h1,h2,h3,fun i x x' hx hx'=>(h4 i x x' hx hx').imp id .inl⟩,fun t=>by
  rcases rh ha t with h1 | h1 | h1
  ·exact .inl h1
  ·exact .inr (.inl h1)
  ·exact .inr (.inr (.inl h1))⟩
def only (b:Nat) (cs:List AV):Hp:=fun x=>if x=b then some cs else none
theorem kF {b:Nat} {cs:List AV}:only b cs b=some cs:=by simp [only]
theorem oa {P:Program} {T:Tm} {H:Hp} {nx:Nat} {K:CP} {l:List Op2} (Hf H':Hp) (L:List (Nat × AV)) (hf:Fz Hf H H') (ha:p8 Hf T L) (h:aj P .text l (tl L) H' nx fun T H nx=>K .normal T H nx):aE P (.ops 0 l) T H nx K:=⟨_,H',nx,Hf,hf.gh ha,h⟩
theorem Fz.one {H:Hp} {b:Nat} {cs:List AV} (hb:H b=some cs):Fz (only b cs) H (ca H b) :=
 ⟨fun x c h=>by unfold only at h; split at h <;> cases h; subst_vars; exact hb,fun x c h=>by
  have:=gL h
  exact ⟨c,this.2,by simp [only,this.1],fT.refl _ _⟩⟩
theorem Fz.all {H:Hp}:Fz H H a9:=⟨fun _ _ h=>h,fun _ _ h=>(by cases h)⟩
theorem eN {T:Tm} {Hf:Hp}:∀ {l:List (Nat × AV)},agr T l→p8 Hf T l
 | [],_=>trivial
 | (_,_) :: _,h=>⟨.inl h.1,eN h.2⟩
theorem rk {P:Program} {b:C2} {T:Tm} {H:Hp} {nx:Nat} {K:CP} {X:Type} (L:X→List (Nat × AV)) (I:X→Hp→Nat→Prop) (μ:X→Nat) (x0:X) (h0:∃ Hf H',Fz Hf H H'∧I x0 H' nx∧p8 Hf T (L x0))
    (step:∀ x H nx,I x H nx→aE P b (tl (L x)) H nx fun e T H' nx'=>aM e (∃ y,μ y < μ x∧∃ Hf H'',Fz Hf H' H''∧I y H'' nx'∧p8 Hf T (L y)) (K e T H' nx')):bb (aE P b) T H nx K:=by
 obtain ⟨Hf,H0,hf,hI,ha⟩:=h0
 refine tv (X:=X × Hp × Nat) (fun x=>tl (L x.1)) (fun x=>x.2.1) (fun x=>x.2.2) (fun x=>I x.1 x.2.1 x.2.2) (fun x=>μ x.1) ⟨(x0,H0,nx),hI,_,hf.gh ha⟩ (fun x hx=>bT b (step x.1 x.2.1 x.2.2 hx) (fun e T H' nx' h=>?_))
 cases e with
 | normal =>
  obtain ⟨y,h1,Hf,H'',h2,h3,h4⟩:=h
  exact ⟨(y,H'',nx'),h3,h1,_,h2.gh h4⟩
 | exit i=>exact h
 | ret=>exact h
theorem Fz.none {H:Hp}:Fz a9 H H:=⟨fun _ _ h=>(by cases h),fun b cs h=>⟨cs,h,rfl,fT.refl _ _⟩⟩
theorem mF {α:Type} [DecidableEq α] (k:MK) (enc:α→AV) (h:∀ a b,j0 k (enc a) (enc b)=some (decide (a=b))) (v:α):∀ ks:List α,co k (enc v) (ks.map enc)=some (if v ∈ ks then some (ks.idxOf v) else none)
 | []=>rfl
 | x :: l=>by
  simp only [List.map_cons,co,h]
  by_cases e:v=x
  ·subst e; simp
  ·have e':x ≠ v:=fun h=>e h.symm
   simp only [e,decide_false,mF k enc h v l,Option.map_some,List.mem_cons,false_or]
   by_cases hm:v ∈ l
   ·simp only [hm,if_true,Option.map_some]
    simp [List.idxOf_cons,beq_eq_false_iff_ne.2 e']
   ·simp [hm]
theorem mJ {α:Type} {l:List α} {n k:Nat} {d:α} (h:k < n):(l.take n).getD k d=l.getD k d:=by
 simp only [List.getD,List.getElem?_take,if_pos h]
theorem eD {α:Type} [Inhabited α] {l:List α} {k:Nat} (h:k < l.length):l.drop k=l.getD k default :: l.drop (k + 1):=by
 rw [List.drop_eq_getElem_cons h]; simp [List.getD,h]
theorem ao {H:Hp} {b:Nat} {cs:List AV}:ak H b cs b=some cs:=if_pos rfl
theorem si {H:Hp} {f:FuncId} {l m:List AV} (h:aL H l m):Snap H (.func f l) (.func f m):=.func f l m h.1 h.2
theorem iC {H:Hp} {b n off:Nat} {cs cs':List AV} (hb:H b=some cs) (hn:cs.length=n) (h:aL H cs cs'):Snap H (.ptr b n off) (.iptr cs' off):=.ptr b n off cs cs' hb hn (by rw [h.1,hn]) h.2
theorem Dat.iptr {cs:List AV} {off:Nat} (h:∀ x ∈ cs,Dat x):Dat (.iptr cs off):=fun H=>.iptr cs cs off rfl (fun i a c ha hc=>by rw [ha] at hc; cases hc; exact h a (List.mem_of_getElem? ha) H)
theorem DatL.nil:∀ x ∈ ([]:List AV),Dat x:=by simp
theorem DatL.cons {x:AV} {l:List AV} (h:Dat x) (hl:∀ y ∈ l,Dat y):∀ y ∈ x :: l,Dat y:=fun y hy=>(List.mem_cons.1 hy).elim (fun e=>e ▸ h) (hl y)
theorem oZ {H:Hp} {b n off len:Nat} {cs:List AV} {l:List AV} (hb:H b=some cs) (hn:cs.length=n) (hf:off + len ≤ n) (hl:l.length=len) (hc:∀ y ∈ l,y.cells=[y]) (h:∀ (i:Nat) (a c:AV),cs[off + i]?=some a→l[i]?=some c→Snap H a c):Snap H (.msl b n 1 off len) (.sl 1 l):=by
 refine .msl b n 1 off len cs l hb hn (by omega) hl (fun y hy=>by rw [hc y hy]; rfl) (fun i j y a c hy hc' ha=>?_)
 rw [hc y (List.mem_of_getElem? hy)] at hc'
 cases j with
 | zero=>simp at hc'; subst hc'; exact h i a y (by simpa using ha) hy
 | succ j=>simp at hc'
theorem pT {H:Hp} {b n len:Nat} {l:List Int} (hb:H b=some (l.map (AV.int .i64))) (hn:n=len) (hl:l.length=len):Snap H (.msl b n 1 0 len) (de l):=by
 subst hn
 refine oZ hb (by simp [hl]) (by omega) (by simp [hl]) (fun y hy=>by simp at hy; obtain ⟨n,_,rfl⟩:=hy; rfl) (fun i a c ha hc=>?_)
 rw [Nat.zero_add] at ha
 rw [ha] at hc; cases hc
 simp at ha
 obtain ⟨n,_,rfl⟩:=ha
 exact .int _ _
theorem aq {H:Hp}:∀ {l:List AV},(∀ x ∈ l,Dat x)→aL H l l
 | [],_=>aL.nil
 | x :: l,h=>aL.cons (h x (by simp) H) (aq (fun y hy=>h y (by simp [hy])))
theorem aw {α:Type} [Inhabited α] {l:List α} {k:Nat} (h:k < l.length):l.getD k default ∈ l:=by
 have:l.getD k default=l[k]:=by simp [List.getD,h]
 rw [this]; exact List.getElem_mem h
theorem d4 {l:List Int}:(de l).one=true:=rfl
theorem dy {l:List (List Int)}:(ft l).one=true:=rfl
theorem r_0 {T:Tm} {H:Hp} {K:AV→Prop} (h:K (.tup [])):br T H K []:=h
theorem getElem?_map_lt {α:Type} [Inhabited α] {f:α→AV} {l:List α} {k:Nat} (h:k < l.length):(l.map f)[k]?=some (f (l.getD k default)):=by
 simp [List.getD,h]
theorem uE {sz b m off len:Nat} {k:IntKind} {n:Int}:dI sz (.msl b m sz off len) (.int k n)=if 0 ≤ n∧n < len then some (.ptr b m (off + n.toNat * sz)) else none:=by simp [dI]
end Go.Abs
namespace Go.Abs
inductive Row (H:Hp) (sz:Nat):AV→List AV→Prop
 | nil:Row H sz .esl []
 | box (b len:Nat) (cs:List AV) (hb:H b=some cs) (hl:cs.length=len * sz):Row H sz (.msl b (len * sz) sz 0 len) cs
def eM:AV→Option Nat
 | .msl b _ _ _ _=>some b
 | _=>none
theorem Row.len {H:Hp} {sz:Nat} {s:AV} {cs:List AV} (h:Row H sz s cs):∃ n:Nat,cb s=some (.int .i64 n)∧cs.length=n * sz:=by
 cases h with
 | nil=>exact ⟨0,rfl,by simp⟩
 | box b len cs hb hl=>exact ⟨len,rfl,hl⟩
theorem Row.lenS {H:Hp} {sz n:Nat} {s:AV} {cs:List AV} (h:Row H sz s cs) (hl:cs.length=n * sz) (hz:0 < sz):cb s=some (.int .i64 n):=by
 obtain ⟨m,h1,h2⟩:=h.len
 have:m=n:=Nat.eq_of_mul_eq_mul_right hz (by omega)
 subst this; exact h1
theorem Row.same {H H':Hp} {sz:Nat} {s:AV} {cs:List AV} (h:Row H sz s cs) (hs:∀ b,eM s=some b→H' b=H b):Row H' sz s cs:=by
 cases h with
 | nil=>exact .nil
 | box b len cs hb hl=>exact .box b len cs ((hs b rfl).trans hb) hl
theorem Row.one {H:Hp} {sz:Nat} {s:AV} {cs:List AV} (h:Row H sz s cs):s.one=true∧s.cells=[s]:=by
 cases h <;> exact ⟨rfl,rfl⟩
theorem ap {H:Hp} {b x:Nat} {cs:List AV} (h:x ≠ b):ak H b cs x=H x:=if_neg h
theorem kG {H:Hp} {b x:Nat} (h:x ≠ b):ca H b x=H x:=if_neg h
variable {P:Program} {T:Tm} {H:Hp} {nx:Nat}
theorem dT {dm:DM} {K:SP} {l:List Op2} {d:Option Nat} {sz bytes k:Nat} {s x:Opd} {sv xv:AV} {cs new:List AV} (hd:dm2 dm T (.app sz bytes s x)=true) (hs:ov T s=sv) (hrow:Row H sz sv cs) (hx:ov T x=xv) (hsrc:cV sz H xv=some (k,new)) (ho:AV.ones new=true) (hk:new.length=k * sz)
    (hz:0 < sz) (h1:(cs.length + k) * bytes ≤ 140737488355328) (h2:cs.length + k ≤ 9223372036854775807)
    (next:∀ (sv':AV) (H':Hp) (nx':Nat),Row H' sz sv' (cs ++ new)→nx ≤ nx'→nx' ≤ nx + 1→(∀ i,i < nx→eM sv ≠ some i→H' i=H i)→(∀ b,eM sv'=some b→eM sv=some b ∨ b=nx∧nx'=nx + 1)→aj P dm l (aA T d sv') H' nx' K) :
    aj P dm (⟨d,none,.app sz bytes s x⟩ :: l) T H nx K:=by
 cases hrow with
 | nil =>
  refine lH hd hs hx hsrc ho (by simpa using h1) (by simpa using h2) ?_
  exact next _ _ _ (.box nx k new ao hk) (Nat.le_succ _) (Nat.le_refl _) (fun i hi _=>ap (by omega)) (fun b hb=>by cases hb; exact .inr ⟨rfl,rfl⟩)
 | box b len cs hb hl =>
  have hle:len ≤ cs.length:=by rw [hl]; exact Nat.le_mul_of_pos_right _ hz
  have hb1:(len + k) * bytes ≤ 140737488355328:=Nat.le_trans (Nat.mul_le_mul_right _ (by omega)) h1
  refine y7 hd hs hb hx hsrc ho hl rfl hb1 (by omega) ?_
  exact next _ _ _ (.box b (len + k) (cs ++ new) ao (by rw [List.length_append,hl,hk,Nat.add_mul])) (Nat.le_refl _) (Nat.le_succ _) (fun i hi hne=>ap (fun e=>hne (by rw [e]; rfl))) (fun b' hb'=>by cases hb'; exact .inl rfl)
theorem Row.snap {H:Hp} {sz:Nat} {s:AV} {elems:List AV} (h:Row H sz s (elems.flatMap AV.cells)) (hc:∀ y ∈ elems,y.cells.length=sz) (hz:0 < sz) (hd:∀ y ∈ elems,∀ c ∈ y.cells,Dat c):Snap H s (.sl sz elems):=by
 obtain ⟨f1,f2⟩:=bU elems hc
 generalize he:elems.flatMap AV.cells=cs at h
 cases h with
 | nil =>
  have:elems.length * sz=0:=by rw [← f1,he]; rfl
  have:elems=[]:=List.length_eq_zero_iff.1 (by
   rcases Nat.mul_eq_zero.1 this with h | h
   ·exact h
   ·omega)
  subst this; exact .eslsl sz
 | box b len cs hb hl =>
  have hlen:elems.length=len:=Nat.eq_of_mul_eq_mul_right hz (by rw [← f1,he,hl])
  refine .msl b (len * sz) sz 0 len cs elems hb hl (by omega) hlen hc (fun i j y a c hy hc' ha=>?_)
  have hj:j < sz:=by rw [← hc y (List.mem_of_getElem? hy)]; exact (List.getElem?_eq_some_iff.1 hc').1
  have key:∀ (l:List AV) (i j:Nat) (y c:AV),(∀ z ∈ l,z.cells.length=sz)→l[i]?=some y→y.cells[j]?=some c→j < sz→(l.flatMap AV.cells)[i * sz + j]?=some c:=by
   intro l
   induction l with
   | nil=>intro i j y c _ h; simp at h
   | cons x l ih =>
    intro i j y c hl hy hc hj
    rw [List.flatMap_cons]
    cases i with
    | zero =>
     simp at hy; subst hy
     rw [Nat.zero_mul,Nat.zero_add,List.getElem?_append_left (by rw [hl x (by simp)]; exact hj)]; exact hc
    | succ i =>
     rw [List.getElem?_append_right (by rw [hl x (by simp),Nat.add_mul]; omega),hl x (by simp)]
     have:=ih i j y c (fun z hz=>hl z (by simp [hz])) (by simpa using hy) hc hj
     rw [← this]; congr 1; rw [Nat.add_mul]; omega
  have:=key elems i j y c hc hy hc' hj
  rw [he,← Nat.zero_add (i * sz)] at this
  rw [this] at ha; cases ha
  exact hd y (List.mem_of_getElem? hy) a (List.mem_of_getElem? hc') H
theorem dR {α:Type} {f:α→AV} (h:∀ x,(f x).cells=[f x]) (l:List α):(l.map f).flatMap AV.cells=l.map f:=by
 induction l with
 | nil=>rfl
 | cons a l ih=>rw [List.map_cons,List.flatMap_cons,ih,h]; rfl
theorem Row.snapV {H:Hp} {s:AV} {l:List (List Int)} (h:Row H 1 s (l.map de)):Snap H s (ft l):=by
 refine Row.snap (elems:=l.map de) (by rw [dR (fun _=>rfl)]; exact h) (fun y hy=>?_) Nat.one_pos (fun y hy c hc=>?_)
 ·simp at hy; obtain ⟨n,_,rfl⟩:=hy; rfl
 ·simp at hy; obtain ⟨n,_,rfl⟩:=hy
  simp only [qx,List.mem_singleton] at hc; subst hc; exact gw n
theorem Row.snapI {H:Hp} {s:AV} {l:List Int} (h:Row H 1 s (l.map (AV.int .i64))):Snap H s (de l):=by
 refine Row.snap (elems:=l.map (AV.int .i64)) (by rw [dR (fun _=>rfl)]; exact h) (fun y hy=>?_) Nat.one_pos (fun y hy c hc=>?_)
 ·simp at hy; obtain ⟨n,_,rfl⟩:=hy; rfl
 ·simp at hy; obtain ⟨n,_,rfl⟩:=hy
  simp only [sJ,List.mem_singleton] at hc; subst hc; exact .int
theorem aN {K:CP} {x y:C2} (M:SP) (h1:aE P x T H nx fun e T H nx=>aM e (M T H nx) (K e T H nx)) (h2:∀ T H nx,M T H nx→aE P y T H nx K):aE P (.seq x y) T H nx K:=by
 refine dJ (bT x h1 (fun e T H nx h=>?_))
 cases e with
 | normal=>exact h2 T H nx h
 | exit i=>exact h
 | ret=>exact h
end Go.Abs
namespace Go.Abs
theorem zn:(∀ l:List Int,(de l).cells=[de l])∧(∀ l:List (List Int),(ft l).cells=[ft l])∧(∀ x:Nat,a9 x=none) ∧
    (∀ (α β:Type) (f:α→β) (a:α) (l:List α),(a :: l).map f=f a :: l.map f)∧(∀ (α β:Type) (f:α→β),([]:List α).map f=[])∧(∀ (α β:Type) (f:α→β) (a:α),(some a).map f=some (f a))∧(∀ (α β:Type) (f:α→β),(none:Option α).map f=none) ∧
    (∀ n:Nat,0 + n=n)∧(∀ n:Nat,n + 0=n)∧(∀ p:Prop,(p∧p)=p)∧(∀ p:Prop,(p∧True)=p)∧(∀ p:Prop,(True∧p)=p)∧((!true)=false)∧((!false)=true) ∧
    (∀ (α:Type) (a:α) (l m:List α),(a :: l) ++ m=a :: (l ++ m))∧(∀ (α:Type) (l:List α),[] ++ l=l)∧(∀ (α:Type) (l:List α),l ++ []=l) :=
 ⟨fun _=>rfl,fun _=>rfl,fun _=>rfl,fun _ _ _ _ _=>rfl,fun _ _ _=>rfl,fun _ _ _ _=>rfl,fun _ _ _=>rfl,Nat.zero_add,Nat.add_zero,and_self,and_true,true_and,rfl,rfl,fun _ _ _ _=>rfl,fun _ _=>rfl,fun _ l=>List.append_nil l⟩
theorem bW:(∀ (H:Hp) (b x:Nat) (cs:List AV),ak H b cs x=if x=b then some cs else H x)∧(∀ (H:Hp) (b x:Nat),ca H b x=if x=b then none else H x):=⟨fun _ _ _ _=>rfl,fun _ _ _=>rfl⟩
theorem cg:(∀ (H:Hp) (b:Nat) (cs:List AV),ak H b cs b=some cs)∧(∀ (H:Hp) (b x:Nat) (cs:List AV),x ≠ b→ak H b cs x=H x)∧(∀ (H:Hp) (b:Nat),ca H b b=none)∧(∀ (H:Hp) (b x:Nat),x ≠ b→ca H b x=H x)∧(∀ a b c:Nat,a + b + c=a + (b + c)) :=
 ⟨fun _ _ _=>ao,fun _ _ _ _ h=>ap h,fun _ _=>fy,fun _ _ _ h=>kG h,Nat.add_assoc⟩
theorem ZA:((∀ l:List Int,(de l).cells=[de l])∧(∀ l:List (List Int),(ft l).cells=[ft l])∧(∀ x:Nat,a9 x=none) ∧
    (∀ (α β:Type) (f:α→β) (a:α) (l:List α),(a :: l).map f=f a :: l.map f)∧(∀ (α β:Type) (f:α→β),([]:List α).map f=[])∧(∀ (α β:Type) (f:α→β) (a:α),(some a).map f=some (f a))∧(∀ (α β:Type) (f:α→β),(none:Option α).map f=none) ∧
    (∀ n:Nat,0 + n=n)∧(∀ n:Nat,n + 0=n)∧(∀ p:Prop,(p∧p)=p)∧(∀ p:Prop,(p∧True)=p)∧(∀ p:Prop,(True∧p)=p)∧((!true)=false)∧((!false)=true) ∧
    (∀ (α:Type) (a:α) (l m:List α),(a :: l) ++ m=a :: (l ++ m))∧(∀ (α:Type) (l:List α),[] ++ l=l)∧(∀ (α:Type) (l:List α),l ++ []=l)) ∧
    ((∀ (T:Tm) (n:Nat),ov T (.t n)=T n)∧(∀ (T:Tm) (v:AV),ov T (.c v)=v)∧(∀ (T:Tm) (d t:Nat) (v:AV),upd T d v t=if t=d then v else T t)∧(∀ (T:Tm) (d:Nat) (v:AV),aA T (some d) v=upd T d v) ∧
    (∀ (T:Tm) (v:AV),aA T none v=T)∧(∀ (x:AV) (l:List AV),T0 (x :: l) 0=x)∧(∀ (x:AV) (l:List AV) (n:Nat),T0 (x :: l) (n + 1)=T0 l n)∧(∀ n:Nat,T0 [] n=.undef) ∧
    (∀ (d t:Nat) (v:AV) (l:List (Nat × AV)),tl ((d,v) :: l) t=if t=d then v else tl l t)∧(∀ t:Nat,tl [] t=.undef) ∧
    (∀ (T:Tm) (t:Nat) (ts:List Nat) (x:AV) (xs:List AV),fe T (t :: ts) (x :: xs)=fe (upd T t x) ts xs)∧(∀ (T:Tm) (xs:List AV),fe T [] xs=T)) ∧
    ((∀ (T:Tm) (H:Hp) (x:Opd),aU T H (.mov x)=some (ov T x)) ∧
    (∀ (T:Tm) (H:Hp) (c a b:Opd),aU T H (.pick c a b)=match ov T c with | .bool t=>some (if t=true then ov T a else ov T b) | _=>none) ∧
    (∀ (T:Tm) (H:Hp) (a:Opd),aU T H (.ld1 a)=rd1 H (ov T a))∧(∀ (T:Tm) (H:Hp) (k:Nat) (a:Opd),aU T H (.ldn k a)=(rd H k (ov T a)).map .agg) ∧
    (∀ (T:Tm) (H:Hp) (op:BinOp) (tb tf:Bool) (x y:Opd),aU T H (.bin op tb tf x y)=aP op tb tf (ov T x) (ov T y)) ∧
    (∀ (T:Tm) (H:Hp) (op:UnOp) (x:Opd),aU T H (.un op x)=aun op (ov T x)) ∧
    (∀ (T:Tm) (H:Hp) (f:FuncId) (caps:List Opd),aU T H (.mkfn f caps)=some (.func f (caps.map (ov T)))) ∧
    (∀ (T:Tm) (H:Hp) (k:Nat) (p:Opd),aU T H (.fa k p)=fY k (ov T p)) ∧
    (∀ (T:Tm) (H:Hp) (sz:Nat) (x i:Opd),aU T H (.ixaS sz x i)=dI sz (ov T x) (ov T i)) ∧
    (∀ (T:Tm) (H:Hp) (x:Opd) (i:Nat),aU T H (.ext x i)=dY (ov T x) i) ∧
    (∀ (T:Tm) (H:Hp) (x:Opd),aU T H (.lenS x)=cb (ov T x)) ∧
    (∀ (T:Tm) (H:Hp) (z:List AV) (parts:List (Nat × Nat × Opd)),aU T H (.bld z parts)=(cz z (parts.map fun p=>(p.1,p.2.1,ov T p.2.2))).map .agg) ∧
    (∀ (T:Tm) (H:Hp) (x:Opd) (l:List Opd),aU T H (.mx x l)=dU iT (ov T x) (l.map (ov T))) ∧
    (∀ (T:Tm) (H:Hp) (x:Opd) (l:List Opd),aU T H (.mn x l)=dU iR (ov T x) (l.map (ov T))) ∧
    (∀ (T:Tm) (H:Hp) (k:IntKind) (x:Opd),aU T H (.conv k x)=iQ (ov T x) fun n=>some (.int k (k.wrap n))) ∧
    (∀ (T:Tm) (H:Hp) (sz:Nat) (x:Opd) (lo hi mx:Option Opd),aU T H (.sls sz x lo hi mx)=ir sz (ov T x) (lo.map (ov T)) (hi.map (ov T)) (mx.map (ov T))) ∧
    (∀ (T:Tm) (H:Hp) (off:Nat) (x:Opd),aU T H (.part1 off x)=b0 (ov T x) fun cs=>cs[off]?) ∧
    (∀ (T:Tm) (H:Hp) (op:BinOp) (ks:List TK) (x y:Opd),aU T H (.binS op ks x y)=b0 (ov T x) fun xs=>b0 (ov T y) fun ys=>iv op ks xs ys)) ∧
    ((∀ (T:Tm) (H:Hp) (n:Nat) (x:Opd) (lo hi:Option Opd),aU T H (.slsA n x lo hi)=po n (ov T x) (lo.map (ov T)) (hi.map (ov T)) none) ∧
    (∀ (T:Tm) (H:Hp) (f:FuncId) (l:List Opd),aU T H (.mkbf f l)=some (.bfn f (l.map (ov T)))) ∧
    (∀ (T:Tm) (H:Hp) (x:Opd),aU T H (.lenStr x)=kE (ov T x)) ∧
    (∀ (T:Tm) (H:Hp) (x i:Opd),aU T H (.ixStr x i)=ib (ov T x) (ov T i)) ∧
    (∀ (T:Tm) (H:Hp) (x:Opd) (lo hi:Option Opd),aU T H (.slstr x lo hi)=nS (ov T x) (lo.map (ov T)) (hi.map (ov T))) ∧
    (∀ (T:Tm) (H:Hp) (off k:Nat) (x:Opd),aU T H (.partn off k x)=b0 (ov T x) fun cs=>if off + k ≤ cs.length then some (.agg ((cs.drop off).take k)) else none) ∧
    (∀ (T:Tm) (H:Hp) (n:Nat),aU T H (.lenC n)=some (.int .i64 n)) ∧
    (∀ (s:ByteArray),kE (.str s)=some (.int .i64 s.size)) ∧
    (∀ (s:ByteArray) (k:IntKind) (n:Int),ib (.str s) (.int k n)=if 0 ≤ n∧n < s.size then some (.int .u8 (s[n.toNat]?.getD 0).toNat) else none)) ∧
    ((∀ (k:IntKind) (a b:Int) (tb tf:Bool),aP .lss tb tf (.int k a) (.int k b)=some (.bool (decide (a < b))))∧(∀ (k:IntKind) (a b:Int) (tb tf:Bool),aP .leq tb tf (.int k a) (.int k b)=some (.bool (decide (a ≤ b)))) ∧
    (∀ (k:IntKind) (a b:Int) (tb tf:Bool),aP .gtr tb tf (.int k a) (.int k b)=some (.bool (decide (b < a))))∧(∀ (k:IntKind) (a b:Int) (tb tf:Bool),aP .geq tb tf (.int k a) (.int k b)=some (.bool (decide (b ≤ a)))) ∧
    (∀ (k:IntKind) (a b:Int) (tb tf:Bool),aP .eql tb tf (.int k a) (.int k b)=some (.bool (decide (a=b))))∧(∀ (k:IntKind) (a b:Int) (tb tf:Bool),aP .neq tb tf (.int k a) (.int k b)=some (.bool (decide (a ≠ b)))) ∧
    (∀ (k:IntKind) (a b:Int) (tb tf:Bool),aP .add tb tf (.int k a) (.int k b)=some (.int k (k.wrap (a + b))))∧(∀ (k:IntKind) (a b:Int) (tb tf:Bool),aP .sub tb tf (.int k a) (.int k b)=some (.int k (k.wrap (a - b)))) ∧
    (∀ (k:IntKind) (a b:Int) (tb tf:Bool),aP .mul tb tf (.int k a) (.int k b)=some (.int k (k.wrap (a * b)))) ∧
    (∀ (a b:Bool) (tf:Bool),aP .eql true tf (.bool a) (.bool b)=some (.bool (a == b)))∧(∀ (a b:Bool) (tf:Bool),aP .neq true tf (.bool a) (.bool b)=some (.bool (!(a == b)))) ∧
    (∀ tb:Bool,aP .eql tb true .nilf .nilf=some (.bool true))∧(∀ tb:Bool,aP .neq tb true .nilf .nilf=some (.bool false)) ∧
    (∀ (tb:Bool) (f:FuncId) (c:List AV),aP .eql tb true (.func f c) .nilf=some (.bool false))∧(∀ (tb:Bool) (f:FuncId) (c:List AV),aP .neq tb true (.func f c) .nilf=some (.bool true)) ∧
    (∀ b:Bool,aun .not (.bool b)=some (.bool (!b))) ∧
    (∀ (k:IntKind) (a b:Int),iT (.int k a) (.int k b)=some (.int k (max a b)))∧(∀ (k:IntKind) (a b:Int),iR (.int k a) (.int k b)=some (.int k (min a b))) ∧
    (∀ (f:AV→AV→Option AV) (x:AV),dU f x []=some x)∧(∀ (f:AV→AV→Option AV) (x y:AV) (l:List AV),dU f x (y :: l)=match f x y with | some z=>dU f z l | none=>none) ∧
    (∀ (k:Nat) (b n off:Nat),fY k (.ptr b n off)=some (.ptr b n (off + k)))∧(∀ (k:Nat) (cs:List AV) (off:Nat),fY k (.iptr cs off)=some (.iptr cs (off + k))) ∧
    (∀ (cs:List AV) (off:Nat),rd1 a9 (.iptr cs off)=cs[off]?)) ∧
    ((∀ (H:Hp) (b n off:Nat),rd1 H (.ptr b n off)=match H b with | some cs=>if cs.length=n then cs[off]? else none | none=>none) ∧
    (∀ (H:Hp) (k b n off:Nat),rd H k (.ptr b n off)=match H b with | some cs=>if cs.length=n∧off + k ≤ n then some ((cs.drop off).take k) else none | none=>none) ∧
    (∀ (H:Hp) (cs:List AV) (off:Nat),rd1 H (.iptr cs off)=cs[off]?)∧(∀ (H:Hp) (cs:List AV) (off k:Nat),rd H k (.iptr cs off)=if off + k ≤ cs.length then some ((cs.drop off).take k) else none) ∧
    (∀ (l:List AV) (i:Nat),dY (.tup l) i=l[i]?)∧(∀ (l:List AV) (f:List AV→Option AV),b0 (.agg l) f=f l)∧(∀ (k:IntKind) (n:Int) (f:Int→Option AV),iQ (.int k n) f=f n) ∧
    (∀ (cs:List AV),cz cs []=some cs) ∧
    (∀ (cs:List AV) (off sz:Nat) (x:AV) (r:List (Nat × Nat × AV)),cz cs ((off,sz,x) :: r)=if AV.ones x.cells=true∧x.cells.length=sz∧off + sz ≤ cs.length then cz (bg cs off x.cells) r else none) ∧
    (∀ (b n sz off len:Nat),cb (.msl b n sz off len)=some (.int .i64 len))∧(cb .esl=some (.int .i64 0))∧(∀ (sz:Nat) (l:List AV),cb (.sl sz l)=some (.int .i64 l.length)) ∧
    (∀ (z:AV),a7 z 0=[])∧(∀ (z:AV) (n:Nat),a7 z (n + 1)=z.cells ++ a7 z n)) ∧
    ((∀ (a:AV) (l:List AV),(a :: l)[0]?=some a)∧(∀ (a:AV) (l:List AV) (n:Nat),(a :: l)[n + 1]?=l[n]?)∧(∀ (l:List AV),l.drop 0=l)∧(∀ (a:AV) (l:List AV) (n:Nat),(a :: l).drop (n + 1)=l.drop n)∧(∀ n:Nat,([]:List AV).drop n=[]) ∧
    (∀ (l:List AV),l.take 0=[])∧(∀ (a:AV) (l:List AV) (n:Nat),(a :: l).take (n + 1)=a :: l.take n)∧(∀ n:Nat,([]:List AV).take n=[])∧(∀ (l:List AV),[] ++ l=l)∧(∀ (l:List AV),l ++ []=l)∧(∀ (a:AV) (l m:List AV),(a :: l) ++ m=a :: (l ++ m)) ∧
    (∀ (cs:List AV) (off:Nat) (new:List AV),bg cs off new=cs.take off ++ new ++ cs.drop (off + new.length))∧(([]:List AV).length=0)∧(∀ (a:AV) (l:List AV),(a :: l).length=l.length + 1) ∧
    (∀ (k:IntKind) (n:Int),(AV.int k n).cells=[.int k n])∧(∀ b:Bool,(AV.bool b).cells=[.bool b])∧(∀ s:ByteArray,(AV.str s).cells=[.str s])∧(∀ (k:Nat) (l:List AV),(AV.sl k l).cells=[.sl k l])∧(∀ l:List AV,(AV.agg l).cells=l)∧(AV.esl.cells=[.esl])∧(AV.nilf.cells=[.nilf]) ∧
    (∀ (f:FuncId) (c:List AV),(AV.func f c).cells=[.func f c])∧(∀ (b n off:Nat),(AV.ptr b n off).cells=[.ptr b n off])∧(∀ (c:List AV) (off:Nat),(AV.iptr c off).cells=[.iptr c off])∧(∀ (b n sz off len:Nat),(AV.msl b n sz off len).cells=[.msl b n sz off len])∧(∀ b:Nat,(AV.yld b).cells=[.yld b])∧(∀ b:Nat,(AV.mp b).cells=[.mp b])∧(AV.nilp.cells=[.nilp])∧(∀ (f:FuncId) (c:List AV),(AV.bfn f c).cells=[.bfn f c])) ∧
    ((∀ (b:Bool) (x y:AV),(match (AV.bool b:AV) with | .bool t=>some (if t=true then x else y) | _=>none)=some (if b=true then x else y))) :=
 ⟨zn,SA,SV,SV2,SN,SR,SL,fun _ _ _=>rfl⟩
theorem ZV:((AV.ones []=true)∧(∀ (a:AV) (l:List AV),AV.ones (a :: l)=(a.one && AV.ones l))∧(∀ (k:IntKind) (n:Int),(AV.int k n).one=true)∧(∀ b:Bool,(AV.bool b).one=true)∧(∀ s:ByteArray,(AV.str s).one=true)∧(∀ (k:Nat) (l:List AV),(AV.sl k l).one=true)∧(AV.esl.one=true)∧(AV.nilf.one=true) ∧
    (∀ (f:FuncId) (c:List AV),(AV.func f c).one=true)∧(∀ (b n off:Nat),(AV.ptr b n off).one=true)∧(∀ (c:List AV) (off:Nat),(AV.iptr c off).one=true)∧(∀ (b n sz off len:Nat),(AV.msl b n sz off len).one=true)∧(∀ b:Nat,(AV.yld b).one=true)∧(∀ b:Nat,(AV.mp b).one=true)∧(AV.nilp.one=true)∧(∀ l:List AV,l.all AV.one=AV.ones l))∧(∀ l:List Int,(de l).one=true)∧(∀ l:List (List Int),(ft l).one=true)∧(∀ b:Bool,(b && b)=b)∧((false=true)=False)∧(∀ a:Int,-9223372036854775808 ≤ a→a ≤ 9223372036854775807→IntKind.wrap .i64 a=a) ∧
    (∀ (l:List Int) (k:IntKind) (n:Int),dI 1 (de l) (.int k n)=if 0 ≤ n∧n < l.length then some (.iptr [.int .i64 (l.getD n.toNat default)] 0) else none)∧(∀ (l:List (List Int)) (k:IntKind) (n:Int),dI 1 (ft l) (.int k n)=if 0 ≤ n∧n < l.length then some (.iptr [de (l.getD n.toNat default)] 0) else none) ∧
    (∀ l:List Int,cb (de l)=some (.int .i64 l.length))∧(∀ l:List (List Int),cb (ft l)=some (.int .i64 l.length))∧(∀ n:Nat,(n:Int).toNat=n)∧(∀ (α β:Type) (f:α→β) (l:List α),(l.map f).length=l.length) ∧
    (∀ (sz b m off len:Nat) (k:IntKind) (n:Int),dI sz (.msl b m sz off len) (.int k n)=if 0 ≤ n∧n < len then some (.ptr b m (off + n.toNat * sz)) else none)∧(∀ (α:Type) (_:Inhabited α) (f:α→AV) (l:List α) (k:Nat),k < l.length→(l.map f)[k]?=some (f (l.getD k default)))∧(∀ n:Nat,n * 1=n) :=
 ⟨SO,fun _=>rfl,fun _=>rfl,Bool.and_self,Bool.false_eq_true,fun _=>lW,fun _ _ _=>rJ,fun _ _ _=>qB,fun _=>qH,fun _=>oW,Int.toNat_natCast,fun _ _ _ _=>List.length_map _,fun _ _ _ _ _ _ _=>uE,fun _ _ _ _ _ h=>getElem?_map_lt h,Nat.mul_one⟩
theorem ZG:((∀ (T:Tm) (n:Nat),ov T (.t n)=T n)∧(∀ (T:Tm) (v:AV),ov T (.c v)=v)∧(∀ (T:Tm) (d t:Nat) (v:AV),upd T d v t=if t=d then v else T t)∧(∀ (T:Tm) (d:Nat) (v:AV),aA T (some d) v=upd T d v) ∧
    (∀ (T:Tm) (v:AV),aA T none v=T)∧(∀ (x:AV) (l:List AV),T0 (x :: l) 0=x)∧(∀ (x:AV) (l:List AV) (n:Nat),T0 (x :: l) (n + 1)=T0 l n)∧(∀ n:Nat,T0 [] n=.undef) ∧
    (∀ (d t:Nat) (v:AV) (l:List (Nat × AV)),tl ((d,v) :: l) t=if t=d then v else tl l t)∧(∀ t:Nat,tl [] t=.undef) ∧
    (∀ (T:Tm) (t:Nat) (ts:List Nat) (x:AV) (xs:List AV),fe T (t :: ts) (x :: xs)=fe (upd T t x) ts xs)∧(∀ (T:Tm) (xs:List AV),fe T [] xs=T))∧(∀ a:Int,-9223372036854775808 ≤ a→a ≤ 9223372036854775807→IntKind.wrap .i64 a=a)∧(∀ a b:Nat,((a + b:Nat):Int)=(a:Int) + (b:Int))∧(((1:Nat):Int)=1)∧(((0:Nat):Int)=0)∧(∀ p:Prop,(p∧True)=p)∧(∀ p:Prop,(p∧p)=p) :=
 ⟨SA,fun _=>lW,Int.natCast_add,rfl,rfl,and_true,and_self⟩
end Go.Abs
namespace Go.Abs
theorem pK {P:Program} {b:C2} {T:Tm} {H:Hp} {nx:Nat} {K:CP} (L:Nat→List (Nat × AV)) (n:Nat) (p:Nat→Prop) (hT:agr T (L 0))
    (step:∀ k,k ≤ n→(∀ i,i < k→p i)→aE P b (tl (L k)) H nx fun e T H' nx'=>aM e (k < n∧p k∧agr T (L (k + 1))∧H'=H∧nx'=nx) (K e T H' nx')):bb (aE P b) T H nx K:=by
 refine wi (X:=Nat) L (fun k=>k ≤ n∧∀ i,i < k→p i) (fun k=>n - k) 0 ⟨Nat.zero_le _,fun i h=>(by omega)⟩ hT ?_
 rintro k ⟨h1,h2⟩
 refine bT b (step k h1 h2) (fun e T H' nx' h=>?_)
 cases e with
 | normal =>
  obtain ⟨g1,g2,g3,g4,g5⟩:=h
  refine ⟨k + 1,⟨by omega,fun i hi=>?_⟩,by omega,g3,g4,g5⟩
  rcases Nat.lt_succ_iff_lt_or_eq.1 hi with h | rfl
  ·exact h2 i h
  ·exact g2
 | exit i=>exact h
 | ret=>exact h
theorem fo {α:Type} [Inhabited α] {l:List α} {p:α→Bool} (h:∀ i,i < l.length→p (l.getD i default)=true):l.all p=true:=by
 rw [List.all_eq_true]
 intro x hx
 obtain ⟨i,hi,e⟩:=List.getElem_of_mem hx
 have:=h i hi
 rwa [show l.getD i default=x by simp [List.getD,hi,e]] at this
theorem eC {α:Type} [Inhabited α] {l:List α} {p:α→Bool} {k:Nat} (hk:k < l.length) (h:p (l.getD k default)=false):l.all p=false:=by
 rw [Bool.eq_false_iff,ne_eq,List.all_eq_true]
 intro hh
 have:=hh _ (aw hk)
 rw [h] at this; cases this
theorem jH {α:Type} [Inhabited α] {l:List α} {p:α→Bool} (h:∀ i,i < l.length→p (l.getD i default)=false):l.any p=false:=by
 rw [List.any_eq_false]
 intro x hx
 obtain ⟨i,hi,e⟩:=List.getElem_of_mem hx
 have:=h i hi
 rw [show l.getD i default=x by simp [List.getD,hi,e]] at this
 simp [this]
theorem tK {α:Type} [Inhabited α] [DecidableEq α] {l:List α} {v:α} {k:Nat} (hk:k < l.length) (h:l.getD k default=v):decide (v ∈ l)=true:=by
 rw [decide_eq_true_iff,← h]; exact aw hk
theorem sg {α:Type} [Inhabited α] [DecidableEq α] {l:List α} {v:α} (h:∀ i,i < l.length→l.getD i default ≠ v):decide (v ∈ l)=false:=by
 rw [decide_eq_false_iff_not]
 intro hm
 obtain ⟨i,hi,e⟩:=List.getElem_of_mem hm
 exact h i hi (by simp [List.getD,hi,e])
def gS {α:Type} (sz:Nat) (f:α→AV) (l:List α):AV:=.sl sz (l.map f)
section
variable {α:Type} {sz:Nat} {f:α→AV} {l:List α}
theorem oB (h:∀ x ∈ l,∀ c ∈ (f x).cells,Dat c):Dat (gS sz f l):=Dat.sl (fun x hx c hc=>by
 obtain ⟨y,hy,rfl⟩:=List.mem_map.1 hx
 exact h y hy c hc)
theorem mB [Inhabited α] {k:IntKind} {n:Int}:dI sz (gS sz f l) (.int k n)=if 0 ≤ n∧n < l.length then some (.iptr (f (l.getD n.toNat default)).cells 0) else none:=kU
theorem lP:cb (gS sz f l)=some (.int .i64 l.length):=jr
theorem nt {k:Nat} (h:k ≤ l.length):ir sz (gS sz f l) (some (.int .i64 k)) none none=some (gS sz f (l.drop k)):=by
 simp [ir,bh,gS,h]
 rw [List.take_of_length_le (by simp)]
theorem rN {H:Hp} (hc:∀ x,(f x).cells=[f x]):cV 1 H (gS 1 f l)=some (l.length,l.map f):=by
 unfold gS; rw [qO,dR hc]; simp
theorem Row.snapL' {H:Hp} {s:AV} (h:Row H 1 s (l.map f)) (hc:∀ x,(f x).cells=[f x]) (hd:∀ x ∈ l,Dat (f x)):Snap H s (gS 1 f l):=by
 refine Row.snap (elems:=l.map f) (by rw [dR hc]; exact h) (fun y hy=>?_) Nat.one_pos (fun y hy c hx=>?_)
 ·obtain ⟨n,_,rfl⟩:=List.mem_map.1 hy; rw [hc]; rfl
 ·obtain ⟨n,hn,rfl⟩:=List.mem_map.1 hy
  rw [hc,List.mem_singleton] at hx; subst hx; exact hd n hn
end
end Go.Abs
namespace Go.Abs
theorem eh {a:Int} (h1:0 ≤ a) (h2:a < 18446744073709551616):IntKind.wrap .u64 a=a:=by
 simp only [IntKind.wrap,IntKind.bits,IntKind.signed]; simp; omega
theorem l7 {a:Int}:IntKind.wrap .u8 a=a % 256:=by
 simp only [IntKind.wrap,IntKind.bits,IntKind.signed]; simp
theorem qX {k:IntKind} {a b:Nat} {tb tf:Bool} {k':IntKind} (hb:b ≤ k.bits):aP .shr tb tf (.int k a) (.int k' b)=some (.int k ((a / 2 ^ b:Nat):Int)):=by
 have h:¬ ((b:Int) < 0):=by omega
 simp only [aP,jo,h,if_false,or_true,if_true,Int.toNat_natCast,Nat.min_eq_left hb]
 congr 2
 rw [Int.fdiv_eq_ediv_of_nonneg _ (Int.le_of_lt (Int.pow_pos (by omega)))]
 simp
theorem vj {k:IntKind} {a b:Nat} {tb tf:Bool} {k':IntKind} (hb:b ≤ k.bits) (h:a * 2 ^ b < 2 ^ (k.bits - 1)):aP .shl tb tf (.int k a) (.int k' b)=some (.int k ((a * 2 ^ b:Nat):Int)):=by
 have h0:¬ ((b:Int) < 0):=by omega
 simp only [aP,jo,h0,if_false,true_or,if_true,Int.toNat_natCast,Nat.min_eq_left hb]
 congr 2
 have e:(a:Int) * 2 ^ b=((a * 2 ^ b:Nat):Int):=by simp
 rw [e]
 generalize a * 2 ^ b=c at h
 cases k <;> (simp only [IntKind.bits,IntKind.wrap,IntKind.signed] at h ⊢; simp at h ⊢; omega)
theorem eT {a b:Int} {tb tf:Bool} (ha:0 ≤ a) (h2:a ≤ 9223372036854775807) (hb:0 < b):aP .quo tb tf (.int .i64 a) (.int .i64 b)=some (.int .i64 (a / b)):=by
 show (if (IntKind.i64=IntKind.i64) then da .quo .i64 a b else none)=_
 rw [if_pos rfl]
 have h3:0 ≤ a / b:=Int.ediv_nonneg ha (by omega)
 have h4:a / b ≤ a:=Int.ediv_le_self _ ha
 simp only [da,if_neg (show ¬ b=0 by omega),Int.tdiv_eq_ediv_of_nonneg ha]
 rw [lW (by omega) (by omega)]
theorem ay {P:Program} {T:Tm} {H:Hp} {nx:Nat} {K:SP} {l:List Op2} {d:Option Nat} {f:Opd} {args:List Opd} {g:FuncId} {caps xs:List AV} {R:AV→Hp→Nat→Prop} (hf:ov T f=.func g caps) (ha:args.map (ov T) ++ caps=xs) (hc:Fn P g xs H nx R)
    (k:∀ r H' nx',R r H' nx'→aj P .text l (aA T d r) H' nx' K):aj P .text (⟨d,none,.call f args⟩ :: l) T H nx K:=by
 subst ha
 exact qw hf (Fn.mono hc k)
def xT (l:List UInt8):AV:=.str ⟨l.toArray⟩
theorem uq (l:List UInt8):Dat (xT l):=.str
instance datI_encS {l:List UInt8}:DatI (xT l):=⟨uq l⟩
end Go.Abs
namespace Go.Abs
open Go.RowKit
variable {P:Program} {T:Tm} {H:Hp} {nx:Nat}
theorem aI {a b:Prop} (x:a) (y:b):a∧b:=⟨x,y⟩
theorem ev0 {α:Type} {a b:α} (h:a=b:=by (try simp only [bW,ZA,Nat.reduceEqDiff,↓reduceIte,Nat.reduceAdd,Nat.reduceLeDiff]); (try with_reducible rfl); first | done | fail):a=b:=h
theorem evZ {α:Type} {a b:α} (h:a=b:=by (try simp only [bW,ZA,Nat.reduceEqDiff,↓reduceIte,Nat.reduceAdd,Nat.reduceLeDiff,zz]); (try with_reducible rfl); first | done | fail):a=b:=h
theorem ag0 {T:Tm} {l:List (Nat × AV)} (h:agr T l:=by simp (disch:=omega) only [agr,ZG,Nat.reduceEqDiff,↓reduceIte]; first | done | fail):agr T l:=h
theorem agZ {T:Tm} {l:List (Nat × AV)} (h:agr T l:=by simp (disch:=omega) only [agr,ZG,Nat.reduceEqDiff,↓reduceIte,zz]; first | done | fail):agr T l:=h
theorem vZ {dm:DM} {K:SP} {l:List Op2} {d:Option Nat} {i:Ins} {r:AV} (k:aj P dm l (aA T d r) H nx K) (hi:ic i=.val:=by rfl) (hd:dm2 dm T i=true:=by rfl) (h:aU T H i=some r:=by (try simp (disch:=omega) only [bW,ZA,Nat.reduceEqDiff,↓reduceIte,Nat.reduceAdd,Nat.reduceLeDiff,ZV,reduceCtorEq,zz]); first | with_reducible rfl | (apply tV; (focus omega); with_reducible rfl)):aj P dm (⟨d,none,i⟩ :: l) T H nx K:=wa hi hd h k
theorem cZ {dm:DM} {K:SP} {l:List Op2} {d:Option Nat} {f:Opd} {args:List Opd} {g:FuncId} {caps xs:List AV} {r:AV} (k:aj P dm l (aA T d r) H nx K) (hf:ov T f=.func g caps:=by (try simp only [bW,ZA,Nat.reduceEqDiff,↓reduceIte,Nat.reduceAdd,Nat.reduceLeDiff,zz]); (try with_reducible rfl); first | done | fail) (ha:args.map (ov T) ++ caps=xs:=by (try simp only [bW,ZA,Nat.reduceEqDiff,↓reduceIte,Nat.reduceAdd,Nat.reduceLeDiff,zz]); (try with_reducible rfl); first | done | fail) (hp:Pure P g xs r) (hs:ax H xs xs r:=by (first | refine aa ?_ rfl | apply ac); (repeat' (first | exact ab | apply ah | (apply ae; (focus with_reducible assumption)))); first | done | fail):aj P dm (⟨d,none,.call f args⟩ :: l) T H nx K:=rz hf ha hp hs k
theorem alZ {dm:DM} {K:SP} {l:List Op2} {d:Option Nat} {z:AV} {cs:List AV} (k:aj P dm l (aA T d (.ptr nx cs.length 0)) (ak H nx cs) (nx + 1) K) (hd:dm2 dm T (.alloc z)=true:=by rfl) (hc:z.cells=cs:=by (try simp only [bW,ZA,Nat.reduceEqDiff,↓reduceIte,Nat.reduceAdd,Nat.reduceLeDiff,zz]); (try with_reducible rfl); first | done | fail) (ho:AV.ones cs=true:=by simp only [SO,Bool.and_self,d4,dy,zz]; first | done | fail):aj P dm (⟨d,none,.alloc z⟩ :: l) T H nx K:=q0 hd hc ho k
theorem bxZ {dm:DM} {K:SP} {l:List Op2} {d:Option Nat} {x:Opd} {v:AV} {cs:List AV} (k:aj P dm l (aA T d (.ptr nx cs.length 0)) (ak H nx cs) (nx + 1) K) (hd:dm2 dm T (.box x)=true:=by rfl) (hx:ov T x=v:=by (try simp only [bW,ZA,Nat.reduceEqDiff,↓reduceIte,Nat.reduceAdd,Nat.reduceLeDiff,zz]); (try with_reducible rfl); first | done | fail) (hc:v.cells=cs:=by (try simp only [bW,ZA,Nat.reduceEqDiff,↓reduceIte,Nat.reduceAdd,Nat.reduceLeDiff,zz]); (try with_reducible rfl); first | done | fail) (ho:AV.ones cs=true:=by simp only [SO,Bool.and_self,d4,dy,zz]; first | done | fail):aj P dm (⟨d,none,.box x⟩ :: l) T H nx K:=v9 hd hx hc ho k
theorem stZ {dm:DM} {K:SP} {l:List Op2} {d:Option Nat} {sz:Nat} {p x:Opd} {b n off:Nat} {v:AV} {cs vs:List AV} (k:aj P dm l (aA T d (.tup [])) (ak H b (bg cs off vs)) nx K) (hd:dm2 dm T (.st sz p x)=true:=by rfl) (hp:ov T p=.ptr b n off:=by (try simp only [bW,ZA,Nat.reduceEqDiff,↓reduceIte,Nat.reduceAdd,Nat.reduceLeDiff,zz]); (try with_reducible rfl); first | done | fail) (hx:ov T x=v:=by (try simp only [bW,ZA,Nat.reduceEqDiff,↓reduceIte,Nat.reduceAdd,Nat.reduceLeDiff,zz]); (try with_reducible rfl); first | done | fail) (hb:H b=some cs:=by (try simp only [bW,ZA,Nat.reduceEqDiff,↓reduceIte,Nat.reduceAdd,Nat.reduceLeDiff,zz]); (try with_reducible rfl); first | done | fail) (hc:v.cells=vs:=by (try simp only [bW,ZA,Nat.reduceEqDiff,↓reduceIte,Nat.reduceAdd,Nat.reduceLeDiff,zz]); (try with_reducible rfl); first | done | fail) (ho:AV.ones vs=true:=by simp only [SO,Bool.and_self,d4,dy,zz]; first | done | fail) (hn:cs.length=n:=by (try simp only [SL,Nat.reduceAdd,Nat.reduceMul,List.length_map]); first | done | omega) (hl:vs.length=sz:=by (try simp only [SL,Nat.reduceAdd,Nat.reduceMul,List.length_map]); first | done | omega) (hf:off + sz ≤ n:=by (try simp only [SL,Nat.reduceAdd,Nat.reduceMul,List.length_map]); first | done | omega):aj P dm (⟨d,none,.st sz p x⟩ :: l) T H nx K:=yz hd hp hx hb hc ho hn hl hf k
theorem blZ {dm:DM} {K:SP} {l:List Op2} {d:Option Nat} {sz len:Nat} {z:List AV} {parts:List (Nat × Nat × Opd)} {pv:List (Nat × Nat × AV)} {cs:List AV} (k:aj P dm l (aA T d (.msl nx cs.length sz 0 len)) (ak H nx cs) (nx + 1) K) (hd:dm2 dm T (.bldS sz len z parts)=true:=by rfl) (hl:len ≠ 0:=by exact Nat.succ_ne_zero _) (hp:parts.map (fun p=>(p.1,p.2.1,ov T p.2.2))=pv:=by (try simp only [bW,ZA,Nat.reduceEqDiff,↓reduceIte,Nat.reduceAdd,Nat.reduceLeDiff,zz]); (try with_reducible rfl); first | done | fail) (hc:cz (a7 (.agg z) len) pv=some cs:=by (try simp only [bW,ZA,Nat.reduceEqDiff,↓reduceIte,Nat.reduceAdd,Nat.reduceLeDiff,SO,Bool.and_self,d4,dy,zz]); (try with_reducible rfl); first | done | fail):aj P dm (⟨d,none,.bldS sz len z parts⟩ :: l) T H nx K:=vX hd hl hp hc k
theorem b0Z {dm:DM} {K:SP} {l:List Op2} {d:Option Nat} {sz:Nat} {z:List AV} (k:aj P dm l (aA T d .esl) H nx K) (hd:dm2 dm T (.bldS sz 0 z [])=true:=by rfl):aj P dm (⟨d,none,.bldS sz 0 z []⟩ :: l) T H nx K:=tw hd k
theorem gTZ {dm:DM} {K:SP} {l:List Op2} {d:Option Nat} {i:Ins} {t:Nat} {w:Bool} (k:aj P dm (⟨d,none,i⟩ :: l) T H nx K) (h:T t=.bool w:=by simp only [bW,ZA,Nat.reduceEqDiff,↓reduceIte,Nat.reduceAdd,Nat.reduceLeDiff,zz]; first | done | fail):aj P dm (⟨d,some (t,w),i⟩ :: l) T H nx K:=wZ h k
theorem gFZ {dm:DM} {K:SP} {l:List Op2} {d:Option Nat} {i:Ins} {t:Nat} {w:Bool} (k:aj P dm l (aA T d (.tup [])) H nx K) (h:T t=.bool (!w) ∨ T t=.tup []:=by simp only [bW,ZA,Nat.reduceEqDiff,↓reduceIte,Nat.reduceAdd,Nat.reduceLeDiff,or_true,true_or,zz]; first | done | fail):aj P dm (⟨d,some (t,w),i⟩ :: l) T H nx K:=xl h k
theorem cTZ {K:CP} {c:Opd} {x y:C2} (h1:aE P x T H nx K) (hc:ov T c=.bool true:=by simp only [bW,ZA,Nat.reduceEqDiff,↓reduceIte,Nat.reduceAdd,Nat.reduceLeDiff,zz]; first | done | fail):aE P (.cond c x y) T H nx K:=nX hc h1
theorem cFZ {K:CP} {c:Opd} {x y:C2} (h2:aE P y T H nx K) (hc:ov T c=.bool false:=by simp only [bW,ZA,Nat.reduceEqDiff,↓reduceIte,Nat.reduceAdd,Nat.reduceLeDiff,zz]; first | done | fail):aE P (.cond c x y) T H nx K:=n6 hc h2
theorem r1Z {K:AV→Prop} {a:RV} {x:AV} (h:K x) (ha:rv T H a=some x:=by simp only [rv,bW,ZA,Nat.reduceEqDiff,↓reduceIte,Nat.reduceAdd,Nat.reduceLeDiff,zz]; with_reducible rfl):br T H K [a]:=r_1 ha h
theorem r2Z {K:AV→Prop} {a b:RV} {x y:AV} (h:K (.tup [x,y])) (ha:rv T H a=some x:=by simp only [rv,bW,ZA,Nat.reduceEqDiff,↓reduceIte,Nat.reduceAdd,Nat.reduceLeDiff,zz]; with_reducible rfl) (hb:rv T H b=some y:=by simp only [rv,bW,ZA,Nat.reduceEqDiff,↓reduceIte,Nat.reduceAdd,Nat.reduceLeDiff,zz]; with_reducible rfl):br T H K [a,b]:=r_2 ha hb h
theorem vY {dm:DM} {K:SP} {l:List Op2} {d:Option Nat} {i:Ins} {r:AV} (k:aj P dm l (aA T d r) H nx K) (hi:ic i=.val:=by rfl) (hd:dm2 dm T i=true:=by first | rfl | (simp (disch:=omega) only [dm2,ms,oY,cg,ZA,Nat.reduceEqDiff,↓reduceIte,Nat.reduceAdd,Nat.reduceLeDiff,zz,decide_eq_true_eq]; first | done | omega)) (h:aU T H i=some r:=by (try simp (disch:=omega) only [cg,ZA,Nat.reduceEqDiff,↓reduceIte,Nat.reduceAdd,Nat.reduceLeDiff,ZV,reduceCtorEq,zz]); first | with_reducible rfl | (apply tV; (focus omega); with_reducible rfl)):aj P dm (⟨d,none,i⟩ :: l) T H nx K:=wa hi hd h k
theorem nvY {S:Hp} {K:SP} {l:List (Op2 × Nat)} {d:Option Nat} {i:Ins} {r:AV} (k:aZ P S l (aA T d r) H nx K) (h:aU T S i=some r:=by (try simp (disch:=omega) only [cg,ZA,Nat.reduceEqDiff,↓reduceIte,Nat.reduceAdd,Nat.reduceLeDiff,ZV,reduceCtorEq,zz]); first | with_reducible rfl | (apply tV; (focus omega); with_reducible rfl)):aZ P S ((⟨d,none,i⟩,0) :: l) T H nx K:=yq h k
theorem cY {dm:DM} {K:SP} {l:List Op2} {d:Option Nat} {f:Opd} {args:List Opd} {g:FuncId} {caps xs:List AV} {r:AV} (k:aj P dm l (aA T d r) H nx K) (hf:ov T f=.func g caps:=by (try simp (disch:=omega) only [cg,ZA,Nat.reduceEqDiff,↓reduceIte,Nat.reduceAdd,Nat.reduceLeDiff,zz]); (try with_reducible rfl); first | done | fail) (ha:args.map (ov T) ++ caps=xs:=by (try simp (disch:=omega) only [cg,ZA,Nat.reduceEqDiff,↓reduceIte,Nat.reduceAdd,Nat.reduceLeDiff,zz]); (try with_reducible rfl); first | done | fail) (hp:Pure P g xs r) (hs:ax H xs xs r:=by (first | refine aa ?_ rfl | apply ac); (repeat' (first | exact ab | apply ah | (apply ae; (focus with_reducible assumption)))); first | done | fail):aj P dm (⟨d,none,.call f args⟩ :: l) T H nx K:=rz hf ha hp hs k
theorem alY {dm:DM} {K:SP} {l:List Op2} {d:Option Nat} {z:AV} {cs:List AV} (k:aj P dm l (aA T d (.ptr nx cs.length 0)) (ak H nx cs) (nx + 1) K) (hd:dm2 dm T (.alloc z)=true:=by first | rfl | (simp (disch:=omega) only [dm2,ms,oY,cg,ZA,Nat.reduceEqDiff,↓reduceIte,Nat.reduceAdd,Nat.reduceLeDiff,zz,decide_eq_true_eq]; first | done | omega)) (hc:z.cells=cs:=by (try simp (disch:=omega) only [cg,ZA,Nat.reduceEqDiff,↓reduceIte,Nat.reduceAdd,Nat.reduceLeDiff,zz]); (try with_reducible rfl); first | done | fail) (ho:AV.ones cs=true:=by simp (disch:=omega) only [SO,Bool.and_self,d4,dy,zz]; first | done | fail):aj P dm (⟨d,none,.alloc z⟩ :: l) T H nx K:=q0 hd hc ho k
theorem bxY {dm:DM} {K:SP} {l:List Op2} {d:Option Nat} {x:Opd} {v:AV} {cs:List AV} (k:aj P dm l (aA T d (.ptr nx cs.length 0)) (ak H nx cs) (nx + 1) K) (hd:dm2 dm T (.box x)=true:=by first | rfl | (simp (disch:=omega) only [dm2,ms,oY,cg,ZA,Nat.reduceEqDiff,↓reduceIte,Nat.reduceAdd,Nat.reduceLeDiff,zz,decide_eq_true_eq]; first | done | omega)) (hx:ov T x=v:=by (try simp (disch:=omega) only [cg,ZA,Nat.reduceEqDiff,↓reduceIte,Nat.reduceAdd,Nat.reduceLeDiff,zz]); (try with_reducible rfl); first | done | fail) (hc:v.cells=cs:=by (try simp (disch:=omega) only [cg,ZA,Nat.reduceEqDiff,↓reduceIte,Nat.reduceAdd,Nat.reduceLeDiff,zz]); (try with_reducible rfl); first | done | fail) (ho:AV.ones cs=true:=by simp (disch:=omega) only [SO,Bool.and_self,d4,dy,zz]; first | done | fail):aj P dm (⟨d,none,.box x⟩ :: l) T H nx K:=v9 hd hx hc ho k
theorem stY {dm:DM} {K:SP} {l:List Op2} {d:Option Nat} {sz:Nat} {p x:Opd} {b n off:Nat} {v:AV} {cs vs:List AV} (k:aj P dm l (aA T d (.tup [])) (ak H b (bg cs off vs)) nx K) (hd:dm2 dm T (.st sz p x)=true:=by first | rfl | (simp (disch:=omega) only [dm2,ms,oY,cg,ZA,Nat.reduceEqDiff,↓reduceIte,Nat.reduceAdd,Nat.reduceLeDiff,zz,decide_eq_true_eq]; first | done | omega)) (hp:ov T p=.ptr b n off:=by (try simp (disch:=omega) only [cg,ZA,Nat.reduceEqDiff,↓reduceIte,Nat.reduceAdd,Nat.reduceLeDiff,zz]); (try with_reducible rfl); first | done | fail) (hx:ov T x=v:=by (try simp (disch:=omega) only [cg,ZA,Nat.reduceEqDiff,↓reduceIte,Nat.reduceAdd,Nat.reduceLeDiff,zz]); (try with_reducible rfl); first | done | fail) (hb:H b=some cs:=by (try simp (disch:=omega) only [cg,ZA,Nat.reduceEqDiff,↓reduceIte,Nat.reduceAdd,Nat.reduceLeDiff,zz]); (try with_reducible rfl); first | done | fail) (hc:v.cells=vs:=by (try simp (disch:=omega) only [cg,ZA,Nat.reduceEqDiff,↓reduceIte,Nat.reduceAdd,Nat.reduceLeDiff,zz]); (try with_reducible rfl); first | done | fail) (ho:AV.ones vs=true:=by simp (disch:=omega) only [SO,Bool.and_self,d4,dy,zz]; first | done | fail) (hn:cs.length=n:=by (try simp only [SL,Nat.reduceAdd,Nat.reduceMul,List.length_map]); first | done | omega) (hl:vs.length=sz:=by (try simp only [SL,Nat.reduceAdd,Nat.reduceMul,List.length_map]); first | done | omega) (hf:off + sz ≤ n:=by (try simp only [SL,Nat.reduceAdd,Nat.reduceMul,List.length_map]); first | done | omega):aj P dm (⟨d,none,.st sz p x⟩ :: l) T H nx K:=yz hd hp hx hb hc ho hn hl hf k
theorem blY {dm:DM} {K:SP} {l:List Op2} {d:Option Nat} {sz len:Nat} {z:List AV} {parts:List (Nat × Nat × Opd)} {pv:List (Nat × Nat × AV)} {cs:List AV} (k:aj P dm l (aA T d (.msl nx cs.length sz 0 len)) (ak H nx cs) (nx + 1) K) (hd:dm2 dm T (.bldS sz len z parts)=true:=by first | rfl | (simp (disch:=omega) only [dm2,ms,oY,cg,ZA,Nat.reduceEqDiff,↓reduceIte,Nat.reduceAdd,Nat.reduceLeDiff,zz,decide_eq_true_eq]; first | done | omega)) (hl:len ≠ 0:=by exact Nat.succ_ne_zero _) (hp:parts.map (fun p=>(p.1,p.2.1,ov T p.2.2))=pv:=by (try simp (disch:=omega) only [cg,ZA,Nat.reduceEqDiff,↓reduceIte,Nat.reduceAdd,Nat.reduceLeDiff,zz]); (try with_reducible rfl); first | done | fail) (hc:cz (a7 (.agg z) len) pv=some cs:=by (try simp (disch:=omega) only [cg,ZA,Nat.reduceEqDiff,↓reduceIte,Nat.reduceAdd,Nat.reduceLeDiff,SO,Bool.and_self,d4,dy,zz]); (try with_reducible rfl); first | done | fail):aj P dm (⟨d,none,.bldS sz len z parts⟩ :: l) T H nx K:=vX hd hl hp hc k
theorem b0Y {dm:DM} {K:SP} {l:List Op2} {d:Option Nat} {sz:Nat} {z:List AV} (k:aj P dm l (aA T d .esl) H nx K) (hd:dm2 dm T (.bldS sz 0 z [])=true:=by first | rfl | (simp (disch:=omega) only [dm2,ms,oY,cg,ZA,Nat.reduceEqDiff,↓reduceIte,Nat.reduceAdd,Nat.reduceLeDiff,zz,decide_eq_true_eq]; first | done | omega)):aj P dm (⟨d,none,.bldS sz 0 z []⟩ :: l) T H nx K:=tw hd k
theorem gTY {dm:DM} {K:SP} {l:List Op2} {d:Option Nat} {i:Ins} {t:Nat} {w:Bool} (k:aj P dm (⟨d,none,i⟩ :: l) T H nx K) (h:T t=.bool w:=by simp (disch:=omega) only [cg,ZA,Nat.reduceEqDiff,↓reduceIte,Nat.reduceAdd,Nat.reduceLeDiff,zz]; first | done | fail):aj P dm (⟨d,some (t,w),i⟩ :: l) T H nx K:=wZ h k
theorem gFY {dm:DM} {K:SP} {l:List Op2} {d:Option Nat} {i:Ins} {t:Nat} {w:Bool} (k:aj P dm l (aA T d (.tup [])) H nx K) (h:T t=.bool (!w) ∨ T t=.tup []:=by simp (disch:=omega) only [cg,ZA,Nat.reduceEqDiff,↓reduceIte,Nat.reduceAdd,Nat.reduceLeDiff,or_true,true_or,zz]; first | done | fail):aj P dm (⟨d,some (t,w),i⟩ :: l) T H nx K:=xl h k
theorem cTY {K:CP} {c:Opd} {x y:C2} (h1:aE P x T H nx K) (hc:ov T c=.bool true:=by simp (disch:=omega) only [cg,ZA,Nat.reduceEqDiff,↓reduceIte,Nat.reduceAdd,Nat.reduceLeDiff,zz]; first | done | fail):aE P (.cond c x y) T H nx K:=nX hc h1
theorem cFY {K:CP} {c:Opd} {x y:C2} (h2:aE P y T H nx K) (hc:ov T c=.bool false:=by simp (disch:=omega) only [cg,ZA,Nat.reduceEqDiff,↓reduceIte,Nat.reduceAdd,Nat.reduceLeDiff,zz]; first | done | fail):aE P (.cond c x y) T H nx K:=n6 hc h2
theorem r1Y {K:AV→Prop} {a:RV} {x:AV} (h:K x) (ha:rv T H a=some x:=by simp (disch:=omega) only [rv,cg,ZA,Nat.reduceEqDiff,↓reduceIte,Nat.reduceAdd,Nat.reduceLeDiff,zz]; with_reducible rfl):br T H K [a]:=r_1 ha h
theorem r2Y {K:AV→Prop} {a b:RV} {x y:AV} (h:K (.tup [x,y])) (ha:rv T H a=some x:=by simp (disch:=omega) only [rv,cg,ZA,Nat.reduceEqDiff,↓reduceIte,Nat.reduceAdd,Nat.reduceLeDiff,zz]; with_reducible rfl) (hb:rv T H b=some y:=by simp (disch:=omega) only [rv,cg,ZA,Nat.reduceEqDiff,↓reduceIte,Nat.reduceAdd,Nat.reduceLeDiff,zz]; with_reducible rfl):br T H K [a,b]:=r_2 ha hb h
class StW (A:Prop) (B:outParam Prop):Prop where st:B→A
class StO (A:Prop) (B:outParam Prop):Prop where st:B→A
class StM (A:Prop) (B:outParam Prop):Prop where st:B→A
theorem zW {A B:Prop} [i:StW A B] (h:B):A:=i.st h
theorem zO {A B:Prop} [i:StO A B] (h:B):A:=i.st h
theorem zM {A B:Prop} [i:StM A B] (h:B):A:=i.st h
instance {K:CP} {x y:C2}:StW (aE P (.seq x y) T H nx K) (aE P x T H nx fun e T H nx=>aM e (aE P y T H nx K) (K e T H nx)):=⟨dJ⟩
instance {K:CP} {i:Nat} {b:C2}:StW (aE P (.block i b) T H nx K) (aE P b T H nx fun e T H nx=>K (gu i e) T H nx):=⟨dp⟩
instance {K:CP} {b:C2}:StW (aE P (.loop b) T H nx K) (bb (aE P b) T H nx K):=⟨wP⟩
instance {K:CP}:StO (aE P .skip T H nx K) (K .normal T H nx):=⟨wO⟩
instance {K:CP} {i:Nat}:StO (aE P (.exit i) T H nx K) (K (.exit i) T H nx):=⟨wU⟩
instance {K:CP}:StO (aE P .ret T H nx K) (K .ret T H nx):=⟨yJ⟩
instance {K:CP} {l:List Op2}:StO (aE P (.ops 0 l) T H nx K) (aj P .text l T H nx fun T H nx=>K .normal T H nx):=⟨wN⟩
instance {K:CP} {l:List Op2}:StO (aE P (.ops 1 l) T H nx K) (aj P .draw l T H nx fun T H nx=>K .normal T H nx):=⟨xg⟩
instance {K:CP} {l:List Op2}:StO (aE P (.ops 2 l) T H nx K) (aj P (.fresh nx) l T H nx fun T H nx=>K .normal T H nx):=⟨wH⟩
instance {K:CP} {l:List Op2} {C:List Nat}:StO (aE P (.mix 1 l C) T H nx K) (aj P .draw l T H nx fun T H nx=>K .normal T H nx):=⟨nM⟩
instance {K:CP} {l:List Op2} {C:List Nat}:StO (aE P (.mix 2 l C) T H nx K) (aj P (.fresh nx) l T H nx fun T H nx=>K .normal T H nx):=⟨pZ⟩
instance {dm:DM} {K:SP}:StO (aj P dm [] T H nx K) (K T H nx):=⟨tZ⟩
instance {S:Hp} {K:SP}:StO (aZ P S [] T H nx K) (K T H nx):=⟨xx⟩
instance {S:Hp} {K:SP} {l:List (Op2 × Nat)} {d:Option Nat} {i:Ins}:StO (aZ P S ((⟨d,none,i⟩,2) :: l) T H nx K) (aj P .text [⟨d,none,i⟩] T H nx fun T H nx=>aZ P S l T H nx K):=⟨oz⟩
instance {K:AV→Prop}:StO (br T H K []) (K (.tup [])):=⟨r_0⟩
instance {K:CP} {l:List Op2} {C:List (Nat × Nat)}:StM (aE P (.mixS 1 l C) T H nx K) (aj P .draw l T H nx fun T H nx=>K .normal T H nx):=⟨vh⟩
instance {K:CP} {l:List Op2} {C:List (Nat × Nat)}:StM (aE P (.mixS 2 l C) T H nx K) (aj P (.fresh nx) l T H nx fun T H nx=>K .normal T H nx):=⟨uY⟩
class NZ (b w:Bool) (p q:outParam Prop):Prop where
 t:b=w→p
 f:b=!w→q
instance (priority:=10) {b:Bool}:NZ b true (b=true) (b=false):=⟨id,id⟩
instance (priority:=10) {b:Bool}:NZ b false (b=false) (b=true):=⟨id,id⟩
instance {p:Prop} {i:Decidable p}:NZ (decide p) true p (¬ p):=⟨of_decide_eq_true,of_decide_eq_false⟩
instance {p:Prop} {i:Decidable p}:NZ (decide p) false (¬ p) p:=⟨of_decide_eq_false,of_decide_eq_true⟩
instance (priority:=2000):NZ true true True False:=⟨fun _=>trivial,fun h=>by cases h⟩
instance (priority:=2000):NZ true false False True:=⟨fun h=>(by cases h),fun _=>trivial⟩
instance (priority:=2000):NZ false true False True:=⟨fun h=>(by cases h),fun _=>trivial⟩
instance (priority:=2000):NZ false false True False:=⟨fun _=>trivial,fun h=>by cases h⟩
instance (priority:=2000) {i:Decidable True}:NZ (decide True) true True False:=⟨fun _=>trivial,fun h=>of_decide_eq_false h trivial⟩
instance (priority:=2000) {i:Decidable True}:NZ (decide True) false False True:=⟨fun h=>of_decide_eq_false h trivial,fun _=>trivial⟩
instance (priority:=2000) {i:Decidable False}:NZ (decide False) true False True:=⟨of_decide_eq_true,fun _=>trivial⟩
instance (priority:=2000) {i:Decidable False}:NZ (decide False) false True False:=⟨fun _=>trivial,of_decide_eq_true⟩
instance {b w:Bool} {p q:Prop} [i:NZ b w p q]:NZ (!b) w q p:=⟨fun h=>i.f (by cases b <;> cases w <;> simp_all),fun h=>i.t (by cases b <;> cases w <;> simp_all)⟩
class StG (A:Prop) (v:outParam AV) (w:outParam Bool) (B C:outParam Prop):Prop where
 st:∀ b:Bool,v=.bool b→(b=w→B)→(b=!w→C)→A
instance {K:CP} {c:Opd} {x y:C2}:StG (aE P (.cond c x y) T H nx K) (ov T c) true (aE P x T H nx K) (aE P y T H nx K):=⟨fun _ h k1 k2=>qa h k1 k2⟩
instance {dm:DM} {K:SP} {l:List Op2} {d:Option Nat} {i:Ins} {t:Nat}:StG (aj P dm (⟨d,some (t,true),i⟩ :: l) T H nx K) (T t) true (aj P dm (⟨d,none,i⟩ :: l) (upd T t (.bool true)) H nx K) (aj P dm l (aA (upd T t (.bool false)) d (.tup [])) H nx K):=⟨fun _ h k1 k2=>yI h k1 k2⟩
instance {dm:DM} {K:SP} {l:List Op2} {d:Option Nat} {i:Ins} {t:Nat}:StG (aj P dm (⟨d,some (t,false),i⟩ :: l) T H nx K) (T t) false (aj P dm (⟨d,none,i⟩ :: l) (upd T t (.bool false)) H nx K) (aj P dm l (aA (upd T t (.bool true)) d (.tup [])) H nx K):=⟨fun _ h k1 k2=>yI h k1 k2⟩
theorem zGZ {A:Prop} {v:AV} {w b:Bool} {B C p q:Prop} [i:StG A v w B C] [n:NZ b w p q] (k1:p→B) (k2:q→C) (h:v=.bool b:=by (try simp only [bW,ZA,Nat.reduceEqDiff,↓reduceIte,Nat.reduceAdd,Nat.reduceLeDiff,zz]); (try with_reducible rfl); first | done | fail):A:=i.st b h (fun h=>k1 (n.t h)) (fun h=>k2 (n.f h))
theorem zGY {A:Prop} {v:AV} {w b:Bool} {B C p q:Prop} [i:StG A v w B C] [n:NZ b w p q] (k1:p→B) (k2:q→C) (h:v=.bool b:=by (try simp (disch:=omega) only [cg,ZA,Nat.reduceEqDiff,↓reduceIte,Nat.reduceAdd,Nat.reduceLeDiff,zz]); (try with_reducible rfl); first | done | fail):A:=i.st b h (fun h=>k1 (n.t h)) (fun h=>k2 (n.f h))
end Go.Abs
namespace Go.Abs
open Go.RowKit
inductive PT (α:Type) where
 | leaf
 | node (v:Option α) (l r:PT α)
def PT.get {α:Type}:PT α→Nat→Option α
 | .leaf,_=>none
 | .node v l r,n=>match n with
  | 0=>v
  | n + 1=>match n % 2 with
   | 0=>l.get (n / 2)
   | _ + 1=>r.get (n / 2)
def PT.set {α:Type}:Nat→PT α→Nat→Option α→Option (PT α)
 | 0,_,_,_=>none
 | k + 1,t,n,x=>match t with
  | .leaf=>match n with
   | 0=>some (.node x .leaf .leaf)
   | n + 1=>match n % 2 with
    | 0=>match PT.set k .leaf (n / 2) x with
     | some l=>some (.node none l .leaf)
     | none=>none
    | _ + 1=>match PT.set k .leaf (n / 2) x with
     | some r=>some (.node none .leaf r)
     | none=>none
  | .node v l r=>match n with
   | 0=>some (.node x l r)
   | n + 1=>match n % 2 with
    | 0=>match PT.set k l (n / 2) x with
     | some l=>some (.node v l r)
     | none=>none
    | _ + 1=>match PT.set k r (n / 2) x with
     | some r=>some (.node v l r)
     | none=>none
theorem PT.get_even {α:Type} {v:Option α} {l r:PT α} {n:Nat} (h:n % 2=0):(PT.node v l r).get (n + 1)=l.get (n / 2):=by
 simp only [PT.get,h]
theorem PT.get_odd {α:Type} {v:Option α} {l r:PT α} {n:Nat} (h:n % 2=1):(PT.node v l r).get (n + 1)=r.get (n / 2):=by
 simp only [PT.get,h]
theorem PT.get_set {α:Type}:∀ (k:Nat) {t t':PT α} {n:Nat} {x:Option α},PT.set k t n x=some t'→∀ m,t'.get m=if m=n then x else t.get m
 | 0,_,_,_,_,h=>by cases h
 | k + 1,t,t',n,x,h=>by
  intro m
  have two:∀ a:Nat,a % 2=0 ∨ a % 2=1:=fun a=>by omega
  cases t with
  | leaf =>
   cases n with
   | zero =>
    cases h
    cases m with
    | zero=>rfl
    | succ m =>
     rw [if_neg (by omega)]
     rcases two m with e | e
     ·rw [get_even e]; rfl
     ·rw [get_odd e]; rfl
   | succ n =>
    rcases two n with en | en
    ·simp only [PT.set,en] at h
     split at h
     ·rename_i l hl
      cases h
      have ih:=PT.get_set k hl
      cases m with
      | zero=>rw [if_neg (by omega)]; rfl
      | succ m =>
       rcases two m with e | e
       ·rw [get_even e,ih]
        by_cases hh:m / 2=n / 2
        ·rw [if_pos hh,if_pos (by omega)]
        ·rw [if_neg hh,if_neg (by omega)]; rfl
       ·rw [get_odd e,if_neg (by omega)]; rfl
     ·cases h
    ·simp only [PT.set,en] at h
     split at h
     ·rename_i l hl
      cases h
      have ih:=PT.get_set k hl
      cases m with
      | zero=>rw [if_neg (by omega)]; rfl
      | succ m =>
       rcases two m with e | e
       ·rw [get_even e,if_neg (by omega)]; rfl
       ·rw [get_odd e,ih]
        by_cases hh:m / 2=n / 2
        ·rw [if_pos hh,if_pos (by omega)]
        ·rw [if_neg hh,if_neg (by omega)]; rfl
     ·cases h
  | node v l r =>
   cases n with
   | zero =>
    cases h
    cases m with
    | zero=>rfl
    | succ m =>
     rw [if_neg (by omega)]
     rcases two m with e | e
     ·rw [get_even e,get_even e]
     ·rw [get_odd e,get_odd e]
   | succ n =>
    rcases two n with en | en
    ·simp only [PT.set,en] at h
     split at h
     ·rename_i l' hl
      cases h
      have ih:=PT.get_set k hl
      cases m with
      | zero=>rw [if_neg (by omega)]; rfl
      | succ m =>
       rcases two m with e | e
       ·rw [get_even e,ih,get_even e]
        by_cases hh:m / 2=n / 2
        ·rw [if_pos hh,if_pos (by omega)]
        ·rw [if_neg hh,if_neg (by omega)]
       ·rw [get_odd e,if_neg (by omega),get_odd e]
     ·cases h
    ·simp only [PT.set,en] at h
     split at h
     ·rename_i l' hl
      cases h
      have ih:=PT.get_set k hl
      cases m with
      | zero=>rw [if_neg (by omega)]; rfl
      | succ m =>
       rcases two m with e | e
       ·rw [get_even e,if_neg (by omega),get_even e]
       ·rw [get_odd e,ih,get_odd e]
        by_cases hh:m / 2=n / 2
        ·rw [if_pos hh,if_pos (by omega)]
        ·rw [if_neg hh,if_neg (by omega)]
     ·cases h
inductive BC where
 | cells (cs:List AV)
 | mark (e:Option AEx)
abbrev TT:=PT AV
abbrev HT:=PT BC
abbrev LV:=Nat→Option AEx→List AV
def bcL (L:LV) (n:Nat):Option BC→Option (List AV)
 | some (.cells cs)=>some cs
 | some (.mark e)=>some (L n e)
 | none=>none
def bc0:Option BC→Option (List AV)
 | some (.cells cs)=>some cs
 | _=>none
def toT (t:TT):Tm:=fun n=>(t.get n).getD .undef
def toH (L:LV) (t:HT):Hp:=fun n=>bcL L n (t.get n)
def cA (t:HT):Hp:=fun n=>bc0 (t.get n)
def LIM:Nat:=24
theorem bE {L:LV} {t:HT}:Sub (cA t) (toH L t):=fun b cs h=>by
 unfold cA at h
 unfold toH
 cases hg:t.get b with
 | none=>rw [hg] at h; cases h
 | some c =>
  rw [hg] at h
  cases c with
  | cells x=>exact h
  | mark e=>cases h
theorem nY {k:Nat} {T T':TT} {d:Nat} {v:AV} (h:PT.set k T d (some v)=some T'):toT T'=upd (toT T) d v:=by
 funext m
 simp only [toT,upd,PT.get_set k h]
 split <;> rfl
theorem dS {L:LV} {k:Nat} {H H':HT} {b:Nat} {cs:List AV} (h:PT.set k H b (some (.cells cs))=some H'):toH L H'=ak (toH L H) b cs:=by
 funext m
 simp only [toH,ak,PT.get_set k h]
 split <;> rfl
theorem iK {L:LV} {k:Nat} {H H':HT} {b:Nat} {e:Option AEx} (h:PT.set k H b (some (.mark e))=some H'):toH L H'=ak (toH L H) b (L b e):=by
 funext m
 simp only [toH,ak,PT.get_set k h]
 split
 ·rename_i hm; subst hm; rfl
 ·rfl
theorem nw {L:LV} {k:Nat} {H H':HT} {b:Nat} (h:PT.set k H b none=some H'):toH L H'=ca (toH L H) b:=by
 funext m
 simp only [toH,ca,PT.get_set k h]
 split <;> rfl
def stT (T:TT) (d:Option Nat) (v:AV):Option TT:=match d with
 | none=>some T
 | some d=>PT.set LIM T d (some v)
theorem iq {T T':TT} {d:Option Nat} {v:AV} (h:stT T d v=some T'):toT T'=aA (toT T) d v:=by
 cases d with
 | none=>cases h; rfl
 | some d=>exact nY h
def fF:Nat→List AV→TT→Option TT
 | _,[],T=>some T
 | i,x :: l,T=>match PT.set LIM T i (some x) with
  | some T=>fF (i + 1) l T
  | none=>none
theorem hU:∀ (l:List AV) (i:Nat) {T T':TT},fF i l T=some T'→∀ m,toT T' m=if i ≤ m∧m < i + l.length then l.getD (m - i) .undef else toT T m
 | [],i,T,T',h,m=>by cases h; rw [if_neg (by simp only [List.length_nil]; omega)]
 | x :: l,i,T,T',h,m=>by
  simp only [fF] at h
  split at h
  ·rename_i T1 h1
   rw [hU l (i + 1) h m,nY h1]
   simp only [upd,List.length_cons]
   by_cases e:m=i
   ·subst e
    rw [if_neg (by omega),if_pos rfl,if_pos (by omega)]
    simp
   ·by_cases e2:i + 1 ≤ m∧m < i + 1 + l.length
    ·rw [if_pos e2,if_pos (by omega)]
     obtain ⟨j,rfl⟩:∃ j,m=i + 1 + j:=⟨m - (i + 1),by omega⟩
     rw [show i + 1 + j - (i + 1)=j by omega,show i + 1 + j - i=j + 1 by omega]
     rfl
    ·rw [if_neg e2,if_neg e,if_neg (by omega)]
  ·cases h
def tY (l:List AV):Option TT:=fF 0 l .leaf
theorem rU {l:List AV} {T:TT} (h:tY l=some T):toT T=T0 l:=by
 funext m
 rw [hU l 0 h m]
 simp only [T0,Nat.zero_le,true_and,Nat.zero_add,Nat.sub_zero]
 split
 ·rfl
 ·rename_i hm
  have:l[m]?=none:=by simp; omega
  simp [List.getD,this,toT,PT.get]
def frN {α:Type} (n:Nat) (K:Nat→α):α:=match n with
 | 0=>K 0
 | m + 1=>K (m + 1)
def frI {α:Type} (n:Int) (K:Int→α):α:=match n with
 | .ofNat m=>frN m fun m=>K (.ofNat m)
 | .negSucc m=>frN m fun m=>K (.negSucc m)
def frV {α:Type} (x:AV) (K:AV→α):α:=match x with
 | .int k n=>frI n fun n=>K (.int k n)
 | .ptr b n off=>frN b fun b=>frN n fun n=>frN off fun off=>K (.ptr b n off)
 | .msl b n sz off len=>frN b fun b=>frN n fun n=>frN sz fun sz=>frN off fun off=>frN len fun len=>K (.msl b n sz off len)
 | x=>K x
def frL {α:Type}:List AV→(List AV→α)→α
 | [],K=>K []
 | x :: l,K=>frV x fun x=>frL l fun l=>K (x :: l)
theorem sN {α:Type} {n:Nat} {K:Nat→α}:frN n K=K n:=by cases n <;> rfl
theorem wF {α:Type} {n:Int} {K:Int→α}:frI n K=K n:=by cases n <;> simp [frI,sN]
theorem jn {α:Type} {x:AV} {K:AV→α}:frV x K=K x:=by cases x <;> simp [frV,wF,sN]
theorem f9 {α:Type}:∀ {l:List AV} {K:List AV→α},frL l K=K l
 | [],_=>rfl
 | x :: l,K=>by simp [frL,jn,f9]
def touch (T:Tm) (nx:Nat):Ins→Option Nat
 | .alloc _=>some nx
 | .box _=>some nx
 | .bldS _ len _ _=>if len=0 then none else some nx
 | .mks ..=>some nx
 | .st _ p _=>match ov T p with
  | .ptr b _ _=>some b
  | _=>none
 | .app _ _ s _=>match ov T s with
  | .esl=>some nx
  | .msl b _ _ _ _=>some b
  | _=>none
 | .apz ..=>some nx
 | _=>none
theorem lS {S H:Hp} (hs:Sub S H) {sz:Nat} {x:AV} {r:Nat × List AV} (h:cV sz S x=some r):cV sz H x=some r:=by
 cases x <;> simp only [cV] at h ⊢ <;> try (first | exact h | (cases h; done))
 rename_i b n sz' off len
 split at h
 ·rename_i h0; rw [if_pos h0]; exact h
 ·rename_i h0
  rw [if_neg h0]
  split at h
  ·rename_i cs hb
   rw [hs b cs hb]; exact h
  ·cases h
theorem r7 {S H:Hp} (hs:Sub S H) {T:Tm} {i:Ins} {r:AV} (h:aU T S i=some r):aU T H i=some r:=by
 cases i <;> try exact h
 ·exact nF hs h
 ·rename_i k a
  simp only [aU] at h ⊢
  cases hr:rd S k (ov T a) with
  | none=>rw [hr] at h; cases h
  | some l=>rw [hr] at h; rw [qF hs hr]; exact h
theorem ig {S H:Hp} (hs:Sub S H) {T:Tm} {a:RV} {r:AV} (h:rv T S a=some r):rv T H a=some r:=by
 cases a with
 | t n=>exact h
 | c1 n=>exact nF hs h
 | cn n k =>
  simp only [rv] at h ⊢
  cases hr:rd S k (T n) with
  | none=>rw [hr] at h; cases h
  | some l=>rw [hr] at h; rw [qF hs hr]; exact h
theorem qA {T:Tm} {S S' H:Hp} (hs:Sub S H) {nx nx':Nat} {i:Ins} {r:AV} (h:eu T S nx i=some (r,S',nx')) :
    (touch T nx i=none→eu T H nx i=some (r,H,nx'))∧∀ b,touch T nx i=some b→∃ cs,S'=ak S b cs∧eu T H nx i=some (r,ak H b cs,nx'):=by
 cases i <;> simp only [eu] at h ⊢ <;> try (cases h; done)
 case alloc z =>
  unfold kj at h ⊢
  split at h <;> cases h
  rename_i hz
  rw [if_pos hz]
  exact ⟨fun h=>by simp [touch] at h,fun b h=>by simp [touch] at h; subst h; exact ⟨_,rfl,rfl⟩⟩
 case box x =>
  unfold kj at h ⊢
  split at h <;> cases h
  rename_i hz
  rw [if_pos hz]
  exact ⟨fun h=>by simp [touch] at h,fun b h=>by simp [touch] at h; subst h; exact ⟨_,rfl,rfl⟩⟩
 case bldS sz len z parts =>
  split at h
  ·rename_i hl
   rw [if_pos hl]
   split at h <;> cases h
   rename_i hp
   rw [if_pos hp]
   exact ⟨fun _=>rfl,fun b h=>by simp [touch,hl] at h⟩
  ·rename_i hl
   rw [if_neg hl]
   split at h <;> cases h
   exact ⟨fun h=>by simp [touch,hl] at h,fun b h=>by simp [touch,hl] at h; subst h; exact ⟨_,rfl,rfl⟩⟩
 case mks sz bytes z l c =>
  split at h
  ·rename_i h1 h2
   split at h <;> cases h
   rename_i hc
   rw [if_pos hc]
   exact ⟨fun h=>by simp [touch] at h,fun b h=>by simp [touch] at h; subst h; exact ⟨_,rfl,rfl⟩⟩
  ·cases h
 case apz sz bytes z s x =>
  split at h
  ·rename_i h1 h2
   split at h <;> cases h
   rename_i hc
   rw [if_pos hc]
   exact ⟨fun h=>by simp [touch] at h,fun b h=>by simp [touch] at h; subst h; exact ⟨_,rfl,rfl⟩⟩
  ·cases h
 case st k p x =>
  split at h
  ·rename_i b n off hp
   split at h
   ·rename_i cs hb
    split at h <;> cases h
    rename_i hc
    simp only [hs b cs hb]
    rw [if_pos hc]
    exact ⟨fun h=>by simp [touch,hp] at h,fun b h=>by simp [touch,hp] at h; subst h; exact ⟨_,rfl,rfl⟩⟩
   ·cases h
  ·cases h
 case app sz bytes s x =>
  unfold vC at h ⊢
  split at h
  ·cases h
  ·rename_i k new hsrc
   rw [lS hs hsrc]
   simp only
   split at h
   ·rename_i hone
    rw [if_pos hone]
    split at h
    ·rename_i he
     split at h <;> cases h
     rename_i hc
     rw [if_pos hc]
     exact ⟨fun h=>by simp [touch,he] at h,fun b h=>by simp [touch,he] at h; subst h; exact ⟨_,rfl,rfl⟩⟩
    ·rename_i b n s' off len he
     split at h
     ·rename_i cs hb
      simp only [hs b cs hb]
      split at h
      ·rename_i hc
       rw [if_pos hc]
       split at h
       ·rename_i hc2
        rw [if_pos hc2]
        cases h
        exact ⟨fun h=>by simp [touch,he] at h,fun b h=>by simp [touch,he] at h; subst h; exact ⟨_,rfl,rfl⟩⟩
       ·rename_i hc2
        rw [if_neg hc2]
        split at h
        ·rename_i hc3
         rw [if_pos hc3]
         cases h
         exact ⟨fun h=>by simp [touch,he] at h,fun b h=>by simp [touch,he] at h; subst h; exact ⟨_,rfl,rfl⟩⟩
        ·rename_i hc3
         rw [if_neg hc3]
         split at h <;> cases h
         rename_i hc4
         rw [if_pos hc4]
         exact ⟨fun h=>by simp [touch,he] at h,fun b h=>by simp [touch,he] at h; subst h; exact ⟨_,rfl,rfl⟩⟩
      ·cases h
     ·cases h
    ·cases h
   ·cases h
def xb (T:TT) (H:HT) (nx:Nat) (i:Ins):Option (AV × HT × Nat) :=
 match eu (toT T) (cA H) nx i with
 | none=>none
 | some (r,H',nx')=>match touch (toT T) nx i with
  | none=>some (r,H,nx')
  | some b=>match H' b with
   | none=>none
   | some cs=>frL cs fun cs=>match PT.set LIM H b (some (.cells cs)) with
    | some H2=>some (r,H2,nx')
    | none=>none
theorem ve {L:LV} {T:TT} {H H2:HT} {nx nx':Nat} {i:Ins} {r:AV} (h:xb T H nx i=some (r,H2,nx')):eu (toT T) (toH L H) nx i=some (r,toH L H2,nx'):=by
 unfold xb at h
 split at h
 ·cases h
 ·rename_i r1 H1 nx1 he
  obtain ⟨t1,t2⟩:=qA (bE (L:=L)) he
  split at h
  ·rename_i ht
   cases h
   exact t1 ht
  ·rename_i b ht
   obtain ⟨cs,rfl,e⟩:=t2 b ht
   rw [show ak (cA H) b cs b=some cs from if_pos rfl] at h
   simp only [f9] at h
   split at h
   ·rename_i H3 hset
    cases h
    rw [e,dS hset]
   ·cases h
def gK:List AV→Option (List UInt8)
 | []=>some []
 | .int .u8 n :: l=>if 0 ≤ n∧n.toNat < 256 then (match gK l with | some bs=>some (UInt8.ofNat n.toNat :: bs) | none=>none) else none
 | _ :: _=>none
theorem mm:∀ {l:List AV} {bs:List UInt8},gK l=some bs→l=bs.map gP
 | [],bs,h=>by cases h; rfl
 | x :: l,bs,h=>by
  cases x <;> try (simp only [gK] at h; cases h; done)
  rename_i k n
  cases k <;> try (simp only [gK] at h; cases h; done)
  simp only [gK] at h
  split at h
  ·rename_i hn
   split at h
   ·rename_i bs' hb
    cases h
    rw [List.map_cons,← mm hb]
    congr 1
    unfold gP
    rw [UInt8.toNat_ofNat_of_lt' hn.2]
    congr 1
    omega
   ·cases h
  ·cases h
def rsp (T:Tm) (H:HT) (nx:Nat):Ins→Option (AV × HT × Nat)
 | .mkm h=>match h with
  | none=>match PT.set LIM H nx (some (.cells [.omap [] []])) with
   | some H'=>some (.mp nx,H',nx + 1)
   | none=>none
  | some x=>match ov T x with
   | .int _ _=>match PT.set LIM H nx (some (.cells [.omap [] []])) with
    | some H'=>some (.mp nx,H',nx + 1)
    | none=>none
   | _=>none
 | .mput k m key x=>match ov T m with
  | .mp b=>match H.get b with
   | some (.cells [.omap ks vs])=>if iY k (ov T key)=true then match co k (ov T key) ks with
       | some r=>frL (bS (ov T key) r ks) fun ks=>frL (hY (ov T x) r vs) fun vs=>match PT.set LIM H b (some (.cells [.omap ks vs])) with
        | some H'=>some (.tup [],H',nx)
        | none=>none
       | none=>none
    else none
   | _=>none
  | _=>none
 | .mget k z ok m key=>match ov T m with
  | .mp b=>match H.get b with
   | some (.cells [.omap ks vs])=>if iY k (ov T key)=true then match co k (ov T key) ks with
       | some r=>some (Go.Abs.mget z ok r vs,H,nx)
       | none=>none
    else none
   | _=>none
  | _=>none
 | .mplc k z m key=>match ov T m with
  | .mp b=>match H.get b with
   | some (.cells [.omap ks vs])=>if iY k (ov T key)=true then match co k (ov T key) ks with
       | some r=>frL (bS (ov T key) r ks) fun ks'=>frL (gi z r vs) fun vs'=>match PT.set LIM H b (some (.cells [.omap ks' vs'])) with
        | some H'=>some (.tup [pY z r vs,.int .i64 (oN r ks)],H',nx)
        | none=>none
       | none=>none
    else none
   | _=>none
  | _=>none
 | .mpst m s x=>match ov T m with
  | .mp b=>match H.get b with
   | some (.cells [.omap ks vs])=>match ov T s with
    | .int .i64 (.ofNat i)=>if i < ks.length then frL (vs.set i (ov T x)) fun vs'=>match PT.set LIM H b (some (.cells [.omap ks vs'])) with
     | some H'=>some (.tup [],H',nx)
     | none=>none
     else none
    | _=>none
   | _=>none
  | _=>none
 | .mlen m=>match ov T m with
  | .mp b=>match H.get b with
   | some (.cells [.omap ks vs])=>some (.int .i64 ks.length,H,nx)
   | _=>none
  | _=>none
 | .cpy sz d s=>match jQ sz (ov T d) (ov T s) (cA H) with
  | none=>none
  | some (n,H')=>match n with
   | 0=>some (.int .i64 (0:Nat),H,nx)
   | n + 1=>match ov T d with
    | .msl b _ _ _ _=>match H' b with
     | some cs=>frL cs fun cs=>match PT.set LIM H b (some (.cells cs)) with
      | some H2=>some (.int .i64 (n + 1:Nat),H2,nx)
      | none=>none
     | none=>none
    | _=>none
 | .clr sz z x=>match eL sz z (ov T x) (cA H) with
  | none=>none
  | some H'=>match ov T x with
   | .msl b _ _ _ 0=>some (.tup [],H,nx)
   | .msl b _ _ _ (_ + 1)=>match H' b with
    | some cs=>frL cs fun cs=>match PT.set LIM H b (some (.cells cs)) with
     | some H2=>some (.tup [],H2,nx)
     | none=>none
    | none=>none
   | _=>none
 | .slp len sz x=>match ov T x with
  | .ptr b n off=>match H.get b with
   | some (.cells cs)=>if cs.length=n∧off + len * sz=n then some (.msl b n sz off len,H,nx) else none
   | _=>none
  | _=>none
 | .snil neg x=>match eP (ov T x) with
  | some (k + 1)=>some (.bool neg,H,nx)
  | _=>none
 | .s2b x=>match ov T x with
  | .str bs=>if bs.size=0 then some (.sl 1 [],H,nx) else frL (bs.data.toList.map gP) fun cs=>match PT.set LIM H nx (some (.cells cs)) with
   | some H'=>some (.msl nx bs.size 1 0 bs.size,H',nx + 1)
   | none=>none
  | _=>none
 | .b2s x=>match cV 1 (cA H) (ov T x) with
  | some (n,l)=>match gK l with
   | some bs=>some (.str ⟨bs.toArray⟩,H,nx)
   | none=>none
  | none=>none
 | _=>none
theorem pr {sz n:Nat} {d s:AV} {S S' H:Hp} (hs:Sub S H) (h:jQ sz d s S=some (n,S')):(n=0→jQ sz d s H=some (0,H))∧(n ≠ 0→∀ b m z o l,d=.msl b m z o l→∃ cs,S'=ak S b cs∧jQ sz d s H=some (n,ak H b cs)):=by
 unfold jQ at h ⊢
 split at h
 ·rename_i ld ls h1 h2
  split at h
  ·rename_i hm
   rw [if_pos hm]
   cases h; exact ⟨fun _=>rfl,fun h=>absurd rfl h⟩
  ·rename_i hm
   rw [if_neg hm]
   split at h
   ·split at h
    ·rename_i cs m new hb hsrc
     simp only [hs _ _ hb,lS hs hsrc]
     split at h
     ·rename_i hc
      rw [if_pos hc]
      cases h
      refine ⟨fun h=>absurd h hm,fun _ b m z o l e=>?_⟩
      cases e; exact ⟨_,rfl,rfl⟩
     ·cases h
    ·cases h
   ·cases h
 ·cases h
theorem n3 {sz:Nat} {z x:AV} {S S' H:Hp} (hs:Sub S H) (h:eL sz z x S=some S'):∀ b m s o l,x=.msl b m s o l→(l=0→eL sz z x H=some H)∧(l ≠ 0→∃ cs,S'=ak S b cs∧eL sz z x H=some (ak H b cs)):=by
 intro b m s o l hx
 subst hx
 simp only [eL] at h ⊢
 split at h
 ·rename_i h0
  rw [if_pos h0]
  exact ⟨fun _=>rfl,fun h=>absurd h0 h⟩
 ·rename_i h0
  rw [if_neg h0]
  refine ⟨fun h=>absurd h h0,fun _=>?_⟩
  split at h
  ·rename_i cs hb
   simp only [hs _ _ hb]
   split at h
   ·rename_i hc
    rw [if_pos hc]
    cases h
    exact ⟨_,rfl,rfl⟩
   ·cases h
  ·cases h
theorem fk {L:LV} {H:HT} {b:Nat} {cs:List AV} (h:H.get b=some (.cells cs)):toH L H b=some cs:=by
 simp only [toH,h,bcL]
theorem xh {L:LV} {T:Tm} {H H2:HT} {nx nx':Nat} {i:Ins} {r:AV} {K:AV→Hp→Nat→Prop} (h:rsp T H nx i=some (r,H2,nx')) (hK:K r (toH L H2) nx'):isp i T (toH L H) nx K:=by
 cases i <;> simp only [rsp] at h <;> try (cases h; done)
 case mkm x =>
  cases x with
  | none =>
   simp only at h
   split at h
   ·rename_i H' hs
    cases h
    exact ⟨.inl rfl,by rw [dS hs] at hK; exact hK⟩
   ·cases h
  | some x =>
   simp only at h
   split at h
   ·rename_i k n hx
    split at h
    ·rename_i H' hs
     cases h
     exact ⟨.inr ⟨x,k,n,rfl,hx⟩,by rw [dS hs] at hK; exact hK⟩
    ·cases h
   ·cases h
 case mput k m key x =>
  split at h
  ·rename_i b hm
   split at h
   ·rename_i ks vs hb
    split at h
    ·rename_i hf
     split at h
     ·rename_i r1 hr
      simp only [f9] at h
      split at h
      ·rename_i H' hs
       cases h
       exact ⟨b,ks,vs,r1,hm,fk hb,hf,hr,by rw [dS hs] at hK; exact hK⟩
      ·cases h
     ·cases h
    ·cases h
   ·cases h
  ·cases h
 case mget k z ok m key =>
  split at h
  ·rename_i b hm
   split at h
   ·rename_i ks vs hb
    split at h
    ·rename_i hf
     split at h
     ·rename_i r1 hr
      cases h
      exact ⟨b,ks,vs,r1,hm,fk hb,hf,hr,hK⟩
     ·cases h
    ·cases h
   ·cases h
  ·cases h
 case mplc k z m key =>
  split at h
  ·rename_i b hm
   split at h
   ·rename_i ks vs hb
    split at h
    ·rename_i hf
     split at h
     ·rename_i r1 hr
      simp only [f9] at h
      split at h
      ·rename_i H' hs
       cases h
       exact ⟨b,ks,vs,r1,hm,fk hb,hf,hr,by rw [dS hs] at hK; exact hK⟩
      ·cases h
     ·cases h
    ·cases h
   ·cases h
  ·cases h
 case mpst m s x =>
  split at h
  ·rename_i b hm
   split at h
   ·rename_i ks vs hb
    split at h
    ·rename_i i hi
     split at h
     ·rename_i hlt
      simp only [f9] at h
      split at h
      ·rename_i H' hs
       cases h
       exact ⟨b,ks,vs,i,hm,fk hb,hi,hlt,by rw [dS hs] at hK; exact hK⟩
      ·cases h
     ·cases h
    ·cases h
   ·cases h
  ·cases h
 case mlen m =>
  split at h
  ·rename_i b hm
   split at h
   ·rename_i ks vs hb
    cases h
    exact ⟨b,ks,vs,hm,fk hb,hK⟩
   ·cases h
  ·cases h
 case cpy sz d s =>
  split at h
  ·cases h
  ·rename_i n H' hc
   obtain ⟨t1,t2⟩:=pr (bE (L:=L)) hc
   split at h
   ·cases h
    exact ⟨0,_,t1 rfl,hK⟩
   ·rename_i n
    split at h
    ·rename_i b m z o l hd
     obtain ⟨cs,rfl,e⟩:=t2 (Nat.succ_ne_zero _) _ _ _ _ _ hd
     rw [show ak (cA H) b cs b=some cs from if_pos rfl] at h
     simp only [f9] at h
     split at h
     ·rename_i H3 hs
      cases h
      exact ⟨_,_,e,by rw [dS hs] at hK; exact hK⟩
     ·cases h
    ·cases h
 case clr sz z x =>
  split at h
  ·cases h
  ·rename_i H' hc
   have ht:=n3 (bE (L:=L)) hc
   split at h
   ·rename_i b m s o hx
    cases h
    exact ⟨_,(ht _ _ _ _ _ hx).1 rfl,hK⟩
   ·rename_i b m s o l hx
    obtain ⟨cs,rfl,e⟩:=(ht _ _ _ _ _ hx).2 (Nat.succ_ne_zero _)
    rw [show ak (cA H) b cs b=some cs from if_pos rfl] at h
    simp only [f9] at h
    split at h
    ·rename_i H3 hs
     cases h
     exact ⟨_,e,by rw [dS hs] at hK; exact hK⟩
    ·cases h
   ·cases h
 case slp len sz x =>
  split at h
  ·rename_i b n off hx
   split at h
   ·rename_i cs hb
    split at h
    ·rename_i hc
     cases h
     exact ⟨b,n,off,cs,hx,fk hb,hc.1,hc.2,hK⟩
    ·cases h
   ·cases h
  ·cases h
 case snil neg x =>
  split at h
  ·rename_i k hx
   cases h
   exact ⟨k + 1,hx,fun _=>hK,fun h=>absurd h (Nat.succ_ne_zero _)⟩
  ·cases h
 case s2b x =>
  split at h
  ·rename_i bs hx
   split at h
   ·rename_i h0
    cases h
    exact ⟨bs,hx,fun _=>hK,fun h=>absurd h0 h⟩
   ·rename_i h0
    simp only [f9] at h
    split at h
    ·rename_i H' hs
     cases h
     exact ⟨bs,hx,fun h=>absurd h h0,fun _=>by rw [dS hs] at hK; exact hK⟩
    ·cases h
  ·cases h
 case b2s x =>
  split at h
  ·rename_i n l hx
   split at h
   ·rename_i bs hb
    cases h
    exact ⟨n,bs,by rw [lS bE hx,mm hb],hK⟩
   ·cases h
  ·cases h
def bM (f:AV→Option AV):List AV→Option (List AV)
 | []=>some []
 | x :: l=>match f x with
  | some y=>match bM f l with
   | some m=>some (y :: m)
   | none=>none
  | none=>none
theorem bP {f:AV→Option AV}:∀ {l m:List AV},bM f l=some m→m.length=l.length∧∀ (i:Nat) (a c:AV),l[i]?=some a→m[i]?=some c→f a=some c
 | [],m,h=>by cases h; exact ⟨rfl,by simp⟩
 | x :: l,m,h=>by
  simp only [bM] at h
  split at h
  ·rename_i y hy
   split at h
   ·rename_i m' hm
    cases h
    obtain ⟨h1,h2⟩:=bP hm
    refine ⟨by simp [h1],fun i a c ha hc=>?_⟩
    cases i with
    | zero=>simp at ha hc; subst ha hc; exact hy
    | succ i=>exact h2 i a c (by simpa using ha) (by simpa using hc)
   ·cases h
  ·cases h
def mkE:List AV→AV
 | [.agg a]=>.agg [.agg a]
 | [c]=>c
 | cs=>.agg cs
theorem sj (cs:List AV):(mkE cs).cells=cs:=by
 rcases cs with _ | ⟨a,_ | ⟨b,l⟩⟩
 ·rfl
 ·cases a <;> rfl
 ·cases a <;> rfl
def i6 (sz:Nat):Nat→List AV→List AV
 | 0,_=>[]
 | n + 1,ds=>mkE (ds.take sz) :: i6 sz n (ds.drop sz)
theorem jt (sz:Nat):∀ (n:Nat) (ds:List AV),(i6 sz n ds).length=n
 | 0,_=>rfl
 | n + 1,ds=>by simp [i6,jt]
theorem jp (sz:Nat):∀ (n:Nat) (ds:List AV),ds.length=n * sz→∀ (i:Nat) (y:AV),(i6 sz n ds)[i]?=some y→y.cells.length=sz∧∀ (j:Nat) (c:AV),y.cells[j]?=some c→ds[i * sz + j]?=some c
 | 0,_,_,i,y,h=>by simp [i6] at h
 | n + 1,ds,hl,i,y,h=>by
  rw [Nat.add_mul,Nat.one_mul] at hl
  cases i with
  | zero =>
   simp only [i6,List.getElem?_cons_zero,Option.some.injEq] at h
   subst h
   rw [sj]
   refine ⟨by rw [List.length_take]; omega,fun j c hc=>?_⟩
   rw [Nat.zero_mul,Nat.zero_add]
   rw [List.getElem?_take] at hc
   split at hc
   ·exact hc
   ·cases hc
  | succ i =>
   simp only [i6,List.getElem?_cons_succ] at h
   obtain ⟨h1,h2⟩:=jp sz n (ds.drop sz) (by rw [List.length_drop]; omega) i y h
   refine ⟨h1,fun j c hc=>?_⟩
   have:=h2 j c hc
   rw [List.getElem?_drop] at this
   rw [← this]
   congr 1
   rw [Nat.add_mul]; omega
def um (f:AV→Option AV):AV→Option AV
 | .agg cs=>match bM f cs with
  | some ds=>some (.agg ds)
  | none=>none
 | x=>match f x with
  | some (.agg _)=>none
  | some y=>some y
  | none=>none
theorem oD {f:AV→Option AV} {x y:AV} (h:um f x=some y):y.cells.length=x.cells.length∧∀ (j:Nat) (a b:AV),x.cells[j]?=some a→y.cells[j]?=some b→f a=some b:=by
 unfold um at h
 split at h
 ·split at h
  ·rename_i hm
   cases h
   exact bP hm
  ·cases h
 ·rename_i hna
  have hx:x.cells=[x]:=by cases x <;> first | rfl | exact absurd rfl (hna _)
  split at h
  ·cases h
  ·rename_i y' hny hy
   cases h
   have hyc:y.cells=[y]:=by cases y <;> first | rfl | exact absurd hy (by intro hh; exact hny _ rfl)
   rw [hx,hyc]
   refine ⟨rfl,fun j a b ha hb=>?_⟩
   cases j with
   | zero=>simp at ha hb; subst ha hb; exact hy
   | succ j=>simp at ha
  ·cases h
def snapV (H:Hp):Nat→AV→Option AV
 | 0,_=>none
 | k + 1,x=>match x with
  | .bool b=>some (.bool b)
  | .int k n=>some (.int k n)
  | .str s=>some (.str s)
  | .nilp=>some .nilp
  | .nilf=>some .nilf
  | .nilm=>some .nilm
  | .esl=>some .esl
  | .sl sz l=>match bM (um (snapV H k)) l with
   | some m=>some (.sl sz m)
   | none=>none
  | .msl b n sz off len=>match len with
   | 0=>some (.sl sz [])
   | len + 1=>match H b with
    | some cs=>if cs.length=n∧off + (len + 1) * sz ≤ n then match bM (snapV H k) ((cs.drop off).take ((len + 1) * sz)) with
        | some ds=>some (.sl sz (i6 sz (len + 1) ds))
        | none=>none
     else none
    | none=>none
  | .ptr b n off=>match H b with
   | some cs=>if cs.length=n then match bM (snapV H k) cs with
       | some ds=>some (.iptr ds off)
       | none=>none
    else none
   | none=>none
  | .iptr cs off=>match bM (snapV H k) cs with
   | some ds=>some (.iptr ds off)
   | none=>none
  | .func f cs=>match bM (snapV H k) cs with
   | some ds=>some (.func f ds)
   | none=>none
  | .agg cs=>match bM (snapV H k) cs with
   | some ds=>some (.agg ds)
   | none=>none
  | .tup cs=>match bM (snapV H k) cs with
   | some ds=>some (.tup ds)
   | none=>none
  | _=>none
theorem ci {S H:Hp} (hs:Sub S H):∀ (k:Nat) {x y:AV},snapV S k x=some y→Snap H x y
 | 0,_,_,h=>by cases h
 | k + 1,x,y,h=>by
  have ih:=@ci S H hs k
  have om:∀ {l m:List AV},bM (snapV S k) l=some m→m.length=l.length∧∀ (i:Nat) (a c:AV),l[i]?=some a→m[i]?=some c→Snap H a c:=fun hm =>
   ⟨(bP hm).1,fun i a c ha hc=>ih ((bP hm).2 i a c ha hc)⟩
  cases x <;> simp only [snapV] at h <;> try (cases h; done)
  case bool=>cases h; exact .bool _
  case int=>cases h; exact .int _ _
  case str=>cases h; exact .str _
  case nilp=>cases h; exact .nilp
  case nilf=>cases h; exact .nilf
  case nilm=>cases h; exact .nilm
  case esl=>cases h; exact .esl
  case sl sz l =>
   split at h
   ·rename_i m hm
    cases h
    obtain ⟨h1,h2⟩:=bP hm
    exact .sl sz l m h1.symm (fun i x y hx hy=>(oD (h2 i x y hx hy)).1) (fun i j x y a b hx hy ha hb=>ih ((oD (h2 i x y hx hy)).2 j a b ha hb))
   ·cases h
  case msl b n sz off len =>
   split at h
   ·cases h; exact .mslnil _ _ _ _ _
   ·rename_i len
    split at h
    ·rename_i cs hb
     split at h
     ·rename_i hc
      split at h
      ·rename_i ds hds
       cases h
       obtain ⟨h1,h2⟩:=om hds
       have hdl:ds.length=(len + 1) * sz:=by rw [h1,List.length_take,List.length_drop]; omega
       have hg:=jp sz (len + 1) ds hdl
       refine .msl b n sz off (len + 1) cs _ (hs _ _ hb) hc.1 hc.2 (jt _ _ _) (fun y hy=>?_) (fun i j y a c hy hc' ha=>?_)
       ·obtain ⟨i,hi⟩:=List.getElem?_of_mem hy
        exact (hg i y hi).1
       ·obtain ⟨g1,g2⟩:=hg i y hy
        have g3:=g2 j c hc'
        refine h2 (i * sz + j) a c ?_ g3
        have hlt:i * sz + j < (len + 1) * sz:=by
         rw [← hdl]; exact (List.getElem?_eq_some_iff.1 g3).1
        rw [List.getElem?_take,if_pos hlt,List.getElem?_drop,← ha]
        congr 1; omega
      ·cases h
     ·cases h
    ·cases h
  case ptr b n off =>
   split at h
   ·rename_i cs hb
    split at h
    ·rename_i hn
     split at h
     ·rename_i ds hds
      cases h
      exact .ptr b n off cs ds (hs _ _ hb) hn (by rw [(om hds).1,hn]) (om hds).2
     ·cases h
    ·cases h
   ·cases h
  case iptr cs off =>
   split at h
   ·rename_i ds hds
    cases h
    exact .iptr cs ds off (om hds).1 (om hds).2
   ·cases h
  case func f cs =>
   split at h
   ·rename_i ds hds
    cases h
    exact .func f cs ds (om hds).1 (om hds).2
   ·cases h
  case agg cs =>
   split at h
   ·rename_i ds hds
    cases h
    exact .agg cs ds (om hds).1 (om hds).2
   ·cases h
  case tup cs =>
   split at h
   ·rename_i ds hds
    cases h
    exact .tup cs ds (om hds).1 (om hds).2
   ·cases h
theorem Snap.self {H H':Hp} {x y:AV} (h:Snap H x y):Snap H' y y:=by
 induction h with
 | bool b=>exact .bool _
 | int k n=>exact .int _ _
 | str s=>exact .str _
 | nilp=>exact .nilp
 | nilf=>exact .nilf
 | nilm=>exact .nilm
 | esl=>exact .esl
 | eslsl sz=>exact .slnil _ _
 | sl sz l l' hl hc h ih =>
  refine .sl sz l' l' rfl (fun i x y hx hy=>by rw [hx] at hy; cases hy; rfl) (fun i j x y a b hx hy ha hb=>?_)
  rw [hx] at hy; cases hy
  rw [ha] at hb; cases hb
  have hlt:i < l.length:=by rw [hl]; exact (List.getElem?_eq_some_iff.1 hx).1
  have hz:l[i]?=some l[i]:=by simp [hlt]
  have hcl:=hc i _ _ hz hx
  have hj:j < l[i].cells.length:=by rw [← hcl]; exact (List.getElem?_eq_some_iff.1 ha).1
  exact ih i j l[i] x l[i].cells[j] a hz hx (by simp [hj]) ha
 | slnil sz sz'=>exact .slnil _ _
 | msl b n sz off len cs l' hb hn hfit hl hc h ih =>
  refine .sl sz l' l' rfl (fun i x y hx hy=>by rw [hx] at hy; cases hy; rfl) (fun i j x y a c hx hy ha hc'=>?_)
  rw [hx] at hy; cases hy
  rw [ha] at hc'; cases hc'
  have hi:i < len:=by rw [← hl]; exact (List.getElem?_eq_some_iff.1 hx).1
  have hj:j < sz:=by rw [← hc x (List.mem_of_getElem? hx)]; exact (List.getElem?_eq_some_iff.1 ha).1
  have hlt:off + i * sz + j < cs.length:=by
   have:(i + 1) * sz ≤ len * sz:=Nat.mul_le_mul_right _ hi
   rw [Nat.add_mul] at this; omega
  exact ih i j x cs[off + i * sz + j] a hx ha (by simp [hlt])
 | mslnil b n sz off sz'=>exact .slnil _ _
 | ptr b n off cs cs' hb hn hl h ih =>
  refine .iptr cs' cs' off rfl (fun i a c ha hc=>?_)
  rw [ha] at hc; cases hc
  have hlt:i < cs.length:=by rw [hn,← hl]; exact (List.getElem?_eq_some_iff.1 ha).1
  exact ih i cs[i] a (by simp [hlt]) ha
 | iptr cs cs' off hl h ih =>
  refine .iptr cs' cs' off rfl (fun i a c ha hc=>?_)
  rw [ha] at hc; cases hc
  have hlt:i < cs.length:=by rw [← hl]; exact (List.getElem?_eq_some_iff.1 ha).1
  exact ih i cs[i] a (by simp [hlt]) ha
 | func f cs cs' hl h ih =>
  refine .func f cs' cs' rfl (fun i a c ha hc=>?_)
  rw [ha] at hc; cases hc
  have hlt:i < cs.length:=by rw [← hl]; exact (List.getElem?_eq_some_iff.1 ha).1
  exact ih i cs[i] a (by simp [hlt]) ha
 | agg cs cs' hl h ih =>
  refine .agg cs' cs' rfl (fun i a c ha hc=>?_)
  rw [ha] at hc; cases hc
  have hlt:i < cs.length:=by rw [← hl]; exact (List.getElem?_eq_some_iff.1 ha).1
  exact ih i cs[i] a (by simp [hlt]) ha
 | tup cs cs' hl h ih =>
  refine .tup cs' cs' rfl (fun i a c ha hc=>?_)
  rw [ha] at hc; cases hc
  have hlt:i < cs.length:=by rw [← hl]; exact (List.getElem?_eq_some_iff.1 ha).1
  exact ih i cs[i] a (by simp [hlt]) ha
theorem Fn.of_pureZ {P:Program} {f:FuncId} {args args':List AV} {r:AV} (hp:Pure P f args' r) {H Hf H':Hp} {nx:Nat} (hsub:∀ b cs,Hf b=some cs→H b=some cs) (hH:∀ b cs,H' b=some cs→H b=some cs∧Hf b=none) (hs:aL Hf args args')
    {R:AV→Hp→Nat→Prop} (hR:R r H' nx):Fn P f args H nx R:=by
 refine ⟨hp.1,fun E w vs hE hh hfr hv=>?_⟩
 have hsim:Sim E { n:=vs.length } ⟨T0 args,H,nx⟩ { tmps:=vs.toArray,defers:=[] } w:=by
  refine ⟨hE,hh,hfr,fun l hl=>(by cases hl),Nat.zero_le _,by simp,fun t=>?_,⟨List.Pairwise.nil,fun d hd=>(by cases hd)⟩⟩
  show Rel E w (T0 args t) (vs.toArray.getD t Go.undef)
  by_cases ht:t < args.length
  ·have h1:args[t]?=some args[t]:=by simp [ht]
   have h2:vs[t]?=some (vs[t]'(by rw [hv.1]; exact ht)):=by simp [hv.1,ht]
   have:=hv.2 t _ _ h1 h2
   have e1:T0 args t=args[t]:=by simp [T0,List.getD,ht]
   have e2:vs.toArray.getD t Go.undef=vs[t]'(by rw [hv.1]; exact ht):=by simp [Array.getD,hv.1,ht]
   rw [e1,e2]; exact this
  ·have e1:T0 args t=.undef:=by simp [T0,List.getD,ht]
   rw [e1]; exact .undef _
 have hg:Gh (T0 args) H nx (T0 args') H' nx Hf:=by
  refine ⟨hsub,Nat.le_refl _,fun b cs' hb=>?_,fun t=>?_⟩
  ·obtain ⟨h1,h2⟩:=hH b cs' hb
   exact .inl ⟨cs',h1,h2,rfl,fun i x x' hx hx'=>.inl (by rw [hx] at hx'; cases hx'; rfl)⟩
  ·by_cases ht:t < args.length
   ·have h1:args[t]?=some args[t]:=by simp [ht]
    have h2:args'[t]?=some (args'[t]'(by rw [hs.1]; exact ht)):=by simp [hs.1,ht]
    have:=hs.2 t _ _ h1 h2
    have e1:T0 args t=args[t]:=by simp [T0,List.getD,ht]
    have e2:T0 args' t=args'[t]'(by rw [hs.1]; exact ht):=by simp [T0,List.getD,hs.1,ht]
    right; right; left
    rw [e1,e2]; exact this
   ·left
    simp [T0,List.getD,hs.1,ht]
 obtain ⟨E',he,hsim'⟩:=hsim.ghost hg
 have hself:aL a9 args' args':=⟨rfl,fun i x y hx hy=>by
  rw [hx] at hy; cases hy
  have hlt:i < args.length:=by rw [← hs.1]; exact (List.getElem?_eq_some_iff.1 hx).1
  exact (hs.2 i args[i] x (by simp [hlt]) hx).self⟩
 have hv':bK E' w args' vs:=by
  refine ⟨by rw [hv.1,hs.1],fun i x v hx hvi=>?_⟩
  have hlt:i < vs.length:=(List.getElem?_eq_some_iff.1 hvi).1
  have hla:i < args'.length:=(List.getElem?_eq_some_iff.1 hx).1
  have:=hsim'.tmps i
  have e1:T0 args' i=x:=by
   have:=(List.getElem?_eq_some_iff.1 hx).2
   simp [T0,List.getD,hx]
  have e2:vs.toArray.getD i Go.undef=v:=by
   have:=(List.getElem?_eq_some_iff.1 hvi).2
   simp [Array.getD,hlt,this]
  simp only at this
  rw [e1,e2] at this
  exact this
 refine ((Fn.of_pure hp (.inl hself) (H:=H') (nx:=nx) (R:=R) hR).2 E' w vs hsim'.env hsim'.heap hsim'.fresh hv').mono ?_
 rintro e w' ⟨v,E2,r2,H2,nx2,k1,k2,k3,k4,k5,k6,k7⟩
 exact ⟨v,E2,r2,H2,nx2,k1,he.trans k2,k3,k4,k5,k6,k7⟩
def e9 (H:Hp):Nat→AV→Option AV
 | 0,_=>none
 | k + 1,x=>match x with
  | .bool b=>some (.bool b)
  | .int k n=>some (.int k n)
  | .str s=>some (.str s)
  | .nilp=>some .nilp
  | .nilf=>some .nilf
  | .nilm=>some .nilm
  | .esl=>some .esl
  | .sl sz l=>match l with
   | []=>some (.sl sz [])
   | _ :: _=>none
  | .msl b n sz off len=>match len with
   | 0=>some (.sl sz [])
   | len + 1=>match H b with
    | some cs=>if cs.length=n∧off + (len + 1) * sz ≤ n then match bM (e9 H k) ((cs.drop off).take ((len + 1) * sz)) with
        | some ds=>some (.sl sz (i6 sz (len + 1) ds))
        | none=>none
     else none
    | none=>none
  | .ptr b n off=>match H b with
   | some cs=>if cs.length=n then match bM (e9 H k) cs with
       | some ds=>some (.iptr ds off)
       | none=>none
    else none
   | none=>none
  | .func f cs=>match bM (e9 H k) cs with
   | some ds=>some (.func f ds)
   | none=>none
  | .agg cs=>match bM (e9 H k) cs with
   | some ds=>some (.agg ds)
   | none=>none
  | .tup cs=>match bM (e9 H k) cs with
   | some ds=>some (.tup ds)
   | none=>none
  | _=>none
theorem jv {S H:Hp} (hs:Sub S H):∀ (k:Nat) {x y:AV},e9 S k x=some y→SnapF H x y
 | 0,_,_,h=>by cases h
 | k + 1,x,y,h=>by
  have ih:=@jv S H hs k
  have om:∀ {l m:List AV},bM (e9 S k) l=some m→m.length=l.length∧∀ (i:Nat) (a c:AV),l[i]?=some a→m[i]?=some c→SnapF H a c:=fun hm =>
   ⟨(bP hm).1,fun i a c ha hc=>ih ((bP hm).2 i a c ha hc)⟩
  cases x <;> simp only [e9] at h <;> try (cases h; done)
  case bool=>cases h; exact .bool _
  case int=>cases h; exact .int _ _
  case str=>cases h; exact .str _
  case nilp=>cases h; exact .nilp
  case nilf=>cases h; exact .nilf
  case nilm=>cases h; exact .nilm
  case esl=>cases h; exact .esl
  case sl sz l =>
   split at h
   ·cases h; exact .slnil _ _
   ·cases h
  case msl b n sz off len =>
   split at h
   ·cases h; exact .mslnil _ _ _ _ _
   ·rename_i len
    split at h
    ·rename_i cs hb
     split at h
     ·rename_i hc
      split at h
      ·rename_i ds hds
       cases h
       obtain ⟨h1,h2⟩:=om hds
       have hdl:ds.length=(len + 1) * sz:=by rw [h1,List.length_take,List.length_drop]; omega
       have hg:=jp sz (len + 1) ds hdl
       refine .msl b n sz off (len + 1) cs _ (hs _ _ hb) hc.1 hc.2 (jt _ _ _) (fun y hy=>?_) (fun i j y a c hy hc' ha=>?_)
       ·obtain ⟨i,hi⟩:=List.getElem?_of_mem hy
        exact (hg i y hi).1
       ·obtain ⟨g1,g2⟩:=hg i y hy
        have g3:=g2 j c hc'
        refine h2 (i * sz + j) a c ?_ g3
        have hlt:i * sz + j < (len + 1) * sz:=by
         rw [← hdl]; exact (List.getElem?_eq_some_iff.1 g3).1
        rw [List.getElem?_take,if_pos hlt,List.getElem?_drop,← ha]
        congr 1; omega
      ·cases h
     ·cases h
    ·cases h
  case ptr b n off =>
   split at h
   ·rename_i cs hb
    split at h
    ·rename_i hn
     split at h
     ·rename_i ds hds
      cases h
      exact .ptr b n off cs ds (hs _ _ hb) hn (by rw [(om hds).1,hn]) (om hds).2
     ·cases h
    ·cases h
   ·cases h
  case func f cs =>
   split at h
   ·rename_i ds hds
    cases h
    exact .func f cs ds (om hds).1 (om hds).2
   ·cases h
  case agg cs =>
   split at h
   ·rename_i ds hds
    cases h
    exact .agg cs ds (om hds).1 (om hds).2
   ·cases h
  case tup cs =>
   split at h
   ·rename_i ds hds
    cases h
    exact .tup cs ds (om hds).1 (om hds).2
   ·cases h
end Go.Abs
namespace Go.Abs
open Go.RowKit
def SF:Nat:=40
abbrev CL:=FuncId→List AV→HT→Nat→Option (AV × HT × Nat)
abbrev PC:=FuncId→List AV→HT→Option AV
def vB (cl:CL) (pc:PC) (yl:CL) (dm:DM) (i:Ins) (T:TT) (H:HT) (nx:Nat):Option (AV × HT × Nat) :=
 match ic i with
 | .val=>match dm2 dm (toT T) i with
  | true=>match aU (toT T) (cA H) i with
   | some r=>some (r,H,nx)
   | none=>none
  | false=>none
 | .eff=>match dm2 dm (toT T) i with
  | true=>xb T H nx i
  | false=>none
 | .call=>match i with
  | .call f args=>match ov (toT T) f with
   | .func g caps=>match dm.isText with
    | true=>cl g (args.map (ov (toT T)) ++ caps) H nx
    | false=>match pc g (args.map (ov (toT T)) ++ caps) H with
     | some r=>some (r,H,nx)
     | none=>none
   | .bfn g fs=>match dm.isText with
    | true=>cl g (fs ++ args.map (ov (toT T))) H nx
    | false=>none
   | .yld b=>match dm.isText with
    | true=>yl b (args.map (ov (toT T))) H nx
    | false=>none
   | _=>none
  | _=>none
 | .sp=>match dm.isText with
  | true=>rsp (toT T) H nx i
  | false=>none
def nI (cl:CL) (pc:PC) (yl:CL) (dm:DM):List Op2→TT→HT→Nat→Option (TT × HT × Nat)
 | [],T,H,nx=>some (T,H,nx)
 | o :: l,T,H,nx=>match g2 (toT T) o.g with
  | none=>none
  | some false=>match stT T o.d (.tup []) with
   | some T=>nI cl pc yl dm l T H nx
   | none=>none
  | some true=>match vB cl pc yl dm o.i T H nx with
   | none=>none
   | some (r,H,nx)=>frV r fun r=>match stT T o.d r with
    | some T=>nI cl pc yl dm l T H nx
    | none=>none
structure CLok (P:Program) (L:LV) (cl:CL) (pc:PC) (yl:CL):Prop where
 cl:∀ {g:FuncId} {args:List AV} {H H':HT} {nx nx':Nat} {r:AV} {R:AV→Hp→Nat→Prop},cl g args H nx=some (r,H',nx')→R r (toH L H') nx'→Fn P g args (toH L H) nx R
 pc:∀ {g:FuncId} {args:List AV} {H:HT} {r:AV},pc g args H=some r→gC P g args (toH L H) r
 yl:∀ {g:Nat} {args:List AV} {H H':HT} {nx nx':Nat} {r:AV} {R:AV→Hp→Nat→Prop},yl g args H nx=some (r,H',nx')→R r (toH L H') nx'→Yl P g args (toH L H) nx R
theorem rq {P:Program} {L:LV} {cl:CL} {pc:PC} {yl:CL} (hk:CLok P L cl pc yl) {dm:DM} {i:Ins} {T:TT} {H H':HT} {nx nx':Nat} {r:AV} {K:AV→Hp→Nat→Prop}
    (h:vB cl pc yl dm i T H nx=some (r,H',nx')) (hK:K r (toH L H') nx'):bd P dm i (toT T) (toH L H) nx K:=by
 unfold vB at h
 unfold bd
 cases hi:ic i with
 | val =>
  rw [hi] at h
  simp only at h ⊢
  split at h
  ·rename_i hd
   split at h
   ·rename_i r' hr
    cases h
    exact ⟨hd,by rw [r7 bE hr]; exact hK⟩
   ·cases h
  ·cases h
 | eff =>
  rw [hi] at h
  simp only at h ⊢
  split at h
  ·rename_i hd
   exact ⟨hd,by rw [ve h]; exact hK⟩
  ·cases h
 | sp =>
  rw [hi] at h
  simp only at h ⊢
  split at h
  ·rename_i hd
   exact ⟨hd,xh h hK⟩
  ·cases h
 | call =>
  rw [hi] at h
  simp only at h ⊢
  cases i <;> try (cases hi; done)
  rename_i f args
  simp only at h ⊢
  cases hf:ov (toT T) f <;> rw [hf] at h <;> simp only at h <;> try (cases h; done)
  ·rename_i g caps
   left
   show match dm.isText with | false=>_ | true=>_
   cases hd:dm.isText with
   | true=>rw [hd] at h; exact hk.cl h hK
   | false =>
    rw [hd] at h
    simp only at h
    split at h
    ·rename_i r' hr
     cases h
     exact ⟨_,hk.pc hr,hK⟩
    ·cases h
  ·rename_i g fs
   right
   cases hd:dm.isText with
   | true=>rw [hd] at h; exact ⟨rfl,.inr ⟨g,fs,rfl,hk.cl h hK⟩⟩
   | false=>rw [hd] at h; cases h
  ·rename_i b
   right
   cases hd:dm.isText with
   | true=>rw [hd] at h; exact ⟨rfl,.inl ⟨b,rfl,hk.yl h hK⟩⟩
   | false=>rw [hd] at h; cases h
theorem fM {P:Program} {L:LV} {cl:CL} {pc:PC} {yl:CL} (hk:CLok P L cl pc yl) {dm:DM} {K:SP}:∀ {l:List Op2} {T T':TT} {H H':HT} {nx nx':Nat},
    nI cl pc yl dm l T H nx=some (T',H',nx')→K (toT T') (toH L H') nx'→aj P dm l (toT T) (toH L H) nx K
 | [],_,_,_,_,_,_,h,hK=>by cases h; exact hK
 | o :: l,T,T',H,H',nx,nx',h,hK=>by
  simp only [nI] at h
  show aX (g2 (toT T) o.g) _ _
  cases hg:g2 (toT T) o.g with
  | none=>rw [hg] at h; cases h
  | some b =>
   rw [hg] at h
   cases b with
   | false =>
    simp only at h
    split at h
    ·rename_i T1 hs
     have:=fM hk h hK
     rw [iq hs] at this
     exact this
    ·cases h
   | true =>
    simp only at h
    split at h
    ·cases h
    ·rename_i r H1 nx1 hr
     simp only [jn] at h
     split at h
     ·rename_i T1 hs
      have:=fM hk h hK
      rw [iq hs] at this
      exact rq (K:=fun r H nx=>aj P dm l (aA (toT T) o.d r) H nx K) hk hr this
     ·cases h
def gX (f:AV→AV→Bool):List AV→List AV→Bool
 | [],[]=>true
 | x :: l,y :: m=>match f x y with
  | true=>gX f l m
  | false=>false
 | _,_=>false
theorem ln {f:AV→AV→Bool} (h:∀ x y,f x y=true→x=y):∀ {l m:List AV},gX f l m=true→l=m
 | [],[],_=>rfl
 | [],_ :: _,h=>by cases h
 | _ :: _,[],h=>by cases h
 | x :: l,y :: m,he=>by
  simp only [gX] at he
  split at he
  ·rename_i hx
   rw [h _ _ hx,ln h he]
  ·cases he
def og:Nat→AV→AV→Bool
 | 0,_,_=>false
 | k + 1,x,y=>match x with
  | .undef=>match y with
   | .undef=>true
   | _=>false
  | .bool a=>match y with
   | .bool b=>decide (a=b)
   | _=>false
  | .int j a=>match y with
   | .int i b=>decide (j=i) && decide (a=b)
   | _=>false
  | .str a=>match y with
   | .str b=>decide (a=b)
   | _=>false
  | .nilp=>match y with
   | .nilp=>true
   | _=>false
  | .nilf=>match y with
   | .nilf=>true
   | _=>false
  | .nilm=>match y with
   | .nilm=>true
   | _=>false
  | .esl=>match y with
   | .esl=>true
   | _=>false
  | .ptr b n o=>match y with
   | .ptr b' n' o'=>Nat.beq b b' && Nat.beq n n' && Nat.beq o o'
   | _=>false
  | .msl b n s o l=>match y with
   | .msl b' n' s' o' l'=>Nat.beq b b' && Nat.beq n n' && Nat.beq s s' && Nat.beq o o' && Nat.beq l l'
   | _=>false
  | .mp b=>match y with
   | .mp b'=>Nat.beq b b'
   | _=>false
  | .yld b=>match y with
   | .yld b'=>Nat.beq b b'
   | _=>false
  | .sl s l=>match y with
   | .sl s' l'=>Nat.beq s s' && gX (og k) l l'
   | _=>false
  | .iptr l s=>match y with
   | .iptr l' s'=>Nat.beq s s' && gX (og k) l l'
   | _=>false
  | .func s l=>match y with
   | .func s' l'=>Nat.beq s s' && gX (og k) l l'
   | _=>false
  | .agg l=>match y with
   | .agg l'=>gX (og k) l l'
   | _=>false
  | .tup l=>match y with
   | .tup l'=>gX (og k) l l'
   | _=>false
  | _=>false
theorem qV:∀ (k:Nat) (x y:AV),og k x y=true→x=y
 | 0,_,_,h=>by cases h
 | k + 1,x,y,h=>by
  have ih:∀ {l m:List AV},gX (og k) l m=true→l=m:=fun h=>ln (qV k) h
  cases x <;> simp only [og] at h <;> (try (cases h; done)) <;> cases y <;> simp only [Bool.and_eq_true,decide_eq_true_eq] at h <;> (try (cases h; done)) <;> (try rfl)
  ·rw [h]
  ·rw [h.1,h.2]
  ·rw [h]
  ·rw [Nat.eq_of_beq_eq_true h.1.1,Nat.eq_of_beq_eq_true h.1.2,Nat.eq_of_beq_eq_true h.2]
  ·rw [Nat.eq_of_beq_eq_true h.1,ih h.2]
  ·rw [Nat.eq_of_beq_eq_true h.1,ih h.2]
  ·rw [Nat.eq_of_beq_eq_true h.1.1.1.1,Nat.eq_of_beq_eq_true h.1.1.1.2,Nat.eq_of_beq_eq_true h.1.1.2,Nat.eq_of_beq_eq_true h.1.2,Nat.eq_of_beq_eq_true h.2]
  ·rw [show _=_ from Nat.eq_of_beq_eq_true h.1,ih h.2]
  ·rw [Nat.eq_of_beq_eq_true h]
  ·rw [Nat.eq_of_beq_eq_true h]
  ·rw [ih h]
  ·rw [ih h]
def loadAt (T:Tm):Ins→Option Nat
 | .ld1 a=>match ov T a with
  | .ptr b _ _=>some b
  | _=>none
 | .ldn _ a=>match ov T a with
  | .ptr b _ _=>some b
  | _=>none
 | _=>none
def il:List (Op2 × Nat)→TT→HT→List Nat→List Nat
 | [],_,_,acc=>acc
 | (o,0) :: l,T,H,acc=>match g2 (toT T) o.g with
  | some true=>match aU (toT T) (cA H) o.i with
   | some r=>match stT T o.d r with
    | some T'=>match loadAt (toT T) o.i with
     | some b=>il l T' H (b :: acc)
     | none=>il l T' H acc
    | none=>acc
   | none=>il l T H acc
  | _=>il l T H acc
 | (_,_ + 1) :: l,T,H,acc=>il l T H acc
def l4 (H0 H:HT):List Nat→Bool
 | []=>true
 | b :: l=>match cA H0 b with
  | none=>l4 H0 H l
  | some x=>match cA H b with
   | some y=>match gX (og SF) x y with
    | true=>l4 H0 H l
    | false=>false
   | none=>false
def lr (H0:HT) (ids:List Nat):Hp:=fun b=>match ids.elem b with
 | true=>cA H0 b
 | false=>none
theorem mj {H0 H:HT}:∀ {ids:List Nat},l4 H0 H ids=true→∀ b cs,ids.elem b=true→cA H0 b=some cs→cA H b=some cs
 | [],_,b,cs,hb,_=>by cases hb
 | a :: l,h,b,cs,hb,hc=>by
  simp only [l4] at h
  have hb':b=a ∨ l.elem b=true:=by
   rw [List.elem_cons] at hb
   cases e:b == a with
   | true=>exact .inl (eq_of_beq e)
   | false=>rw [e] at hb; exact .inr hb
  split at h
  ·rename_i hn
   rcases hb' with rfl | hb'
   ·rw [hn] at hc; cases hc
   ·exact mj h b cs hb' hc
  ·rename_i x hx
   split at h
   ·rename_i y hy
    split at h
    ·rename_i he
     rcases hb' with rfl | hb'
     ·rw [hx] at hc; cases hc
      rw [hy,ln (qV SF) he]
     ·exact mj h b cs hb' hc
    ·cases h
   ·cases h
theorem nc {L:LV} {H0 H:HT} {ids:List Nat} (h:l4 H0 H ids=true):Sub (lr H0 ids) (toH L H):=fun b cs hb=>by
 unfold lr at hb
 split at hb
 ·rename_i he
  exact bE b cs (mj h b cs he hb)
 ·cases hb
def fE (cl:CL) (pc:PC) (yl:CL) (H0:HT) (ids:List Nat):List (Op2 × Nat)→TT→HT→Nat→Option (TT × HT × Nat)
 | [],T,H,nx=>some (T,H,nx)
 | (o,0) :: l,T,H,nx=>match g2 (toT T) o.g with
  | none=>none
  | some false=>match stT T o.d (.tup []) with
   | some T=>fE cl pc yl H0 ids l T H nx
   | none=>none
  | some true=>match aU (toT T) (lr H0 ids) o.i with
   | none=>none
   | some r=>frV r fun r=>match stT T o.d r with
    | some T=>fE cl pc yl H0 ids l T H nx
    | none=>none
 | (o,k + 1) :: l,T,H,nx=>match g2 (toT T) o.g with
  | none=>none
  | some false=>match stT T o.d (.tup []) with
   | some T=>fE cl pc yl H0 ids l T H nx
   | none=>none
  | some true=>if k=2 then (match pC (toT T) o.i with
      | none=>none
      | some r=>frV r fun r=>match stT T o.d r with
       | some T=>fE cl pc yl H0 ids l T H nx
       | none=>none)
   else match vB cl pc yl .text o.i T H nx with
    | none=>none
    | some (r,H,nx)=>match (match k with | 0=>l4 H0 H ids | _=>true) with
     | true=>frV r fun r=>match stT T o.d r with
      | some T=>fE cl pc yl H0 ids l T H nx
      | none=>none
     | false=>none
theorem eB {P:Program} {L:LV} {cl:CL} {pc:PC} {yl:CL} (hk:CLok P L cl pc yl) {H0:HT} {ids:List Nat} {K:SP}:∀ {l:List (Op2 × Nat)} {T T':TT} {H H':HT} {nx nx':Nat},
    fE cl pc yl H0 ids l T H nx=some (T',H',nx')→K (toT T') (toH L H') nx'→aZ P (lr H0 ids) l (toT T) (toH L H) nx K
 | [],_,_,_,_,_,_,h,hK=>by cases h; exact hK
 | (o,0) :: l,T,T',H,H',nx,nx',h,hK=>by
  simp only [fE] at h
  show aX (g2 (toT T) o.g) _ _
  cases hg:g2 (toT T) o.g with
  | none=>rw [hg] at h; cases h
  | some b =>
   rw [hg] at h
   cases b with
   | false =>
    simp only at h
    split at h
    ·rename_i T1 hs
     have:=eB hk h hK
     rw [iq hs] at this
     exact this
    ·cases h
   | true =>
    simp only at h
    split at h
    ·cases h
    ·rename_i r hr
     simp only [jn] at h
     split at h
     ·rename_i T1 hs
      have:=eB hk h hK
      rw [iq hs] at this
      show aB (aU (toT T) (lr H0 ids) o.i) _
      rw [hr]; exact this
     ·cases h
 | (o,k + 1) :: l,T,T',H,H',nx,nx',h,hK=>by
  simp only [fE] at h
  show aX (g2 (toT T) o.g) _ _
  cases hg:g2 (toT T) o.g with
  | none=>rw [hg] at h; cases h
  | some b =>
   rw [hg] at h
   cases b with
   | false =>
    simp only at h
    split at h
    ·rename_i T1 hs
     have:=eB hk h hK
     rw [iq hs] at this
     exact this
    ·cases h
   | true =>
    simp only at h
    show if k=2 then _ else _
    split at h
    ·rename_i h2
     rw [if_pos h2]
     split at h
     ·cases h
     ·rename_i r hr
      simp only [jn] at h
      split at h
      ·rename_i T1 hs
       have:=eB hk h hK
       rw [iq hs] at this
       rw [hr]; exact this
      ·cases h
    ·rename_i h2
     rw [if_neg h2]
     split at h
     ·cases h
     ·rename_i r H1 nx1 hr
      split at h
      ·rename_i hkeep
       simp only [jn] at h
       split at h
       ·rename_i T1 hs
        have:=eB hk h hK
        rw [iq hs] at this
        refine rq (K:=fun r H' nx'=>(k=0→Sub (lr H0 ids) H')∧aZ P (lr H0 ids) l (aA (toT T) o.d r) H' nx' K) hk hr ⟨fun hk0=>?_,this⟩
        subst hk0
        exact nc hkeep
       ·cases h
      ·cases h
def rvs (T:Tm) (H:Hp):List RV→Option (List AV)
 | []=>some []
 | a :: l=>match rv T H a with
  | some x=>match rvs T H l with
   | some xs=>some (x :: xs)
   | none=>none
  | none=>none
def xm (T:Tm) (H:Hp):List RV→Option AV
 | []=>some (.tup [])
 | [a]=>rv T H a
 | [a,b]=>match rv T H a,rv T H b with
  | some x,some y=>some (.tup [x,y])
  | _,_=>none
 | [a,b,c]=>match rv T H a,rv T H b,rv T H c with
  | some x,some y,some z=>some (.tup [x,y,z])
  | _,_,_=>none
 | a :: b :: c :: d :: l=>(rvs T H (a :: b :: c :: d :: l)).map .tup
theorem oX {T:Tm} {S H:Hp} (hs:Sub S H):∀ {l:List RV} {xs:List AV} {K:List AV→Prop},rvs T S l=some xs→K xs→sB T H l K
 | [],xs,K,h,hK=>by cases h; exact hK
 | a :: l,xs,K,h,hK=>by
  simp only [rvs] at h
  split at h
  ·rename_i x hx
   split at h
   ·rename_i ys hy
    cases h
    show aB (rv T H a) _
    rw [ig hs hx]
    exact oX hs hy hK
   ·cases h
  ·cases h
theorem u1 {T:Tm} {S H:Hp} (hs:Sub S H) {l:List RV} {r:AV} {K:AV→Prop} (h:xm T S l=some r) (hK:K r):br T H K l:=by
 rcases l with _ | ⟨a,_ | ⟨b,_ | ⟨c,_ | ⟨d,l⟩⟩⟩⟩ <;> simp only [xm] at h
 ·cases h; exact hK
 ·exact r_1 (ig hs h) hK
 ·split at h
  ·rename_i x y hx hy
   cases h; exact r_2 (ig hs hx) (ig hs hy) hK
  ·cases h
 ·split at h
  ·rename_i x y z hx hy hz
   cases h; exact r_3 (ig hs hx) (ig hs hy) (ig hs hz) hK
  ·cases h
 ·cases ho:rvs T S (a :: b :: c :: d :: l) with
  | none=>rw [ho] at h; cases h
  | some xs =>
   rw [ho] at h
   cases h
   exact oX hs ho hK
structure LFr where
 y:Nat
 ps:List Nat
 a:C2
 b:C2
 T:TT
abbrev RN:=List LFr→C2→TT→HT→Nat→Option (AEx × TT × HT × Nat)
def g9 (code:FuncId→Option F2) (rn:RN) (fr:List LFr):CL:=fun g args H nx =>
 match code g with
 | none=>none
 | some F=>if args.length ≤ F.n then match tY args with
     | none=>none
     | some T=>match rn fr F.body T H nx with
      | none=>none
      | some (e,T',H',nx')=>match e.ends with
       | true=>match xm (toT T') (cA H') F.res with
        | some r=>frV r fun r=>some (r,H',nx')
        | none=>none
       | false=>none
  else none
def iM (code:FuncId→Option F2) (rn:RN):PC:=fun g args H =>
 match bM (snapV a9 SF) args with
 | some a=>match g9 code rn [] g a .leaf 0 with
  | some (v,H',_)=>snapV (cA H') SF v
  | none=>none
 | none=>match bM (snapV (cA H) SF) args with
  | some a=>match g9 code rn [] g a .leaf 0 with
   | some (v,H',_)=>match snapV (cA H') SF v with
    | some r=>match r.sca with
     | true=>some r
     | false=>e9 (cA H') SF v
    | none=>none
   | none=>none
  | none=>none
def gz (H:Hp):Nat→List AV→List Nat→List Nat
 | 0,_,acc=>acc
 | _ + 1,[],acc=>acc
 | k + 1,x :: l,acc=>match x with
  | .msl b _ _ _ _=>match acc.elem b with
   | true=>gz H k l acc
   | false=>gz H k ((H b).getD [] ++ l) (b :: acc)
  | .ptr b _ _=>match acc.elem b with
   | true=>gz H k l acc
   | false=>gz H k ((H b).getD [] ++ l) (b :: acc)
  | .sl _ cs=>gz H k (cs ++ l) acc
  | .iptr cs _=>gz H k (cs ++ l) acc
  | .func _ cs=>gz H k (cs ++ l) acc
  | .agg cs=>gz H k (cs ++ l) acc
  | .tup cs=>gz H k (cs ++ l) acc
  | _=>gz H k l acc
def RF2:Nat:=100000
def i8:List Nat→HT→Option HT
 | [],H=>some H
 | b :: l,H=>match PT.set LIM H b none with
  | some H=>i8 l H
  | none=>none
def uh (code:FuncId→Option F2) (rn:RN):CL:=fun g args H nx =>
 match bM (snapV a9 SF) args with
 | some a=>match g9 code rn [] g a .leaf 0 with
  | some (v,H',_)=>match snapV (cA H') SF v with
   | some r=>some (r,H,nx)
   | none=>none
  | none=>none
 | none=>match bM (snapV (cA H) SF) args with
  | some a=>match g9 code rn [] g a .leaf 0 with
   | some (v,H',_)=>match snapV (cA H') SF v with
    | some r=>match r.sca with
     | true=>some (r,H,nx)
     | false=>match e9 (cA H') SF v with
      | some r=>some (r,H,nx)
      | none=>match i8 (gz (cA H) RF2 args []) H with
       | some H2=>match bM (snapV (fun b=>match (cA H2 b).isSome with | true=>none | false=>cA H b) SF) args with
        | some a2=>match g9 code rn [] g a2 .leaf 0 with
         | some (v,H',_)=>match snapV (cA H') SF v with
          | some r=>some (r,H2,nx)
          | none=>none
         | none=>none
        | none=>none
       | none=>none
    | none=>none
   | none=>none
  | none=>none
structure CT where
 c:FuncId→List AV→Nat→Option AV
 q:FuncId→List AV→Option AV
def yV:CT:=⟨fun _ _ _=>none,fun _ _=>none⟩
structure CTok (P:Program) (ct:CT):Prop where
 c:∀ (g:FuncId) (args:List AV) (nx:Nat) (r:AV),ct.c g args nx=some r→∀ (H:Hp) (R:AV→Hp→Nat→Prop),R r (ak H nx []) (nx + 1)→Fn P g args H nx R
 q:∀ (g:FuncId) (args:List AV) (r:AV),ct.q g args=some r→Pure P g args r
theorem u9 {P:Program}:CTok P yV:=⟨fun _ _ _ _ h=>(by cases h),fun _ _ _ h=>(by cases h)⟩
def wq (q:FuncId→List AV→Option AV) (g:FuncId) (args:List AV):Option AV :=
 match bM (snapV a9 SF) args with
 | some a=>q g a
 | none=>none
def jT (code:FuncId→Option F2) (pf:FuncId→Bool) (ct:CT) (rn:RN) (fr:List LFr):CL:=fun g args H nx =>
 match ct.c g args nx with
 | some r=>match PT.set LIM H nx (some (.cells [])) with
  | some H2=>some (r,H2,nx + 1)
  | none=>none
 | none=>match pf g with
  | true=>match wq ct.q g args with
   | some r=>some (r,H,nx)
   | none=>uh code rn g args H nx
  | false=>g9 code rn fr g args H nx
def kZ:List LFr→Nat→Option (LFr × List LFr)
 | [],_=>none
 | F :: l,y=>match Nat.beq F.y y with
  | true=>some (F,l)
  | false=>kZ l y
def stL (T:TT):List Nat→List AV→Option TT
 | t :: ts,x :: xs=>match PT.set LIM T t (some x) with
  | some T=>stL T ts xs
  | none=>none
 | _,_=>some T
def tL:AEx→Bool
 | .normal=>true
 | _=>false
def o6 (rn:RN) (fr:List LFr):CL:=fun y args H nx =>
 match kZ fr y with
 | none=>none
 | some (F,l)=>match H.get y with
  | some (.mark none)=>match Nat.beq args.length F.ps.length with
   | true=>match stL F.T F.ps args with
    | none=>none
    | some T1=>match rn l F.a T1 H nx with
     | some (.normal,T2,H2,nx2)=>match H2.get y with
      | some (.mark none)=>match PT.set LIM H2 y none with
       | none=>none
       | some H3=>match rn l F.b T2 H3 nx2 with
        | none=>none
        | some (e,T4,H4,nx4)=>match e with
         | .normal=>match PT.set LIM H4 y (some (.mark none)) with
          | some H5=>some (.bool true,H5,nx4)
          | none=>none
         | e=>match PT.set LIM H4 y (some (.mark (some e))) with
          | some H5=>some (.bool false,H5,nx4)
          | none=>none
      | _=>none
     | _=>none
   | false=>none
  | _=>none
def zl (m nx:Nat):DM:=match m with
 | 0=>.text
 | 1=>.draw
 | _=>.fresh nx
def rD (m nx:Nat):DM:=match m with
 | 1=>.draw
 | _=>.fresh nx
def pm (x:Option (TT × HT × Nat)):Option (AEx × TT × HT × Nat):=match x with
 | some (T,H,nx)=>some (.normal,T,H,nx)
 | none=>none
def run (code:FuncId→Option F2) (pf:FuncId→Bool) (ct:CT):Nat→RN
 | 0,_,_,_,_,_=>none
 | n + 1,fr,c,T,H,nx=>match c with
  | .skip=>some (.normal,T,H,nx)
  | .exit i=>some (.exit i,T,H,nx)
  | .ret=>some (.ret,T,H,nx)
  | .ops m l=>pm (nI (jT code pf ct (run code pf ct n) fr) (iM code (run code pf ct n)) (o6 (run code pf ct n) fr) (zl m nx) l T H nx)
  | .mix m l C=>match Nat.beq m 9 with
   | true=>pm (nI (jT code pf ct (run code pf ct n) fr) (iM code (run code pf ct n)) (o6 (run code pf ct n) fr) .text (C.map fun k=>l.getD k ⟨none,none,.dead⟩) T H nx)
   | false=>match nI (jT code pf ct (run code pf ct n) fr) (iM code (run code pf ct n)) (o6 (run code pf ct n) fr) (rD m nx) l T H nx with
    | some x=>pm (some x)
    | none=>pm (nI (jT code pf ct (run code pf ct n) fr) (iM code (run code pf ct n)) (o6 (run code pf ct n) fr) .text (C.map fun k=>l.getD k ⟨none,none,.dead⟩) T H nx)
  | .mixS m l C=>match (match Nat.beq m 9 with
      | true=>none
      | false=>nI (jT code pf ct (run code pf ct n) fr) (iM code (run code pf ct n)) (o6 (run code pf ct n) fr) (rD m nx) l T H nx) with
   | some x=>pm (some x)
   | none=>match l4 H H (il (C.map fun k=>(l.getD k.1 ⟨none,none,.dead⟩,k.2)) T H []) with
    | true=>pm (fE (jT code pf ct (run code pf ct n) fr) (iM code (run code pf ct n)) (o6 (run code pf ct n) fr) H (il (C.map fun k=>(l.getD k.1 ⟨none,none,.dead⟩,k.2)) T H []) (C.map fun k=>(l.getD k.1 ⟨none,none,.dead⟩,k.2)) T H nx)
    | false=>none
  | .seq a b=>match run code pf ct n fr a T H nx with
   | some (.normal,T,H,nx)=>run code pf ct n fr b T H nx
   | r=>r
  | .cond c a b=>match ov (toT T) c with
   | .bool true=>run code pf ct n fr a T H nx
   | .bool false=>run code pf ct n fr b T H nx
   | _=>none
  | .block id b=>match run code pf ct n fr b T H nx with
   | some (e,T,H,nx)=>some (gu id e,T,H,nx)
   | none=>none
  | .loop b=>match run code pf ct n fr b T H nx with
   | some (.normal,T,H,nx)=>run code pf ct n fr (.loop b) T H nx
   | r=>r
  | .rangeF g ps a b=>match ov (toT T) g with
   | .func f caps=>match kZ fr nx with
    | some _=>none
    | none=>match PT.set LIM H nx (some (.mark none)) with
     | none=>none
     | some H1=>match g9 code (run code pf ct n) (⟨nx,ps,a,b,T⟩ :: fr) f (.yld nx :: caps) H1 (nx + 1) with
      | none=>none
      | some (_,H2,nx2)=>match H2.get nx with
       | some (.mark st)=>match PT.set LIM H2 nx none with
        | none=>none
        | some H3=>match st with
         | none=>some (.normal,T,H3,nx2)
         | some e=>match tL e with
          | true=>none
          | false=>some (e,T,H3,nx2)
       | _=>none
   | _=>none
def gm (P:Program) (code:FuncId→Option F2):Prop:=∀ {f:FuncId} {F:F2},code f=some F→Is P f F
def cH (P:Program) (L:LV):List LFr→Prop
 | []=>True
 | F :: fr => (∀ (args : List AV) (H' : Hp) (nx' : Nat) (K' : AV → Hp → Nat → Prop), H' F.y = some (L F.y none) → args.length = F.ps.length →
       aE P F.a (fe (toT F.T) F.ps args) H' nx' (fun e T2 H2 nx2=>aM e (H2 F.y=some (L F.y none)∧aE P F.b T2 (ca H2 F.y) nx2 fun e T3 H3 nx3=>aM e (K' (.bool true) (ak H3 F.y (L F.y none)) nx3) (K' (.bool false) (ak H3 F.y (L F.y (some e))) nx3)) False) →
       Yl P F.y args H' nx' K')∧cH P L fr
def we:List Nat→FuncId→Bool
 | [],_=>false
 | k :: l,f=>match Nat.beq k f with
  | true=>true
  | false=>we l f
theorem pD {P:Program} {L:LV}:∀ {fr:List LFr} {y:Nat} {F:LFr} {l:List LFr},cH P L fr→kZ fr y=some (F,l)→F.y=y∧cH P L (F :: l)
 | [],_,_,_,_,h=>by cases h
 | G :: fr,y,F,l,hf,h=>by
  simp only [kZ] at h
  split at h
  ·rename_i e
   cases h
   exact ⟨Nat.eq_of_beq_eq_true e,hf⟩
  ·exact pD hf.2 h
theorem mb {P:Program} {L L':LV} {y:Nat} (hL:∀ b e,b ≠ y→L' b e=L b e):∀ {fr:List LFr},cH P L fr→kZ fr y=none→cH P L' fr
 | [],_,_=>trivial
 | G :: fr,hf,h=>by
  simp only [kZ] at h
  split at h
  ·cases h
  ·rename_i e
   have hne:G.y ≠ y:=fun he=>by rw [he,Nat.beq_refl] at e; cases e
   refine ⟨?_,mb hL hf.2 h⟩
   have h1:∀ e,L' G.y e=L G.y e:=fun e=>hL _ _ hne
   simp only [h1]
   exact hf.1
theorem tB:∀ {ts:List Nat} {xs:List AV} {T T':TT},stL T ts xs=some T'→toT T'=fe (toT T) ts xs
 | [],_,_,_,h=>by cases h; rfl
 | _ :: _,[],_,_,h=>by cases h; rfl
 | t :: ts,x :: xs,T,T',h=>by
  simp only [stL] at h
  split at h
  ·rename_i T1 h1
   rw [tB h,nY h1]
   rfl
  ·cases h
structure RunOk (P:Program) (rn:RN):Prop where
 ok:∀ {L:LV} {fr:List LFr} {c:C2} {T T':TT} {H H':HT} {nx nx':Nat} {e:AEx} {K:CP},cH P L fr→rn fr c T H nx=some (e,T',H',nx')→K e (toT T') (toH L H') nx'→aE P c (toT T) (toH L H) nx K
theorem cJ {P:Program} {code:FuncId→Option F2} (hc:gm P code) {rn:RN} (hr:RunOk P rn) {L:LV} {fr:List LFr} (hf:cH P L fr) {g:FuncId} {args:List AV} {H H':HT} {nx nx':Nat} {r:AV}
    (h:g9 code rn fr g args H nx=some (r,H',nx')):∃ F,Is P g F∧args.length ≤ F.n∧∀ K:AV→Hp→Nat→Prop,K r (toH L H') nx'→aE P F.body (T0 args) (toH L H) nx fun e T H nx=>aV e.ends (br T H (fun x=>K x H nx) F.res):=by
 unfold g9 at h
 split at h
 ·cases h
 ·rename_i F hF
  split at h
  ·rename_i hl
   split at h
   ·cases h
   ·rename_i T hT
    split at h
    ·cases h
    ·rename_i e T' H1 nx1 hrun
     split at h
     ·rename_i he
      split at h
      ·rename_i r1 hres
       simp only [jn] at h
       cases h
       refine ⟨F,hc hF,hl,fun K hK=>?_⟩
       rw [← rU hT]
       exact hr.ok hf hrun ⟨he,u1 bE hres hK⟩
      ·cases h
     ·cases h
  ·cases h
def L0:LV:=fun _ _=>[]
theorem tC {P:Program} {code:FuncId→Option F2} (hm:P.follows .mixedOrders=true) (hc:gm P code) {rn:RN} (hr:RunOk P rn) {L:LV} {g:FuncId} {args:List AV} {H:HT} {r:AV} (h:iM code rn g args H=some r):gC P g args (toH L H) r:=by
    have hf0:cH P L0 []:=trivial
    have n0:Sub a9 a9:=fun _ _ h=>h
    unfold iM at h
    split at h
    ·rename_i a ha
     split at h
     ·rename_i v H' nx' hcall
      obtain ⟨F,h1,h2,h3⟩:=cJ hc hr hf0 hcall
      have hp:Pure P g a r:=Pure.of_c2 hm h1 h2 (h3 (fun x H _=>Snap H x r) (ci bE _ h))
      obtain ⟨o1,o2⟩:=bP ha
      exact hp.callOk (.inl ⟨o1,fun i x y hx hy=>ci n0 _ (o2 i x y hx hy)⟩)
     ·cases h
    ·split at h
     ·rename_i a ha
      obtain ⟨o1,o2⟩:=bP ha
      have hs:aL (toH L H) args a:=⟨o1,fun i x y hx hy=>ci bE _ (o2 i x y hx hy)⟩
      split at h
      ·rename_i v H' nx' hcall
       obtain ⟨F,h1,h2,h3⟩:=cJ hc hr hf0 hcall
       split at h
       ·rename_i r1 hr1
        split at h
        ·rename_i hsc
         cases h
         have hp:Pure P g a r:=Pure.of_c2 hm h1 h2 (h3 (fun x H _=>Snap H x r) (ci bE _ hr1))
         exact hp.callOk (.inr ⟨hs,hsc⟩)
        ·have hp:eZ P g a r:=eZ.of_c2 hm h1 h2 (h3 (fun x H _=>SnapF H x r) (jv bE _ h))
         exact hp.callOk hs
       ·cases h
      ·cases h
     ·cases h
theorem kJ:∀ {l:List Nat} {H H2:HT},i8 l H=some H2→∀ {b:Nat} {c:BC},H2.get b=some c→H.get b=some c
 | [],_,_,h,_,_,hb=>by cases h; exact hb
 | b :: l,H,H2,h,b',c,hb=>by
  simp only [i8] at h
  split at h
  ·rename_i H1 h1
   have:=kJ h hb
   rw [PT.get_set _ h1] at this
   split at this
   ·cases this
   ·exact this
  ·cases h
theorem jx {L:LV}:∀ {l:List Nat} {H H2:HT},i8 l H=some H2→∀ b cs,toH L H2 b=some cs→toH L H b=some cs
 | [],_,_,h=>by cases h; exact fun _ _ h=>h
 | b :: l,H,H2,h=>by
  simp only [i8] at h
  split at h
  ·rename_i H1 h1
   intro b' cs hb
   have:=jx h b' cs hb
   rw [nw h1] at this
   exact (gL this).2
  ·cases h
theorem ux {P:Program} {code:FuncId→Option F2} (hm:P.follows .mixedOrders=true) (hc:gm P code) {rn:RN} (hr:RunOk P rn) {L:LV} {g:FuncId} {args:List AV} {H H2:HT} {nx nx':Nat} {r:AV} {R:AV→Hp→Nat→Prop} (h:uh code rn g args H nx=some (r,H2,nx')) (hR:R r (toH L H2) nx'):Fn P g args (toH L H) nx R:=by
 have hf0:cH P L0 []:=trivial
 have n0:Sub a9 a9:=fun _ _ h=>h
 unfold uh at h
 split at h
 ·rename_i a ha
  split at h
  ·rename_i v H' nx1 hcall
   split at h
   ·rename_i r1 hr1
    cases h
    obtain ⟨F,h1,h2,h3⟩:=cJ hc hr hf0 hcall
    have hp:Pure P g a r:=Pure.of_c2 hm h1 h2 (h3 (fun x H _=>Snap H x r) (ci bE _ hr1))
    obtain ⟨o1,o2⟩:=bP ha
    exact Fn.of_pure hp (.inl ⟨o1,fun i x y hx hy=>ci n0 _ (o2 i x y hx hy)⟩) hR
   ·cases h
  ·cases h
 ·split at h
  ·rename_i a ha
   obtain ⟨o1,o2⟩:=bP ha
   have hs:aL (toH L H) args a:=⟨o1,fun i x y hx hy=>ci bE _ (o2 i x y hx hy)⟩
   split at h
   ·rename_i v H' nx1 hcall
    obtain ⟨F,h1,h2,h3⟩:=cJ hc hr hf0 hcall
    split at h
    ·rename_i r1 hr1
     split at h
     ·rename_i hsc
      cases h
      have hp:Pure P g a r:=Pure.of_c2 hm h1 h2 (h3 (fun x H _=>Snap H x r) (ci bE _ hr1))
      exact Fn.of_pure hp (.inr ⟨hs,hsc⟩) hR
     ·split at h
      ·rename_i r2 hr2
       cases h
       have hp:eZ P g a r:=eZ.of_c2 hm h1 h2 (h3 (fun x H _=>SnapF H x r) (jv bE _ hr2))
       exact Fn.of_callOk (hp.callOk hs) hR
      ·split at h
       ·rename_i H3 ca
        split at h
        ·rename_i a2 ha2
         obtain ⟨q1,q2⟩:=bP ha2
         split at h
         ·rename_i v2 H4 nx4 hcall2
          obtain ⟨F2,k1,k2,k3⟩:=cJ hc hr hf0 hcall2
          split at h
          ·rename_i r2 hr2
           cases h
           have hp:Pure P g a2 r:=Pure.of_c2 hm k1 k2 (k3 (fun x H _=>Snap H x r) (ci bE _ hr2))
           have hsubF:Sub (fun b=>match (cA H2 b).isSome with | true=>none | false=>cA H b) (fun b=>match (cA H2 b).isSome with | true=>none | false=>cA H b):=fun _ _ h=>h
           refine Fn.of_pureZ (Hf:=fun b=>match (cA H2 b).isSome with | true=>none | false=>cA H b) hp (fun b cs hb=>?_) (fun b cs hb=>⟨jx ca b cs hb,?_⟩) ⟨q1,fun i x y hx hy=>ci hsubF _ (q2 i x y hx hy)⟩ hR
           ·split at hb
            ·cases hb
            ·exact bE b cs hb
           ·split
            ·rfl
            ·rename_i hn
             have:=jx ca b cs hb
             unfold cA at hn ⊢
             unfold toH at hb this
             cases hg:H2.get b with
             | none=>rw [hg] at hb; cases hb
             | some c =>
              cases c with
              | cells cs'=>rw [hg] at hn; cases hn
              | mark e =>
               cases hg2:H.get b with
               | none=>rfl
               | some c2=>cases c2 with
                | mark e2=>rfl
                | cells cs2=>exact absurd (kJ ca hg) (by rw [hg2]; intro h; cases h)
          ·cases h
         ·cases h
        ·cases h
       ·cases h
    ·cases h
   ·cases h
  ·cases h
theorem tt {P:Program} {code:FuncId→Option F2} {pf:FuncId→Bool} {ct:CT} (hm:P.follows .mixedOrders=true) (hc:gm P code) (hct:CTok P ct) {rn:RN} (hr:RunOk P rn) {L:LV} {fr:List LFr} (hf:cH P L fr):CLok P L (jT code pf ct rn fr) (iM code rn) (o6 rn fr) where
 cl:=fun {g args H H' nx nx' r R} h hR=>by
  unfold jT at h
  split at h
  ·rename_i hx
   split at h
   ·rename_i hset
    cases h
    rw [dS hset] at hR
    exact hct.c _ _ _ _ hx _ _ hR
   ·cases h
  split at h
  ·split at h
   ·rename_i hq
    cases h
    unfold wq at hq
    split at hq
    ·rename_i a ha
     obtain ⟨o1,o2⟩:=bP ha
     have n0:Sub a9 a9:=fun _ _ h=>h
     exact Fn.of_pure (hct.q _ _ _ hq) (.inl ⟨o1,fun i x y hx hy=>ci n0 _ (o2 i x y hx hy)⟩) hR
    ·cases hq
   ·exact ux hm hc hr h hR
  ·obtain ⟨F,h1,h2,h3⟩:=cJ hc hr hf h
   exact Fn.of_c2 hm h1 h2 (h3 _ hR)
 pc:=fun {g args H r} h=>tC hm hc hr h
 yl:=fun {y args H H' nx nx' r R} h hR=>by
  unfold o6 at h
  split at h
  ·cases h
  ·rename_i F l hF
   obtain ⟨rfl,hfr⟩:=pD hf hF
   obtain ⟨hy,hl⟩:=hfr
   split at h
   ·rename_i hg
    split at h
    ·rename_i hlen
     split at h
     ·cases h
     ·rename_i T1 hT1
      split at h
      ·rename_i T2 H2 nx2 hrun
       split at h
       ·rename_i hg2
        split at h
        ·cases h
        ·rename_i H3 hdel3
         split at h
         ·cases h
         ·rename_i e T4 H4 nx4 hrun2
          refine hy args (toH L H) nx R (by simp only [toH,hg,bcL]) (Nat.eq_of_beq_eq_true hlen) ?_
          rw [← tB hT1]
          refine hr.ok (K:=fun e T2 H2 nx2=>aM e (H2 F.y=some (L F.y none)∧aE P F.b T2 (ca H2 F.y) nx2 fun e T3 H3 nx3=>aM e (R (.bool true) (ak H3 F.y (L F.y none)) nx3) (R (.bool false) (ak H3 F.y (L F.y (some e))) nx3)) False) hl hrun ⟨by simp only [toH,hg2,bcL],?_⟩
          rw [← nw hdel3]
          refine hr.ok hl hrun2 ?_
          cases e with
          | normal =>
           simp only at h
           split at h
           ·rename_i H5 h5
            cases h
            rw [iK h5] at hR
            exact hR
           ·cases h
          | exit i =>
           simp only at h
           split at h
           ·rename_i H5 h5
            cases h
            rw [iK h5] at hR
            exact hR
           ·cases h
          | ret =>
           simp only at h
           split at h
           ·rename_i H5 h5
            cases h
            rw [iK h5] at hR
            exact hR
           ·cases h
       ·cases h
      ·cases h
    ·cases h
   ·cases h
theorem gJ {x:Option (TT × HT × Nat)} {e:AEx} {T:TT} {H:HT} {nx:Nat} (h:pm x=some (e,T,H,nx)):x=some (T,H,nx)∧e=.normal:=by
 unfold pm at h
 split at h
 ·cases h; exact ⟨rfl,rfl⟩
 ·cases h
theorem tn {P:Program} {code:FuncId→Option F2} {pf:FuncId→Bool} {ct:CT} (hm:P.follows .mixedOrders=true) (hc:gm P code) (hct:CTok P ct):∀ n,RunOk P (run code pf ct n)
 | 0=>⟨fun _ h=>by cases h⟩
 | n + 1=>by
  refine ⟨?_⟩
  intro L fr c T T' H H' nx nx' e K hf h hK
  have ih:RunOk P (run code pf ct n):=tn hm hc hct n
  have hk:=tt (pf:=pf) (ct:=ct) hm hc hct ih hf
  cases c with
  | skip=>cases h; exact hK
  | exit i=>cases h; exact hK
  | ret=>cases h; exact hK
  | ops m l =>
   obtain ⟨h1,rfl⟩:=gJ h
   have:=fM hk (K:=K .normal) h1 hK
   refine ⟨_,_,_,_,Gh.refl _ _ _,?_⟩
   unfold zl at this
   exact this
  | mix m l C =>
   simp only [run] at h
   split at h
   ·obtain ⟨h1,rfl⟩:=gJ h
    exact .inr ⟨_,_,_,_,Gh.refl _ _ _,fM hk (K:=K .normal) h1 hK⟩
   ·rename_i hb
    split at h
    ·rename_i x hx
     obtain ⟨h1,rfl⟩:=gJ h
     cases h1
     have:=fM hk (K:=K .normal) hx hK
     refine .inl ⟨fun e=>?_,_,_,_,_,Gh.refl _ _ _,?_⟩
     ·subst e; cases hb
     ·unfold rD at this; exact this
    ·obtain ⟨h1,rfl⟩:=gJ h
     exact .inr ⟨_,_,_,_,Gh.refl _ _ _,fM hk (K:=K .normal) h1 hK⟩
  | mixS m l C =>
   simp only [run] at h
   split at h
   ·rename_i x hx
    split at hx
    ·cases hx
    ·rename_i hb
     obtain ⟨h1,rfl⟩:=gJ h
     cases h1
     have:=fM hk (K:=K .normal) hx hK
     refine .inl ⟨fun e=>?_,_,_,_,_,Gh.refl _ _ _,?_⟩
     ·subst e; cases hb
     ·unfold rD at this; exact this
   ·split at h
    ·rename_i hkeep
     obtain ⟨h1,rfl⟩:=gJ h
     exact .inr ⟨_,_,_,_,_,Gh.refl _ _ _,nc hkeep,eB hk (K:=K .normal) h1 hK⟩
    ·cases h
  | seq a b =>
   simp only [run] at h
   split at h
   ·rename_i T1 H1 nx1 h1
    exact dJ (ih.ok (K:=fun e T H nx=>aM e (aE P b T H nx K) (K e T H nx)) hf h1 (ih.ok hf h hK))
   ·rename_i hne
    refine dJ (ih.ok (K:=fun e T H nx=>aM e (aE P b T H nx K) (K e T H nx)) hf h ?_)
    cases e with
    | normal=>exact absurd h (hne _ _ _)
    | exit i=>exact hK
    | ret=>exact hK
  | cond c a b =>
   simp only [run] at h
   split at h
   ·rename_i hv
    exact nX hv (ih.ok hf h hK)
   ·rename_i hv
    exact n6 hv (ih.ok hf h hK)
   ·cases h
  | block id b =>
   simp only [run] at h
   split at h
   ·rename_i e1 T1 H1 nx1 h1
    cases h
    exact dp (ih.ok (K:=fun e T H nx=>K (gu id e) T H nx) hf h1 hK)
   ·cases h
  | loop b =>
   simp only [run] at h
   split at h
   ·rename_i T1 H1 nx1 h1
    obtain ⟨k,hl⟩:=ih.ok hf h hK
    exact ⟨k + 1,_,_,_,_,Gh.refl _ _ _,ih.ok (K:=fun e T H nx=>aM e (jI (aE P b) K k T H nx) (K e T H nx)) hf h1 hl⟩
   ·rename_i hne
    refine ⟨1,_,_,_,_,Gh.refl _ _ _,ih.ok (K:=fun e T H nx=>aM e (jI (aE P b) K 0 T H nx) (K e T H nx)) hf h ?_⟩
    cases e with
    | normal=>exact absurd h (hne _ _ _)
    | exit i=>exact hK
    | ret=>exact hK
  | rangeF g ps a b =>
   simp only [run] at h
   split at h
   ·rename_i f caps hg
    split at h
    ·cases h
    ·rename_i hnone
     split at h
     ·cases h
     ·rename_i H1 hset
      split at h
      ·cases h
      ·rename_i v H2 nx2 hcall
       split at h
       ·rename_i st hst
        split at h
        ·cases h
        ·rename_i H3 hdel3
         refine uS hg fun c0 cj hy=>?_
         let L':LV:=fun b e=>if b=nx then (match e with | none=>[c0] | some e=>[cj e]) else L b e
         have hL:∀ b e,b ≠ nx→L' b e=L b e:=fun b e hb=>if_neg hb
         have hn:L' nx none=[c0]:=if_pos rfl
         have hs:∀ e,L' nx (some e)=[cj e]:=fun e=>if_pos rfl
         have hf':cH P L' (⟨nx,ps,a,b,T⟩ :: fr):=by
          refine ⟨?_,mb hL hf hnone⟩
          intro args H' nx' K' h1 h2 h3
          simp only [hn,hs] at h1 h3
          exact hy args H' nx' K' h1 h2 h3
         have e1:ak (toH L H) nx [c0]=toH L' H1:=by
          rw [iK hset,hn]
          funext m
          simp only [ak]
          split
          ·rfl
          ·rename_i hm
           simp only [toH]
           cases H.get m with
           | none=>rfl
           | some x=>cases x with
            | cells cs=>rfl
            | mark e=>simp only [bcL,hL m e hm]
         have e2:ca (toH L' H2) nx=toH L H3:=by
          rw [nw hdel3]
          funext m
          simp only [ca]
          split
          ·rfl
          ·rename_i hm
           simp only [toH]
           cases H2.get m with
           | none=>rfl
           | some x=>cases x with
            | cells cs=>rfl
            | mark e=>simp only [bcL,hL m e hm]
         rw [e1]
         obtain ⟨F,k1,k2,k3⟩:=cJ hc ih hf' hcall
         refine Fn.of_c2 hm k1 k2 (k3 _ ?_)
         cases st with
         | none =>
          cases h
          left
          refine ⟨by simp only [toH,hst,bcL,hn],?_⟩
          rw [e2]; exact hK
         | some e1' =>
          simp only at h
          split at h
          ·cases h
          ·rename_i hnn
           cases h
           right
           refine ⟨e,(fun hh=>by rw [hh] at hnn; cases hnn),by simp only [toH,hst,bcL,hs],?_⟩
           rw [e2]; exact hK
       ·cases h
   ·cases h
def wX (code:FuncId→Option F2) (pf:FuncId→Bool) (ct:CT) (n:Nat) (f:FuncId) (args:List AV) (good:AV→Bool):Bool :=
 match g9 code (run code pf ct n) [] f args .leaf 0 with
 | some (v,H',_)=>match snapV (cA H') SF v with
  | some r=>good r
  | none=>false
 | none=>false
theorem Pure.of_runC {P:Program} {code:FuncId→Option F2} {pf:FuncId→Bool} {ct:CT} (hm:P.follows .mixedOrders=true) (hc:gm P code) (hct:CTok P ct) {n:Nat} {f:FuncId} {args:List AV} {good:AV→Bool} {r:AV} (h:wX code pf ct n f args good=true) (hg:∀ x,good x=true→x=r):Pure P f args r:=by
 unfold wX at h
 split at h
 ·rename_i v H' nx' hcall
  split at h
  ·rename_i r1 hr1
   have:=hg _ h
   subst this
   obtain ⟨F,h1,h2,h3⟩:=cJ hc (tn hm hc hct n) (L:=L0) (fr:=[]) trivial hcall
   exact Pure.of_c2 hm h1 h2 (h3 (fun x H _=>Snap H x r1) (ci bE _ hr1))
  ·cases h
 ·cases h
theorem Pure.of_run {P:Program} {code:FuncId→Option F2} {pf:FuncId→Bool} (hm:P.follows .mixedOrders=true) (hc:gm P code) {n:Nat} {f:FuncId} {args:List AV} {good:AV→Bool} {r:AV} (h:wX code pf yV n f args good=true) (hg:∀ x,good x=true→x=r):Pure P f args r :=
 Pure.of_runC hm hc u9 h hg
def isTrue:AV→Bool | .bool true=>true | _=>false
theorem rV:∀ x,isTrue x=true→x=.bool true:=by
 intro x h
 cases x <;> try (cases h; done)
 rename_i b
 cases b
 ·cases h
 ·rfl
def lookup:List (Nat × F2)→FuncId→Option F2
 | [],_=>none
 | (k,F) :: l,f=>match Nat.beq k f with
  | true=>some F
  | false=>lookup l f
theorem r5 {P:Program}:gm P (lookup []):=fun h=>by cases h
theorem an {P:Program} {k:Nat} {F:F2} {l:List (Nat × F2)} (h:Is P k F) (hs:gm P (lookup l)):gm P (lookup ((k,F) :: l)):=fun {f F'} hf=>by
 simp only [lookup] at hf
 split at hf
 ·rename_i e
  cases hf
  rw [Nat.eq_of_beq_eq_true e] at h
  exact h
 ·exact hs hf
end Go.Abs
namespace Go.Abs
open Go Go.RowKit
def mw (W:World):Nat→Prop:=fun b=>b < W.heap.size
theorem so {W:World} {a:Addr} {v:Value} (h:W.cell? a=some v):mw W a.block∧a.spot=none:=by
 unfold World.cell? at h
 unfold mw
 cases hb:W.heap[a.block]? with
 | none=>simp [hb] at h
 | some o =>
  refine ⟨(Array.getElem?_eq_some_iff.1 hb).1,?_⟩
  cases hs:a.spot with
  | none=>rfl
  | some s=>cases o <;> simp [hb,hs] at h
section
variable {H:Type} {enc:TypeId × Value→H} {P:Program} {W:World}
def cC (enc:TypeId × Value→H) (P:Program) (W:World) (t:TypeId) {α:Type} (f:α→AV) (good:α→Prop):Prop :=
 ∀ (n:Nat) (cs:List Value) (x:DataW H × List MemPlace),DataW.trod enc P W 0 (fun _=>true) true n t cs=some x→(∀ k ∈ x.1.weights P t,k ≤ reachBytes)→∃ a:α,good a∧bK (E0 (mw W)) W (f a).cells cs
theorem cC.mono {t:TypeId} {α:Type} {f:α→AV} {good good':α→Prop} (h:cC enc P W t f good) (hg:∀ a,good a→good' a):cC enc P W t f good' :=
 fun n cs x hx hw=>let ⟨a,h1,h2⟩:=h n cs x hx hw; ⟨a,hg a h1,h2⟩
theorem kO {E:Env} {w:World} {x:AV} {y:Value} (h:Rel E w x y):bK E w [x] [y]:=⟨rfl,fun i a b ha hb=>by
 cases i with
 | zero=>simp at ha hb; subst ha hb; exact h
 | succ i=>simp at ha⟩
theorem bK.app {E:Env} {w:World} {xs xs':List AV} {ys ys':List Value} (h:bK E w xs ys) (h':bK E w xs' ys'):bK E w (xs ++ xs') (ys ++ ys'):=by
 have hl:xs.length=ys.length:=h.1.symm
 refine ⟨by simp [h.1,h'.1],fun i a b ha hb=>?_⟩
 by_cases hi:i < xs.length
 ·rw [List.getElem?_append_left hi] at ha
  rw [List.getElem?_append_left (by omega)] at hb
  exact h.2 i a b ha hb
 ·rw [List.getElem?_append_right (by omega)] at ha
  rw [List.getElem?_append_right (by omega)] at hb
  rw [hl] at ha
  exact h'.2 _ a b ha hb
theorem sI {t:TypeId} {k:IntKind} (ht:P.underlying t=some (.int k)):cC enc P W t (AV.int k) (fun n=>(Lit.int k n).wf=true):=fun n cs x hx _=>by
 obtain ⟨a,rfl,rfl,hw⟩:=DataW.trod_int ht hx
 exact ⟨a,hw,kO (.int _ _)⟩
theorem l9 {e:TypeId} {l:List (DataW H)} {d:DataW H} (h:d ∈ l) {k:Nat} (hk:k ∈ d.weights P e):k ∈ DataW.weightsAll P e l:=by
 induction l with
 | nil=>cases h
 | cons a l ih =>
  unfold DataW.weightsAll
  rcases List.mem_cons.1 h with rfl | h
  ·exact List.mem_append_left _ hk
  ·exact List.mem_append_right _ (ih h)
theorem o5 {α:Type} {len:Nat} {Q:Nat→α→Prop} (h:∀ i,i < len→∃ a,Q i a):∃ l:List α,l.length=len∧∀ i a,l[i]?=some a→Q i a:=by
 induction len with
 | zero=>exact ⟨[],rfl,fun i a h=>by simp at h⟩
 | succ n ih =>
  obtain ⟨l,h1,h2⟩:=ih (fun i hi=>h i (by omega))
  obtain ⟨a,ha⟩:=h n (by omega)
  refine ⟨l ++ [a],by simp [h1],fun i b hb=>?_⟩
  by_cases hi:i < l.length
  ·rw [List.getElem?_append_left hi] at hb; exact h2 i b hb
  ·rw [List.getElem?_append_right (by omega)] at hb
   have:i - l.length=0:=by
    by_cases h0:i - l.length=0
    ·exact h0
    ·rw [List.getElem?_eq_none (by simp; omega)] at hb; cases hb
   rw [this] at hb; simp at hb; subst hb
   have:i=n:=by omega
   subst this; exact ha
theorem jZ {t e:TypeId} {sz by_:Nat} {α:Type} {f:α→AV} {good:α→Prop} (ht:P.underlying t=some (.slice e)) (hsz:P.cellsOf e=sz) (hby:P.bytesOf e=by_) (hpos:0 < sz) (hc:∀ a,(f a).cells.length=sz)
    (he:cC enc P W e f good):cC enc P W t (gS sz f) (fun l=>(∀ a ∈ l,good a)∧l.length ≤ 9223372036854775807∧l.length * by_ ≤ 140737488351232):=fun n cs x hx hw=>by
 rcases Go.Deep.open_slice ht hx with ⟨rfl,rfl⟩ | ⟨a,len,cap,m,n',D,Pl,rfl,hb,hlc,hcm,hm,hxe,hel⟩
 ·exact ⟨[],⟨fun _ h=>(by cases h),by simp,by simp⟩,kO (.slnil _)⟩
 simp only [if_true] at hm
 subst hxe
 subst hm
 have hw':∀ k ∈ ((DataW.slice (H:=H) ((List.range len).map D) ((List.range (m - len)).map fun j=>D (len + j))).weights P t),k ≤ reachBytes:=hw
 simp only [DataW.weights,ht] at hw'
 have hlen:(((List.range len).map D).length + ((List.range (m - len)).map fun j=>D (len + j)).length) * P.bytesOf e ≤ reachBytes:=hw' _ (List.mem_cons_self ..)
 have hbd:len * by_ ≤ 140737488351232:=by
  rw [hby] at hlen
  simp only [List.length_map,List.length_range] at hlen
  have h1:len * by_ ≤ (len + (m - len)) * by_:=Nat.mul_le_mul_right _ (by omega)
  have h2:reachBytes=140737488351232:=rfl
  omega
 have hlm:len ≤ 9223372036854775807:=Nat.le_trans hlc hcm
 have key:∀ i,i < len→∃ a':α,good a'∧∃ cs',W.cells? 0 (a.add (i * sz)) sz=some cs'∧bK (E0 (mw W)) W (f a').cells cs':=fun i hi=>by
  obtain ⟨cs',h1,h2⟩:=hel i (by omega)
  rw [hsz] at h1
  obtain ⟨a',g1,g2⟩:=he n' cs' _ h2 (fun k hk=>hw' k (List.mem_cons_of_mem _ (List.mem_append_left _ (l9 (List.mem_map.2 ⟨i,List.mem_range.2 hi,rfl⟩) hk))))
  exact ⟨a',g1,cs',h1,g2⟩
 obtain ⟨l,hl,hq⟩:=o5 key
 refine ⟨l,⟨fun x hx=>?_,by omega,by rw [hl]; exact hbd⟩,kO ?_⟩
 ·obtain ⟨i,hi⟩:=List.getElem?_of_mem hx
  exact (hq i x hi).1
 by_cases h0:len=0
 ·subst h0
  have:l=[]:=List.length_eq_zero_iff.1 hl
  subst this
  exact .slempty _ _ _
 have hcell:∀ i j,i < len→j < sz→∃ v,W.cell? ((a.add (i * sz)).add j)=some v:=fun i j hi hj=>by
  obtain ⟨a',_,cs',h1,h2⟩:=key i hi
  unfold World.cells? at h1
  rw [if_pos (Nat.zero_le _)] at h1
  have h3:=mapM_some_get h1 j j (by simp [hj])
  have h4:j < cs'.length:=by
   have:=mapM_some_length h1
   simp at this; omega
  exact ⟨cs'[j],by rw [h3]; simp [h4]⟩
 obtain ⟨v0,hv0⟩:=hcell 0 0 (by omega) hpos
 have ho:=so hv0
 simp only [Nat.zero_mul,Addr.add,if_true] at ho
 obtain ⟨blk,off,sp⟩:=a
 obtain ⟨ho,hsp⟩:=ho
 simp only at hsp ho
 subst hsp
 have hadd:∀ i j,((⟨blk,off,none⟩:Addr).add (i * sz)).add j=⟨blk,off + (i * sz + j),none⟩:=fun i j=>by
  rw [bq,bq,Nat.add_assoc]
 have hcell':∀ k,k < len * sz→∃ v,W.cell? ⟨blk,off + k,none⟩=some v:=fun k hk=>by
  have h1:k / sz < len:=Nat.div_lt_of_lt_mul (by rw [Nat.mul_comm]; exact hk)
  have h2:k % sz < sz:=Nat.mod_lt _ hpos
  obtain ⟨v,hv⟩:=hcell (k / sz) (k % sz) h1 h2
  rw [hadd,Nat.div_add_mod'] at hv
  exact ⟨v,hv⟩
 have hlen2:(l.map f).length=len:=by simp [hl]
 have:=Rel.sl (E:=E0 (mw W)) (w:=W) sz (l.map f) blk off m (fun k=>(W.cell? ⟨blk,off + k,none⟩).getD Go.undef) ho (by rw [hlen2]; exact hlc)
  (fun x hx=>by obtain ⟨b,_,rfl⟩:=List.mem_map.1 hx; exact hc b)
  (fun k hk=>by
   rw [hlen2] at hk
   obtain ⟨v,hv⟩:=hcell' k hk
   simp only [hv,Option.getD_some])
  (fun i j x y hx hy=>by
   rw [List.getElem?_map,Option.map_eq_some_iff] at hx
   obtain ⟨a',ha',rfl⟩:=hx
   obtain ⟨_,cs',h1,h2⟩:=hq i a' ha'
   have hj:j < sz:=by
    have:=(List.getElem?_eq_some_iff.1 hy).1
    rwa [hc] at this
   have hi:i < len:=by
    have:=(List.getElem?_eq_some_iff.1 ha').1
    omega
   unfold World.cells? at h1
   rw [if_pos (Nat.zero_le _)] at h1
   have h3:=mapM_some_get h1 j j (by simp [hj])
   have h4:j < cs'.length:=by
    have:=mapM_some_length h1
    simp at this; omega
   rw [hadd] at h3
   have h5:cs'[j]?=some cs'[j]:=by simp [h4]
   rw [h5] at h3
   simp only [h3,Option.getD_some]
   exact h2.2 j y _ hy h5)
 rw [hlen2] at this
 exact this
def nN (enc:TypeId × Value→H) (P:Program) (W:World) (fs:List Field) (off:Nat) {α:Type} (g:α→List AV) (good:α→Prop):Prop :=
 ∀ (n tot:Nat) (cs:List Value) (ys:List (DataW H × List MemPlace)),ys.length=fs.length→(∀ (i:Nat) (f:Field),fs[i]?=some f→DataW.trod enc P W 0 (fun _=>true) true n f.type ((cs.drop f.offset).take (P.cellsOf f.type))=ys[i]?) →
  (∀ k ∈ DataW.weightsEach P (fs.map fun f:Field=>f.type) (ys.map (·.1)),k ≤ reachBytes)→cs.length=tot→tot=off + (fs.map fun f:Field=>P.cellsOf f.type).sum→∃ a:α,good a∧bK (E0 (mw W)) W (g a) (cs.drop off)
theorem ip {off:Nat}:nN enc P W [] off (fun _:Unit=>[]) (fun _=>True):=fun n tot cs ys _ _ _ h1 h2=>by
 refine ⟨(),trivial,?_⟩
 rw [List.drop_eq_nil_of_le (by simp at h2; omega)]
 exact ⟨rfl,fun i a b h=>by simp at h⟩
theorem dZ {fd:Field} {fs:List Field} {off off':Nat} {α β:Type} {f:α→AV} {g:β→List AV} {good:α→Prop} {good':β→Prop} (ho:fd.offset=off) (ho':off + P.cellsOf fd.type=off')
    (h:cC enc P W fd.type f good) (h':nN enc P W fs off' g good'):nN enc P W (fd :: fs) off (fun a:α × β=>(f a.1).cells ++ g a.2) (fun a=>good a.1∧good' a.2):=fun n tot cs ys hl hy hw h1 h2=>by
 obtain ⟨y,ys,rfl⟩:∃ y ys',ys=y :: ys':=by
  cases ys with
  | nil=>simp at hl
  | cons y ys=>exact ⟨y,ys,rfl⟩
 have hy0:=hy 0 fd rfl
 simp only [List.getElem?_cons_zero] at hy0
 rw [ho] at hy0
 simp only [List.map_cons,DataW.weightsEach] at hw
 obtain ⟨a,g1,g2⟩:=h n _ y hy0 (fun k hk=>hw k (List.mem_append_left _ hk))
 simp only [List.map_cons,List.sum_cons] at h2
 obtain ⟨b,g3,g4⟩:=h' n tot cs ys (by simpa using hl) (fun i f hf=>by
  have:=hy (i + 1) f (by simpa using hf)
  simpa using this) (fun k hk=>hw k (List.mem_append_right _ hk)) h1 (by omega)
 refine ⟨(a,b),⟨g1,g3⟩,?_⟩
 have e:cs.drop off=(cs.drop off).take (P.cellsOf fd.type) ++ cs.drop off':=by
  rw [← ho',← List.drop_drop,List.take_append_drop]
 rw [e]
 exact bK.app g2 g4
theorem fB {t:TypeId} {fs:Array Field} {α:Type} {g:α→List AV} {good:α→Prop} (ht:P.underlying t=some (.struct fs)) (hsum:P.cellsOf t=(fs.toList.map fun f:Field=>P.cellsOf f.type).sum)
    (h:nN enc P W fs.toList 0 g good):cC enc P W t (fun a=>.agg (g a)) good:=fun n cs x hx hw=>by
 obtain ⟨ys,n',rfl,rfl,hl,hs,hy⟩:=DataW.trod_struct ht hx
 obtain ⟨a,g1,g2⟩:=h n' _ cs ys (by rw [hs]; simp) (fun i f hf=>hy i f (by simpa using hf)) (fun k hk=>hw k (by
  simp only [DataW.weights,ht]; exact hk)) hl (by rw [Nat.zero_add,hsum])
 exact ⟨a,g1,by rw [List.drop_zero] at g2; exact g2⟩
theorem cC.map {t:TypeId} {α β:Type} {f:α→AV} {good:α→Prop} {f':β→AV} {good':β→Prop} (h:cC enc P W t f good) (φ:α→β) (hg:∀ a,good a→good' (φ a)) (hf:∀ a,good a→(f' (φ a)).cells=(f a).cells):cC enc P W t f' good':=fun n cs x hx hw=>by
 obtain ⟨a,h1,h2⟩:=h n cs x hx hw
 exact ⟨φ a,hg a h1,by rw [hf a h1]; exact h2⟩
theorem cC.at {t u:TypeId} {α:Type} {f:α→AV} {good:α→Prop} (e:t=u) (h:cC enc P W u f good):cC enc P W t f good:=e ▸ h
theorem cC.argA {t:TypeId} {α:Type} {f:α→AV} {good:α→Prop} (h:cC enc P W t f good) {r:Reach} {base:Nat} {v:Value} {d:DataW H} {ps:List MemPlace} (ht:iU P t=true) (hf:∀ a,∃ cs,f a=.agg cs)
    (hval:Value.okWide P W r base t v) (hd:DataW.Trod enc P W 0 (fun _=>true) true t v d ps) (hw:∀ k ∈ d.weights P t,k ≤ reachBytes):∃ a,good a∧Rel (E0 (mw W)) W (f a) v:=by
 obtain ⟨n,hn⟩:=hd
 obtain ⟨a,h1,h2⟩:=h n _ _ hn hw
 refine ⟨a,h1,?_⟩
 obtain ⟨cs,hcs,_⟩:∃ cs,v=.agg cs∧True:=by
  unfold Value.okWide at hval
  unfold iU at ht
  split at hval
  ·obtain ⟨cs,h,_⟩:=hval; exact ⟨cs,h,trivial⟩
  ·obtain ⟨cs,h,_⟩:=hval; exact ⟨cs,h,trivial⟩
  ·rename_i k1 k2
   revert ht
   cases hu:P.underlying t with
   | none=>simp
   | some u =>
    cases u with
    | struct fs=>exact absurd hu (k1 fs)
    | array m e=>exact absurd hu (k2 m e)
    | _=>simp
 subst hcs
 obtain ⟨xs,hx⟩:=hf a
 rw [hx] at h2 ⊢
 exact .agg xs cs.toList h2.1 h2.2
theorem cC.arg1 {t:TypeId} {α:Type} {f:α→AV} {good:α→Prop} (h:cC enc P W t f good) {v:Value} {d:DataW H} {ps:List MemPlace} (hf:∀ a,(f a).cells=[f a]) (hv:v.cells=#[v])
    (hd:DataW.Trod enc P W 0 (fun _=>true) true t v d ps) (hw:∀ k ∈ d.weights P t,k ≤ reachBytes):∃ a,good a∧Rel (E0 (mw W)) W (f a) v:=by
 obtain ⟨n,hn⟩:=hd
 obtain ⟨a,h1,h2⟩:=h n _ _ hn hw
 rw [hf,hv] at h2
 exact ⟨a,h1,h2.2 0 _ _ rfl rfl⟩
theorem sr {t:TypeId} {r:Reach} {base:Nat} {v:Value} (ht:iU P t=false) (hval:Value.okWide P W r base t v):v.cells=#[v]:=by
 cases v <;> try rfl
 rename_i cs
 exfalso
 unfold Value.okWide at hval
 unfold iU at ht
 cases hu:P.underlying t with
 | none=>simp only [hu,Cell.okWide,Cell.ok] at hval
 | some u =>
  rw [hu] at ht
  cases u <;> simp only [hu,Cell.okWide,Cell.ok] at hval <;> simp at ht
theorem hO (hl:laidOutB P=true) {W':World} (hb:Below W.heap.size W W') {sp:Nat→Bool}:∀ {ts:List TypeId} {vs:List Value} {ds:List (DataW H)} {ps:List MemPlace},(∀ t ∈ ts,P.readableRec t=true∧t < P.types.size) →
    DataW.TrodAll enc P W 0 (fun _=>true) true ts vs ds ps→(∀ p ∈ ps,p.block < W.heap.size)→(∀ p ∈ ps,sp p.block=true)→DataW.TrodAll enc P W' 0 sp true ts vs ds ps
 | [],[],[],ps,_,h,_,_=>h
 | t :: ts,v :: vs,d :: ds,ps,hr,⟨p,q,h1,h2,e⟩,hlt,hsp=>by
  subst e
  exact ⟨p,q,WideElems.Trod_stays hl (hr t (List.mem_cons_self ..)).1 (hr t (List.mem_cons_self ..)).2 h1 (fun x hx=>hb.same (hlt x (List.mem_append_left _ hx))) (fun x hx=>hsp x (List.mem_append_left _ hx)),
   hO hl hb (fun t ht=>hr t (List.mem_cons_of_mem _ ht)) h2 (fun x hx=>hlt x (List.mem_append_right _ hx)) (fun x hx=>hsp x (List.mem_append_right _ hx)),rfl⟩
 | [],_ :: _,_,_,_,h,_,_=>h.elim
 | [],[],_ :: _,_,_,h,_,_=>h.elim
 | _ :: _,[],_,_,_,h,_,_=>h.elim
 | _ :: _,_ :: _,[],_,_,h,_,_=>h.elim
theorem gF:∀ {ts:List TypeId} {ds:List (DataW H)} {i:Nat} {t:TypeId} {d:DataW H},ts[i]?=some t→ds[i]?=some d→∀ k ∈ d.weights P t,k ∈ DataW.weightsEach P ts ds
 | t :: ts,d :: ds,0,_,_,h1,h2,k,hk=>by
  simp at h1 h2; subst h1 h2
  unfold DataW.weightsEach
  exact List.mem_append_left _ hk
 | t :: ts,d :: ds,i + 1,_,_,h1,h2,k,hk=>by
  unfold DataW.weightsEach
  exact List.mem_append_right _ (gF (ts:=ts) (ds:=ds) (by simpa using h1) (by simpa using h2) k hk)
 | [],_,i,_,_,h1,_,_,_=>by simp at h1
 | _ :: _,[],i,_,_,_,h2,_,_=>by simp at h2
end
end Go.Abs