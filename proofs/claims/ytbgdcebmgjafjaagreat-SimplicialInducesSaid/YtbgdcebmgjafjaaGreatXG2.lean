/- Texts of this claim, one after the other: AbsB5, AbsBM, AbsBN, AbsB5z, AbsB6, AbsB7, AbsB8, AbsB9, AbsBX, AbsC1. -/
import Derived.Test.YtbgdcebmgjafjaaGreatXG1
import Derived.LoopNIn
import Derived.TacticsIn
import Derived.RangeFuncLeaves
import Derived.RangeFuncRecord
import Derived.RangeFuncNested
import Derived.Laws.IdiomStrings
import Derived.Laws.BytesArg

set_option linter.unusedSimpArgs false
set_option linter.unusedVariables false
namespace Go.Abs
open Go.RowKit
abbrev Tm:=Nat→AV
abbrev Hp:=Nat→Option (List AV)
abbrev SP:=Tm→Hp→Nat→Prop
inductive AEx where
 | normal | exit (id:Nat) | ret
def aE {α:Type} (x:Option α) (K:α→Prop):Prop:=match x with | some a=>K a | none=>False
@[congr] theorem obind_congr {α:Type} {x y:Option α} {K:α→Prop} (h:x=y):aE x K=aE y K:=by rw [h]
def aS (x:Option Bool) (A B:Prop):Prop:=match x with | some true=>A | some false=>B | none=>False
@[congr] theorem gbind_congr {x y:Option Bool} {A B:Prop} (h:x=y):aS x A B=aS y A B:=by rw [h]
def aR (x:Bool) (A:Prop):Prop:=x=true∧A
@[congr] theorem bbind_congr {x y:Bool} {A:Prop} (h:x=y):aR x A=aR y A:=by rw [h]
def bf (v:AV) (A B:Prop):Prop:=match v with | .bool b=>(b=true→A)∧(b=false→B) | _=>False
@[congr] theorem acond_congr {v v':AV} {A B:Prop} (h:v=v'):bf v A B=bf v' A B:=by rw [h]
def aY (P:Program) (g:FuncId) (args:List AV) (H:Hp) (K:AV→Prop):Prop:=∃ r,ib P g args H r∧K r
@[congr] theorem PCall_congr {P:Program} {g:FuncId} {args args':List AV} {H H':Hp} {K:AV→Prop} (h:args=args') (h2:H=H'):aY P g args H K=aY P g args' H' K:=by rw [h,h2]
theorem aY.of_pure {P:Program} {f:FuncId} {args args':List AV} {r:AV} {H:Hp} {K:AV→Prop} (hp:Pure P f args' r) (hs:aA H args args' r) (hR:K r):aY P f args H K:=⟨_,hp.callOk hs,hR⟩
theorem aY.of_callOk {P:Program} {f:FuncId} {args:List AV} {r:AV} {H:Hp} {K:AV→Prop} (hp:ib P f args H r) (hR:K r):aY P f args H K:=⟨_,hp,hR⟩
def jy (v:AV):Option (FuncId × List AV):=match v with | .func g caps=>some (g,caps) | _=>none
def gJ:Op→Option (Operand × Array Operand)
 | .call { callee:=.value f,args:=args,argTypes:=_ }=>some (f,args)
 | _=>none
theorem iq {op:Op} {f:Operand} {args:Array Operand} (h:gJ op=some (f,args)):∃ ts,op=.call { callee:=.value f,args:=args,argTypes:=ts }:=by
 unfold gJ at h
 split at h
 ·cases h; exact ⟨_,rfl⟩
 ·cases h
inductive OpC where
 | val | eff | call | other
def opc:Op→OpC
 | .call { callee:=.value _,.. }=>.call
 | op=>match opk op with
  | .pure | .touch=>.val
  | .alloc | .write=>.eff
  | .other=>.other
inductive DM where
 | text | draw | fresh (m:Nat)
def DM.fr:DM→Option Nat
 | .fresh m=>some m
 | _=>none
def DM.isText:DM→Bool
 | .text=>true
 | _=>false
def mg (dm:DM) (T:Tm) (op:Op):Bool:=match dm with
 | .fresh m=>ll T op m
 | _=>true
def fO (P:Program) (dm:DM) (op:Op) (T:Tm) (H:Hp) (nx:Nat) (K:AV→Hp→Nat→Prop):Prop :=
 match opc op with
 | .val=>aR (mg dm T op) (aE (bG P T H op) fun r=>K r H nx)
 | .eff=>aR (mg dm T op) (aE (dw P T H nx op) fun x=>K x.1 x.2.1 x.2.2)
 | .call=>aE (gJ op) fun x=>aE (jy (ev T x.1)) fun y=>match dm.isText with
  | false=>aY P y.1 (x.2.toList.map (ev T) ++ y.2) H fun r=>K r H nx
  | true=>Fn P y.1 (x.2.toList.map (ev T) ++ y.2) H nx K
 | .other=>False
def cm (P:Program) (op:Op) (T:Tm) (H:Hp) (nx:Nat) (K:AV→Hp→Nat→Prop):Prop :=
 (∀ c,op ≠ .defer c)∧∀ (rr:Option Nat) (E:Env) (w:World) (a:Act) (o:Oper) (next:Act→World→Prop) (Q:Exit→Act→World→Prop),o.op=op→EnvOk E w→HeapOk E H nx w→bA E nx→(∀ x ∈ op.operands,Rel E w (ev T x) (a.eval x)) →
  (∀ (E':Env) (H':Hp) (nx':Nat) (r:AV) (v:Value) (w':World),Ext E w E' w'→EnvOk E' w'→HeapOk E' H' nx' w'→bA E' nx'→Rel E' w' r v→K r H' nx'→next (a.put o.dst v) w') →
  o.uponIn (FW rr) 0 P a next Q ((execOp a.eval o).run P w)
def lv (P:Program) (dm:DM) (op:Op) (T:Tm) (H:Hp) (nx:Nat) (K:AV→Hp→Nat→Prop):Prop :=
 fO P dm op T H nx K ∨ (dm.isText=true∧cm P op T H nx K)
def aop (P:Program) (n:Nat) (dm:DM) (dsts:List (Option Nat)) (o:Oper) (T:Tm) (H:Hp) (nx:Nat) (K:SP):Prop :=
 aR (dok n o.dst) (aS (gval T dsts o.guard) (lv P dm o.op T H nx fun r H' nx'=>K (aF T o.dst r) H' nx') (K (aF T o.dst (.tup [])) H nx))
def jY (P:Program) (n:Nat) (dm:DM) (dsts:List (Option Nat)):List Oper→Tm→Hp→Nat→SP→Prop
 | [],T,H,nx,K=>K T H nx
 | o :: l,T,H,nx,K=>aop P n dm dsts o T H nx fun T H nx=>jY P n dm dsts l T H nx K
theorem rQ {P:Program} {op:Op} {T:Tm} {H:Hp} {nx:Nat} {K K':AV→Hp→Nat→Prop} (h:cm P op T H nx K) (hK:∀ r H nx,K r H nx→K' r H nx):cm P op T H nx K' :=
 ⟨h.1,fun rr E w a o next Q ho hE hh hf ht hn=>h.2 rr E w a o next Q ho hE hh hf ht (fun E' H' nx' r v w' h1 h2 h3 h4 h5 h6=>hn E' H' nx' r v w' h1 h2 h3 h4 h5 (hK _ _ _ h6))⟩
theorem rH {P:Program} {dm:DM} {op:Op} {T:Tm} {H:Hp} {nx:Nat} {K K':AV→Hp→Nat→Prop} (h:fO P dm op T H nx K) (hK:∀ r H nx,K r H nx→K' r H nx):fO P dm op T H nx K':=by
 have ob:∀ {α:Type} {x:Option α} {A B:α→Prop},(∀ a,A a→B a)→aE x A→aE x B:=by
  intro α x A B hab h; cases x with
  | none=>exact h
  | some a=>exact hab a h
 unfold fO at h ⊢
 split at h
 ·exact ⟨h.1,ob (fun a=>hK _ _ _) h.2⟩
 ·exact ⟨h.1,ob (fun a=>hK _ _ _) h.2⟩
 ·refine ob (fun a=>ob (fun b=>?_)) h
  intro h
  cases hd:dm.isText with
  | false=>rw [hd] at h; obtain ⟨r,h1,h3⟩:=h; exact ⟨r,h1,hK _ _ _ h3⟩
  | true=>rw [hd] at h; exact Fn.mono h hK
 ·exact h
theorem eW {P:Program} {dm:DM} {op:Op} {T:Tm} {H:Hp} {nx:Nat} {K K':AV→Hp→Nat→Prop} (h:lv P dm op T H nx K) (hK:∀ r H nx,K r H nx→K' r H nx):lv P dm op T H nx K' :=
 h.imp (fun h=>rH h hK) (fun h=>⟨h.1,rQ h.2 hK⟩)
theorem uG {P:Program} {N:Nat} {dm:DM} {dsts:List (Option Nat)} {o:Oper} {T:Tm} {H:Hp} {nx:Nat} {K K':SP} (h:aop P N dm dsts o T H nx K) (hK:∀ T H nx,K T H nx→K' T H nx):aop P N dm dsts o T H nx K':=by
 unfold aop at h ⊢
 refine ⟨h.1,?_⟩
 have h:=h.2
 cases hg:gval T dsts o.guard with
 | none=>rw [hg] at h; exact h.elim
 | some b =>
  rw [hg] at h
  cases b with
  | true=>exact eW (K:=fun r H' nx'=>K (aF T o.dst r) H' nx') h (fun _ _ _=>hK _ _ _)
  | false=>exact hK _ _ _ h
theorem ip {P:Program} {N:Nat} {dm:DM} {dsts:List (Option Nat)} {K K':SP} (hK:∀ T H nx,K T H nx→K' T H nx):∀ (l:List Oper) {T:Tm} {H:Hp} {nx:Nat},jY P N dm dsts l T H nx K→jY P N dm dsts l T H nx K'
 | [],_,_,_,h=>hK _ _ _ h
 | o :: l,_,_,_,h=>uG h (fun _ _ _=>ip hK l)
def yA (T T':Tm):Prop:=∀ t,T' t=T t ∨ T' t=.undef
theorem yA.refl (T:Tm):yA T T:=fun _=>.inl rfl
theorem Sim.weak {E:Env} {N:Cfg} {T T':Tm} {H:Hp} {nx:Nat} {a:Act} {w:World} (h:Sim E N ⟨T,H,nx⟩ a w) (hw:yA T T'):Sim E N ⟨T',H,nx⟩ a w :=
 ⟨h.env,h.heap,h.fresh,h.round,h.floor,h.size,fun t=>by
  show Rel E w (T' t) _
  rcases hw t with e | e
  ·rw [e]; exact h.tmps t
  ·rw [e]; exact .undef _,h.defers⟩
def GhV (Hf:Hp) (nx nx':Nat) (x x':AV):Prop:=x'=x ∨ Snap Hf x x' ∨ (x=.esl∧∃ b sz,x'=.msl b 0 sz 0 0∧nx ≤ b∧b < nx')
structure Gh (T:Tm) (H:Hp) (nx:Nat) (T':Tm) (H':Hp) (nx':Nat) (Hf:Hp):Prop where
 sub:∀ b cs,Hf b=some cs→H b=some cs
 le:nx ≤ nx'
 heap:∀ b cs',H' b=some cs'→(∃ cs,H b=some cs∧Hf b=none∧cs'.length=cs.length∧∀ (i:Nat) (x x':AV),cs[i]?=some x→cs'[i]?=some x'→GhV Hf nx nx' x x') ∨ (cs'=[]∧nx ≤ b∧b < nx')
 tmps:∀ t,T' t=.undef ∨ GhV Hf nx nx' (T t) (T' t)
theorem Gh.refl (T:Tm) (H:Hp) (nx:Nat):Gh T H nx T H nx a9 :=
 ⟨fun _ _ h=>(by cases h),Nat.le_refl _,fun b cs h=>.inl ⟨cs,h,rfl,rfl,fun i x x' h1 h2=>.inl (by rw [h1] at h2; cases h2; rfl)⟩,fun t=>.inr (.inl rfl)⟩
theorem HeapOk.blk_cells {E:Env} {H:Hp} {nx:Nat} {w:World} (h:HeapOk E H nx w) {b:Nat} {cs:List AV} {blk sz:Nat} (hb:H b=some cs) (hm:E.mu b cs.length=some (blk,sz)):∃ vals ty fz,w.heap[blk]?=some (.cells vals ty fz):=by
 rcases h.box b cs hb with hn | ⟨blk',sz',hx⟩
 ·rw [hn] at hm; cases hm
 ·rw [hx.mu] at hm; cases hm
  obtain ⟨vals,ty,fz,h1,_⟩:=hx.cells
  exact ⟨vals,ty,fz,h1⟩
theorem GhV.sound {E:Env} {H Hf:Hp} {nx nx':Nat} {w:World} (hh:HeapOk E H nx w) (hsub:∀ b cs,Hf b=some cs→H b=some cs) {x x':AV} (h:GhV Hf nx nx' x x') {v:Value} (hv:Rel E w x v) :
    Rel { E with imm:=fun b=>E.imm b ∨ dU E Hf b } w x' v:=by
 rcases h with rfl | h | ⟨rfl,b,sz,rfl,_,_⟩
 ·exact hv.mono (E':={ E with imm:=fun b=>E.imm b ∨ dU E Hf b }) (fun _ h=>.inl h) (fun _ _ _ h=>h) (fun _ _ h=>h)
 ·have hf:HeapOk E Hf nx w:=hh.fewer hsub (fun b cs hb=>hh.dom b cs (hsub b cs hb))
  exact Rel.mono (E:=E0 fun b=>E.imm b ∨ dU E Hf b) (E':={ E with imm:=fun b=>E.imm b ∨ dU E Hf b }) (fun _ h=>h) (fun _ _ _ h=>(by cases h)) (fun _ _ h=>(by cases h)) (h.sound hf hv)
 ·cases hv with
  | eslnil=>exact .msl0 _ _ _ (.inl rfl)
  | esl a=>exact .msl0 _ _ _ (.inr ⟨_,rfl⟩)
theorem Sim.ghost {E:Env} {N:Cfg} {T T':Tm} {H H' Hf:Hp} {nx nx':Nat} {a:Act} {w:World} (h:Sim E N ⟨T,H,nx⟩ a w) (hg:Gh T H nx T' H' nx' Hf):∃ E',Ext E w E' w∧Sim E' N ⟨T',H',nx'⟩ a w:=by
 have hh:=h.heap
 have hfr:=h.fresh
 simp only at hh hfr
 have hblk:∀ b,dU E Hf b→b < w.heap.size∧E.base ≤ b∧¬ E.imm b:=fun b ⟨b',cs,sz,h1,h2⟩=>hh.blk_lt (hg.sub _ _ h1) h2
 have he:Ext E w { E with imm:=fun b=>E.imm b ∨ dU E Hf b } w :=
  ⟨rfl,rfl,fun _ h=>.inl h,fun b hb=>hb.imp id (fun h=>(hblk b h).2.1),fun _ _ _ h=>h,fun _ _ h=>h,fun _ _ h=>h,fun _ h=>⟨h,rfl⟩,Nat.le_refl _,fun _ _=>rfl⟩
 have hEs:EnvOk { E with imm:=fun b=>E.imm b ∨ dU E Hf b } w:=h.env.step he (fun b hb=>hb.imp id (fun h=>(hblk b h).1)) (fun k hk=>hk.imp id (fun ⟨b',cs,sz,h1,h2⟩ b hb=>by
  obtain ⟨vals,ty,fz,hc⟩:=hh.blk_cells (hg.sub _ _ h1) h2
  obtain ⟨_,_,o,ho,hno,_⟩:=h.env.spb b k hb
  rw [hc] at ho; cases ho; cases hno)) (Below.refl _ _) (cQ.refl _) rfl rfl rfl (fun _ _ _ _=>rfl)
 refine ⟨_,he,hEs,?_,fun b hb=>hfr b (Nat.le_trans hg.le hb),fun l hl=>h.round l hl,h.floor,h.size,fun t=>?_,h.defers.ext he⟩
 ·refine ⟨fun b cs' hb=>?_,fun b cs' hb=>?_,fun b b' cs1 cs2 blk sz blk' sz' hb hb' hne m1 m2=>?_,hh.size,fun b cs' m x hb hm=>?_,fun b x hb hx=>?_,fun b hb=>?_⟩
  ·rcases hg.heap b cs' hb with ⟨cs,h1,h2,h3,h4⟩ | ⟨rfl,h1,h2⟩
   ·rw [h3]
    rcases hh.box b cs h1 with hn | ⟨blk,sz,hx⟩
    ·exact .inl hn
    ·refine .inr ⟨blk,sz,by rw [h3]; exact hx.mu,hx.base,?_,?_⟩
     ·rintro (hi | ⟨b',cs1,sz',k1,k2⟩)
      ·exact hx.imm hi
      ·have hne:b ≠ b':=fun e=>by subst e; rw [h2] at k1; cases k1
       exact hh.apart b b' cs cs1 blk sz blk sz' h1 (hg.sub _ _ k1) hne hx.mu k2 rfl
     ·obtain ⟨vals,ty,fz,k1,kz,k2,k3,k4⟩:=hx.cells
      refine ⟨vals,ty,fz,k1,kz,k2,by omega,fun i x' hx'=>?_⟩
      have hlt:i < cs.length:=by have:=(List.getElem?_eq_some_iff.1 hx').1; omega
      obtain ⟨v,e1,e2,e3⟩:=k4 i cs[i] (by simp [hlt])
      exact ⟨v,e1,e2,(h4 i _ x' (by simp [hlt]) hx').sound hh hg.sub e3⟩
   ·exact .inl ((hfr b h1).1 _)
  ·rcases hg.heap b cs' hb with ⟨cs,h1,_⟩ | ⟨_,_,h2⟩
   ·exact Nat.lt_of_lt_of_le (hh.dom _ _ h1) hg.le
   ·exact h2
  ·rcases hg.heap b cs1 hb with ⟨ds1,h1,_,h1',_⟩ | ⟨_,h1,_⟩
   ·rcases hg.heap b' cs2 hb' with ⟨ds2,h2,_,h2',_⟩ | ⟨_,h2,_⟩
    ·rw [h1'] at m1; rw [h2'] at m2
     exact hh.apart b b' ds1 ds2 blk sz blk' sz' h1 h2 hne m1 m2
    ·have:=(hfr b' h2).1 cs2.length
     rw [this] at m2; cases m2
   ·have:=(hfr b h1).1 cs1.length
    rw [this] at m1; cases m1
  ·rcases hg.heap b cs' hb with ⟨cs,h1,_,h3,_⟩ | ⟨_,h1,_⟩
   ·rw [h3]; exact hh.top b cs m x h1 hm
   ·have:=(hfr b h1).1 m
    rw [this] at hm; cases hm
  ·rcases hg.heap b [x] hb with ⟨cs,h1,_,h3,h4⟩ | ⟨hn,_⟩
   ·match cs,h3 with
    | [y],_ =>
     have e:x=y:=by
      rcases h4 0 y x rfl rfl with e | e | ⟨_,_,_,e,_⟩
      ·exact e
      ·exfalso; cases e <;> cases hx
      ·subst e; cases hx
     subst e
     obtain ⟨k,k1,k2⟩:=hh.spec b x h1 hx
     exact ⟨k,k1,k2.ext he (fun _ _ _ h _=>h)⟩
   ·cases hn
  ·rcases hg.heap b [] hb with ⟨cs,h1,_,h3,_⟩ | ⟨_,h1,_⟩
   ·exact hh.nsp b (by rw [h1,List.length_eq_zero_iff.1 h3.symm])
   ·exact (hfr b h1).2.1
 ·show Rel _ w (T' t) _
  rcases hg.tmps t with e | e
  ·rw [e]; exact .undef _
  ·exact e.sound hh hg.sub (h.tmps t)
def aN (e:AEx) (A B:Prop):Prop:=match e with | .normal=>A | _=>B
@[congr] theorem athen_congr {e e':AEx} {A B:Prop} (h:e=e'):aN e A B=aN e' A B:=by rw [h]
def gX (id:Nat):AEx→AEx
 | .exit i=>if i=id then .normal else .exit i
 | e=>e
abbrev CP:=AEx→SP
def kG (body:Tm→Hp→Nat→CP→Prop) (K:CP):Nat→Tm→Hp→Nat→Prop
 | 0,_,_,_=>False
 | n + 1,T,H,nx=>∃ T' H' nx' Hf,Gh T H nx T' H' nx' Hf∧body T' H' nx' fun e T H nx=>aN e (kG body K n T H nx) (K e T H nx)
def bc (body:Tm→Hp→Nat→CP→Prop) (T:Tm) (H:Hp) (nx:Nat) (K:CP):Prop:=∃ n,kG body K n T H nx
def AEx.cv:AEx→Exit
 | .normal=>.normal
 | .exit i=>.exit i
 | .ret=>.ret
def fg (P:Program) (N:Cfg) (E:Env) (w:World) (K:CP):Exit→Act→World→Prop:=fun e a' w' =>
 ∃ x E' T H nx,e=AEx.cv x∧Ext E w E' w'∧Sim E' N ⟨T,H,nx⟩ a' w'∧K x T H nx
theorem fg.trans {P:Program} {N:Cfg} {E E':Env} {w w':World} {K:CP} (he:Ext E w E' w') {e:Exit} {a:Act} {w'':World} (h:fg P N E' w' K e a w''):fg P N E w K e a w'':=by
 obtain ⟨x,E'',T,H,nx,h1,h2,h3,h4⟩:=h
 exact ⟨x,E'',T,H,nx,h1,he.trans h2,h3,h4⟩
theorem fg.mono {P:Program} {N:Cfg} {E:Env} {w:World} {K K':CP} (hK:∀ e T H nx,K e T H nx→K' e T H nx) {e:Exit} {a:Act} {w':World} (h:fg P N E w K e a w'):fg P N E w K' e a w':=by
 obtain ⟨x,E',T,H,nx,h1,h2,h3,h4⟩:=h
 exact ⟨x,E',T,H,nx,h1,h2,h3,hK _ _ _ _ h4⟩
def RF (P:Program) (n:Nat) (c:Code) (T:Tm) (H:Hp) (nx:Nat) (K:CP):Prop :=
 ∀ (N:Cfg) (E:Env) (a:Act) (w:World),N.n=n→Sim E N ⟨T,H,nx⟩ a w→c.wpIn (FW N.rd) 0 P (fg P N E w K) a w
theorem RF.mono {P:Program} {n:Nat} {c:Code} {T:Tm} {H:Hp} {nx:Nat} {K K':CP} (h:RF P n c T H nx K) (hK:∀ e T H nx,K e T H nx→K' e T H nx):RF P n c T H nx K' :=
 fun N E a w hn hS=>wpIn_mono (h N E a w hn hS) (fun _ _ _=>fg.mono hK)
theorem Sim.put {E E':Env} {N:Cfg} {T:Tm} {H H':Hp} {nx nx':Nat} {a:Act} {w w':World} (h:Sim E N ⟨T,H,nx⟩ a w) (he:Ext E w E' w') (hE:EnvOk E' w') (hH:HeapOk E' H' nx' w') (hf:bA E' nx')
    {d:Option Nat} (hd:dok N.n d=true) {r:AV} {v:Value} (hr:Rel E' w' r v):Sim E' N ⟨aF T d r,H',nx'⟩ (a.put d v) w':=by
 refine ⟨hE,hH,hf,fun l hl=>let ⟨b,x,h1,h2⟩:=h.round l hl; ⟨b,x,he.lp _ _ h1,he.sp _ _ h2⟩,Nat.le_trans h.floor he.size,?_,fun t=>?_,?_⟩
 ·cases d with
  | none=>exact h.size
  | some d=>simp [Act.put,h.size]
 ·cases d with
  | none=>exact (h.tmps t).ext he
  | some d =>
   simp only [dok,decide_eq_true_eq] at hd
   simp only [aF,upd,Act.put]
   by_cases hdt:t=d
   ·subst hdt
    rw [if_pos rfl]
    have:t < a.tmps.size:=by rw [h.size]; exact hd
    simp [this]; exact hr
   ·rw [if_neg hdt]
    have:=(h.tmps t).ext he
    have e:(a.tmps.setIfInBounds d v).getD t Go.undef=a.tmps.getD t Go.undef:=by
     simp only [Array.getD_eq_getD_getElem?]
     rw [Array.getElem?_setIfInBounds_ne (Ne.symm hdt)]
    rw [e]; exact this
 ·have:(a.put d v).defers=a.defers:=by cases d <;> rfl
  rw [this]; exact h.defers.ext he
theorem kD {P:Program} {N:Cfg} {rr:Option Nat} {ops:Array Oper} {Q:Exit→Act→World→Prop} {next:Act→World→Prop} {o:Oper} {E:Env} {T:Tm} {H:Hp} {nx:Nat} {a:Act} {w:World} {K:SP} (hS:Sim E N ⟨T,H,nx⟩ a w)
    (h:aop P N.n .text (ops.toList.map (·.dst)) o T H nx K) (hK:∀ E' T' H' nx' a' w',Ext E w E' w'→Sim E' N ⟨T',H',nx'⟩ a' w'→K T' H' nx'→next a' w') :
    if Region.wanted o (yielded ops a.tmps) then o.wpIn (FW rr) 0 P a w next Q else (∀ f,o.about P w a.eval=some f→(FW rr).fn f)∧next (a.put o.dst Go.undef) w:=by
 obtain ⟨hd,h⟩:=h
 have hfin:∀ E' H' nx' r v w',Ext E w E' w'→EnvOk E' w'→HeapOk E' H' nx' w'→bA E' nx'→Rel E' w' r v→K (aF T o.dst r) H' nx'→next (a.put o.dst v) w' :=
  fun E' H' nx' r v w' he hE hH hf hr hk=>hK E' _ _ _ _ _ he (hS.put he hE hH hf hd hr) hk
 cases hg:gval T (ops.toList.map (·.dst)) o.guard with
 | none=>rw [hg] at h; exact h.elim
 | some b =>
  have hw:=mi (E:=E) (w:=w) (a:=a) (o:=o) (fun t _=>hS.tmps t) hg
  rw [hg] at h
  rw [Array.toArray_toList] at hw
  rw [hw]
  cases b with
  | false =>
   simp only [Bool.false_eq_true,if_false]
   exact ⟨fun _ _=>trivial,hfin E H nx (.tup []) Go.undef w (Ext.refl _ _) hS.env hS.heap hS.fresh (d9 _ _) h⟩
  | true =>
   simp only [if_true]
   refine ⟨fun _ _=>trivial,?_⟩
   have h:lv P .text o.op T H nx fun r H' nx'=>K (aF T o.dst r) H' nx':=h
   rcases h with h | h
   rotate_left
   ·rw [eC h.2.1]
    exact h.2.2 rr E w a o next Q rfl hS.env hS.heap hS.fresh (fun x _=>gK hS.tmps x) (fun E' H' nx' r v w' h1 h2 h3 h4 h5 h6=>hfin E' H' nx' r v w' h1 h2 h3 h4 h5 h6)
   unfold fO at h
   split at h
   ·obtain ⟨_,h⟩:=h
    cases ha:bG P T H o.op with
    | none=>rw [ha] at h; exact h.elim
    | some r =>
     rw [ha] at h
     obtain ⟨v,h1,h2⟩:=gp hS.heap hS.tmps ha
     rw [eC (jE ha),h1,Oper.uponIn_value]
     exact hfin E H nx r v w (Ext.refl _ _) hS.env hS.heap hS.fresh h2 h
   ·obtain ⟨_,h⟩:=h
    cases ha:dw P T H nx o.op with
    | none=>rw [ha] at h; exact h.elim
    | some x =>
     obtain ⟨r,H',nx'⟩:=x
     rw [ha] at h
     obtain ⟨n,v,w',E',h1,h2,h3,h4,h5,h6,h7⟩:=mz hS.env hS.heap hS.fresh hS.tmps ha
     rw [eC (jO ha),h1]
     have:=hfin E' H' nx' r v w' h3 h4 h5 h7 h6 h
     rcases h2 with rfl | ⟨rfl,rfl⟩
     ·rw [Oper.uponIn_value]; exact this
     ·rw [Oper.uponIn_skip]; exact this
   ·cases hc:gJ o.op with
    | none=>rw [hc] at h; exact h.elim
    | some x =>
     obtain ⟨f,args⟩:=x
     rw [hc] at h
     obtain ⟨ts,ho⟩:=iq hc
     have h:aE (jy (ev T f)) fun y=>Fn P y.1 (args.toList.map (ev T) ++ y.2) H nx fun r H' nx'=>K (aF T o.dst r) H' nx':=h
     cases hf:jy (ev T f) with
     | none=>rw [hf] at h; exact h.elim
     | some y =>
      obtain ⟨g,caps⟩:=y
      rw [hf] at h
      have hev:ev T f=.func g caps:=by
       unfold jy at hf; split at hf
       ·rename_i hh; cases hf; exact hh
       ·cases hf
      have h:Fn P g (args.toList.map (ev T) ++ caps) H nx fun r H' nx'=>K (aF T o.dst r) H' nx':=h
      have hfr:=gK (E:=E) (w:=w) (a:=a) hS.tmps f
      simp only at hfr
      rw [hev] at hfr
      generalize hvf:a.eval f=vf at hfr
      cases hfr with
      | func _ _ cv hl hcr =>
      have hargs:bS E w (args.toList.map (ev T) ++ caps) (args.toList.map a.eval ++ cv):=by
       refine ⟨by simp [hl],fun j x y hx hy=>?_⟩
       rw [List.getElem?_append] at hx hy
       simp only [List.length_map] at hx hy
       split at hx
       ·rename_i hlt
        rw [if_pos hlt] at hy
        exact (gN (T:=T) hS.tmps args.toList).2 j x y hx hy
       ·rename_i hlt
        rw [if_neg hlt] at hy
        exact hcr _ _ _ hx hy
      have hcalls:=h.2 E w _ hS.env hS.heap hS.fresh hargs
      rw [eC (by rw [ho]; intro c; simp),iU ho hvf h.1,Oper.uponIn_enter]
      refine ⟨(fun h=>by cases h),?_⟩
      have harr:args.map a.eval ++ cv.toArray=(args.toList.map a.eval ++ cv).toArray:=by
       rw [eT]; simp
      rw [harr]
      refine (gq hcalls).mono ?_
      rintro e w' ⟨v,E',r,H',nx',rfl,he,hE',hH',hf',hrel,hk⟩
      exact hfin E' H' nx' r v w' he hE' hH' hf' hrel hk
   ·exact h.elim
theorem mB {P:Program} {N:Cfg} {rr:Option Nat} {ops:Array Oper} {Q:Exit→Act→World→Prop} {K:SP}:∀ (l:List Oper) {E:Env} {T:Tm} {H:Hp} {nx:Nat} {a:Act} {w:World},Sim E N ⟨T,H,nx⟩ a w →
    jY P N.n .text (ops.toList.map (·.dst)) l T H nx K→(∀ E' T' H' nx' a' w',Ext E w E' w'→Sim E' N ⟨T',H',nx'⟩ a' w'→K T' H' nx'→Q .normal a' w')→wpListIn (FW rr) 0 P ops Q l a w
 | [],E,T,H,nx,a,w,hS,h,hQ=>hQ E T H nx a w (Ext.refl _ _) hS h
 | o :: l,E,T,H,nx,a,w,hS,h,hQ=>by
  have:=kD (rr:=rr) (ops:=ops) (Q:=Q) (next:=wpListIn (FW rr) 0 P ops Q l) hS h (fun E' T' H' nx' a' w' he hS' hk =>
   mB l hS' hk (fun E'' T'' H'' nx'' a'' w'' he'=>hQ E'' T'' H'' nx'' a'' w'' (he.trans he')))
  exact this
theorem l7 {P:Program} {N:Cfg} {dm:DM} (hdm:dm.isText=false) {dsts:List (Option Nat)} {K:SP}:∀ (l:List Oper) {T:Tm} {H:Hp} {nx:Nat},jY P N.n dm dsts l T H nx K →
    ∃ (s:Nat→St) (r:Nat→AV),s 0=⟨T,H,nx⟩∧(∀ i o,l[i]?=some o→DStep P N dm.fr dsts o (s i) (r i) (s (i + 1)))∧K (s l.length).T (s l.length).H (s l.length).nx
 | [],T,H,nx,h=>⟨fun _=>⟨T,H,nx⟩,fun _=>.undef,rfl,fun i o h=>(by cases h),h⟩
 | o :: l,T,H,nx,h=>by
  have hgo:∀ (q:AV) (st':St),DStep P N dm.fr dsts o ⟨T,H,nx⟩ q st'→jY P N.n dm dsts l st'.T st'.H st'.nx K →
      ∃ (s:Nat→St) (r:Nat→AV),s 0=⟨T,H,nx⟩∧(∀ i o',(o :: l)[i]?=some o'→DStep P N dm.fr dsts o' (s i) (r i) (s (i + 1)))∧K (s (o :: l).length).T (s (o :: l).length).H (s (o :: l).length).nx:=by
   intro q st' hst hrest
   obtain ⟨s,r,h0,h1,h2⟩:=l7 hdm l hrest
   refine ⟨fun i=>match i with | 0=>⟨T,H,nx⟩ | i + 1=>s i,fun i=>match i with | 0=>q | i + 1=>r i,rfl,fun i o' ho'=>?_,h2⟩
   cases i with
   | zero =>
    simp at ho'; subst ho'
    show DStep P N dm.fr dsts o ⟨T,H,nx⟩ q (s 0)
    rw [h0]; exact hst
   | succ i=>exact h1 i o' (by simpa using ho')
  obtain ⟨hd,h⟩:=h
  cases hg:gval T dsts o.guard with
  | none=>rw [hg] at h; exact h.elim
  | some b =>
   rw [hg] at h
   cases b with
   | false=>exact hgo (.tup []) _ (.skip hg hd) h
   | true =>
    have h:lv P dm o.op T H nx fun r H' nx'=>jY P N.n dm dsts l (aF T o.dst r) H' nx' K:=h
    replace h:=h.resolve_right (fun h=>by rw [hdm] at h; cases h.1)
    unfold fO at h
    split at h
    ·obtain ⟨hk,h⟩:=h
     have hk':∀ m,dm.fr=some m→ll T o.op m=true:=by
      intro m hm
      cases dm <;> first | (cases hm; done) | (cases hm; exact hk)
     cases ha:bG P T H o.op with
     | none=>rw [ha] at h; exact h.elim
     | some r=>rw [ha] at h; exact hgo r _ (.val r hk' hg hd ha) h
    ·obtain ⟨hk,h⟩:=h
     have hk':∀ m,dm.fr=some m→ll T o.op m=true:=by
      intro m hm
      cases dm <;> first | (cases hm; done) | (cases hm; exact hk)
     cases ha:dw P T H nx o.op with
     | none=>rw [ha] at h; exact h.elim
     | some x=>obtain ⟨r,H',nx'⟩:=x; rw [ha] at h; exact hgo r _ (.eff r H' nx' hk' hg hd ha) h
    ·cases hc:gJ o.op with
     | none=>rw [hc] at h; exact h.elim
     | some x =>
      obtain ⟨f,args⟩:=x
      rw [hc,hdm] at h
      obtain ⟨ts,ho⟩:=iq hc
      have h:aE (jy (ev T f)) fun y=>aY P y.1 (args.toList.map (ev T) ++ y.2) H fun r=>jY P N.n dm dsts l (aF T o.dst r) H nx K:=h
      cases hf:jy (ev T f) with
      | none=>rw [hf] at h; exact h.elim
      | some y =>
       obtain ⟨g,caps⟩:=y
       rw [hf] at h
       have hev:ev T f=.func g caps:=by
        unfold jy at hf; split at hf
        ·rename_i hh; cases hf; exact hh
        ·cases hf
       obtain ⟨r,h1,h3⟩:=h
       exact hgo r _ (.call r f args ts g caps hg hd ho hev h1) h3
    ·exact h.elim
end Go.Abs
namespace Go.Abs
open Go.RowKit
def vM:Op→Bool
 | .move _ | .assign _=>true
 | _=>false
theorem r9 {op:Op} (h:vM op=true):opk op=.pure:=by
 cases op <;> first | (cases h; done) | rfl
structure VP (vp:Op→Bool):Prop where
 pure:∀ op,vp op=true→opk op=.pure
 mov:∀ op,vM op=true→vp op=true
def eL (vp:Op→Bool) (P:Program) (op:Op) (T:Tm) (H:Hp) (nx:Nat) (K:AV→Hp→Nat→Prop):Prop :=
 if vp op=true then aE (bG P T H op) fun r=>K r H nx else lv P .text op T H nx K
def iI (vp:Op→Bool) (P:Program) (n:Nat) (dsts:List (Option Nat)) (o:Oper) (T:Tm) (H:Hp) (nx:Nat) (K:SP):Prop :=
 aR (dok n o.dst) (aS (gval T dsts o.guard) (eL vp P o.op T H nx fun r H' nx'=>K (aF T o.dst r) H' nx') (K (aF T o.dst (.tup [])) H nx))
def gz (vp:Op→Bool) (P:Program) (n:Nat) (dsts:List (Option Nat)):List Oper→Tm→Hp→Nat→SP→Prop
 | [],T,H,nx,K=>K T H nx
 | o :: l,T,H,nx,K=>iI vp P n dsts o T H nx fun T H nx=>gz vp P n dsts l T H nx K
theorem b0 {α:Type} {x:Option α} {K:α→Prop} (h:aE x K):∃ a,x=some a∧K a:=by
 cases x with
 | none=>exact h.elim
 | some a=>exact ⟨a,rfl,h⟩
theorem qh {op:Op} (h:opk op=.pure):opc op=.val:=by
 unfold opc
 split
 ·simp [opk] at h
 ·rw [h]
theorem rA {vp:Op→Bool} (hv:VP vp) {P:Program} {op:Op} {T:Tm} {H:Hp} {nx:Nat} {K:AV→Hp→Nat→Prop} (h:eL vp P op T H nx K):lv P .text op T H nx K:=by
 unfold eL at h
 split at h
 ·rename_i hp
  left
  unfold fO
  rw [qh (hv.pure _ hp)]
  exact ⟨rfl,h⟩
 ·exact h
theorem wt {vp:Op→Bool} (hv:VP vp) {P:Program} {n:Nat} {dsts:List (Option Nat)} {o:Oper} {T:Tm} {H:Hp} {nx:Nat} {K:SP} (h:iI vp P n dsts o T H nx K):aop P n .text dsts o T H nx K:=by
 refine ⟨h.1,?_⟩
 have h:=h.2
 cases hg:gval T dsts o.guard with
 | none=>rw [hg] at h; exact h.elim
 | some b =>
  rw [hg] at h
  cases b with
  | true=>exact rA hv h
  | false=>exact h
theorem i9 {vp:Op→Bool} {P:Program} {op:Op} {T:Tm} {H:Hp} {nx:Nat} {K K':AV→Hp→Nat→Prop} (h:eL vp P op T H nx K) (hK:∀ r H nx,K r H nx→K' r H nx):eL vp P op T H nx K':=by
 unfold eL at h ⊢
 split
 ·rename_i hp
  rw [if_pos hp] at h
  obtain ⟨a,ha,hk⟩:=b0 h
  rw [ha]; exact hK _ _ _ hk
 ·rename_i hp
  rw [if_neg hp] at h
  exact eW h hK
theorem ku {vp:Op→Bool} {P:Program} {n:Nat} {dsts:List (Option Nat)} {o:Oper} {T:Tm} {H:Hp} {nx:Nat} {K K':SP} (h:iI vp P n dsts o T H nx K) (hK:∀ r H nx,K (aF T o.dst r) H nx→K' (aF T o.dst r) H nx):iI vp P n dsts o T H nx K':=by
 refine ⟨h.1,?_⟩
 have h:=h.2
 cases hg:gval T dsts o.guard with
 | none=>rw [hg] at h; exact h.elim
 | some b =>
  rw [hg] at h
  cases b with
  | true=>exact i9 (K:=fun r H' nx'=>K (aF T o.dst r) H' nx') h (fun r H nx=>hK r H nx)
  | false=>exact hK _ _ _ h
theorem np {vp:Op→Bool} {P:Program} {n:Nat} {dsts:List (Option Nat)} {K K':SP} (hK:∀ T H nx,K T H nx→K' T H nx):∀ (l:List Oper) {T:Tm} {H:Hp} {nx:Nat},gz vp P n dsts l T H nx K→gz vp P n dsts l T H nx K'
 | [],_,_,_,h=>hK _ _ _ h
 | o :: l,_,_,_,h=>ku h (fun _ _ _=>np hK l)
def fm (ops:List Oper) (o:Oper) (T T':Tm):Prop:=∀ t,t ∈ o.looksAt ops.toArray→T t=T' t
theorem fm.ev {ops:List Oper} {o:Oper} {T T':Tm} (h:fm ops o T T'):∀ x ∈ o.op.operands,ev T x=ev T' x:=by
 intro x hx
 refine qS fun t e=>?_
 subst e
 refine h t ?_
 unfold Oper.looksAt
 exact List.mem_append_left _ (List.mem_filterMap.2 ⟨.tmp t,by simpa using hx,rfl⟩)
theorem fm.gval {ops:List Oper} {o:Oper} {T T':Tm} (h:fm ops o T T'):gval T (ops.map (·.dst)) o.guard=gval T' (ops.map (·.dst)) o.guard:=by
 unfold Go.Abs.gval
 cases hg:o.guard with
 | none=>rfl
 | some p =>
  obtain ⟨j,want⟩:=p
  simp only
  cases hd:(ops.map (·.dst))[j]? with
  | none=>rfl
  | some d =>
   cases d with
   | none=>rfl
   | some d =>
    have:T d=T' d:=by
     refine h d ?_
     unfold Oper.looksAt
     refine List.mem_append_right _ ?_
     rw [hg]
     rw [List.getElem?_map] at hd
     cases ho:ops[j]? with
     | none=>rw [ho] at hd; cases hd
     | some o'=>rw [ho] at hd; simp at hd; simp [hd,ho]
    simp only [this]
theorem fm.upd {ops:List Oper} {o:Oper} {T:Tm} {d:Option Nat} {v:AV} (h:∀ t,d=some t→t ∉ o.looksAt ops.toArray):fm ops o T (aF T d v):=by
 intro t ht
 cases d with
 | none=>rfl
 | some d =>
  have:t ≠ d:=fun e=>h d rfl (by rw [← e]; exact ht)
  simp [aF,Go.Abs.upd,this]
theorem kU {P:Program} {op:Op} {T T':Tm} {H:Hp} {nx:Nat} {K:AV→Hp→Nat→Prop} (he:∀ x ∈ op.operands,ev T x=ev T' x) (h:fO P .text op T H nx K):fO P .text op T' H nx K:=by
 unfold fO at h ⊢
 generalize opc op=k at h ⊢
 cases k with
 | val =>
  have h:aR (mg .text T op) (aE (bG P T H op) fun r=>K r H nx):=h
  show aR (mg .text T' op) (aE (bG P T' H op) fun r=>K r H nx)
  rw [← ea he]; exact h
 | eff =>
  have h:aR (mg .text T op) (aE (dw P T H nx op) fun x=>K x.1 x.2.1 x.2.2):=h
  show aR (mg .text T' op) (aE (dw P T' H nx op) fun x=>K x.1 x.2.1 x.2.2)
  rw [← i6 he]; exact h
 | call =>
  have h:aE (gJ op) fun x=>aE (jy (ev T x.1)) fun y=>Fn P y.1 (x.2.toList.map (ev T) ++ y.2) H nx K:=h
  show aE (gJ op) fun x=>aE (jy (ev T' x.1)) fun y=>Fn P y.1 (x.2.toList.map (ev T') ++ y.2) H nx K
  obtain ⟨x,hx,h⟩:=b0 h
  rw [hx]
  obtain ⟨f,args⟩:=x
  obtain ⟨ts,rfl⟩:=iq hx
  simp only [Op.operands,Call.operands] at he
  have e1:ev T f=ev T' f:=he f (Array.mem_append.2 (.inl (by simp)))
  have e2:args.toList.map (ev T)=args.toList.map (ev T'):=List.map_congr_left fun x hm=>he x (Array.mem_append.2 (.inr (by simpa using hm)))
  show aE (jy (ev T' f)) fun y=>Fn P y.1 (args.toList.map (ev T') ++ y.2) H nx K
  rw [← e1,← e2]; exact h
 | other=>exact h.elim
theorem lj {P:Program} {op:Op} {T T':Tm} {H:Hp} {nx:Nat} {K:AV→Hp→Nat→Prop} (he:∀ x ∈ op.operands,ev T x=ev T' x) (h:cm P op T H nx K):cm P op T' H nx K :=
 ⟨h.1,fun rr E w a o next Q ho hE hh hf ht hn=>h.2 rr E w a o next Q ho hE hh hf (fun x hx=>by rw [he x hx]; exact ht x hx) hn⟩
theorem qJ {vp:Op→Bool} {P:Program} {op:Op} {T T':Tm} {H:Hp} {nx:Nat} {K:AV→Hp→Nat→Prop} (he:∀ x ∈ op.operands,ev T x=ev T' x) (h:eL vp P op T H nx K):eL vp P op T' H nx K:=by
 unfold eL at h ⊢
 split
 ·rename_i hp
  rw [if_pos hp] at h
  rw [← ea he]; exact h
 ·rename_i hp
  rw [if_neg hp] at h
  rcases h with h | h
  ·exact .inl (kU he h)
  ·exact .inr ⟨h.1,lj he h.2⟩
theorem od {T:Tm} {d e:Option Nat} {v r:AV} (h:∀ t,d=some t→e ≠ some t):aF (aF T e r) d v=aF (aF T d v) e r:=by
 cases d with
 | none=>rfl
 | some d =>
  cases e with
  | none=>rfl
  | some e =>
   have hne:d ≠ e:=fun hh=>h d rfl (by rw [hh])
   funext t
   simp only [aF,Go.Abs.upd]
   by_cases h1:t=d
   ·subst h1; rw [if_pos rfl,if_neg hne,if_pos rfl]
   ·rw [if_neg h1,if_neg h1]
structure Free (vp:Op→Bool) (ops:List Oper) (x o:Oper):Prop where
 d:∀ t,o.dst=some t→x.dst ≠ some t
 l1:∀ t,o.dst=some t→t ∉ x.looksAt ops.toArray
 l2:∀ t,x.dst=some t→t ∉ o.looksAt ops.toArray
 k:vp x.op=true
def rJ (P:Program) (dsts:List (Option Nat)) (o:Oper) (T:Tm) (H:Hp):Option AV:=match gval T dsts o.guard with
 | some true=>bG P T H o.op
 | some false=>some (.tup [])
 | none=>none
theorem uB {vp:Op→Bool} {P:Program} {n:Nat} {dsts:List (Option Nat)} {o:Oper} {T:Tm} {H:Hp} {nx:Nat} {K:SP} (hp:vp o.op=true) (h:iI vp P n dsts o T H nx K):∃ v,rJ P dsts o T H=some v∧K (aF T o.dst v) H nx:=by
 obtain ⟨_,h⟩:=h
 unfold rJ
 cases hg:gval T dsts o.guard with
 | none=>rw [hg] at h; exact h.elim
 | some b =>
  rw [hg] at h
  cases b with
  | true =>
   have h:eL vp P o.op T H nx fun r H' nx'=>K (aF T o.dst r) H' nx':=h
   unfold eL at h
   rw [if_pos hp] at h
   exact b0 h
  | false=>exact ⟨_,rfl,h⟩
theorem pF {vp:Op→Bool} {P:Program} {n:Nat} {dsts:List (Option Nat)} {o:Oper} {T:Tm} {H:Hp} {nx:Nat} {K:SP} (hp:vp o.op=true) (hd:dok n o.dst=true) {v:AV} (hv:rJ P dsts o T H=some v) (hk:K (aF T o.dst v) H nx):iI vp P n dsts o T H nx K:=by
 refine ⟨hd,?_⟩
 unfold rJ at hv
 cases hg:gval T dsts o.guard with
 | none=>rw [hg] at hv; cases hv
 | some b =>
  rw [hg] at hv
  cases b with
  | true =>
   show eL vp P o.op T H nx _
   unfold eL
   rw [if_pos hp]
   have hv:bG P T H o.op=some v:=hv
   rw [hv]; exact hk
  | false=>cases hv; exact hk
theorem rg {P:Program} {ops:List Oper} {o:Oper} {T T':Tm} {H H':Hp} (hp:opk o.op=.pure) (ha:fm ops o T T'):rJ P (ops.map (·.dst)) o T H=rJ P (ops.map (·.dst)) o T' H':=by
 unfold rJ
 rw [ha.gval]
 cases gval T' (ops.map (·.dst)) o.guard with
 | none=>rfl
 | some b =>
  cases b with
  | true=>simp only; rw [ea ha.ev,jX hp]
  | false=>rfl
theorem A6 {vp:Op→Bool} (hvp:VP vp) {P:Program} {n:Nat} {ops:List Oper} {x o:Oper} {T:Tm} {H:Hp} {nx:Nat} {K:SP} (hf:Free vp ops x o)
    (h:iI vp P n (ops.map (·.dst)) x T H nx fun T1 H1 nx1=>iI vp P n (ops.map (·.dst)) o T1 H1 nx1 K):iI vp P n (ops.map (·.dst)) o T H nx fun T1 H1 nx1=>iI vp P n (ops.map (·.dst)) x T1 H1 nx1 K:=by
 have hpk:=hvp.pure _ hf.k
 have hdx:=h.1
 obtain ⟨r,hr,h⟩:=uB hf.k h
 have ha:fm ops o T (aF T x.dst r):=fm.upd hf.l2
 have hx:∀ (q:AV) (H1:Hp) (nx1:Nat),K (aF (aF T x.dst r) o.dst q) H1 nx1→iI vp P n (ops.map (·.dst)) x (aF T o.dst q) H1 nx1 K:=by
  intro q H1 nx1 hk
  refine pF hf.k hdx (v:=r) ?_ ?_
  ·rw [← hr]; exact (rg hpk (fm.upd hf.l1)).symm
  ·rw [← od hf.d]; exact hk
 obtain ⟨hdo,h⟩:=h
 refine ⟨hdo,?_⟩
 rw [ha.gval]
 cases hg:gval (aF T x.dst r) (ops.map (·.dst)) o.guard with
 | none=>rw [hg] at h; exact h.elim
 | some b =>
  rw [hg] at h
  cases b with
  | true =>
   have h:eL vp P o.op (aF T x.dst r) H nx fun q H' nx'=>K (aF (aF T x.dst r) o.dst q) H' nx':=h
   exact i9 (qJ (fun y hy=>(ha.ev y hy).symm) h) (fun q H' nx' hk=>hx q H' nx' hk)
  | false=>exact hx _ _ _ h
theorem xW {vp:Op→Bool} (hvp:VP vp) {P:Program} {n:Nat} {ops:List Oper} {o:Oper} {l2:List Oper} {K:SP}:∀ (l1:List Oper) {T:Tm} {H:Hp} {nx:Nat},(∀ x ∈ l1,Free vp ops x o) →
    gz vp P n (ops.map (·.dst)) (l1 ++ o :: l2) T H nx K→iI vp P n (ops.map (·.dst)) o T H nx fun T H nx=>gz vp P n (ops.map (·.dst)) (l1 ++ l2) T H nx K
 | [],_,_,_,_,h=>h
 | x :: l1,T,H,nx,hf,h=>by
  have h:iI vp P n (ops.map (·.dst)) x T H nx fun T H nx=>gz vp P n (ops.map (·.dst)) (l1 ++ o :: l2) T H nx K:=h
  have h:iI vp P n (ops.map (·.dst)) x T H nx fun T H nx=>iI vp P n (ops.map (·.dst)) o T H nx fun T H nx=>gz vp P n (ops.map (·.dst)) (l1 ++ l2) T H nx K :=
   ku h (fun r H1 nx1 h=>xW hvp l1 (fun y hy=>hf y (by simp [hy])) h)
  exact A6 hvp (hf x (by simp)) h
def wd (vp:Op→Bool) (ops:List Oper) (x o:Oper):Bool :=
 (match o.dst with | some t=>x.dst != some t && !(x.looksAt ops.toArray).contains t | none=>true) &&
 (match x.dst with | some t=>!(o.looksAt ops.toArray).contains t | none=>true) && vp x.op
theorem v6 {vp:Op→Bool} {ops:List Oper} {x o:Oper} (h:wd vp ops x o=true):Free vp ops x o:=by
 unfold wd at h
 simp only [Bool.and_eq_true] at h
 obtain ⟨⟨h1,h2⟩,h3⟩:=h
 refine ⟨fun t ht=>?_,fun t ht=>?_,fun t ht=>?_,h3⟩
 ·rw [ht] at h1; simp at h1; exact h1.1
 ·rw [ht] at h1; simp at h1; exact h1.2
 ·rw [ht] at h2; simp at h2; exact h2
def nq (r:Nat→Nat→Bool):List Nat→Bool
 | []=>true
 | k :: l=>l.all (r k) && nq r l
theorem j5 {r:Nat→Nat→Bool}:∀ {l:List Nat},nq r l=true→l.Pairwise (fun k i=>r k i=true)
 | [],_=>List.Pairwise.nil
 | k :: l,h=>by
  simp only [nq,Bool.and_eq_true,List.all_eq_true] at h
  exact List.Pairwise.cons h.1 (j5 h.2)
def pO (vp:Op→Bool) (n:Nat) (ops:List Oper) (C:List Nat):Bool :=
 let m:=Region.before ops.toArray
 let len:=ops.length
 ((List.range len).all fun j=>(dl (ops.getD j default)).all fun k=>k < j) &&
 ((List.range len).all fun j=>(List.range len).all fun i=>!dx m j i || (dl (ops.getD j default)).any fun k=>k == i || dx m k i) &&
 (nq (fun k i=>k != i && ((ops.getD i default).dst.isNone || (ops.getD i default).dst != (ops.getD k default).dst) && (dx m i k || wd vp ops (ops.getD k default) (ops.getD i default))) C) &&
 ((List.range len).all fun i=>C.contains i) && (C.all fun i=>i < len) && ((List.range len).all fun i=>dok n (ops.getD i default).dst)
structure MixOk (vp:Op→Bool) (n:Nat) (ops:List Oper) (C:List Nat):Prop where
 dir:∀ (j:Nat) (o:Oper),ops[j]?=some o→∀ k ∈ dl o,k < j
 clo:∀ (j:Nat) (o:Oper) (i:Nat),ops[j]?=some o→i < ops.length→dx (Region.before ops.toArray) j i=true→∃ k ∈ dl o,k=i ∨ dx (Region.before ops.toArray) k i=true
 pw:C.Pairwise (fun k i=>k ≠ i∧(∀ t,(ops.getD i default).dst=some t→(ops.getD k default).dst ≠ some t)∧(dx (Region.before ops.toArray) i k=true ∨ Free vp ops (ops.getD k default) (ops.getD i default)))
 all:∀ i,i < ops.length→i ∈ C
 lt:∀ i ∈ C,i < ops.length
 dk:∀ (i:Nat) (o:Oper),ops[i]?=some o→dok n o.dst=true
theorem qQ {vp:Op→Bool} {n:Nat} {ops:List Oper} {C:List Nat} (h:pO vp n ops C=true):MixOk vp n ops C:=by
 simp only [pO,Bool.and_eq_true,List.all_eq_true,List.mem_range,decide_eq_true_eq] at h
 obtain ⟨⟨⟨⟨⟨h1,h2⟩,h3⟩,h4⟩,h5⟩,h6⟩:=h
 have hlt:=fun {k:Nat} {o:Oper} (hk:ops[k]?=some o)=>(List.getElem?_eq_some_iff.1 hk).1
 refine ⟨fun j o ho k hk=>?_,fun j o i ho hi hb=>?_,(j5 h3).imp (fun {k i} h=>?_),fun i hi=>by simpa using h4 i hi,h5,fun i o ho=>?_⟩
 ·have:=h1 j (hlt ho) k; rw [b6 ho] at this; exact this hk
 ·have:=h2 j (hlt ho) i hi
  rw [b6 ho,hb] at this
  simp only [Bool.not_true,Bool.false_or,List.any_eq_true,Bool.or_eq_true,beq_iff_eq] at this
  exact this
 ·simp only [Bool.and_eq_true,Bool.or_eq_true] at h
  obtain ⟨⟨h7,h8⟩,h9⟩:=h
  refine ⟨by simpa using h7,fun t ht=>?_,h9.imp id v6⟩
  rw [ht] at h8
  simp at h8
  exact fun e=>h8 e.symm
 ·have:=h6 i (hlt ho); rw [b6 ho] at this; exact this
def c9 (C:List Nat) (L:Array Bool):List Nat:=C.filter fun k=>!L.getD k false
structure MInv (vp:Op→Bool) (P:Program) (N:Cfg) (ops:List Oper) (C:List Nat) (K:SP) (E₀:Env) (w₀:World) (L:Array Bool) (a:Act) (w:World) (E:Env) (T:Tm) (H:Hp) (nx:Nat):Prop where
 lsz:L.size=ops.length
 dc:∀ j i,L.getD j false=true→dx (Region.before ops.toArray) j i=true→i < ops.length→L.getD i false=true
 ext:Ext E₀ w₀ E w
 sim:Sim E N ⟨T,H,nx⟩ a w
 rest:gz vp P N.n (ops.map (·.dst)) ((c9 C L).map fun k=>ops.getD k default) T H nx K
variable {vp:Op→Bool} {P:Program} {N:Cfg} {ops:List Oper} {C:List Nat} {K:SP} {E₀:Env} {w₀:World} {L:Array Bool} {a:Act} {w:World} {E:Env} {T:Tm} {H:Hp} {nx:Nat}
theorem rG (hC:C.Pairwise (fun k i=>k ≠ i∧(∀ t,(ops.getD i default).dst=some t→(ops.getD k default).dst ≠ some t)∧(dx (Region.before ops.toArray) i k=true ∨ Free vp ops (ops.getD k default) (ops.getD i default))))
    {i:Nat} (hi:i ∈ c9 C L) (hil:i < L.size):∃ l1 l2,c9 C L=l1 ++ i :: l2∧c9 C (L.setIfInBounds i true)=l1 ++ l2 ∧
     (∀ k ∈ l1,dx (Region.before ops.toArray) i k=true ∨ Free vp ops (ops.getD k default) (ops.getD i default))∧(∀ k ∈ l1 ++ l2,∀ t,(ops.getD k default).dst=some t→(ops.getD i default).dst ≠ some t):=by
 obtain ⟨l1,l2,e⟩:=List.append_of_mem hi
 have hp:(c9 C L).Pairwise _:=hC.filter _
 rw [e] at hp
 obtain ⟨p1,p2,p3⟩:=List.pairwise_append.1 hp
 obtain ⟨p4,p5⟩:=List.pairwise_cons.1 p2
 refine ⟨l1,l2,e,?_,fun k hk=>(p3 k hk i (by simp)).2.2,fun k hk t ht he=>?_⟩
 ·have e2:c9 C (L.setIfInBounds i true)=(c9 C L).filter fun k=>decide (k ≠ i):=by
    unfold c9
    rw [List.filter_filter]
    refine List.filter_congr (fun k _=>?_)
    rw [cu L i k hil]
    by_cases h:k=i <;> simp [h]
  rw [e2,e,List.filter_append,List.filter_cons]
  have n1:l1.filter (fun k=>decide (k ≠ i))=l1:=List.filter_eq_self.2 (fun k hk=>decide_eq_true (p3 k hk i (by simp)).1)
  have n2:l2.filter (fun k=>decide (k ≠ i))=l2:=List.filter_eq_self.2 (fun k hk=>decide_eq_true (fun h=>(p4 k hk).1 h.symm))
  rw [n1,n2]; simp
 ·rcases List.mem_append.1 hk with h | h
  ·exact (p3 k h i (by simp)).2.1 t he ht
  ·exact (p4 k h).2.1 t ht he
theorem MInv.bits (hI:MInv vp P N ops C K E₀ w₀ L a w E T H nx) (hok:MixOk vp N.n ops C) {i:Nat} {o:Oper} (hr:Ready ops L i o) {k:Nat} (hk:k < ops.length) (hb:dx (Region.before ops.toArray) i k=true):L.getD k false=true:=by
 obtain ⟨q,hq,h⟩:=hok.clo i o k hr.get hk hb
 rcases h with rfl | h
 ·exact hr.dir _ hq
 ·exact hI.dc q k (hr.dir _ hq) h hk
theorem MInv.step (hvp:VP vp) {rr:Option Nat} {Q:Exit→Act→World→Prop} {K':Act→World→Prop} (hI:MInv vp P N ops C K E₀ w₀ L a w E T H nx) (hok:MixOk vp N.n ops C) {i:Nat} {o:Oper} (hr:Ready ops L i o)
    (hK:∀ a' w' E' T' H' nx',MInv vp P N ops C K E₀ w₀ (L.setIfInBounds i true) a' w' E' T' H' nx'→K' a' w'):wpOpIn (FW rr) 0 P ops.toArray Q i K' a w:=by
 have hi:i < ops.length:=(List.getElem?_eq_some_iff.1 hr.get).1
 have hgeti:(ops.toArray)[i]?=some o:=by simpa using hr.get
 unfold wpOpIn
 rw [hgeti]
 simp only
 have hmem:i ∈ c9 C L:=List.mem_filter.2 ⟨hok.all i hi,by rw [hr.not]; rfl⟩
 obtain ⟨l1,l2,e1,e2,f1,f2⟩:=rG hok.pw hmem (by rw [hI.lsz]; exact hi)
 have hgo:ops.getD i default=o:=b6 hr.get
 have hfree:∀ k ∈ l1,Free vp ops (ops.getD k default) o:=by
  intro k hk
  rcases f1 k hk with h | h
  ·have hkC:k ∈ c9 C L:=by rw [e1]; simp [hk]
   obtain ⟨h1,h2⟩:=List.mem_filter.1 hkC
   have:=hI.bits hok hr (hok.lt k h1) h
   rw [this] at h2; cases h2
  ·rw [hgo] at h; exact h
 have hrest:=hI.rest
 rw [e1,List.map_append,List.map_cons,hgo] at hrest
 have hpull:=xW hvp (l1.map fun k=>ops.getD k default) (fun x hx=>by
  obtain ⟨k,hk,rfl⟩:=List.mem_map.1 hx
  exact hfree k hk) hrest
 have hpull2:iI vp P N.n (ops.map (·.dst)) o T H nx fun T' H' nx'=>gz vp P N.n (ops.map (·.dst)) ((l1 ++ l2).map fun k=>ops.getD k default) T' H' nx' K :=
  ku hpull (fun r H1 nx1 h=>by rw [List.map_append]; exact h)
 have hset:=fun k=>cu L i k (by rw [hI.lsz]; exact hi)
 have hs:=kD (rr:=rr) (ops:=ops.toArray) (Q:=Q) (next:=K') hI.sim (wt hvp hpull2) (fun E' T' H' nx' a' w' he hS hk=>?_)
 ·exact hs
 ·refine hK a' w' E' T' H' nx' ⟨by simp [hI.lsz],?_,hI.ext.trans he,hS,by rw [e2]; exact hk⟩
  intro j k hj hb hkl
  rw [hset] at hj ⊢
  by_cases hki:k=i
  ·rw [if_pos hki]
  ·rw [if_neg hki]
   by_cases hji:j=i
   ·subst hji; exact hI.bits hok hr hkl hb
   ·rw [if_neg hji] at hj; exact hI.dc j k hj hb hkl
theorem MInv.some_ready (hI:MInv vp P N ops C K E₀ w₀ L a w E T H nx) (hok:MixOk vp N.n ops C) (h:Region.ready .any ops.toArray L=[]):∀ k,k < ops.length→L.getD k false=true:=by
 rcases nH L ops.length with h1 | ⟨k,hk,hn,hall⟩
 ·exact h1
 ·exfalso
  obtain ⟨o,ho⟩:=bK hk
  have:k ∈ Region.ready .any ops.toArray L:=by
   refine mem_ready.2 ⟨?_,o,by simpa using ho,fun e he hb=>hall _ ?_⟩
   ·have:k < L.size:=by rw [hI.lsz]; exact hk
    simp [this] at hn ⊢; exact hn
   ·refine hok.dir k o ho e.on ?_
    simp only [dl,List.mem_map,List.mem_filter]
    exact ⟨e,⟨by simpa using he,hb⟩,rfl⟩
  rw [h] at this; cases this
theorem MInv.final (hI:MInv vp P N ops C K E₀ w₀ L a w E T H nx) (hok:MixOk vp N.n ops C) (hall:∀ k,k < ops.length→L.getD k false=true):K T H nx:=by
 have:c9 C L=[]:=List.filter_eq_nil_iff.2 (fun k hk=>by simp [hall k (hok.lt k hk)])
 have h:=hI.rest
 rw [this] at h
 exact h
theorem sr (hvp:VP vp) {rr:Option Nat} {Q:Exit→Act→World→Prop} (hok:MixOk vp N.n ops C) (hQ:∀ E' T' H' nx' a' w',Ext E₀ w₀ E' w'→Sim E' N ⟨T',H',nx'⟩ a' w'→K T' H' nx'→Q .normal a' w') :
    ∀ (fuel:Nat) (L:Array Bool) (a:Act) (w:World) (E:Env) (T:Tm) (H:Hp) (nx:Nat),MInv vp P N ops C K E₀ w₀ L a w E T H nx→left ops.length L ≤ fuel→wpAnyIn (FW rr) 0 P .any ops.toArray Q fuel L a w
 | 0,L,a,w,E,T,H,nx,hI,hl=>by
  have hall:∀ k,k < ops.length→L.getD k false=true:=by
   rcases nH L ops.length with h1 | ⟨k,hk,hn,hall⟩
   ·exact h1
   ·exfalso
    have:left ops.length (L.setIfInBounds k true) < left ops.length L:=fL L k _ hk hI.lsz hn
    omega
  have hr:Region.ready .any ops.toArray L=[]:=by
   refine List.eq_nil_iff_forall_not_mem.2 (fun i hi=>?_)
   obtain ⟨o,ho⟩:=fY hI.lsz hi
   have:=hall i (List.getElem?_eq_some_iff.1 ho.get).1
   rw [ho.not] at this; cases this
  exact ⟨hr,hQ E T H nx a w hI.ext hI.sim (hI.final hok hall)⟩
 | fuel + 1,L,a,w,E,T,H,nx,hI,hl=>by
  refine ⟨fun hr=>hQ E T H nx a w hI.ext hI.sim (hI.final hok (hI.some_ready hok hr)),fun i hi=>?_⟩
  obtain ⟨o,ho⟩:=fY hI.lsz hi
  refine hI.step hvp hok ho (fun a' w' E' T' H' nx' hI'=>sr hvp hok hQ fuel _ a' w' E' T' H' nx' hI' ?_)
  have:=fL L i ops.length (List.getElem?_eq_some_iff.1 ho.get).1 hI.lsz ho.not
  omega
theorem yP {rr:Option Nat} {Q:Exit→Act→World→Prop} {rid:Nat} (hm:P.follows .mixedOrders=true) (hvp:VP vp) (hok:pO vp N.n ops C=true) (hS:Sim E₀ N ⟨T,H,nx⟩ a w₀) 
    (h:gz vp P N.n (ops.map (·.dst)) (C.map fun k=>ops.getD k default) T H nx K)
    (hQ:∀ E' T' H' nx' a' w',Ext E₀ w₀ E' w'→Sim E' N ⟨T',H',nx'⟩ a' w'→K T' H' nx'→Q .normal a' w'):(Code.region rid ops.toArray true).wpIn (FW rr) 0 P Q a w₀:=by
 refine wpIn_region_any hm ?_
 have hdr:({ w₀ with drawn:=w₀.drawn + 1 }:World).heap=w₀.heap:=rfl
 have hext:Ext E₀ w₀ E₀ { w₀ with drawn:=w₀.drawn + 1 }:=Ext.same hdr
 have hok:=qQ hok
 have hfalse:∀ k,(Array.replicate ops.toArray.size false).getD k false=false:=by
  intro k
  simp only [Array.getD_eq_getD_getElem?,Array.getElem?_replicate]
  split <;> rfl
 have hrest:c9 C (Array.replicate ops.toArray.size false)=C:=List.filter_eq_self.2 (fun k _=>by rw [hfalse]; rfl)
 refine sr (C:=C) (K:=K) (E₀:=E₀) (w₀:=w₀) hvp hok hQ _ _ _ _ E₀ T H nx ⟨by simp,?_,hext,?_,by rw [hrest]; exact h⟩ (by rw [List.size_toArray]; unfold left; exact Nat.le_trans List.countP_le_length (by simp))
 ·intro j i h1; rw [hfalse] at h1; cases h1
 ·exact ⟨hS.env.drew,hS.heap.same hdr,hS.fresh,hS.round,hS.floor,hS.size,fun t=>(hS.tmps t).ext hext,hS.defers.ext hext⟩
end Go.Abs
namespace Go.Abs
open Go.RowKit
def Sub (S H:Hp):Prop:=∀ b cs,S b=some cs→H b=some cs
theorem oV {S H:Hp} (h:Sub S H) {p x:AV} (hr:rd1 S p=some x):rd1 H p=some x:=by
 unfold rd1 at hr ⊢
 split at hr
 ·rename_i b n off
  cases hb:S b with
  | none=>rw [hb] at hr; cases hr
  | some cs=>rw [hb] at hr; simp only [h b cs hb]; exact hr
 ·exact hr
 ·cases hr
theorem rW {S H:Hp} (h:Sub S H) {k:Nat} {p:AV} {x:List AV} (hr:rd S k p=some x):rd H k p=some x:=by
 unfold rd at hr ⊢
 split at hr
 ·rename_i b n off
  cases hb:S b with
  | none=>rw [hb] at hr; cases hr
  | some cs=>rw [hb] at hr; simp only [h b cs hb]; exact hr
 ·exact hr
 ·cases hr
theorem vw {P:Program} {T:Tm} {S H:Hp} (h:Sub S H) {op:Op} (hl:dX op=true) {r:AV} (hr:bG P T S op=some r):bG P T H op=some r:=by
 cases op <;> first | (cases hl; done) | skip
 simp only [bG] at hr ⊢
 unfold fV at hr ⊢
 split at hr
 ·split at hr
  ·split at hr
   ·rw [Option.map_eq_some_iff] at hr
    obtain ⟨x,hx,rfl⟩:=hr
    rename_i h0 h1 h2
    rw [if_pos h0,if_pos h1,if_pos h2,rW h hx]; rfl
   ·cases hr
  ·rename_i h0 h1
   rw [if_pos h0,if_neg h1]; exact oV h hr
 ·cases hr
def sv (vp:Op→Bool) (op:Op):Bool:=vp op || dX op
def eI:Op→Bool
 | .buildSlice ..=>true
 | _=>false
def lV:Option (AV × Hp × Nat)→Option AV
 | some (.msl 0 _ 1 0 len,H',_)=>match H' 0 with
  | some cs=>if len=cs.length∧len ≠ 0∧cs.all AV.one=true then some (.sl 1 cs) else none
  | none=>none
 | _=>none
def p8 (P:Program) (T:Tm) (op:Op):Option AV:=if eI op=true then lV (dw P T a9 0 op) else none
theorem kH {x:Option (AV × Hp × Nat)} {r:AV} (h:lV x=some r):∃ n H' k cs,x=some (.msl 0 n 1 0 cs.length,H',k)∧H' 0=some cs∧cs.length ≠ 0∧cs.all AV.one=true∧r=.sl 1 cs:=by
 unfold lV at h
 split at h
 ·rename_i n len H' k
  split at h
  ·rename_i cs hcs
   split at h
   ·rename_i hc
    obtain ⟨hl,h0,ho⟩:=hc
    cases h
    subst hl
    exact ⟨n,H',k,cs,rfl,hcs,h0,ho,rfl⟩
   ·cases h
  ·cases h
 ·cases h
theorem rm {P:Program} {op:Op} {T T':Tm} (he:∀ x ∈ op.operands,ev T x=ev T' x):p8 P T op=p8 P T' op:=by
 unfold p8
 rw [i6 he]
theorem ua {op:Op} (h:eI op=true):opk op=.alloc:=by
 cases op <;> first | (cases h; done) | rfl
theorem oA {x:AV} (h:x.one=true):x.cells=[x]:=by cases x <;> first | rfl | (cases h; done)
theorem pp {E:Env} {w:World} {n L blk sz:Nat} {v:Value} (hL:L ≠ 0) (h:Rel { E with mu:=fun _ _=>some (blk,sz) } w (.msl 0 n 1 0 L) v):∃ cap,v=.slice (some ⟨blk,0,none⟩) L cap∧L ≤ cap:=by
 cases h with
 | msl b n sz off len blk bsz cap hm hl hc hn =>
  simp only [Option.some.injEq,Prod.mk.injEq] at hm
  obtain ⟨rfl,rfl⟩:=hm
  exact ⟨cap,rfl,hl⟩
 | msl0 b sz v h=>exact absurd rfl hL
theorem ul {P:Program} {op:Op} {T:Tm} {H:Hp} {nx:Nat} {K:AV→Hp→Nat→Prop} {r:AV} (h:p8 P T op=some r) (hk:K r H nx):cm P op T H nx K:=by
 unfold p8 at h
 split at h
 case isFalse=>cases h
 case isTrue hb =>
 obtain ⟨n,H1,k,cs,h1,h2,h0,h3,rfl⟩:=kH h
 refine ⟨fun c hc=>(by rw [hc] at hb; cases hb),?_⟩
 rintro rr E w a o next Q ho hE hh hf ht hn
 have h1':dw P T a9 0 o.op=some (.msl 0 n 1 0 cs.length,H1,k):=by rw [ho]; exact h1
 obtain ⟨s,hs,hrun⟩:=ns (E:=E) (w:=w) (a:=a) (ua (by rw [ho]; exact hb)) (by rw [ho]; exact ht) h1'
 unfold oC at hrun
 rcases hrun with hrun | ⟨cells,vals,ty,v,hH,_,hrun,hlen,hrel,hv⟩
 ·rw [hrun.2.1] at h2; cases h2
 rw [hH] at h2
 have h2:cells=cs:=by simpa [am] using h2
 subst h2
 obtain ⟨cap,rfl,hcap⟩:=pp h0 (hv { E with mu:=fun _ _=>some (w.heap.size,vals.size) } w rfl)
 have hbw:Below w.heap.size w (w.alloc (.cells vals ty)):=(Below.refl _ _).alloc (Nat.le_refl _) _
 have hnew:(w.alloc (.cells vals ty)).heap[w.heap.size]?=some (.cells vals ty (0,0)):=by
  show (w.heap.push (.cells vals ty))[w.heap.size]?=_
  simp
 have hsz:(w.alloc (.cells vals ty)).heap.size=w.heap.size + 1:=by
  show (w.heap.push (.cells vals ty)).size=_
  simp
 have he:Ext E w { E with imm:=fun b=>E.imm b ∨ b=w.heap.size } (w.alloc (.cells vals ty)) :=
  ⟨rfl,rfl,fun _ h=>.inl h,fun b h=>h.imp id (fun h=>by rw [h]; exact hh.size),fun _ _ _ h=>h,fun _ _ h=>h,fun _ _ h=>h,fun b h=>⟨h,hbw.block b (hE.dlt h)⟩,hbw.size,fun b h=>hbw.block b (hE.lt b h)⟩
 have hE':EnvOk { E with imm:=fun b=>E.imm b ∨ b=w.heap.size } (w.alloc (.cells vals ty)) :=
  hE.step he (fun b h=>h.imp id (fun h=>by rw [hsz,h]; omega)) (fun k hk=>hk.imp id (fun hge b hb'=>by have:=hE.splt hb'; omega)) (hbw.mono hh.size) (Below.still hbw) rfl rfl rfl (fun _ _ _ _=>rfl)
 have hh':=hh.below he hbw rfl (fun b h=>h.imp id (fun h=>by rw [h]; omega)) rfl
 rw [hs]
 simp only [Sem.run_bind,hrun,Result.andThen_ok,Sem.run_pure]
 rw [Oper.uponIn_value]
 refine hn _ H nx (.sl 1 cells) _ _ he hE' hh' (hf.of (Nat.le_refl _) (fun _ _ _=>rfl) rfl rfl) ?_ hk
 refine .sl 1 cells w.heap.size 0 cap (fun i=>vals.getD i Go.undef) (.inr rfl) hcap (fun x hx=>by rw [oA (List.all_eq_true.1 h3 x hx)]; rfl) (fun i hi=>?_) (fun i j x y hx hy=>?_)
 ·rw [Nat.zero_add]
  refine cell?_of_heap hnew ?_
  have:i < vals.size:=by omega
  simp [Array.getD,this]
 ·have hone:=oA (List.all_eq_true.1 h3 x (List.mem_of_getElem? hx))
  rw [hone] at hy
  have hj:j=0:=by
   cases j with
   | zero=>rfl
   | succ j=>simp at hy
  subst hj
  simp only [List.getElem?_cons_zero,Option.some.injEq] at hy
  subst hy
  obtain ⟨v',h5,_,h6⟩:=hrel i x hx
  have:i < vals.size:=(Array.getElem?_eq_some_iff.1 h5).1
  rw [Nat.mul_one,Nat.add_zero]
  have e:vals.getD i Go.undef=v':=by
   rw [Array.getElem?_eq_getElem this] at h5
   cases h5
   simp [Array.getD,this]
  rw [e]
  exact h6.ext he
def nv (vp:Op→Bool) (bp:Op→Bool) (op:Op):Bool:=sv vp op || (bp op && eI op)
def mf (P:Program) (bp:Op→Bool) (T:Tm) (S:Hp) (op:Op):Option AV:=if (bp op && eI op)=true then p8 P T op else bG P T S op
theorem l5 {P:Program} {bp:Op→Bool} {op:Op} {T T':Tm} {S:Hp} (he:∀ x ∈ op.operands,ev T x=ev T' x):mf P bp T S op=mf P bp T' S op:=by
 unfold mf
 rw [rm he,ea he]
def dC (vp:Op→Bool) (bp:Op→Bool) (P:Program) (S:Hp) (op:Op) (keep:Bool) (T:Tm) (H:Hp) (nx:Nat) (K:AV→Hp→Nat→Prop):Prop :=
 if nv vp bp op=true then aE (mf P bp T S op) fun r=>K r H nx else lv P .text op T H nx fun r H' nx'=>(keep=true→Sub S H')∧K r H' nx'
def iE (vp:Op→Bool) (bp:Op→Bool) (P:Program) (n:Nat) (dsts:List (Option Nat)) (S:Hp) (o:Oper × Bool) (T:Tm) (H:Hp) (nx:Nat) (K:SP):Prop :=
 aR (dok n o.1.dst) (aS (gval T dsts o.1.guard) (dC vp bp P S o.1.op o.2 T H nx fun r H' nx'=>K (aF T o.1.dst r) H' nx') (K (aF T o.1.dst (.tup [])) H nx))
def fq (vp:Op→Bool) (bp:Op→Bool) (P:Program) (n:Nat) (dsts:List (Option Nat)) (S:Hp):List (Oper × Bool)→Tm→Hp→Nat→SP→Prop
 | [],T,H,nx,K=>K T H nx
 | o :: l,T,H,nx,K=>iE vp bp P n dsts S o T H nx fun T H nx=>fq vp bp P n dsts S l T H nx K
theorem md {vp:Op→Bool} {bp:Op→Bool} {P:Program} {S:Hp} {op:Op} {keep:Bool} {T:Tm} {H:Hp} {nx:Nat} {K K':AV→Hp→Nat→Prop} (h:dC vp bp P S op keep T H nx K) (hK:∀ r H nx,K r H nx→K' r H nx):dC vp bp P S op keep T H nx K':=by
 unfold dC at h ⊢
 split
 ·rename_i hp
  rw [if_pos hp] at h
  obtain ⟨a,ha,hk⟩:=b0 h
  rw [ha]; exact hK _ _ _ hk
 ·rename_i hp
  rw [if_neg hp] at h
  exact eW h (fun r H nx hh=>⟨hh.1,hK _ _ _ hh.2⟩)
theorem kC {vp:Op→Bool} {bp:Op→Bool} {P:Program} {n:Nat} {dsts:List (Option Nat)} {S:Hp} {o:Oper × Bool} {T:Tm} {H:Hp} {nx:Nat} {K K':SP} (h:iE vp bp P n dsts S o T H nx K) (hK:∀ r H nx,K (aF T o.1.dst r) H nx→K' (aF T o.1.dst r) H nx):iE vp bp P n dsts S o T H nx K':=by
 refine ⟨h.1,?_⟩
 have h:=h.2
 cases hg:gval T dsts o.1.guard with
 | none=>rw [hg] at h; exact h.elim
 | some b =>
  rw [hg] at h
  cases b with
  | true=>exact md (K:=fun r H' nx'=>K (aF T o.1.dst r) H' nx') h (fun r H nx=>hK r H nx)
  | false=>exact hK _ _ _ h
theorem l6 {vp:Op→Bool} {bp:Op→Bool} {P:Program} {n:Nat} {dsts:List (Option Nat)} {S:Hp} {K K':SP} (hK:∀ T H nx,K T H nx→K' T H nx):∀ (l:List (Oper × Bool)) {T:Tm} {H:Hp} {nx:Nat},fq vp bp P n dsts S l T H nx K→fq vp bp P n dsts S l T H nx K'
 | [],_,_,_,h=>hK _ _ _ h
 | o :: l,_,_,_,h=>kC h (fun _ _ _=>l6 hK l)
theorem qs {vp:Op→Bool} {bp:Op→Bool} {P:Program} {S:Hp} {op:Op} {keep:Bool} {T T':Tm} {H:Hp} {nx:Nat} {K:AV→Hp→Nat→Prop} (he:∀ x ∈ op.operands,ev T x=ev T' x) (h:dC vp bp P S op keep T H nx K):dC vp bp P S op keep T' H nx K:=by
 unfold dC at h ⊢
 split
 ·rename_i hp
  rw [if_pos hp] at h
  rw [← l5 he]; exact h
 ·rename_i hp
  rw [if_neg hp] at h
  rcases h with h | h
  ·exact .inl (kU he h)
  ·exact .inr ⟨h.1,lj he h.2⟩
theorem wA {vp:Op→Bool} {bp:Op→Bool} (hv:VP vp) {P:Program} {n:Nat} {dsts:List (Option Nat)} {S:Hp} {o:Oper × Bool} {T:Tm} {H:Hp} {nx:Nat} {K:SP} (hs:dX o.1.op=true→Sub S H) (h:iE vp bp P n dsts S o T H nx K) :
    aop P n .text dsts o.1 T H nx fun T1 H1 nx1=>(H1=H ∨ (o.2=true→Sub S H1))∧K T1 H1 nx1:=by
 refine ⟨h.1,?_⟩
 have h:=h.2
 cases hg:gval T dsts o.1.guard with
 | none=>rw [hg] at h; exact h.elim
 | some b =>
  rw [hg] at h
  cases b with
  | false=>exact ⟨.inl rfl,h⟩
  | true =>
   have h:dC vp bp P S o.1.op o.2 T H nx fun r H' nx'=>K (aF T o.1.dst r) H' nx':=h
   show lv P .text o.1.op T H nx fun r H' nx'=>(H'=H ∨ (o.2=true→Sub S H'))∧K (aF T o.1.dst r) H' nx'
   unfold dC at h
   split at h
   ·rename_i hp
    obtain ⟨r,hr,hk⟩:=b0 h
    by_cases hbl:(bp o.1.op && eI o.1.op)=true
    ·unfold mf at hr
     rw [if_pos hbl] at hr
     exact .inr ⟨rfl,ul hr ⟨.inl rfl,hk⟩⟩
    unfold mf at hr
    rw [if_neg hbl] at hr
    have hp:sv vp o.1.op=true:=by
     unfold nv at hp
     rw [Bool.or_eq_true] at hp
     exact hp.resolve_right hbl
    have hval:bG P T H o.1.op=some r∧opc o.1.op=.val:=by
     unfold sv at hp
     rw [Bool.or_eq_true] at hp
     rcases hp with hp | hp
     ·exact ⟨by rw [jX (H':=S) (hv.pure _ hp)]; exact hr,qh (hv.pure _ hp)⟩
     ·refine ⟨vw (hs hp) hp hr,?_⟩
      revert hp
      cases o.1.op <;> intro hp <;> first | (cases hp; done) | rfl
    left
    unfold fO
    rw [hval.2]
    refine ⟨rfl,?_⟩
    rw [hval.1]
    exact ⟨.inl rfl,hk⟩
   ·exact eW h (fun r H' nx' hh=>⟨.inr hh.1,hh.2⟩)
def nf (P:Program) (bp:Op→Bool) (dsts:List (Option Nat)) (o:Oper) (T:Tm) (H:Hp):Option AV:=match gval T dsts o.guard with
 | some true=>mf P bp T H o.op
 | some false=>some (.tup [])
 | none=>none
structure FreeN (vp:Op→Bool) (bp:Op→Bool) (ops:List Oper) (x o:Oper):Prop where
 d:∀ t,o.dst=some t→x.dst ≠ some t
 l1:∀ t,o.dst=some t→t ∉ x.looksAt ops.toArray
 l2:∀ t,x.dst=some t→t ∉ o.looksAt ops.toArray
 k:nv vp bp x.op=true
theorem uK {vp:Op→Bool} {bp:Op→Bool} {P:Program} {n:Nat} {dsts:List (Option Nat)} {S:Hp} {o:Oper × Bool} {T:Tm} {H:Hp} {nx:Nat} {K:SP} (hp:nv vp bp o.1.op=true) (h:iE vp bp P n dsts S o T H nx K):∃ v,nf P bp dsts o.1 T S=some v∧K (aF T o.1.dst v) H nx:=by
 obtain ⟨_,h⟩:=h
 unfold nf
 cases hg:gval T dsts o.1.guard with
 | none=>rw [hg] at h; exact h.elim
 | some b =>
  rw [hg] at h
  cases b with
  | true =>
   have h:dC vp bp P S o.1.op o.2 T H nx fun r H' nx'=>K (aF T o.1.dst r) H' nx':=h
   unfold dC at h
   rw [if_pos hp] at h
   exact b0 h
  | false=>exact ⟨_,rfl,h⟩
theorem pP {vp:Op→Bool} {bp:Op→Bool} {P:Program} {n:Nat} {dsts:List (Option Nat)} {S:Hp} {o:Oper × Bool} {T:Tm} {H:Hp} {nx:Nat} {K:SP} (hp:nv vp bp o.1.op=true) (hd:dok n o.1.dst=true) {v:AV} (hv:nf P bp dsts o.1 T S=some v) (hk:K (aF T o.1.dst v) H nx):iE vp bp P n dsts S o T H nx K:=by
 refine ⟨hd,?_⟩
 unfold nf at hv
 cases hg:gval T dsts o.1.guard with
 | none=>rw [hg] at hv; cases hv
 | some b =>
  rw [hg] at hv
  cases b with
  | true =>
   show dC vp bp P S o.1.op o.2 T H nx _
   unfold dC
   rw [if_pos hp]
   have hv:mf P bp T S o.1.op=some v:=hv
   rw [hv]; exact hk
  | false=>cases hv; exact hk
theorem qb {P:Program} {bp:Op→Bool} {ops:List Oper} {o:Oper} {T T':Tm} {S:Hp} (ha:fm ops o T T'):nf P bp (ops.map (·.dst)) o T S=nf P bp (ops.map (·.dst)) o T' S:=by
 unfold nf
 rw [ha.gval]
 cases gval T' (ops.map (·.dst)) o.guard with
 | none=>rfl
 | some b =>
  cases b with
  | true=>simp only; rw [l5 ha.ev]
  | false=>rfl
theorem Ac {vp:Op→Bool} {bp:Op→Bool} {P:Program} {n:Nat} {ops:List Oper} {S:Hp} {x o:Oper × Bool} {T:Tm} {H:Hp} {nx:Nat} {K:SP} (hf:FreeN vp bp ops x.1 o.1)
    (h:iE vp bp P n (ops.map (·.dst)) S x T H nx fun T1 H1 nx1=>iE vp bp P n (ops.map (·.dst)) S o T1 H1 nx1 K):iE vp bp P n (ops.map (·.dst)) S o T H nx fun T1 H1 nx1=>iE vp bp P n (ops.map (·.dst)) S x T1 H1 nx1 K:=by
 have hdx:=h.1
 obtain ⟨r,hr,h⟩:=uK hf.k h
 have ha:fm ops o.1 T (aF T x.1.dst r):=fm.upd hf.l2
 have hx:∀ (q:AV) (H1:Hp) (nx1:Nat),K (aF (aF T x.1.dst r) o.1.dst q) H1 nx1→iE vp bp P n (ops.map (·.dst)) S x (aF T o.1.dst q) H1 nx1 K:=by
  intro q H1 nx1 hk
  refine pP hf.k hdx (v:=r) ?_ ?_
  ·rw [← hr]; exact (qb (fm.upd hf.l1)).symm
  ·rw [← od hf.d]; exact hk
 obtain ⟨hdo,h⟩:=h
 refine ⟨hdo,?_⟩
 rw [ha.gval]
 cases hg:gval (aF T x.1.dst r) (ops.map (·.dst)) o.1.guard with
 | none=>rw [hg] at h; exact h.elim
 | some b =>
  rw [hg] at h
  cases b with
  | true =>
   have h:dC vp bp P S o.1.op o.2 (aF T x.1.dst r) H nx fun q H' nx'=>K (aF (aF T x.1.dst r) o.1.dst q) H' nx':=h
   exact md (qs (fun y hy=>(ha.ev y hy).symm) h) (fun q H' nx' hk=>hx q H' nx' hk)
  | false=>exact hx _ _ _ h
theorem xV {vp:Op→Bool} {bp:Op→Bool} {P:Program} {n:Nat} {ops:List Oper} {S:Hp} {o:Oper × Bool} {l2:List (Oper × Bool)} {K:SP}:∀ (l1:List (Oper × Bool)) {T:Tm} {H:Hp} {nx:Nat},(∀ x ∈ l1,FreeN vp bp ops x.1 o.1) →
    fq vp bp P n (ops.map (·.dst)) S (l1 ++ o :: l2) T H nx K→iE vp bp P n (ops.map (·.dst)) S o T H nx fun T H nx=>fq vp bp P n (ops.map (·.dst)) S (l1 ++ l2) T H nx K
 | [],_,_,_,_,h=>h
 | x :: l1,T,H,nx,hf,h=>by
  have h:iE vp bp P n (ops.map (·.dst)) S x T H nx fun T H nx=>fq vp bp P n (ops.map (·.dst)) S (l1 ++ o :: l2) T H nx K:=h
  have h:iE vp bp P n (ops.map (·.dst)) S x T H nx fun T H nx=>iE vp bp P n (ops.map (·.dst)) S o T H nx fun T H nx=>fq vp bp P n (ops.map (·.dst)) S (l1 ++ l2) T H nx K :=
   kC h (fun r H1 nx1 h=>xV l1 (fun y hy=>hf y (by simp [hy])) h)
  exact Ac (hf x (by simp)) h
def rY (vp:Op→Bool) (bp:Op→Bool) (ops:List Oper) (x o:Oper):Bool :=
 (match o.dst with | some t=>x.dst != some t && !(x.looksAt ops.toArray).contains t | none=>true) &&
 (match x.dst with | some t=>!(o.looksAt ops.toArray).contains t | none=>true) && nv vp bp x.op
theorem tw {vp:Op→Bool} {bp:Op→Bool} {ops:List Oper} {x o:Oper} (h:rY vp bp ops x o=true):FreeN vp bp ops x o:=by
 unfold rY at h
 simp only [Bool.and_eq_true] at h
 obtain ⟨⟨h1,h2⟩,h3⟩:=h
 refine ⟨fun t ht=>?_,fun t ht=>?_,fun t ht=>?_,h3⟩
 ·rw [ht] at h1; simp at h1; exact h1.1
 ·rw [ht] at h1; simp at h1; exact h1.2
 ·rw [ht] at h2; simp at h2; exact h2
def eN (ops:List Oper) (i:Nat):Bool:=(List.range ops.length).any fun j=>j != i && dX (ops.getD j default).op && !dx (Region.before ops.toArray) i j
def jT (vp:Op→Bool) (bp:Op→Bool) (n:Nat) (ops:List Oper) (C:List Nat):Bool :=
 let m:=Region.before ops.toArray
 let len:=ops.length
 ((List.range len).all fun j=>(dl (ops.getD j default)).all fun k=>k < j) &&
 ((List.range len).all fun j=>(List.range len).all fun i=>!dx m j i || (dl (ops.getD j default)).any fun k=>k == i || dx m k i) &&
 (nq (fun k i=>k != i && ((ops.getD i default).dst.isNone || (ops.getD i default).dst != (ops.getD k default).dst) && (dx m i k || rY vp bp ops (ops.getD k default) (ops.getD i default))) C) &&
 ((List.range len).all fun i=>C.contains i) && (C.all fun i=>i < len) && ((List.range len).all fun i=>dok n (ops.getD i default).dst)
structure MixNOk (vp:Op→Bool) (bp:Op→Bool) (n:Nat) (ops:List Oper) (C:List Nat):Prop where
 dir:∀ (j:Nat) (o:Oper),ops[j]?=some o→∀ k ∈ dl o,k < j
 clo:∀ (j:Nat) (o:Oper) (i:Nat),ops[j]?=some o→i < ops.length→dx (Region.before ops.toArray) j i=true→∃ k ∈ dl o,k=i ∨ dx (Region.before ops.toArray) k i=true
 pw:C.Pairwise (fun k i=>k ≠ i∧(∀ t,(ops.getD i default).dst=some t→(ops.getD k default).dst ≠ some t)∧(dx (Region.before ops.toArray) i k=true ∨ FreeN vp bp ops (ops.getD k default) (ops.getD i default)))
 all:∀ i,i < ops.length→i ∈ C
 lt:∀ i ∈ C,i < ops.length
 dk:∀ (i:Nat) (o:Oper),ops[i]?=some o→dok n o.dst=true
theorem ko {vp:Op→Bool} {bp:Op→Bool} {n:Nat} {ops:List Oper} {C:List Nat} (h:jT vp bp n ops C=true):MixNOk vp bp n ops C:=by
 simp only [jT,Bool.and_eq_true,List.all_eq_true,List.mem_range,decide_eq_true_eq] at h
 obtain ⟨⟨⟨⟨⟨h1,h2⟩,h3⟩,h4⟩,h5⟩,h6⟩:=h
 have hlt:=fun {k:Nat} {o:Oper} (hk:ops[k]?=some o)=>(List.getElem?_eq_some_iff.1 hk).1
 refine ⟨fun j o ho k hk=>?_,fun j o i ho hi hb=>?_,(j5 h3).imp (fun {k i} h=>?_),fun i hi=>by simpa using h4 i hi,h5,fun i o ho=>?_⟩
 ·have:=h1 j (hlt ho) k; rw [b6 ho] at this; exact this hk
 ·have:=h2 j (hlt ho) i hi
  rw [b6 ho,hb] at this
  simp only [Bool.not_true,Bool.false_or,List.any_eq_true,Bool.or_eq_true,beq_iff_eq] at this
  exact this
 ·simp only [Bool.and_eq_true,Bool.or_eq_true] at h
  obtain ⟨⟨h7,h8⟩,h9⟩:=h
  refine ⟨by simpa using h7,fun t ht=>?_,h9.imp id tw⟩
  rw [ht] at h8
  simp at h8
  exact fun e=>h8 e.symm
 ·have:=h6 i (hlt ho); rw [b6 ho] at this; exact this
def gA (ops:List Oper) (k:Nat):Oper × Bool:=(ops.getD k default,eN ops k)
structure NInv (vp:Op→Bool) (bp:Op→Bool) (P:Program) (N:Cfg) (ops:List Oper) (C:List Nat) (S:Hp) (K:SP) (E₀:Env) (w₀:World) (L:Array Bool) (a:Act) (w:World) (E:Env) (T:Tm) (H:Hp) (nx:Nat):Prop where
 lsz:L.size=ops.length
 dc:∀ j i,L.getD j false=true→dx (Region.before ops.toArray) j i=true→i < ops.length→L.getD i false=true
 ext:Ext E₀ w₀ E w
 sim:Sim E N ⟨T,H,nx⟩ a w
 st:∀ j,j < ops.length→dX (ops.getD j default).op=true→L.getD j false=false→Sub S H
 rest:fq vp bp P N.n (ops.map (·.dst)) S ((c9 C L).map (gA ops)) T H nx K
variable {vp:Op→Bool} {bp:Op→Bool} {P:Program} {N:Cfg} {ops:List Oper} {C:List Nat} {S:Hp} {K:SP} {E₀:Env} {w₀:World} {L:Array Bool} {a:Act} {w:World} {E:Env} {T:Tm} {H:Hp} {nx:Nat}
theorem pV (hC:C.Pairwise (fun k i=>k ≠ i∧(∀ t,(ops.getD i default).dst=some t→(ops.getD k default).dst ≠ some t)∧(dx (Region.before ops.toArray) i k=true ∨ FreeN vp bp ops (ops.getD k default) (ops.getD i default))))
    {i:Nat} (hi:i ∈ c9 C L) (hil:i < L.size):∃ l1 l2,c9 C L=l1 ++ i :: l2∧c9 C (L.setIfInBounds i true)=l1 ++ l2 ∧
     (∀ k ∈ l1,dx (Region.before ops.toArray) i k=true ∨ FreeN vp bp ops (ops.getD k default) (ops.getD i default)):=by
 obtain ⟨l1,l2,e⟩:=List.append_of_mem hi
 have hp:(c9 C L).Pairwise _:=hC.filter _
 rw [e] at hp
 obtain ⟨p1,p2,p3⟩:=List.pairwise_append.1 hp
 obtain ⟨p4,p5⟩:=List.pairwise_cons.1 p2
 refine ⟨l1,l2,e,?_,fun k hk=>(p3 k hk i (by simp)).2.2⟩
 have e2:c9 C (L.setIfInBounds i true)=(c9 C L).filter fun k=>decide (k ≠ i):=by
  unfold c9
  rw [List.filter_filter]
  refine List.filter_congr (fun k _=>?_)
  rw [cu L i k hil]
  by_cases h:k=i <;> simp [h]
 rw [e2,e,List.filter_append,List.filter_cons]
 have n1:l1.filter (fun k=>decide (k ≠ i))=l1:=List.filter_eq_self.2 (fun k hk=>decide_eq_true (p3 k hk i (by simp)).1)
 have n2:l2.filter (fun k=>decide (k ≠ i))=l2:=List.filter_eq_self.2 (fun k hk=>decide_eq_true (fun h=>(p4 k hk).1 h.symm))
 rw [n1,n2]; simp
theorem NInv.bits (hI:NInv vp bp P N ops C S K E₀ w₀ L a w E T H nx) (hok:MixNOk vp bp N.n ops C) {i:Nat} {o:Oper} (hr:Ready ops L i o) {k:Nat} (hk:k < ops.length) (hb:dx (Region.before ops.toArray) i k=true):L.getD k false=true:=by
 obtain ⟨q,hq,h⟩:=hok.clo i o k hr.get hk hb
 rcases h with rfl | h
 ·exact hr.dir _ hq
 ·exact hI.dc q k (hr.dir _ hq) h hk
theorem NInv.step (hvp:VP vp) {rr:Option Nat} {Q:Exit→Act→World→Prop} {K':Act→World→Prop} (hI:NInv vp bp P N ops C S K E₀ w₀ L a w E T H nx) (hok:MixNOk vp bp N.n ops C) {i:Nat} {o:Oper} (hr:Ready ops L i o)
    (hK:∀ a' w' E' T' H' nx',NInv vp bp P N ops C S K E₀ w₀ (L.setIfInBounds i true) a' w' E' T' H' nx'→K' a' w'):wpOpIn (FW rr) 0 P ops.toArray Q i K' a w:=by
 have hi:i < ops.length:=(List.getElem?_eq_some_iff.1 hr.get).1
 have hgeti:(ops.toArray)[i]?=some o:=by simpa using hr.get
 unfold wpOpIn
 rw [hgeti]
 simp only
 have hmem:i ∈ c9 C L:=List.mem_filter.2 ⟨hok.all i hi,by rw [hr.not]; rfl⟩
 obtain ⟨l1,l2,e1,e2,f1⟩:=pV hok.pw hmem (by rw [hI.lsz]; exact hi)
 have hgo:ops.getD i default=o:=b6 hr.get
 have hfree:∀ k ∈ l1,FreeN vp bp ops (ops.getD k default) o:=by
  intro k hk
  rcases f1 k hk with h | h
  ·have hkC:k ∈ c9 C L:=by rw [e1]; simp [hk]
   obtain ⟨h1,h2⟩:=List.mem_filter.1 hkC
   have:=hI.bits hok hr (hok.lt k h1) h
   rw [this] at h2; cases h2
  ·rw [hgo] at h; exact h
 have hrest:=hI.rest
 rw [e1,List.map_append,List.map_cons] at hrest
 have hpo:gA ops i=(o,eN ops i):=by unfold gA; rw [hgo]
 rw [hpo] at hrest
 have hpull:=xV (o:=(o,eN ops i)) (l1.map (gA ops)) (fun x hx=>by
  obtain ⟨k,hk,rfl⟩:=List.mem_map.1 hx
  exact hfree k hk) hrest
 have hpull2:iE vp bp P N.n (ops.map (·.dst)) S (o,eN ops i) T H nx fun T' H' nx'=>fq vp bp P N.n (ops.map (·.dst)) S ((l1 ++ l2).map (gA ops)) T' H' nx' K :=
  kC hpull (fun r H1 nx1 h=>by rw [List.map_append]; exact h)
 have hset:=fun k=>cu L i k (by rw [hI.lsz]; exact hi)
 have hld:dX o.op=true→Sub S H:=fun h=>hI.st i hi (by rw [hgo]; exact h) hr.not
 have hs:=kD (rr:=rr) (ops:=ops.toArray) (Q:=Q) (next:=K') hI.sim (wA hvp hld hpull2) (fun E' T' H' nx' a' w' he hS hk=>?_)
 ·exact hs
 ·obtain ⟨hkeep,hk⟩:=hk
  refine hK a' w' E' T' H' nx' ⟨by simp [hI.lsz],?_,hI.ext.trans he,hS,?_,by rw [e2]; exact hk⟩
  ·intro j k hj hb hkl
   rw [hset] at hj ⊢
   by_cases hki:k=i
   ·rw [if_pos hki]
   ·rw [if_neg hki]
    by_cases hji:j=i
    ·subst hji; exact hI.bits hok hr hkl hb
    ·rw [if_neg hji] at hj; exact hI.dc j k hj hb hkl
  ·intro j hj hl hn
   rw [hset] at hn
   by_cases hji:j=i
   ·rw [if_pos hji] at hn; cases hn
   rw [if_neg hji] at hn
   rcases hkeep with rfl | hkeep
   ·exact hI.st j hj hl hn
   ·refine hkeep ?_
    show eN ops i=true
    unfold eN
    rw [List.any_eq_true]
    refine ⟨j,List.mem_range.2 hj,?_⟩
    rw [Bool.and_eq_true,Bool.and_eq_true]
    refine ⟨⟨by simpa using hji,hl⟩,?_⟩
    cases hb:dx (Region.before ops.toArray) i j with
    | false=>rfl
    | true =>
     have:=hI.bits hok hr hj hb
     rw [this] at hn; cases hn
theorem NInv.some_ready (hI:NInv vp bp P N ops C S K E₀ w₀ L a w E T H nx) (hok:MixNOk vp bp N.n ops C) (h:Region.ready .any ops.toArray L=[]):∀ k,k < ops.length→L.getD k false=true:=by
 rcases nH L ops.length with h1 | ⟨k,hk,hn,hall⟩
 ·exact h1
 ·exfalso
  obtain ⟨o,ho⟩:=bK hk
  have:k ∈ Region.ready .any ops.toArray L:=by
   refine mem_ready.2 ⟨?_,o,by simpa using ho,fun e he hb=>hall _ ?_⟩
   ·have:k < L.size:=by rw [hI.lsz]; exact hk
    simp [this] at hn ⊢; exact hn
   ·refine hok.dir k o ho e.on ?_
    simp only [dl,List.mem_map,List.mem_filter]
    exact ⟨e,⟨by simpa using he,hb⟩,rfl⟩
  rw [h] at this; cases this
theorem NInv.final (hI:NInv vp bp P N ops C S K E₀ w₀ L a w E T H nx) (hok:MixNOk vp bp N.n ops C) (hall:∀ k,k < ops.length→L.getD k false=true):K T H nx:=by
 have:c9 C L=[]:=List.filter_eq_nil_iff.2 (fun k hk=>by simp [hall k (hok.lt k hk)])
 have h:=hI.rest
 rw [this] at h
 exact h
theorem qt (hvp:VP vp) {rr:Option Nat} {Q:Exit→Act→World→Prop} (hok:MixNOk vp bp N.n ops C) (hQ:∀ E' T' H' nx' a' w',Ext E₀ w₀ E' w'→Sim E' N ⟨T',H',nx'⟩ a' w'→K T' H' nx'→Q .normal a' w') :
    ∀ (fuel:Nat) (L:Array Bool) (a:Act) (w:World) (E:Env) (T:Tm) (H:Hp) (nx:Nat),NInv vp bp P N ops C S K E₀ w₀ L a w E T H nx→left ops.length L ≤ fuel→wpAnyIn (FW rr) 0 P .any ops.toArray Q fuel L a w
 | 0,L,a,w,E,T,H,nx,hI,hl=>by
  have hall:∀ k,k < ops.length→L.getD k false=true:=by
   rcases nH L ops.length with h1 | ⟨k,hk,hn,hall⟩
   ·exact h1
   ·exfalso
    have:left ops.length (L.setIfInBounds k true) < left ops.length L:=fL L k _ hk hI.lsz hn
    omega
  have hr:Region.ready .any ops.toArray L=[]:=by
   refine List.eq_nil_iff_forall_not_mem.2 (fun i hi=>?_)
   obtain ⟨o,ho⟩:=fY hI.lsz hi
   have:=hall i (List.getElem?_eq_some_iff.1 ho.get).1
   rw [ho.not] at this; cases this
  exact ⟨hr,hQ E T H nx a w hI.ext hI.sim (hI.final hok hall)⟩
 | fuel + 1,L,a,w,E,T,H,nx,hI,hl=>by
  refine ⟨fun hr=>hQ E T H nx a w hI.ext hI.sim (hI.final hok (hI.some_ready hok hr)),fun i hi=>?_⟩
  obtain ⟨o,ho⟩:=fY hI.lsz hi
  refine hI.step hvp hok ho (fun a' w' E' T' H' nx' hI'=>qt hvp hok hQ fuel _ a' w' E' T' H' nx' hI' ?_)
  have:=fL L i ops.length (List.getElem?_eq_some_iff.1 ho.get).1 hI.lsz ho.not
  omega
theorem wH {rr:Option Nat} {Q:Exit→Act→World→Prop} {rid:Nat} (hm:P.follows .mixedOrders=true) (hvp:VP vp) (hok:jT vp bp N.n ops C=true) (hS:Sim E₀ N ⟨T,H,nx⟩ a w₀) (hs:Sub S H)
    (h:fq vp bp P N.n (ops.map (·.dst)) S (C.map (gA ops)) T H nx K)
    (hQ:∀ E' T' H' nx' a' w',Ext E₀ w₀ E' w'→Sim E' N ⟨T',H',nx'⟩ a' w'→K T' H' nx'→Q .normal a' w'):(Code.region rid ops.toArray true).wpIn (FW rr) 0 P Q a w₀:=by
 refine wpIn_region_any hm ?_
 have hdr:({ w₀ with drawn:=w₀.drawn + 1 }:World).heap=w₀.heap:=rfl
 have hext:Ext E₀ w₀ E₀ { w₀ with drawn:=w₀.drawn + 1 }:=Ext.same hdr
 have hok:=ko hok
 have hfalse:∀ k,(Array.replicate ops.toArray.size false).getD k false=false:=by
  intro k
  simp only [Array.getD_eq_getD_getElem?,Array.getElem?_replicate]
  split <;> rfl
 have hrest:c9 C (Array.replicate ops.toArray.size false)=C:=List.filter_eq_self.2 (fun k _=>by rw [hfalse]; rfl)
 refine qt (C:=C) (K:=K) (S:=S) (E₀:=E₀) (w₀:=w₀) hvp hok hQ _ _ _ _ E₀ T H nx ⟨by simp,?_,hext,?_,fun _ _ _ _=>hs,by rw [hrest]; exact h⟩ (by rw [List.size_toArray]; unfold left; exact Nat.le_trans List.countP_le_length (by simp))
 ·intro j i h1; rw [hfalse] at h1; cases h1
 ·exact ⟨hS.env.drew,hS.heap.same hdr,hS.fresh,hS.round,hS.floor,hS.size,fun t=>(hS.tmps t).ext hext,hS.defers.ext hext⟩
end Go.Abs
namespace Go.Abs
open Go.RowKit
def awp (P:Program) (n:Nat):Code→Tm→Hp→Nat→CP→Prop
 | .skip,T,H,nx,K=>K .normal T H nx
 | .label _,T,H,nx,K=>K .normal T H nx
 | .region _ ops draw,T₀,H₀,nx₀,K=>∃ T H nx Hf,Gh T₀ H₀ nx₀ T H nx Hf∧match draw with
  | true=>(if cr false ops.toList=true then jY P n .draw (ops.toList.map (·.dst)) ops.toList T H nx (K .normal) else aR (cr true ops.toList) (jY P n (.fresh nx) (ops.toList.map (·.dst)) ops.toList T H nx (K .normal))) ∨
   (∃ vp C,VP vp∧pO vp n ops.toList C=true∧gz vp P n (ops.toList.map (·.dst)) (C.map fun k=>ops.toList.getD k default) T H nx (K .normal)) ∨
   ∃ vp bp C S,VP vp∧jT vp bp n ops.toList C=true∧Sub S H∧fq vp bp P n (ops.toList.map (·.dst)) S (C.map (gA ops.toList)) T H nx (K .normal)
  | false=>jY P n .text (ops.toList.map (·.dst)) ops.toList T H nx (K .normal)
 | .seq x y,T,H,nx,K=>awp P n x T H nx fun e T H nx=>aN e (awp P n y T H nx K) (K e T H nx)
 | .cond c x y,T,H,nx,K=>bf (ev T c) (awp P n x T H nx K) (awp P n y T H nx K)
 | .block id b,T,H,nx,K=>awp P n b T H nx fun e T H nx=>K (gX id e) T H nx
 | .loop b,T,H,nx,K=>bc (awp P n b) T H nx K
 | .exit id,T,H,nx,K=>K (.exit id) T H nx
 | .ret,T,H,nx,K=>K .ret T H nx
 | .rangeFunc g ps x y,T,H,nx,K=>RF P n (.rangeFunc g ps x y) T H nx K
 | _,_,_,_,_=>False
theorem dE {P:Program} {N:Nat}:∀ (c:Code) {T:Tm} {H:Hp} {nx:Nat} {K K':CP},awp P N c T H nx K→(∀ e T H nx,K e T H nx→K' e T H nx)→awp P N c T H nx K'
 | .skip,_,_,_,_,_,h,hK=>hK _ _ _ _ h
 | .label _,_,_,_,_,_,h,hK=>hK _ _ _ _ h
 | .exit _,_,_,_,_,_,h,hK=>hK _ _ _ _ h
 | .ret,_,_,_,_,_,h,hK=>hK _ _ _ _ h
 | .region _ ops draw,_,_,_,_,_,h,hK=>by
  obtain ⟨T,H,nx,Hf,hg,h⟩:=h
  refine ⟨T,H,nx,Hf,hg,?_⟩
  cases draw with
  | true =>
   simp only at h ⊢
   rcases h with h | ⟨vp,C,h0,h1,h3⟩ | ⟨vp,bp,C,S,h0,h1,hs,h3⟩
   ·left
    split
    ·rename_i hd; rw [if_pos hd] at h; exact ip (hK .normal) _ h
    ·rename_i hd; rw [if_neg hd] at h; exact ⟨h.1,ip (hK .normal) _ h.2⟩
   ·exact .inr (.inl ⟨vp,C,h0,h1,np (hK .normal) _ h3⟩)
   ·exact .inr (.inr ⟨vp,bp,C,S,h0,h1,hs,l6 (hK .normal) _ h3⟩)
  | false=>exact ip (hK .normal) _ h
 | .seq x y,_,_,_,K,K',h,hK=>by
  refine dE x h (fun e T H nx h=>?_)
  cases e with
  | normal=>exact dE y h hK
  | exit i=>exact hK _ _ _ _ h
  | ret=>exact hK _ _ _ _ h
 | .cond c x y,T,H,nx,K,K',h,hK=>by
  simp only [awp] at h ⊢
  unfold bf at h ⊢
  split at h
  ·exact ⟨fun hb=>dE x (h.1 hb) hK,fun hb=>dE y (h.2 hb) hK⟩
  ·exact h
 | .block id b,_,_,_,_,_,h,hK=>dE b h (fun e T H nx h=>hK _ _ _ _ h)
 | .loop b,T,H,nx,K,K',h,hK=>by
  obtain ⟨n,h⟩:=h
  refine ⟨n,?_⟩
  induction n generalizing T H nx with
  | zero=>exact h
  | succ n ih =>
   obtain ⟨T',H',nx',Hf,hw,h⟩:=h
   refine ⟨T',H',nx',Hf,hw,dE b h (fun e T H nx h=>?_)⟩
   cases e with
   | normal=>exact ih _ _ _ h
   | exit i=>exact hK _ _ _ _ h
   | ret=>exact hK _ _ _ _ h
 | .rangeFunc ..,_,_,_,_,_,h,hK=>h.mono hK
 | .scope _,_,_,_,_,_,h,_=>h
 | .goto _,_,_,_,_,_,h,_=>h
 | .refuse _,_,_,_,_,_,h,_=>h
theorem dr {P:Program} {N:Cfg} (hm:P.follows .mixedOrders=true):∀ (c:Code) {E:Env} {T:Tm} {H:Hp} {nx:Nat} {a:Act} {w:World} {K:CP},Sim E N ⟨T,H,nx⟩ a w →
    awp P N.n c T H nx K→c.wpIn (FW N.rd) 0 P (fg P N E w K) a w
 | .skip,_,_,_,_,_,_,_,hS,h=>wpIn_skip ⟨.normal,_,_,_,_,rfl,Ext.refl _ _,hS,h⟩
 | .label _,_,_,_,_,_,_,_,hS,h=>wpIn_label ⟨.normal,_,_,_,_,rfl,Ext.refl _ _,hS,h⟩
 | .exit i,_,_,_,_,_,_,_,hS,h=>wpIn_exit ⟨.exit i,_,_,_,_,rfl,Ext.refl _ _,hS,h⟩
 | .ret,_,_,_,_,_,_,_,hS,h=>wpIn_ret ⟨.ret,_,_,_,_,rfl,Ext.refl _ _,hS,h⟩
 | .region id ops draw,E₁,T₁,H₁,nx₁,a,w,K,hS₁,h=>by
  obtain ⟨T,H,nx,Hf,hg,h⟩:=h
  obtain ⟨E,he₁,hS⟩:=hS₁.ghost hg
  refine wpIn_mono (F:=FW N.rd) ?_ (fun e a w h=>fg.trans he₁ h)
  cases draw with
  | false=>exact wpIn_region_list (mB ops.toList hS h (fun E' T' H' nx' a' w' he hS' hk=>⟨.normal,E',T',H',nx',rfl,he,hS',hk⟩))
  | true =>
   simp only at h
   have key:∀ dm:DM,dm.isText=false→cr dm.fr.isSome ops.toList=true→(∀ m,dm.fr=some m→m=nx)→jY P N.n dm (ops.toList.map (·.dst)) ops.toList T H nx (K .normal)→(Code.region id ops true).wpIn (FW N.rd) 0 P (fg P N E w K) a w:=by
    intro dm hdm hok hm0 h
    obtain ⟨s,r,h0,h1,h2⟩:=l7 hdm ops.toList h
    have ht:Txt P N dm.fr ops.toList s r:=⟨h1,hok,by rw [h0]; exact hm0⟩
    have:=xu (rr:=N.rd) (rid:=id) (Q:=fg P N E w K) (a:=a) (w₀:=w) (E₀:=E) hm ht (by rw [h0]; exact hS) (fun E' a' w' he hS'=>⟨.normal,E',_,_,_,rfl,he,hS',h2⟩)
    rw [Array.toArray_toList] at this
    exact this
   rcases h with h | ⟨vp,C,h0,h1,h3⟩ | ⟨vp,bp,C,S,h0,h1,hs,h3⟩
   ·split at h
    ·rename_i hok
     exact key .draw rfl hok (fun m hm=>(by cases hm)) h
    ·exact key (.fresh nx) rfl h.1 (fun m hm=>by cases hm; rfl) h.2
   ·have:=yP (rr:=N.rd) (rid:=id) (Q:=fg P N E w K) (a:=a) (w₀:=w) (E₀:=E) hm h0 h1 hS h3 (fun E' T' H' nx' a' w' he hS' hk=>⟨.normal,E',T',H',nx',rfl,he,hS',hk⟩)
    rw [Array.toArray_toList] at this
    exact this
   ·have:=wH (rr:=N.rd) (rid:=id) (Q:=fg P N E w K) (a:=a) (w₀:=w) (E₀:=E) hm h0 h1 hS hs h3 (fun E' T' H' nx' a' w' he hS' hk=>⟨.normal,E',T',H',nx',rfl,he,hS',hk⟩)
    rw [Array.toArray_toList] at this
    exact this
 | .seq x y,E,T,H,nx,a,w,K,hS,h=>by
  refine wpIn_seq (wpIn_mono (dr hm x hS h) ?_)
  rintro e a' w' ⟨z,E',T',H',nx',rfl,he,hS',hk⟩
  cases z with
  | normal=>exact wpIn_mono (dr hm y hS' hk) (fun e a w h=>h.trans he)
  | exit i=>exact ⟨.exit i,E',T',H',nx',rfl,he,hS',hk⟩
  | ret=>exact ⟨.ret,E',T',H',nx',rfl,he,hS',hk⟩
 | .cond c x y,E,T,H,nx,a,w,K,hS,h=>by
  simp only [awp] at h
  unfold bf at h
  split at h
  ·rename_i b hb
   have hr:=gK (E:=E) (w:=w) (a:=a) hS.tmps c
   simp only at hr
   rw [hb] at hr
   generalize hv:a.eval c=v at hr
   cases hr
   exact wpIn_cond_split hv (fun hb=>dr hm x hS (h.1 hb)) (fun hb=>dr hm y hS (h.2 hb))
  ·exact h.elim
 | .block id b,E,T,H,nx,a,w,K,hS,h=>by
  refine wpIn_block (wpIn_mono (dr hm b hS h) ?_)
  rintro e a' w' ⟨z,E',T',H',nx',rfl,he,hS',hk⟩
  cases z with
  | normal=>exact ⟨.normal,E',T',H',nx',rfl,he,hS',hk⟩
  | exit i =>
   simp only [AEx.cv,Exit.inBlock]
   split
   ·rename_i hi
    refine ⟨.normal,E',T',H',nx',rfl,he,hS',?_⟩
    simp only [gX,if_pos hi] at hk; exact hk
   ·rename_i hi
    refine ⟨.exit i,E',T',H',nx',rfl,he,hS',?_⟩
    simp only [gX,if_neg hi] at hk; exact hk
  | ret=>exact ⟨.ret,E',T',H',nx',rfl,he,hS',hk⟩
 | .loop b,E,T,H,nx,a,w,K,hS,h=>by
  obtain ⟨n,h⟩:=h
  refine wpIn_loop_rounds n ?_
  have key:∀ n (E':Env) T H nx a w',Ext E w E' w'→Sim E' N ⟨T,H,nx⟩ a w'→kG (awp P N.n b) K n T H nx→Code.roundsIn (FW N.rd) 0 P b (fg P N E w K) n a w':=by
   intro n
   induction n with
   | zero=>intro E' T H nx a w' _ _ h; exact h
   | succ n ih =>
    intro E' T H nx a w' he hS h
    obtain ⟨T',H',nx',Hf,hwk,h⟩:=h
    obtain ⟨E₁,he₁,hS₁⟩:=hS.ghost hwk
    refine wpIn_mono (dr hm b hS₁ h) ?_
    rintro e a' w'' ⟨z,E'',T'',H'',nx'',rfl,he',hS',hk⟩
    cases z with
    | normal=>exact ih E'' _ _ _ _ _ ((he.trans he₁).trans he') hS' hk
    | exit i=>exact ⟨.exit i,E'',T'',H'',nx'',rfl,(he.trans he₁).trans he',hS',hk⟩
    | ret=>exact ⟨.ret,E'',T'',H'',nx'',rfl,(he.trans he₁).trans he',hS',hk⟩
  exact key n E T H nx a w (Ext.refl _ _) hS h
 | .rangeFunc ..,_,_,_,_,_,_,_,hS,h=>h N _ _ _ rfl hS
 | .scope _,_,_,_,_,_,_,_,_,h=>h.elim
 | .goto _,_,_,_,_,_,_,_,_,h=>h.elim
 | .refuse _,_,_,_,_,_,_,_,_,h=>h.elim
end Go.Abs
namespace Go.Abs
open Go.RowKit
def g8 (P:Program) (T:Tm) (H:Hp):List ResultVar→Option (List AV)
 | []=>some []
 | .tmp t :: l=>match g8 P T H l with | some xs=>some (T t :: xs) | none=>none
 | .cell a t :: l=>match fV P H t (T a),g8 P T H l with | some x,some xs=>some (x :: xs) | _,_=>none
def jp (P:Program) (T:Tm) (H:Hp) (l:List ResultVar):Option AV:=match g8 P T H l with
 | some [x]=>some x
 | some xs=>some (.tup xs)
 | none=>none
def Cells (w w':World):Prop:=∀ a v,w.cell? a=some v→w'.cell? a=some v
theorem ql {P:Program} {E:Env} {H:Hp} {nx:Nat} {w:World} (hh:HeapOk E H nx w) {p:AV} {v:Value} (hr:Rel E w p v) {t:TypeId} {x:AV} (hx:fV P H t p=some x) :
    ∃ y,(∀ w',Cells w w'→(do loadVar t (← asAddr v):Sem Value).run P w'=.ok y w')∧Rel E w x y:=by
 unfold fV at hx
 split at hx
 case isFalse=>cases hx
 case isTrue ht =>
  split at hx
  case isTrue hagg =>
   split at hx
   case isFalse=>cases hx
   case isTrue hpos =>
    cases hrd:rd H (P.cellsOf t) p with
    | none=>simp [hrd] at hx
    | some xs =>
     simp [hrd] at hx
     subst hx
     obtain ⟨blk,o,vals,rfl,hlen,hrow⟩:=pL hh hr hrd hpos
     refine ⟨.agg vals.toArray,fun w' hw=>?_,.agg xs vals hrow.len hrow.rel⟩
     have hl:vals.length=P.cellsOf t:=hrow.len.trans hlen
     simp only [asAddr,loadVar,Sem.run_bind,Sem.run_pure,Result.andThen_ok,ed ht,hagg,if_true,aJ ht,← hl]
     rw [run_loadCells_list (P:=P) (w:=w') ⟨blk,o,none⟩ vals (fun j v hv=>by rw [bz]; exact hw _ _ (hrow.cell _ _ hv))]
     rfl
  case isFalse hagg =>
   obtain ⟨blk,o,y,rfl,hc,hrel⟩:=oo hh hr hx
   refine ⟨y,fun w' hw=>?_,hrel⟩
   simp [asAddr,loadVar,ed ht,hagg,hw _ _ hc]
theorem lW {P:Program} {E:Env} {w:World} {H:Hp} {nx:Nat} {T:Tm} {tmps:Array Value} (hh:HeapOk E H nx w) (ht:∀ t,Rel E w (T t) (tmps.getD t Go.undef)):∀ (l:List ResultVar) (xs:List AV),g8 P T H l=some xs →
    ∃ vs,(∀ w',Cells w w'→(l.mapM (fun r:ResultVar=>match r with | .tmp t=>(pure (tmps.getD t Go.undef):Sem Value) | .cell a t=>do loadVar t (← asAddr (tmps.getD a Go.undef)))).run P w'=.ok vs w')∧bS E w xs vs
 | [],xs,h=>by cases h; exact ⟨[],fun _ _=>rfl,rfl,by simp⟩
 | .tmp t :: l,xs,h=>by
  simp only [g8] at h
  split at h
  ·rename_i ys hy
   cases h
   obtain ⟨vs,h1,h2⟩:=lW (P:=P) hh ht l ys hy
   refine ⟨tmps.getD t Go.undef :: vs,fun w' hw=>?_,by simp [h2.1],fun i x y hx hy=>?_⟩
   ·rw [List.mapM_cons]
    simp only [Sem.run_bind,Sem.run_pure,Result.andThen_ok,h1 w' hw]
   ·cases i with
    | zero=>simp at hx hy; subst hx; rw [← hy]; have:=ht t; simpa using this
    | succ i=>exact h2.2 i x y (by simpa using hx) (by simpa using hy)
  ·cases h
 | .cell a t :: l,xs,h=>by
  simp only [g8] at h
  split at h
  ·rename_i x0 ys hx0 hy
   cases h
   obtain ⟨vs,h1,h2⟩:=lW (P:=P) hh ht l ys hy
   obtain ⟨y0,k1,k2⟩:=ql (P:=P) hh (ht a) hx0
   refine ⟨y0 :: vs,fun w' hw=>?_,by simp [h2.1],fun i x y hx hy=>?_⟩
   ·rw [List.mapM_cons,Sem.run_bind]
    have:=k1 w' hw
    rw [this]
    simp only [Sem.run_bind,Sem.run_pure,Result.andThen_ok,h1 w' hw]
   ·cases i with
    | zero=>simp at hx hy; subst hx; rw [← hy]; exact k2
    | succ i=>exact h2.2 i x y (by simpa using hx) (by simpa using hy)
  ·cases h
theorem tN {P:Program} {E:Env} {w:World} {H:Hp} {nx:Nat} {T:Tm} {tmps:Array Value} {fn:Func} {x:AV} (hh:HeapOk E H nx w) (ht:∀ t,Rel E w (T t) (tmps.getD t Go.undef)) (h:jp P T H fn.results.toList=some x) :
    ∃ v,(∀ w',Cells w w'→(results fn tmps).run P w'=.ok v w')∧Rel E w x v:=by
 have key:∀ xs,g8 P T H fn.results.toList=some xs→∃ vs:Array Value,(∀ w',Cells w w'→(results fn tmps).run P w'=.ok (if h:vs.size=1 then vs[0] else .tuple vs) w')∧bS E w xs vs.toList:=by
  intro xs hx
  obtain ⟨vs,h1,h2⟩:=lW (P:=P) hh ht _ _ hx
  refine ⟨vs.toArray,fun w' hw=>?_,h2⟩
  have e:results fn tmps=(do
      let vs ← (List.toArray <$> fn.results.toList.mapM (fun r:ResultVar=>match r with | .tmp t=>(pure (tmps.getD t Go.undef):Sem Value) | .cell a t=>do loadVar t (← asAddr (tmps.getD a Go.undef))):Sem (Array Value))
      pure (if h:vs.size=1 then vs[0] else .tuple vs)):=by
   unfold results
   rw [Array.mapM_eq_mapM_toList]
   rfl
  rw [e,map_eq_pure_bind]
  simp only [Sem.run_bind,h1 w' hw,Result.andThen_ok,Sem.run_pure]
 unfold jp at h
 split at h
 ·rename_i y hy
  cases h
  obtain ⟨vs,h1,h2⟩:=key _ hy
  have hs:vs.size=1:=by have:=h2.1; simpa using this
  refine ⟨vs[0],fun w' hw=>by rw [h1 w' hw,dif_pos hs],h2.2 0 _ _ rfl (by simp [hs])⟩
 ·rename_i xs hne hy
  cases h
  obtain ⟨vs,h1,h2⟩:=key _ hy
  have hs:vs.size ≠ 1:=by
   intro hs
   have:=h2.1
   rw [Array.length_toList,hs] at this
   match xs,this,hne with
   | [x],_,hne=>exact hne x rfl
  refine ⟨.tuple vs,fun w' hw=>by rw [h1 w' hw,dif_neg hs],?_⟩
  exact Rel.tup _ vs.toList h2.1 h2.2
 ·cases h
theorem Rel.world {E:Env} {w w':World} (hc:∀ a v,w.cell? a=some v→w'.cell? a=some v) {x:AV} {v:Value} (h:Rel E w x v):Rel E w' x v:=by
 induction h with
 | undef v=>exact .undef v
 | bool b=>exact .bool b
 | int k n=>exact .int k n
 | str s=>exact .str s
 | nilp=>exact .nilp
 | nilf=>exact .nilf
 | yld b l h=>exact .yld b l h
 | mp b k h=>exact .mp b k h
 | nilm=>exact .nilm
 | itr b k h=>exact .itr b k h
 | ptr b n off blk sz h=>exact .ptr b n off blk sz h
 | iptr cells off blk o vals h1 h2 _ ih=>exact .iptr cells off blk o vals h1 (fun i h=>hc _ _ (h2 i h)) ih
 | eslnil=>exact .eslnil
 | esl a=>exact .esl a
 | slnil sz=>exact .slnil sz
 | slempty sz a c=>exact .slempty sz a c
 | sl sz elems blk o cap vals h1 hlen hsz h2 _ ih=>exact .sl sz elems blk o cap vals h1 hlen hsz (fun i h=>hc _ _ (h2 i h)) ih
 | msl b n sz off len blk bsz cap h hl hc' hn=>exact .msl b n sz off len blk bsz cap h hl hc' hn
 | msl0 b sz v h=>exact .msl0 b sz v h
 | func f caps cv hl _ ih=>exact .func f caps cv hl ih
 | bfn f caps cv hl _ ih=>exact .bfn f caps cv hl ih
 | agg cs vs hl _ ih=>exact .agg cs vs hl ih
 | tup cs vs hl _ ih=>exact .tup cs vs hl ih
theorem og {w:World} {D:Nat} {o o':Obj} (hD:w.heap[D]?=some o) (hno:∀ c e f,o ≠ .cells c e f):∀ a v,w.cell? a=some v→(w.putObj D o').cell? a=some v:=by
 intro a v h
 have hne:a.block ≠ D:=by
  intro e
  unfold World.cell? at h
  rw [e,hD] at h
  split at h
  ·rename_i hh; cases hh; exact absurd rfl (hno _ _ _)
  ·cases h
 unfold World.cell? at h ⊢
 have:(w.putObj D o').heap[a.block]?=w.heap[a.block]?:=by
  simp only [World.putObj]
  exact Array.getElem?_setIfInBounds_ne (Ne.symm hne)
 rw [this]; exact h
theorem vI {P:Program} {w:World} {D:Nat} (hD:w.heap[D]?=some (.deferred (some []))):(Instr.takeDeferred D).run P w=.ok [] (w.putObj D (.deferred none)):=by
 unfold Instr.takeDeferred
 simp [getObj,setObj,Sem.run,hD,World.putObj,bind,Sem.bind,pure]
def wg (w w':World):Prop:=∀ (k:Nat) (o:Obj),w.heap[k]?=some o→(∀ ds,o ≠ .deferred ds)→w'.heap[k]?=some o
theorem jr {P:Program} {fn:Func} {tmps:Array Value} {R:Ending→World→Prop} {E:Env} {N:Cfg} {w₀:World} {v:Value} (hv:∀ w,Cells w₀ w→(results fn tmps).run P w=.ok v w)
    (hR:∀ w,Below E.base w₀ w→Below N.floor w₀ w→w.heap.size=w₀.heap.size→wg w₀ w→(∀ a v,w₀.cell? a=some v→w.cell? a=some v)→R (.returned v) w) :
    ∀ (ds:List Deferred) (w:World),kM E N w ds→Below E.base w₀ w→Below N.floor w₀ w→w.heap.size=w₀.heap.size→wg w₀ w→(∀ a v,w₀.cell? a=some v→w.cell? a=some v)→LeavesInM Fence.wide 0 P fn tmps R ds .returning w
 | [],w,_,hb,hb2,hs,hu,hc=>⟨v,hv w hc,hR w hb hb2 hs hu hc⟩
 | d :: ds,w,hm,hb,hb2,hs,hu,hc=>by
  obtain ⟨D,rfl,hD1,hD3,_,hD2⟩:=hm.2 d (by simp)
  have hpw:=List.pairwise_cons.1 hm.1
  have hne:∀ k,D ≠ k→(w.putObj D (.deferred none)).heap[k]?=w.heap[k]?:=fun k hk=>by
   simp only [World.putObj]
   exact Array.getElem?_setIfInBounds_ne hk
  refine ⟨by simp,.inl ⟨D,w.putObj D (.deferred none),rfl,vI hD2,jr (N:=N) hv hR ds _ ⟨hpw.2,fun d' hd'=>?_⟩ ?_ ?_ ?_ ?_ ?_⟩⟩
  ·obtain ⟨D',rfl,h2,h2',h3,h4⟩:=hm.2 d' (by simp [hd'])
   refine ⟨D',rfl,h2,h2',h3,?_⟩
   rw [hne D' (fun e=>hpw.1 _ hd' (by rw [e]))]; exact h4
  ·exact hb.trans ⟨rfl,rfl,rfl,by simp [World.putObj],fun k hk=>hne k (by omega)⟩
  ·exact hb2.trans ⟨rfl,rfl,rfl,by simp [World.putObj],fun k hk=>hne k (by omega)⟩
  ·simp [World.putObj,hs]
  ·intro k o ho hno
   have h1:=hu k o ho hno
   rw [hne k (fun e=>by subst e; rw [hD2] at h1; cases h1; exact hno _ rfl)]; exact h1
  ·exact fun a v h=>og hD2 (by intros; simp) a v (hc a v h)
theorem Rel.env {E E':Env} {w:World} (hi:E'.imm=E.imm) (hm:E'.mu=E.mu) (hs:E'.sp=E.sp) {x:AV} {v:Value} (h:Rel E w x v):Rel E' w x v :=
 h.mono (fun b hb=>by rw [hi]; exact hb) (fun b n x hb=>by rw [hm]; exact hb) (fun b x hb=>by rw [hs]; exact hb)
theorem tt {E E':Env} {w w₁ w':World} {H:Hp} {nx:Nat} (hE:EnvOk E w) (he:Ext E w E' w₁) (hE':EnvOk E' w₁) (hh:HeapOk E' H nx w₁) (hb:Below E'.base w₁ w') (hb2:Below w.heap.size w₁ w') (hs:w'.heap.size=w₁.heap.size) (hu:wg w₁ w') (hc:∀ a v,w₁.cell? a=some v→w'.cell? a=some v) :
    Ext E w { E' with dm:=E.dm } w'∧EnvOk { E' with dm:=E.dm } w'∧HeapOk { E' with dm:=E.dm } H nx w'∧∀ x v,Rel E' w₁ x v→Rel { E' with dm:=E.dm } w' x v:=by
 have hrel:∀ x v,Rel E' w₁ x v→Rel { E' with dm:=E.dm } w' x v:=fun x v h=>Rel.env (E:=E') (E':={ E' with dm:=E.dm }) rfl rfl rfl (h.world hc)
 have hmap:∀ {ks vs es clock},MapOk E' w₁ ks vs es clock→MapOk { E' with dm:=E.dm } w' ks vs es clock:=fun h =>
  ⟨h.len,h.len',fun i x e h1 h2=>hrel _ _ (h.key i x e h1 h2),fun i x e h1 h2=>hrel _ _ (h.val i x e h1 h2),h.born,h.clk⟩
 refine ⟨⟨he.base,he.w0,he.imm,he.new,he.mu,he.sp,he.lp,fun b hb'=>⟨hb',?_⟩,by rw [hs]; exact he.size,fun b hb'=>?_⟩,⟨fun b hb'=>by rw [hs]; exact hE'.lt b hb',hE'.below.trans hb,fun b hb'=>?_,hE'.spi,fun b k hk=>?_,hE'.spm,fun b r T hl=>?_⟩,⟨fun b cs hb'=>?_,hh.dom,hh.apart,by rw [hs]; exact hh.size,hh.top,fun b x hb' hx=>?_,hh.nsp⟩,hrel⟩
 ·rw [hb2.block b (hE.dlt hb'),(he.dm b hb').2]
 ·rw [hb2.block b (hE.lt b hb'),he.keep b hb']
 ·obtain ⟨ds,hd⟩:=hE.dm b hb'
  exact ⟨ds,by rw [hb2.block b (hE.dlt hb'),(he.dm b hb').2,hd]⟩
 ·obtain ⟨h1,h2,o,h3,h4,h5⟩:=hE'.spb b k hk
  exact ⟨h1,h2,o,hu k o h3 h5,h4,h5⟩
 ·obtain ⟨k,st,p,h1,h2,h3⟩:=hE'.lp b r T hl
  exact ⟨k,st,p,h1,hu _ _ h2 (by intro ds; simp),fun t=>hrel _ _ (h3 t)⟩
 ·rcases hh.box b cs hb' with hn | ⟨blk,sz,hx⟩
  ·exact .inl hn
  ·obtain ⟨vals,ty,fz,k1,kz,k2,k3,k4⟩:=hx.cells
   exact .inr ⟨blk,sz,hx.mu,hx.base,hx.imm,vals,ty,fz,hu _ _ k1 (by intro ds; simp),kz,k2,k3,fun i x hx'=>by
    obtain ⟨v,e1,e2,e3⟩:=k4 i x hx'
    exact ⟨v,e1,e2,hrel _ _ e3⟩⟩
 ·obtain ⟨k,h1,h2⟩:=hh.spec b x hb' hx
  refine ⟨k,h1,?_⟩
  cases x with
  | omap ks vs =>
   obtain ⟨es,clock,h3,h4⟩:=h2
   exact ⟨es,clock,hu _ _ h3 (by intro ds; simp),hmap h4⟩
  | oloop r T=>exact ⟨hu _ _ h2.1 (by intro ds; simp),h2.2⟩
  | oiter m n0 seen =>
   obtain ⟨km,last,h3,h4,h5⟩:=h2
   exact ⟨km,last,hu _ _ h3 (by intro ds; simp),h4,h5⟩
  | _=>exact h2.elim
def AEx.ends:AEx→Bool
 | .exit _=>false
 | _=>true
def T0 (args:List AV):Tm:=fun t=>args.getD t .undef
def oU (P:Program) (fn:Func) (args:List AV) (H:Hp) (nx:Nat) (K:AV→Hp→Nat→Prop):Prop :=
 ∃ c,fn.body=some c∧args.length ≤ fn.ntmps∧awp P fn.ntmps c (T0 args) H nx fun e T H nx=>aR e.ends (aE (jp P T H fn.results.toList) fun x=>K x H nx)
theorem x8 {E:Env} {w:World} {args:List AV} {vs:List Value} (h:bS E w args vs) (N:Nat):∀ t,Rel E w (T0 args t) ((vs.toArray ++ Array.replicate (N - vs.toArray.size) Go.undef).getD t Go.undef):=by
 intro t
 unfold T0
 by_cases hlt:t < args.length
 ·have h1:args.getD t .undef=args[t]:=by simp [List.getD,hlt]
  have hv:t < vs.length:=by rw [h.1]; exact hlt
  have h2:(vs.toArray ++ Array.replicate (N - vs.toArray.size) Go.undef).getD t Go.undef=vs[t]:=by
   simp [Array.getElem?_append,hv]
  rw [h1,h2]
  exact h.2 t _ _ (by simp) (by simp)
 ·have h1:args.getD t .undef=.undef:=by
    simp only [List.getD]
    rw [List.getElem?_eq_none (by omega)]
    rfl
  rw [h1]
  exact .undef _
theorem rT {P:Program} {f:FuncId} {fn:Func} {args:List AV} {H:Hp} {nx:Nat} {K:AV→Hp→Nat→Prop} (hm:P.follows .mixedOrders=true) (hf:P.funcs[f]?=some fn) (hb:oU P fn args H nx K)
    {E:Env} {w:World} {vs:List Value} (hE:EnvOk E w) (hh:HeapOk E H nx w) (hfr:bA E nx) (hv:bS E w args vs) :
    Calls P f vs.toArray w fun e w'=>∃ v E' r H' nx',e=.returned v∧Ext E w E' w'∧EnvOk E' w'∧HeapOk E' H' nx' w'∧bA E' nx'∧Rel E' w' r v∧K r H' nx':=by
 obtain ⟨c,hc,hlen,h⟩:=hb
 refine (callsIn_wide (n:=0)).1 (callsIn_of_wp_marks hf hc trivial ?_)
 have hS:Sim E ⟨fn.ntmps,w.heap.size,none⟩ ⟨T0 args,H,nx⟩ { tmps:=vs.toArray ++ Array.replicate (fn.ntmps - vs.toArray.size) Go.undef,defers:=[] } w:=by
  refine ⟨hE,hh,hfr,fun l hl=>(by cases hl),Nat.le_refl _,?_,x8 hv _,⟨List.Pairwise.nil,fun d hd=>(by cases hd)⟩⟩
  simp [hv.1]; omega
 refine wpIn_mono (F:=Fence.wide) (dr hm c hS h) ?_
 rintro e a' w₁ ⟨x,E',T,H',nx',rfl,he,hS',hk⟩
 obtain ⟨hx,hk⟩:=hk
 cases hr:jp P T H' fn.results.toList with
 | none=>rw [hr] at hk; exact hk.elim
 | some r =>
  rw [hr] at hk
  obtain ⟨v,h1,h2⟩:=tN (P:=P) hS'.heap hS'.tmps hr
  have:LeavesInM Fence.wide 0 P fn a'.tmps (fun e w'=>∃ v E' r H' nx',e=.returned v∧Ext E w E' w'∧EnvOk E' w'∧HeapOk E' H' nx' w'∧bA E' nx'∧Rel E' w' r v∧K r H' nx') a'.defers .returning w₁:=by
   refine jr (E:=E') (N:=⟨fn.ntmps,w.heap.size,none⟩) (w₀:=w₁) h1 (fun w' hb hb2 hs hu hc=>?_) a'.defers w₁ hS'.defers (Below.refl _ _) (Below.refl _ _) rfl (fun _ _ h _=>h) (fun _ _ h=>h)
   obtain ⟨k1,k2,k3,k4⟩:=tt hE he hS'.env hS'.heap hb hb2 hs hu hc
   exact ⟨v,_,r,H',nx',rfl,k1,k2,k3,hS'.fresh,k4 _ _ h2,hk⟩
  cases x with
  | normal=>exact this
  | ret=>exact this
  | exit i=>cases hx
theorem Fn.of_body {P:Program} {f:FuncId} {fn:Func} {args:List AV} {H:Hp} {nx:Nat} {K:AV→Hp→Nat→Prop} (hm:P.follows .mixedOrders=true) (hf:P.funcs[f]?=some fn) (hc:cok P f=true) (hb:oU P fn args H nx K):Fn P f args H nx K :=
 ⟨hc,fun E w vs hE hh hfr hv=>rT hm hf hb hE hh hfr hv⟩
theorem Pure.of_fn {P:Program} {f:FuncId} {args:List AV} {r:AV} (h:Fn P f args a9 0 fun x H nx=>Snap H x r):Pure P f args r:=by
 refine ⟨h.1,fun imm w vs hi hv=>?_⟩
 let E:Env:=⟨w.heap.size,w,imm,fun _ _=>none,fun _=>none,fun _=>none,fun _=>False⟩
 have hE:EnvOk E w:=⟨hi,Below.refl _ _,fun _ h=>h.elim,fun _ _ _ h=>(by cases h),fun _ _ h=>(by cases h),fun _ _ h=>(by cases h),fun _ _ _ h=>(by cases h)⟩
 have hv':bS E w args vs:=⟨hv.1,fun i x y hx hy=>Rel.mono (E:=E0 imm) (E':=E) (fun _ h=>h) (fun _ _ _ h=>h) (fun _ _ h=>h) (hv.2 i x y hx hy)⟩
 refine (h.2 E w vs hE (HeapOk.noBox (Nat.le_refl _)) (fun _ _=>⟨fun _=>rfl,rfl,rfl⟩) hv').mono ?_
 rintro e w' ⟨v,E',x,H',nx',rfl,he,hE',hh',hfr',hrel,hs⟩
 refine ⟨v,fun b=>E'.imm b ∨ dU E' H' b,rfl,?_,fun b hb=>.inl (he.imm b hb),?_,?_,hs.sound hh' hrel⟩
 ·have:=hE'.below; rw [he.base,he.w0] at this; exact this
 ·rintro b (hb | ⟨b',cs,sz,h1,h2⟩)
  ·exact he.new b hb
  ·have:=(hh'.blk_lt h1 h2).2.1
   rw [he.base] at this
   exact .inr this
 ·rintro b (hb | ⟨b',cs,sz,h1,h2⟩)
  ·exact hE'.lt b hb
  ·exact (hh'.blk_lt h1 h2).1
theorem fw.of_fn {P:Program} {f:FuncId} {args:List AV} {r:AV} (h:Fn P f args a9 0 fun x H nx=>SnapF H x r):fw P f args r:=by
 refine ⟨h.1,fun imm w vs hi hv=>?_⟩
 let E:Env:=⟨w.heap.size,w,imm,fun _ _=>none,fun _=>none,fun _=>none,fun _=>False⟩
 have hE:EnvOk E w:=⟨hi,Below.refl _ _,fun _ h=>h.elim,fun _ _ _ h=>(by cases h),fun _ _ h=>(by cases h),fun _ _ h=>(by cases h),fun _ _ _ h=>(by cases h)⟩
 have hv':bS E w args vs:=⟨hv.1,fun i x y hx hy=>Rel.mono (E:=E0 imm) (E':=E) (fun _ h=>h) (fun _ _ _ h=>h) (fun _ _ h=>h) (hv.2 i x y hx hy)⟩
 refine (h.2 E w vs hE (HeapOk.noBox (Nat.le_refl _)) (fun _ _=>⟨fun _=>rfl,rfl,rfl⟩) hv').mono ?_
 rintro e w' ⟨v,E',x,H',nx',rfl,he,hE',hh',hfr',hrel,hs⟩
 refine ⟨v,fun b=>dU E' H' b,rfl,?_,?_,?_,hs.sound hh' hrel⟩
 ·have:=hE'.below; rw [he.base,he.w0] at this; exact this
 ·rintro b ⟨b',cs,sz,h1,h2⟩
  have:=(hh'.blk_lt h1 h2).2.1
  rw [he.base] at this
  exact this
 ·rintro b ⟨b',cs,sz,h1,h2⟩
  exact (hh'.blk_lt h1 h2).1
theorem Pure.of_body {P:Program} {f:FuncId} {fn:Func} {args:List AV} {r:AV} (hm:P.follows .mixedOrders=true) (hf:P.funcs[f]?=some fn) (hc:cok P f=true) (hb:oU P fn args a9 0 fun x H nx=>Snap H x r):Pure P f args r :=
 Pure.of_fn (Fn.of_body hm hf hc hb)
end Go.Abs
namespace Go.Abs
open Go.RowKit
def bN (H:Hp) (b:Nat):Hp:=fun x=>if x=b then none else H x
theorem f8 {H:Hp} {b:Nat}:bN H b b=none:=by simp [bN]
theorem iw {H:Hp} {b x:Nat} {cs:List AV} (h:bN H b x=some cs):x ≠ b∧H x=some cs:=by
 unfold bN at h; split at h
 ·cases h
 ·exact ⟨‹_›,h⟩
theorem HeapOk.del {E:Env} {H:Hp} {nx:Nat} {w:World} (h:HeapOk E H nx w) (b:Nat):HeapOk E (bN H b) nx w :=
 h.fewer (fun _ _ hb=>(iw hb).2) (fun x cs hb=>h.dom x cs (iw hb).2)
theorem oJ {E:Env} {H:Hp} {nx:Nat} {w:World} (hE:EnvOk E w) (hh:HeapOk E H nx w) {b k:Nat} {o o':Obj} (hs:E.sp b=some k) (ho:w.heap[k]?=some o)
    (hc:fl o=false) (hc':fl o'=false) (hd:∀ ds,o ≠ .deferred ds) (hd':∀ ds,o' ≠ .deferred ds)
    (hl:∀ r T,E.lp b=some (r,T)→∃ st p,o'=.loop { r with state:=st,pending:=p }) (hH:∀ x,H b=some [x]→x.special=false) :
    Ext E w E (w.putObj k o')∧EnvOk E (w.putObj k o')∧HeapOk E H nx (w.putObj k o'):=by
 obtain ⟨hbase,himm,_⟩:=hE.spb b k hs
 have hlt:k < w.heap.size:=(Array.getElem?_eq_some_iff.1 ho).1
 have hne:∀ k',k' ≠ k→(w.putObj k o').heap[k']?=w.heap[k']?:=fun k' h=>World.putObj_heap_other h
 have hself:(w.putObj k o').heap[k]?=some o':=World.putObj_heap_same hlt
 have hcell:∀ blk vals ty fz,w.heap[blk]?=some (.cells vals ty fz)→blk ≠ k:=fun blk vals ty fz h e=>by
  subst e; rw [ho] at h; cases h; cases hc
 have hcs:∀ a v,w.cell? a=some v→(w.putObj k o').cell? a=some v:=og ho (by
  intro c e f e'; subst e'; cases hc)
 have he:Ext E w E (w.putObj k o'):=⟨rfl,rfl,fun _ h=>h,fun _ h=>.inl h,fun _ _ _ h=>h,fun _ _ h=>h,fun _ _ h=>h,fun b' hb'=>⟨hb',hne b' (fun e=>by
  subst e; obtain ⟨ds,hds⟩:=hE.dm _ hb'; rw [ho] at hds; cases hds; exact hd _ rfl)⟩,by simp,fun b' hb'=>hne b' (fun e=>himm (e ▸ hb'))⟩
 have hspE:∀ b' x,b' ≠ b→∀ k',E.sp b'=some k'→pk E w b' k' x→pk E (w.putObj k o') b' k' x:=by
  intro b' x hb' k' hk' h
  have hkk:k' ≠ k:=fun e=>hb' (hE.spi b' b k (by rw [← e]; exact hk') hs)
  cases x with
  | omap ks vs =>
   obtain ⟨es,clock,h1,h2⟩:=h
   exact ⟨es,clock,(hne _ hkk).trans h1,h2.ext he⟩
  | oloop r T=>exact ⟨(hne _ hkk).trans h.1,h.2⟩
  | oiter m n0 seen =>
   obtain ⟨km,last,h1,h2,h3⟩:=h
   exact ⟨km,last,(hne _ hkk).trans h1,h2,h3⟩
  | _=>exact h.elim
 refine ⟨he,⟨fun b' hb'=>by simpa using hE.lt b' hb',hE.below.trans ⟨rfl,rfl,rfl,by simp,fun k' hk'=>hne k' (by omega)⟩,fun b' hb'=>?_,hE.spi,fun b' k' hk'=>?_,hE.spm,fun b' r T hl'=>?_⟩,
  ⟨fun b' cs hb'=>?_,hh.dom,hh.apart,by simpa using hh.size,hh.top,fun b' x hb' hx=>?_,hh.nsp⟩⟩
 ·obtain ⟨ds,hds⟩:=hE.dm b' hb'
  exact ⟨ds,by rw [(he.dm b' hb').2]; exact hds⟩
 ·obtain ⟨h1,h2,o1,h3,h4,h5⟩:=hE.spb b' k' hk'
  by_cases hkk:k'=k
  ·subst hkk; exact ⟨h1,h2,o',hself,hc',hd'⟩
  ·exact ⟨h1,h2,o1,(hne _ hkk).trans h3,h4,h5⟩
 ·obtain ⟨k',st,p,h1,h2,h3⟩:=hE.lp b' r T hl'
  by_cases hkk:k'=k
  ·subst hkk
   obtain rfl:=hE.spi b' b _ h1 hs
   obtain ⟨st',p',rfl⟩:=hl r T hl'
   exact ⟨_,st',p',h1,hself,fun t=>(h3 t).world hcs⟩
  ·exact ⟨k',st,p,h1,(hne _ hkk).trans h2,fun t=>(h3 t).world hcs⟩
 ·rcases hh.box b' cs hb' with hn | ⟨blk,sz,hx⟩
  ·exact .inl hn
  ·obtain ⟨vals,ty,fz,k1,kz,k2,k3,k4⟩:=hx.cells
   exact .inr ⟨blk,sz,hx.mu,hx.base,hx.imm,vals,ty,fz,(hne _ (hcell _ _ _ _ k1)).trans k1,kz,k2,k3,fun i x hx'=>by
    obtain ⟨v,e1,e2,e3⟩:=k4 i x hx'
    exact ⟨v,e1,e2,e3.world hcs⟩⟩
 ·obtain ⟨k',h1,h2⟩:=hh.spec b' x hb' hx
  refine ⟨k',h1,hspE b' x (fun e=>?_) k' h1 h2⟩
  subst e; rw [hH x hb'] at hx; cases hx
theorem HeapOk.addSp {E:Env} {H:Hp} {nx:Nat} {w:World} (h:HeapOk E H nx w) {b k:Nat} {x:AV} (hb:b < nx) (hm:∀ n,E.mu b n=none) (hs:E.sp b=some k) (hx:pk E w b k x):HeapOk E (am H b [x]) nx w:=by
 refine ⟨fun b' cs hb'=>?_,fun b' cs hb'=>?_,fun b1 b2 cs1 cs2 blk1 sz1 blk2 sz2 hb1 hb2 hne m1 m2=>?_,h.size,fun b' cs m y hb' hm'=>?_,fun b' y hb' hy=>?_,fun b' hb'=>?_⟩
 ·rcases cW hb' with ⟨rfl,rfl⟩ | ⟨_,h1⟩
  ·exact .inl (hm _)
  ·exact h.box b' cs h1
 ·rcases cW hb' with ⟨rfl,rfl⟩ | ⟨_,h1⟩
  ·exact hb
  ·exact h.dom b' cs h1
 ·rcases cW hb1 with ⟨rfl,rfl⟩ | ⟨_,h1⟩
  ·rw [hm] at m1; cases m1
  ·rcases cW hb2 with ⟨rfl,rfl⟩ | ⟨_,h2⟩
   ·rw [hm] at m2; cases m2
   ·exact h.apart b1 b2 cs1 cs2 blk1 sz1 blk2 sz2 h1 h2 hne m1 m2
 ·rcases cW hb' with ⟨rfl,rfl⟩ | ⟨_,h1⟩
  ·rw [hm] at hm'; cases hm'
  ·exact h.top b' cs m y h1 hm'
 ·rcases cW hb' with ⟨rfl,e⟩ | ⟨_,h1⟩
  ·cases e; exact ⟨k,hs,hx⟩
  ·exact h.spec b' y h1 hy
 ·rcases cW hb' with ⟨rfl,e⟩ | ⟨_,h1⟩
  ·cases e
  ·exact h.nsp b' h1
theorem rP {E:Env} {H:Hp} {nx:Nat} {w:World} (hE:EnvOk E w) (hh:HeapOk E H nx w) (hf:gC E nx) (o:Obj) (hc:fl o=false) (hd:∀ ds,o ≠ .deferred ds) :
    ∃ E',E'={ E with sp:=fun b=>if b=nx then some w.heap.size else E.sp b }∧Ext E w E' (w.alloc o)∧EnvOk E' (w.alloc o)∧HeapOk E' H (nx + 1) (w.alloc o)∧E'.sp nx=some w.heap.size∧(w.alloc o).heap[w.heap.size]?=some o:=by
 let E':Env:={ E with sp:=fun b=>if b=nx then some w.heap.size else E.sp b }
 have hspo:∀ b,b ≠ nx→E'.sp b=E.sp b:=fun b hb=>if_neg hb
 have hself:E'.sp nx=some w.heap.size:=if_pos rfl
 have hspm:∀ b x,E.sp b=some x→E'.sp b=some x:=fun b x hb=>by rw [hspo b (fun e=>by subst e; rw [hf.2.1] at hb; cases hb)]; exact hb
 have hext:Ext E w E' (w.alloc o) :=
  ⟨rfl,rfl,fun _ h=>h,fun _ h=>.inl h,fun _ _ _ h=>h,hspm,fun _ _ h=>h,fun _ h=>⟨h,bq (hE.dlt h)⟩,by simp,fun b hb=>bq (hE.lt b hb)⟩
 have hnew:(w.alloc o).heap[w.heap.size]?=some o:=World.alloc_heap_new w o
 have hst:=cQ.alloc w o
 refine ⟨E',rfl,hext,⟨fun b hb=>?_,hE.below.trans ((Below.refl _ _).alloc hh.size o),fun b hb=>?_,fun b b' k h1 h2=>?_,fun b k hk=>?_,fun b k hk n=>?_,fun b r T hl=>?_⟩,
  ⟨fun b cs hb=>?_,fun b cs hb=>Nat.lt_succ_of_lt (hh.dom b cs hb),hh.apart,by simpa using Nat.le_succ_of_le hh.size,hh.top,fun b x hb hx=>?_,fun b hb=>?_⟩,hself,hnew⟩
 ·have:=hE.lt b hb; simp; omega
 ·obtain ⟨ds,h⟩:=hE.dm b hb; exact ⟨ds,hst _ _ h rfl⟩
 ·by_cases hb:b=nx
  ·subst hb
   rw [hself] at h1; cases h1
   by_cases hb':b'=b
   ·exact hb'.symm
   ·rw [hspo b' hb'] at h2; have:=hE.splt h2; omega
  ·rw [hspo b hb] at h1
   by_cases hb':b'=nx
   ·subst hb'; rw [hself] at h2; cases h2; have:=hE.splt h1; omega
   ·rw [hspo b' hb'] at h2; exact hE.spi b b' k h1 h2
 ·by_cases hb:b=nx
  ·subst hb; rw [hself] at hk; cases hk
   exact ⟨hh.size,fun hi=>by have:=hE.lt _ hi; omega,o,hnew,hc,hd⟩
  ·rw [hspo b hb] at hk
   obtain ⟨h1,h2,o1,h3,h4,h5⟩:=hE.spb b k hk
   exact ⟨h1,h2,o1,hst _ _ h3 h4,h4,h5⟩
 ·by_cases hb:b=nx
  ·subst hb; exact hf.1 n
  ·rw [hspo b hb] at hk; exact hE.spm b k hk n
 ·obtain ⟨k,st,p,h1,h2,h3⟩:=hE.lp b r T hl
  exact ⟨k,st,p,hspm _ _ h1,hst _ _ h2 rfl,fun t=>(h3 t).ext hext⟩
 ·rcases hh.box b cs hb with hn | ⟨blk,sz,hx⟩
  ·exact .inl hn
  ·obtain ⟨vals,ty,fz,k1,kz,k2,k3,k4⟩:=hx.cells
   exact .inr ⟨blk,sz,hx.mu,hx.base,hx.imm,vals,ty,fz,(bq (Array.getElem?_eq_some_iff.1 k1).1).trans k1,kz,k2,k3,fun i x hx'=>by
    obtain ⟨v,e1,e2,e3⟩:=k4 i x hx'
    exact ⟨v,e1,e2,e3.ext hext⟩⟩
 ·obtain ⟨k,h1,h2⟩:=hh.spec b x hb hx
  exact ⟨k,hspm _ _ h1,h2.ext hext (fun k o _=>hst k o)⟩
 ·have:=hh.dom b _ hb
  rw [hspo b (by omega)]; exact hh.nsp b hb
def Yl (P:Program) (b:Nat) (args:List AV) (H:Hp) (nx:Nat) (K:AV→Hp→Nat→Prop):Prop :=
 ∀ (E:Env) (w:World) (vs:List Value),EnvOk E w→HeapOk E H nx w→bA E nx→bS E w args vs →
  ∃ l r,E.sp b=some l∧w.heap[l]?=some (.loop r)∧vs.length=r.params.size ∧
   RoundIn Fence.wide 0 P l r.fn ((r.params.zip vs.toArray).foldl (fun tmps (t,a)=>tmps.setIfInBounds t a) r.tmps) r.assign r.body w fun e w' =>
    ∃ v E' x H' nx',e=.returned v∧Ext E w E' w'∧EnvOk E' w'∧HeapOk E' H' nx' w'∧bA E' nx'∧Rel E' w' x v∧K x H' nx'
theorem Yl.mono {P:Program} {b:Nat} {args:List AV} {H:Hp} {nx:Nat} {K K':AV→Hp→Nat→Prop} (h:Yl P b args H nx K) (hK:∀ r H nx,K r H nx→K' r H nx):Yl P b args H nx K':=by
 intro E w vs h1 h2 h3 h4
 obtain ⟨l,r,k1,k2,k3,k4⟩:=h E w vs h1 h2 h3 h4
 refine ⟨l,r,k1,k2,k3,k4.mono ?_⟩
 rintro e w' ⟨v,E',x,H',nx',m1,m2,m3,m4,m5,m6,m7⟩
 exact ⟨v,E',x,H',nx',m1,m2,m3,m4,m5,m6,hK _ _ _ m7⟩
theorem p7 {P:Program} {f:Operand} {args:Array Operand} {ts:Array TypeId} {T:Tm} {H:Hp} {nx b:Nat} {K:AV→Hp→Nat→Prop} (hf:ev T f=.yld b) (h:Yl P b (args.toList.map (ev T)) H nx K) :
    cm P (.call { callee:=.value f,args:=args,argTypes:=ts }) T H nx K:=by
 refine ⟨by intro c; simp,?_⟩
 rintro rr E w a ⟨dst,op,type,pos,after,guard⟩ next Q ho hE hh hfr ht hn
 simp only at ho
 subst ho
 have hr:=ht f (by simp [Op.operands,Call.operands])
 rw [hf] at hr
 generalize hv:a.eval f=vf at hr
 cases hr with
 | yld _ l hl =>
 obtain ⟨l',r,k1,k2,k3,k4⟩:=h E w (args.toList.map a.eval) hE hh hfr (qN (E:=E) (w:=w) (T:=T) (a:=a) args.toList (fun x hx=>ht x (by simp only [Op.operands,Call.operands]; exact Array.mem_append.2 (.inr (by simpa using hx)))))
 rw [hl] at k1; cases k1
 have harr:args.map a.eval=(args.toList.map a.eval).toArray:=eT a.eval args
 have hrun:(execOp a.eval ⟨dst,.call { callee:=.value f,args:=args,argTypes:=ts },type,pos,after,guard⟩).run P w=.ok (.round l r.fn ((r.params.zip (args.toList.map a.eval).toArray).foldl (fun tmps (t,a)=>tmps.setIfInBounds t a) r.tmps) r.assign r.body) w:=by
  have hy:=run_yield (P:=P) (args:=(args.toList.map a.eval).toArray) k2 (by simpa using k3)
  unfold execOp
  simp only [resolve,hv,Deferred.ofValue,invoke,Sem.run_bind,Sem.run_pure,Result.andThen_ok,Array.empty_append]
  rw [harr]; exact hy
 rw [hrun,Oper.uponIn_round]
 refine ⟨(fun h=>by cases h),?_⟩
 refine (RoundIn.mono (F:=FW rr) (show RoundIn (FW rr) 0 P l r.fn _ r.assign r.body w _ from k4) ?_)
 rintro e w' ⟨v,E',x,H',nx',rfl,m2,m3,m4,m5,m6,m7⟩
 exact hn E' H' nx' x v w' m2 m3 m4 m5 m6 m7
def fB (T:Tm):List Nat→List AV→Tm
 | t :: ts,x :: xs=>fB (upd T t x) ts xs
 | _,_=>T
theorem ra {E:Env} {w:World}:∀ (ps:List Nat) (xs:List AV) (vs:List Value) (T:Tm) (tmps:Array Value),bS E w xs vs→(∀ t ∈ ps,t < tmps.size)→(∀ t,Rel E w (T t) (tmps.getD t Go.undef)) →
    ((ps.zip vs).foldl (fun tmps (t,a)=>tmps.setIfInBounds t a) tmps).size=tmps.size∧∀ t,Rel E w (fB T ps xs t) (((ps.zip vs).foldl (fun tmps (t,a)=>tmps.setIfInBounds t a) tmps).getD t Go.undef)
 | [],xs,vs,T,tmps,hl,hp,h=>by simp [fB]; exact fun t=>by simpa using h t
 | p :: ps,[],vs,T,tmps,hl,hp,h=>by
  have:vs=[]:=List.length_eq_zero_iff.1 hl.1
  subst this
  simp [fB]; exact fun t=>by simpa using h t
 | p :: ps,x :: xs,vs,T,tmps,hl,hp,h=>by
  cases vs with
  | nil=>have:=hl.1; simp at this
  | cons v vs =>
   have hx:Rel E w x v:=hl.2 0 x v rfl rfl
   have hl':bS E w xs vs:=⟨by have:=hl.1; simpa using this,fun i a b ha hb=>hl.2 (i + 1) a b (by simpa using ha) (by simpa using hb)⟩
   have:=ra ps xs vs (upd T p x) (tmps.setIfInBounds p v) hl' (fun t ht=>by simpa using hp t (by simp [ht])) (fun t=>by
    simp only [upd]
    split
    ·rename_i e; subst e
     have:t < tmps.size:=hp t (by simp)
     simp [this]; exact hx
    ·rename_i hne
     have e:(tmps.setIfInBounds p v).getD t Go.undef=tmps.getD t Go.undef:=by
      simp only [Array.getD_eq_getD_getElem?]
      rw [Array.getElem?_setIfInBounds_ne (Ne.symm hne)]
     rw [e]; exact h t)
   refine ⟨by simpa using this.1,fun t=>?_⟩
   simpa [fB] using this.2 t
structure Ready0 (n:Nat) (ps:Array Nat) (assign body:Code) (r:Loop):Prop where
 params:r.params=ps
 assign:r.assign=assign
 body:r.body=body
 state:r.state=.ready
 pending:r.pending=none
 size:r.tmps.size=n
def yI:AEx→Code
 | .exit i=>.exit i
 | _=>.ret
def oF (r:Loop) (T:Tm) (e:AEx):AV:=.oloop { r with state:=.done,pending:=some (yI e) } T
theorem jo {n:Nat} {ps:Array Nat} {assign body:Code} {r:Loop} (h:Ready0 n ps assign body r):{ r with state:=.ready,pending:=none }=r:=by
 have h1:=h.state
 have h2:=h.pending
 cases r
 simp only at h1 h2
 subst h1 h2
 rfl
theorem Yl.of_awp {P:Program} {n:Nat} {ps:Array Nat} {assign body:Code} {r:Loop} (hr:Ready0 n ps assign body r) (hm:P.follows .mixedOrders=true) (hps:∀ t ∈ ps.toList,t < n)
    {b:Nat} {args:List AV} {T:Tm} {H:Hp} {nx:Nat} {K:AV→Hp→Nat→Prop} (hb:H b=some [.oloop r T]) (hl:args.length=ps.size)
    (h:awp P n assign (fB T ps.toList args) H nx fun e T2 H2 nx2=>aN e (H2 b=some [.oloop r T]∧awp P n body T2 (bN H2 b) nx2 fun e T3 H3 nx3 =>
     aN e (K (.bool true) (am H3 b [.oloop r T]) nx3) (K (.bool false) (am H3 b [oF r T e]) nx3)) False):Yl P b args H nx K:=by
 intro E w vs hE hh hf hv
 obtain ⟨l,hs,hw,hlp⟩:=hh.spec b _ hb rfl
 have hlp:E.lp b=some (r,T):=by rw [← jo hr]; exact hlp
 obtain ⟨l',st,p,e1,e2,hT⟩:=hE.lp b r T hlp
 rw [hs] at e1; cases e1
 obtain ⟨hbase,himm,_⟩:=hE.spb b l hs
 refine ⟨l,r,hs,hw,by rw [hr.params,hv.1,hl],?_⟩
 refine roundIn_of_wpIn (F:=Fence.wide) trivial ?_
 have htm:=ra ps.toList args vs T r.tmps hv (fun t ht=>by rw [hr.size]; exact hps t ht) hT
 have hfold:(r.params.zip vs.toArray).foldl (fun tmps (t,a)=>tmps.setIfInBounds t a) r.tmps=(ps.toList.zip vs).foldl (fun tmps (t,a)=>tmps.setIfInBounds t a) r.tmps:=by
  rw [hr.params,← Array.foldl_toList]; simp
 rw [hfold,hr.assign,hr.body]
 have hS:Sim E ⟨n,0,some l⟩ ⟨fB T ps.toList args,H,nx⟩ { tmps:=(ps.toList.zip vs).foldl (fun tmps (t,a)=>tmps.setIfInBounds t a) r.tmps,defers:=[] } w :=
  ⟨hE,hh,hf,fun l' hl'=>by cases hl'; exact ⟨b,_,hlp,hs⟩,Nat.zero_le _,by rw [← hr.size]; exact htm.1,htm.2,⟨List.Pairwise.nil,fun d hd=>(by cases hd)⟩⟩
 have put:∀ (E1:Env) (H1:Hp) (nx1:Nat) (w1:World) (r1:Loop) (st:LoopState) (p:Option Code),Ext E w E1 w1→EnvOk E1 w1→HeapOk E1 H1 nx1 w1→w1.heap[l]?=some (.loop r1) →
     Ext E1 w1 E1 (w1.putObj l (.loop { r with state:=st,pending:=p }))∧EnvOk E1 (w1.putObj l (.loop { r with state:=st,pending:=p }))∧HeapOk E1 (bN H1 b) nx1 (w1.putObj l (.loop { r with state:=st,pending:=p })):=by
  intro E1 H1 nx1 w1 r1 st p he1 hE1 hh1 hw1
  refine oJ hE1 (hh1.del b) (he1.sp _ _ hs) hw1 rfl rfl (by intro ds; simp) (by intro ds; simp) (fun r' T' h'=>?_) (fun x hx=>?_)
  ·rw [he1.lp _ _ hlp] at h'; cases h'; exact ⟨st,p,rfl⟩
  ·rw [f8] at hx; cases hx
 have static:∀ (E1:Env) (w1:World),Ext E w E1 w1→EnvOk E1 w1→∃ st p,w1.heap[l]?=some (.loop { r with state:=st,pending:=p }):=by
  intro E1 w1 he1 hE1
  obtain ⟨l1,st1,p1,f1,f2,_⟩:=hE1.lp b r T (he1.lp _ _ hlp)
  rw [he1.sp _ _ hs] at f1; cases f1
  exact ⟨st1,p1,f2⟩
 refine wpIn_mono (F:=FW (some l)) (dr hm assign hS h) ?_
 rintro e a1 w1 ⟨x,E1,T1,H1,nx1,rfl,he1,hS1,hk⟩
 cases x with
 | exit i=>exact hk.elim
 | ret=>exact hk.elim
 | normal =>
 obtain ⟨hb1,hk⟩:=hk
 obtain ⟨l1,g1,g2,_⟩:=hS1.heap.spec b _ hb1 rfl
 rw [he1.sp _ _ hs] at g1; cases g1
 refine ⟨_,run_beginRound g2 hr.state,?_⟩
 have hbusy:({ r with state:=.busy }:Loop)={ r with state:=.busy,pending:=none }:=by have:=hr.pending; cases r; simp only at this; subst this; rfl
 rw [hbusy]
 obtain ⟨p1,p2,p3⟩:=put E1 H1 nx1 w1 r .busy none he1 hS1.env hS1.heap g2
 have hS2:Sim E1 ⟨n,0,some l⟩ ⟨T1,bN H1 b,nx1⟩ a1 (w1.putObj l (.loop { r with state:=.busy,pending:=none })) :=
  ⟨p2,p3,hS1.fresh,hS1.round,Nat.zero_le _,hS1.size,fun t=>(hS1.tmps t).ext p1,hS1.defers.ext p1⟩
 refine wpIn_mono (F:=FW (some l)) (dr hm body hS2 hk) ?_
 rintro e a3 w3 ⟨x,E3,T3,H3,nx3,rfl,he3,hS3,hk3⟩
 have he03:Ext E w E3 w3:=(he1.trans p1).trans he3
 obtain ⟨st3,pd3,hw3⟩:=static E3 w3 he03 hS3.env
 have hlt3:b < nx3:=by
  rcases Nat.lt_or_ge b nx3 with h | h
  ·exact h
  ·have:=(hS3.fresh b h).2.1
   rw [he03.sp _ _ hs] at this; cases this
 have hl3:=Array.getElem?_eq_some_iff.1 hw3
 have fin:∀ (st:LoopState) (jump:Option Code) (v:Bool),K (.bool v) (am H3 b [.oloop { r with state:=st,pending:=jump } T]) nx3→st=(if jump.isNone then .ready else .done)→v=jump.isNone →
     ∃ v' w',(Instr.endRound l jump).run P w3=.ok v' w'∧∃ v E' x H' nx',Ending.returned v'=.returned v∧Ext E w E' w'∧EnvOk E' w'∧HeapOk E' H' nx' w'∧bA E' nx'∧Rel E' w' x v∧K x H' nx':=by
  intro st jump v hK hst hv
  obtain ⟨q1,q2,q3⟩:=put E3 H3 nx3 w3 _ st jump he03 hS3.env hS3.heap hw3
  have q4:=q3.addSp (x:=.oloop { r with state:=st,pending:=jump } T) hlt3 (q2.spm b l (he03.sp _ _ hs)) (he03.sp _ _ hs) ⟨World.putObj_heap_same hl3.1,by
   have:=he03.lp _ _ hlp; rw [← jo hr] at this; exact this⟩
  have hH:am (bN H3 b) b [.oloop { r with state:=st,pending:=jump } T]=am H3 b [.oloop { r with state:=st,pending:=jump } T]:=by
   funext y; unfold am bN; split <;> rfl
  rw [hH] at q4
  refine ⟨_,_,run_endRound jump hw3,?_⟩
  subst hv
  refine ⟨.bool jump.isNone,E3,.bool jump.isNone,_,nx3,rfl,?_,?_,?_,hS3.fresh,.bool _,hK⟩
  ·subst hst; exact he03.trans q1
  ·subst hst; exact q2
  ·subst hst; exact q4
 cases x with
 | normal =>
  have hk3:K (.bool true) (am H3 b [.oloop r T]) nx3:=hk3
  rw [← jo hr] at hk3
  exact fin .ready none true hk3 rfl rfl
 | exit i=>exact fin .done (some (.exit i)) false hk3 rfl rfl
 | ret=>exact fin .done (some .ret) false hk3 rfl rfl
theorem y4 {E:Env} {H:Hp} {nx:Nat} {w:World} (hE:EnvOk E w) (hh:HeapOk E H nx w) :
    ∃ E',E'={ E with dm:=fun b=>E.dm b ∨ b=w.heap.size }∧Ext E w E' (w.alloc (.deferred (some [])))∧EnvOk E' (w.alloc (.deferred (some [])))∧HeapOk E' H nx (w.alloc (.deferred (some []))):=by
 let E':Env:={ E with dm:=fun b=>E.dm b ∨ b=w.heap.size }
 have hext:Ext E w E' (w.alloc (.deferred (some []))) :=
  ⟨rfl,rfl,fun _ h=>h,fun _ h=>.inl h,fun _ _ _ h=>h,fun _ _ h=>h,fun _ _ h=>h,fun b h=>⟨.inl h,bq (hE.dlt h)⟩,by simp,fun b hb=>bq (hE.lt b hb)⟩
 have hst:=cQ.alloc w (.deferred (some []))
 refine ⟨E',rfl,hext,⟨fun b hb=>?_,hE.below.trans ((Below.refl _ _).alloc hh.size _),fun b hb=>?_,hE.spi,fun b k hk=>?_,hE.spm,fun b r T hl=>?_⟩,?_⟩
 ·have:=hE.lt b hb; simp; omega
 ·rcases hb with hb | rfl
  ·obtain ⟨ds,h⟩:=hE.dm b hb; exact ⟨ds,hst _ _ h rfl⟩
  ·exact ⟨some [],World.alloc_heap_new w _⟩
 ·obtain ⟨h1,h2,o,h3,h4,h5⟩:=hE.spb b k hk
  exact ⟨h1,h2,o,hst _ _ h3 h4,h4,h5⟩
 ·obtain ⟨k,st,p,h1,h2,h3⟩:=hE.lp b r T hl
  exact ⟨k,st,p,h1,hst _ _ h2 rfl,fun t=>(h3 t).ext hext⟩
 ·exact hh.step hext (fun _ h=>.inl h) (Nat.le_refl _) (fun _ _ _ _=>rfl) (fun b cs blk sz hb hm=>bq (hh.blk_lt hb hm).1) hst rfl
theorem vB {E:Env} {H:Hp} {nx n:Nat} {w:World} (hE:EnvOk E w) (hh:HeapOk E H nx w) (hf:bA E nx) {r:Loop} {T:Tm} {ps:Array Nat} {assign body:Code} (hr:Ready0 n ps assign body r) (hT:∀ t,Rel E w (T t) (r.tmps.getD t Go.undef)) :
    ∃ E',Ext E w E' (w.alloc (.loop r))∧EnvOk E' (w.alloc (.loop r))∧HeapOk E' (am H nx [.oloop r T]) (nx + 1) (w.alloc (.loop r))∧bA E' (nx + 1)∧E'.sp nx=some w.heap.size∧E'.lp nx=some (r,T)∧E'.dm=E.dm:=by
 obtain ⟨E1,hE1,he,hE',hh',hs,hnew⟩:=rP hE hh (hf nx (Nat.le_refl _)) (.loop r) rfl (by intro ds; simp)
 let E2:Env:={ E1 with lp:=fun b=>if b=nx then some (r,T) else E1.lp b }
 have hlp1:E1.lp=E.lp:=by rw [hE1]
 have hlpo:∀ b x,E1.lp b=some x→E2.lp b=some x:=fun b x hb=>by
  show (if b=nx then some (r,T) else E1.lp b)=some x
  rw [if_neg (fun e=>by subst e; rw [hlp1,(hf b (Nat.le_refl _)).2.2] at hb; cases hb)]; exact hb
 have hself:E2.lp nx=some (r,T):=if_pos rfl
 have he2:Ext E1 (w.alloc (.loop r)) E2 (w.alloc (.loop r)) :=
  ⟨rfl,rfl,fun _ h=>h,fun _ h=>.inl h,fun _ _ _ h=>h,fun _ _ h=>h,hlpo,fun _ h=>⟨h,rfl⟩,Nat.le_refl _,fun _ _=>rfl⟩
 have hE2:EnvOk E2 (w.alloc (.loop r)):=⟨hE'.lt,hE'.below,hE'.dm,hE'.spi,hE'.spb,hE'.spm,fun b r' T' hl=>by
  by_cases hb:b=nx
  ·subst hb; rw [hself] at hl; cases hl
   exact ⟨w.heap.size,r.state,r.pending,hs,hnew,fun t=>(hT t).ext (he.trans he2)⟩
  ·have hl:E1.lp b=some (r',T'):=by rw [← hl]; exact (if_neg hb).symm
   obtain ⟨k,st,p,h1,h2,h3⟩:=hE'.lp b r' T' hl
   exact ⟨k,st,p,h1,h2,fun t=>(h3 t).ext he2⟩⟩
 have hh2:HeapOk E2 H (nx + 1) (w.alloc (.loop r)):=hh'.step he2 (fun _ h=>.inl h) (Nat.le_refl _) (fun _ _ _ _=>rfl) (fun _ _ _ _ _ _=>rfl) (cQ.refl _) rfl
 refine ⟨E2,he.trans he2,hE2,?_,fun b hb=>?_,hs,hself,by show E1.dm=E.dm; rw [hE1]⟩
 ·refine hh2.addSp (Nat.lt_succ_self _) (hE2.spm nx _ hs) hs ⟨hnew,?_⟩
  rw [hself,jo hr]
 ·have h0:=hf b (by omega)
  refine ⟨fun n=>?_,?_,?_⟩
  ·show E1.mu b n=none; rw [hE1]; exact h0.1 n
  ·show E1.sp b=none; rw [hE1]; show (if b=nx then _ else _)=none; rw [if_neg (by omega)]; exact h0.2.1
  ·show (if b=nx then _ else E1.lp b)=none; rw [if_neg (by omega),hlp1]; exact h0.2.2
def yM (r:Loop) (T:Tm) (b:Nat) (K:CP):Hp→Nat→Prop:=fun H nx =>
 (H b=some [.oloop r T]∧K .normal T (bN H b) nx) ∨ ∃ e,e ≠ .normal∧H b=some [oF r T e]∧K e T (bN H b) nx
theorem zZ {P:Program} {n:Nat} {g:Operand} {ps:Array Nat} {assign body:Code} {T:Tm} {H:Hp} {nx:Nat} {K:CP} {f:FuncId} {caps:List AV} (hf:ev T g=.func f caps)
    (h:∀ r:Loop,Ready0 n ps assign body r→Fn P f (.yld nx :: caps) (am H nx [.oloop r T]) (nx + 1) fun _ H' nx'=>yM r T nx K H' nx'):RF P n (.rangeFunc g ps assign body) T H nx K:=by
 intro N E a w hn hS
 refine wpIn_rangeFunc (F:=FW N.rd) (n:=0) ?_
 intro fn _
 have hgo:∃ (l dd:Nat) (mark:List Deferred) (w₁:World) (E1:Env),(Instr.enterLoop fn a.tmps ps assign body N.rd).run P w=.ok (l,mark) (w₁.alloc (.loop { state:=.ready,pending:=none,fn,tmps:=a.tmps,params:=ps,assign,body,defers:=dd })) ∧
     l=w₁.heap.size∧Ext E w E1 w₁∧EnvOk E1 w₁∧HeapOk E1 H nx w₁∧bA E1 nx∧kM E1 N w₁ (mark ++ a.defers):=by
  cases hrd:N.rd with
  | none =>
   obtain ⟨E1,hE1,he,hE',hh'⟩:=y4 hS.env hS.heap
   refine ⟨w.heap.size + 1,w.heap.size,[{ target:=.collected w.heap.size,args:=#[] }],_,E1,run_enterLoop_outer _ _ _ _ _,by simp,he,hE',hh',by rw [hE1]; exact hS.fresh,?_⟩
   refine ⟨List.pairwise_cons.2 ⟨fun d hd=>?_,hS.defers.1⟩,fun d hd=>?_⟩
   ·obtain ⟨D,rfl,_,_,hD,_⟩:=hS.defers.2 d hd
    have:=hS.env.dlt hD
    intro e; simp at e; omega
   ·rcases List.mem_cons.1 hd with rfl | hd
    ·exact ⟨w.heap.size,rfl,by rw [he.base]; exact hS.heap.size,hS.floor,by rw [hE1]; exact .inr rfl,World.alloc_heap_new w _⟩
    ·exact (hS.defers.ext he).2 d hd
  | some l0 =>
   obtain ⟨b,⟨r0,T0⟩,h1,h2⟩:=hS.round l0 hrd
   obtain ⟨k,st,p,e1,e2,_⟩:=hS.env.lp b r0 T0 h1
   rw [h2] at e1; cases e1
   exact ⟨w.heap.size,r0.defers,[],w,E,run_enterLoop_inner e2 _ _ _ _ _,rfl,Ext.refl _ _,hS.env,hS.heap,hS.fresh,hS.defers⟩
 obtain ⟨l,dd,mark,w₁,E1,hrun,hl,he1,hE1,hh1,hf1,hmk⟩:=hgo
 have hr:Ready0 n ps assign body { state:=.ready,pending:=none,fn,tmps:=a.tmps,params:=ps,assign,body,defers:=dd }:=⟨rfl,rfl,rfl,rfl,rfl,by show a.tmps.size=n; rw [hS.size,hn]⟩
 generalize hrr:({ state:=.ready,pending:=none,fn,tmps:=a.tmps,params:=ps,assign,body,defers:=dd }:Loop)=r at hr hrun
 have hrt:r.tmps=a.tmps:=by subst hrr; rfl
 obtain ⟨E2,he2,hE2,hh2,hf2,hsp,hlp,hdm⟩:=vB hE1 hh1 hf1 (T:=T) hr (fun t=>by rw [hrt]; exact (hS.tmps t).ext he1)
 rw [← hl] at hsp
 have hfn:=h r hr
 have hfr:=gK (E:=E) (w:=w) (a:=a) hS.tmps g
 simp only at hfr
 rw [hf] at hfr
 generalize hvg:a.eval g=vg at hfr
 cases hfr with
 | func _ _ cv hcl hcr =>
 have he12:=he1.trans he2
 refine ⟨l,mark,w₁.alloc (.loop r),{ target:=.fn (.func f) cv.toArray,args:=#[.func (.yield l) #[] #[]] },w₁.alloc (.loop r),f,#[.func (.yield l) #[] #[]] ++ cv.toArray,w₁.alloc (.loop r),hrun,?_,fun _ _=>trivial,?_,(fun h=>by cases h),?_⟩
 ·simp only [resolve,hvg]
  simp [go_sem]
 ·simp only [invoke]
  exact gb hfn.1 _ _
 ·have hargs:bS E2 (w₁.alloc (.loop r)) (.yld nx :: caps) (.func (.yield l) #[] #[] :: cv):=by
    refine ⟨by simp [hcl],fun i x y hx hy=>?_⟩
    cases i with
    | zero=>simp at hx hy; subst hx hy; exact .yld _ _ hsp
    | succ i=>exact (hcr i x y (by simpa using hx) (by simpa using hy)).ext he12
  have hcalls:=hfn.2 E2 _ _ hE2 hh2 hf2 hargs
  have harr:#[.func (.yield l) #[] #[]] ++ cv.toArray=(.func (.yield l) #[] #[] :: cv:List Value).toArray:=by simp
  rw [harr]
  refine (gq (r:=N.rd) (n:=0 - 1) hcalls).mono ?_
  rintro e w' ⟨v,E',x,H',nx',rfl,he',hE',hh',hf',_,hpost⟩
  have hsp':=he'.sp _ _ hsp
  have hlp':=he'.lp _ _ hlp
  have fin:∀ (r1:Loop) (T1:Tm),H' nx=some [.oloop r1 T1]→r1.state ≠ .busy→∃ w4,(Instr.endLoop l).run P w'=.ok r1.pending w4∧∃ E4,Ext E w E4 w4∧Sim E4 N ⟨T,bN H' nx,nx'⟩ { a with defers:=mark ++ a.defers } w4:=by
   intro r1 T1 hb hst
   obtain ⟨l1,g1,g2,g3⟩:=hh'.spec nx _ hb rfl
   rw [hsp'] at g1; cases g1
   refine ⟨_,run_endLoop g2 hst,E',?_⟩
   rw [hlp'] at g3
   injection g3 with g3; injection g3 with g3 _
   obtain ⟨q1,q2,q3⟩:=oJ hE' (hh'.del nx) hsp' g2 (o':=.loop { r1 with state:=.exhausted }) rfl rfl (by intro ds; simp) (by intro ds; simp) (fun r' T' h'=>by
    rw [hlp'] at h'; cases h'
    exact ⟨.exhausted,r1.pending,by rw [g3]⟩) (fun x hx=>by rw [f8] at hx; cases hx)
   have heAll:Ext E w E' (w'.putObj l (.loop { r1 with state:=.exhausted })):=(he12.trans he').trans q1
   refine ⟨heAll,q2,q3,hf',fun l' hl'=>?_,Nat.le_trans hS.floor heAll.size,hS.size,fun t=>(hS.tmps t).ext heAll,hmk.ext ((he2.trans he').trans q1)⟩
   obtain ⟨b,x,h1,h2⟩:=hS.round l' hl'
   exact ⟨b,x,heAll.lp _ _ h1,heAll.sp _ _ h2⟩
  rcases hpost with ⟨hb,hk⟩ | ⟨e,hne,hb,hk⟩
  ·obtain ⟨w4,h1,E4,h2,h3⟩:=fin r T hb (by rw [hr.state]; simp)
   rw [hr.pending] at h1
   exact ⟨none,w4,h1,.normal,E4,T,_,nx',rfl,h2,h3,hk⟩
  ·obtain ⟨w4,h1,E4,h2,h3⟩:=fin _ T hb (by simp)
   refine ⟨_,w4,h1,?_⟩
   cases e with
   | normal=>exact absurd rfl hne
   | exit i=>exact wpIn_exit ⟨.exit i,E4,T,_,nx',rfl,h2,h3,hk⟩
   | ret=>exact wpIn_ret ⟨.ret,E4,T,_,nx',rfl,h2,h3,hk⟩
end Go.Abs
namespace Go.Abs
open Go.RowKit
theorem bo {P:Program} {op:Op} {T:Tm} {H:Hp} {nx:Nat} {K:AV→Hp→Nat→Prop} (hnd:∀ c,op ≠ .defer c)
    (h:∀ (E:Env) (w:World) (a:Act) (o:Oper),o.op=op→EnvOk E w→HeapOk E H nx w→bA E nx→(∀ x ∈ op.operands,Rel E w (ev T x) (a.eval x)) →
     ∃ n v w' E' r H' nx',(execOp a.eval o).run P w=.ok n w'∧(n=.value v ∨ n=.skip∧v=Go.undef)∧Ext E w E' w'∧EnvOk E' w'∧HeapOk E' H' nx' w'∧bA E' nx'∧Rel E' w' r v∧K r H' nx'):cm P op T H nx K:=by
 refine ⟨hnd,?_⟩
 rintro rr E w a o next Q ho hE hh hf ht hn
 obtain ⟨n,v,w',E',r,H',nx',h1,h2,h3,h4,h5,h6,h7,h8⟩:=h E w a o ho hE hh hf ht
 rw [h1]
 have:=hn E' H' nx' r v w' h3 h4 h5 h6 h7 h8
 rcases h2 with rfl | ⟨rfl,rfl⟩
 ·rw [Oper.uponIn_value]; exact this
 ·rw [Oper.uponIn_skip]; exact this
inductive MK where
 | one (k:TK)
 | st (ks:List TK)
def tkA (P:Program) (t:TypeId):Option (List TK):=match P.underlying t with
 | some (.array n e)=>match tkS P e with
  | some ks=>if P.cellsOf e=ks.length then some ((List.replicate n ks).flatten) else none
  | none=>none
 | _=>none
def mkk (P:Program) (t:TypeId):Option MK:=match tk1 P t with
 | some k=>some (.one k)
 | none=>match tkS P t with
  | some ks=>some (.st ks)
  | none=>(tkA P t).map .st
def jF (k:MK) (x y:AV):Option Bool:=match k,x,y with
 | .one k,x,y=>e8 k x y
 | .st ks,.agg xs,.agg ys=>bR ks xs ys
 | _,_,_=>none
def cw (k:MK) (key:AV):List AV→Option (Option Nat)
 | []=>some none
 | x :: l=>match jF k key x with
  | some true=>some (some 0)
  | some false=>(cw k key l).map (·.map (· + 1))
  | none=>none
theorem jU {P:Program} {t:TypeId} {k:MK} (h:mkk P t=some k):(∃ k',k=.one k'∧tk1 P t=some k') ∨ (∃ ks,k=.st ks∧tkS P t=some ks) ∨ ∃ ks,k=.st ks∧tkA P t=some ks:=by
 unfold mkk at h
 split at h
 ·cases h; exact .inl ⟨_,rfl,by assumption⟩
 ·split at h
  ·cases h; exact .inr (.inl ⟨_,rfl,by assumption⟩)
  ·cases hk:tkA P t with
   | none=>rw [hk] at h; cases h
   | some ks=>rw [hk] at h; cases h; exact .inr (.inr ⟨ks,rfl,rfl⟩)
theorem rB {P:Program} {t:TypeId} {ks:List TK} (h:tkA P t=some ks):∃ n e es,P.underlying t=some (.array n e)∧tkS P e=some es∧P.cellsOf e=es.length∧ks=(List.replicate n es).flatten:=by
 unfold tkA at h
 split at h
 ·rename_i n e hu
  split at h
  ·rename_i es he
   split at h
   ·rename_i hc
    cases h
    exact ⟨n,e,es,hu,he,hc,rfl⟩
   ·cases h
  ·cases h
 ·cases h
theorem gW {P:Program} {w:World} {t:TypeId} {ks:List TK} (h:tkS P t=some ks) (hc:P.cellsOf t=ks.length) (cs:Array Value) (i:Nat):(part t cs i).run P w=.ok (.agg (cs.extract i (i + ks.length))) w:=by
 have hu:=(jb h).1
 obtain ⟨inf,hi⟩:=info_of_underlying hu
 simp [part,isAgg,run_underlying hu,run_sizeOf w hi,hc]
theorem kX:∀ (ks ks':List TK) (xs ys:List AV) (r:Bool),bR (ks ++ ks') xs ys=some r→∃ b,bR ks (xs.take ks.length) (ys.take ks.length)=some b∧(b=false→r=false)∧(b=true→bR ks' (xs.drop ks.length) (ys.drop ks.length)=some r)
 | [],ks',xs,ys,r,h=>⟨true,rfl,fun h=>(by cases h),fun _=>h⟩
 | k :: ks,ks',[],ys,r,h=>by cases ys <;> cases h
 | k :: ks,ks',x :: xs,[],r,h=>by cases h
 | k :: ks,ks',x :: xs,y :: ys,r,h=>by
  simp only [List.cons_append,bR,List.length_cons,List.take_succ_cons,List.drop_succ_cons] at h ⊢
  split at h
  ·rename_i hs
   exact kX ks ks' xs ys r h
  ·rename_i hs
   cases h
   exact ⟨false,rfl,fun _=>rfl,fun h=>(by cases h)⟩
  ·cases h
theorem kS {E:Env} {w:World} {xs:List AV} {vs:List Value} (hl:xs.length=vs.length) (hr:∀ (i:Nat) (x:AV) (v:Value),xs[i]?=some x→vs[i]?=some v→Rel E w x v) (a n:Nat):Rel E w (.agg ((xs.drop a).take n)) (.agg (vs.toArray.extract a (a + n))):=by
 have e:vs.toArray.extract a (a + n)=((vs.drop a).take n).toArray:=by
  simp [List.extract_eq_take_drop,List.extract_toArray]
 rw [e]
 refine Rel.agg _ _ (by simp [hl]) (fun i x v hx hv=>?_)
 rw [List.getElem?_take] at hx hv
 split at hx
 ·rename_i hi
  rw [if_pos hi] at hv
  rw [List.getElem?_drop] at hx hv
  exact hr _ x v hx hv
 ·cases hx
theorem kJ {P:Program} {E:Env} {w:World} {d:Nat} {e:TypeId} {es:List TK} (he:tkS P e=some es) (hc:P.cellsOf e=es.length) {xs ys:List AV} {vx vy:List Value} (lx:xs.length=vx.length) (ly:ys.length=vy.length)
    (hx:∀ (i:Nat) (x:AV) (v:Value),xs[i]?=some x→vx[i]?=some v→Rel E w x v) (hy:∀ (i:Nat) (x:AV) (v:Value),ys[i]?=some x→vy[i]?=some v→Rel E w x v):∀ (m a:Nat) (r:Bool),
    bR (List.replicate m es).flatten (xs.drop (a * es.length)) (ys.drop (a * es.length))=some r→(Op.eqItems (d + 2) e (P.cellsOf e) vx.toArray vy.toArray (List.range' a m)).run P w=.ok r w
 | 0,a,r,h=>by
  generalize xs.drop (a * es.length)=l at h
  generalize ys.drop (a * es.length)=m at h
  cases l <;> cases m <;> first | (cases h; rfl) | cases h
 | m + 1,a,r,h=>by
  rw [List.replicate_succ,List.flatten_cons] at h
  obtain ⟨b,q1,q2,q3⟩:=kX es _ _ _ r h
  rw [List.drop_drop,List.drop_drop] at q3
  have p1:=gW (w:=w) he hc vx.toArray (a * P.cellsOf e)
  have p2:=gW (w:=w) he hc vy.toArray (a * P.cellsOf e)
  have p3:=gY he (kS lx hx (a * P.cellsOf e) es.length) (kS ly hy (a * P.cellsOf e) es.length) (by rw [hc]; exact q1) d
  rw [List.range'_succ]
  simp only [Op.eqItems,Sem.run_bind,p1,p2,Result.andThen_ok,p3]
  cases b with
  | false=>rw [q2 rfl]; rfl
  | true =>
   simp only [Bool.not_true,Bool.false_eq_true,if_false]
   refine kJ he hc lx ly hx hy m (a + 1) r ?_
   have e2:(a + 1) * es.length=a * es.length + es.length:=by rw [Nat.add_mul,Nat.one_mul]
   rw [e2]
   exact q3 rfl
theorem kV {P:Program} {E:Env} {w:World} {t:TypeId} {k:MK} {x y:AV} {vx vy:Value} {r:Bool} (hk:mkk P t=some k) (hx:Rel E w x vx) (hy:Rel E w y vy) (h:jF k x y=some r) :
    (Op.equal t vx vy).run P w=.ok r w:=by
 unfold Op.equal Op.maxDepth
 rcases jU hk with ⟨k',rfl,hk'⟩ | ⟨ks,rfl,hk'⟩ | ⟨ks,rfl,hk'⟩
 ·exact dj hk' hx hy h 9999
 ·cases x <;> first | (cases h; done) | skip
  cases y <;> first | (cases h; done) | skip
  exact gY hk' hx hy h 9998
 ·cases x <;> first | (cases h; done) | skip
  cases y <;> first | (cases h; done) | skip
  obtain ⟨n,e,es,hu,he,hc,rfl⟩:=rB hk'
  obtain ⟨inf,hi⟩:=info_of_underlying (jb he).1
  cases hx with
  | agg xs vs1 l1 r1 =>
  cases hy with
  | agg ys vs2 l2 r2 =>
  rw [run_equalIn_array w 9999 _ _ hu hi,List.range_eq_range']
  refine kJ (d:=9997) he hc l1.symm l2.symm r1 r2 n 0 r ?_
  rw [Nat.zero_mul,List.drop_zero,List.drop_zero]; exact h
def jN (l:List MapEntry) (i:Nat) (r:Option Nat):Option (Nat × Value):=r.map fun j=>(i + j,(l.getD j default).val)
theorem nV {e:MapEntry} {l:List MapEntry} {i:Nat} {r:Option Nat}:jN (e :: l) i (r.map (· + 1))=jN l (i + 1) r:=by
 cases r with
 | none=>rfl
 | some j=>simp [jN]; omega
theorem ee {P:Program} {E:Env} {w:World} {t:TypeId} {k:MK} {key:AV} {vk:Value} (hk:mkk P t=some k) (hx:Rel E w key vk):∀ (es:List MapEntry) (ks:List AV) (i:Nat) (r:Option Nat),
    es.length=ks.length→(∀ (j:Nat) (x:AV) (e:MapEntry),ks[j]?=some x→es[j]?=some e→Rel E w x e.key)→cw k key ks=some r→(Instr.findAsking t vk es i).run P w=.ok (jN es i r) w
 | [],ks,i,r,hl,hr,h=>by
  have:ks=[]:=List.length_eq_zero_iff.1 hl.symm
  subst this; cases h; rfl
 | e :: es,ks,i,r,hl,hr,h=>by
  cases ks with
  | nil=>cases hl
  | cons x ks =>
   simp only [cw] at h
   have he:=hr 0 x e rfl rfl
   simp only [Instr.findAsking,Sem.run_bind]
   split at h
   ·rename_i hs
    cases h
    rw [kV hk hx he hs]
    simp [Result.andThen,jN]
   ·rename_i hs
    cases hm:cw k key ks with
    | none=>rw [hm] at h; cases h
    | some r' =>
     rw [hm] at h; cases h
     rw [kV hk hx he hs]
     simp only [Result.andThen_ok,Bool.false_eq_true,if_false]
     rw [ee hk hx es ks (i + 1) r' (by simpa using hl) (fun j x e h1 h2=>hr (j + 1) x e (by simpa using h1) (by simpa using h2)) hm,nV]
   ·cases h
theorem iL {P:Program} {E:Env} {w:World} {t:TypeId} {d:TypeDesc} {k:TK} {key:AV} {vk:Value} (hd:P.underlying t=some d) (hk:tk1 P t=some k) (hx:Rel E w key vk):∀ (es:List MapEntry) (ks:List AV) (i:Nat) (r:Option Nat),
    es.length=ks.length→(∀ (j:Nat) (x:AV) (e:MapEntry),ks[j]?=some x→es[j]?=some e→Rel E w x e.key)→cw (.one k) key ks=some r→Instr.findNow d vk es i=some (jN es i r)
 | [],ks,i,r,hl,hr,h=>by
  have:ks=[]:=List.length_eq_zero_iff.1 hl.symm
  subst this; cases h; rfl
 | e :: es,ks,i,r,hl,hr,h=>by
  cases ks with
  | nil=>cases hl
  | cons x ks =>
   simp only [cw] at h
   have he:=hr 0 x e rfl rfl
   have hs:∀ b,jF (.one k) key x=some b→Instr.sameNow d vk e.key=some b:=by
    intro b hb
    generalize e.key=vke at he
    replace hb:e8 k key x=some b:=hb
    unfold e8 at hb
    unfold tk1 at hk
    rw [hd] at hk
    split at hb
    ·cases hx; cases he
     split at hb
     ·rename_i e2; subst e2
      cases d <;> first | (cases hk; done) | skip
      simp only [Instr.sameNow,if_true]; exact hb
     ·cases hb
    ·cases hx; cases he
     cases d <;> first | (cases hk; done) | skip
     simp only [Instr.sameNow,beq_toListBytes]; exact hb
    ·cases hx; cases he
     cases d <;> first | (cases hk; done) | skip
     simp only [Instr.sameNow]; exact hb
    ·cases hb
   simp only [Instr.findNow]
   split at h
   ·rename_i hb
    cases h
    rw [hs _ hb]
    simp [jN]
   ·rename_i hb
    cases hm:cw (.one k) key ks with
    | none=>rw [hm] at h; cases h
    | some r' =>
     rw [hm] at h; cases h
     rw [hs _ hb]
     simp only
     rw [iL hd hk hx es ks (i + 1) r' (by simpa using hl) (fun j x e h1 h2=>hr (j + 1) x e (by simpa using h1) (by simpa using h2)) hm,nV]
   ·cases h
theorem fH {P:Program} {E:Env} {w:World} {t:TypeId} {k:MK} {key:AV} {vk:Value} (hk:mkk P t=some k) (hx:Rel E w key vk) {es:List MapEntry} {ks:List AV} {r:Option Nat}
    (hl:es.length=ks.length) (hr:∀ (j:Nat) (x:AV) (e:MapEntry),ks[j]?=some x→es[j]?=some e→Rel E w x e.key) (h:cw k key ks=some r):(Instr.findKey t vk es).run P w=.ok (jN es 0 r) w:=by
 rcases jU hk with ⟨k',rfl,hk'⟩ | ⟨fks,rfl,hk'⟩ | ⟨fks,rfl,hk'⟩
 ·obtain ⟨d,hd⟩:∃ d,P.underlying t=some d:=by
    unfold tk1 at hk'
    cases hu:P.underlying t with
    | none=>rw [hu] at hk'; cases hk'
    | some d=>exact ⟨d,rfl⟩
  unfold Instr.findKey
  simp only [Sem.run_bind,run_underlying hd,Result.andThen_ok,iL hd hk' hx es ks 0 r hl hr h]
  rfl
 ·have hu:=(jb hk').1
  unfold Instr.findKey
  simp only [Sem.run_bind,run_underlying hu,Result.andThen_ok]
  cases es with
  | nil =>
   have:ks=[]:=List.length_eq_zero_iff.1 hl.symm
   subst this; cases h; rfl
  | cons e es =>
   have:Instr.findNow (.struct (P.fieldsOf t)) vk (e :: es) 0=none:=rfl
   rw [this]
   exact ee hk hx _ ks 0 r hl hr h
 ·obtain ⟨n,el,els,hu,_,_,_⟩:=rB hk'
  unfold Instr.findKey
  simp only [Sem.run_bind,run_underlying hu,Result.andThen_ok]
  cases es with
  | nil =>
   have:ks=[]:=List.length_eq_zero_iff.1 hl.symm
   subst this; cases h; rfl
  | cons e es =>
   have:Instr.findNow (.array n el) vk (e :: es) 0=none:=rfl
   rw [this]
   exact ee hk hx _ ks 0 r hl hr h
def jd (k:MK) (x:AV):Bool:=match k,x with
 | .one .int,.int _ _=>true
 | .one .str,.str _=>true
 | .one .bool,.bool _=>true
 | .st ks,.agg xs=>ks.length == xs.length
 | _,_=>false
theorem fE {P:Program} {w:World} {t:TypeId} {k:TK} (hk:tk1 P t=some k) (em:Bool) (n:Nat) (v:Value):(Instr.checkKey em (n + 1) t v).run P w=.ok () w:=by
 unfold tk1 at hk
 cases hu:P.underlying t with
 | none=>rw [hu] at hk; cases hk
 | some d =>
  rw [hu] at hk
  cases d <;> first | (cases hk; done) | skip
  all_goals
   simp only [Instr.checkKey,Sem.run_bind,run_underlying hu,Result.andThen_ok]
   cases v <;> rfl
theorem sI {P:Program}:∀ (fs:List Field) (i:Nat) (ks:List TK),tkF P i fs=some ks→ks.length=fs.length∧∀ (j:Nat) (f:Field),fs[j]?=some f→f.offset=i + j∧∃ k,tk1 P f.type=some k
 | [],i,ks,h=>by cases h; exact ⟨rfl,by simp⟩
 | f :: fs,i,ks,h=>by
  simp only [tkF] at h
  split at h
  case isFalse=>cases h
  case isTrue hc =>
  split at h
  case h_2=>cases h
  rename_i k ks' h1 h2
  cases h
  obtain ⟨e1,e2⟩:=sI fs (i + 1) ks' h2
  refine ⟨by simp [e1],fun j g hg=>?_⟩
  cases j with
  | zero=>simp at hg; subst hg; exact ⟨hc.2,k,h1⟩
  | succ j=>obtain ⟨q1,q2⟩:=e2 j g (by simpa using hg); exact ⟨by omega,q2⟩
theorem ml {α:Type} {P:Program} {w:World}:∀ (l:List α) (f:α→PUnit→Sem (ForInStep PUnit)),(∀ x ∈ l,(f x PUnit.unit).run P w=.ok (.yield PUnit.unit) w)→(forIn l PUnit.unit f).run P w=.ok PUnit.unit w
 | [],f,h=>by simp
 | x :: l,f,h=>by
  rw [List.forIn_cons]
  simp only [Sem.run_bind,h x (by simp),Result.andThen_ok]
  exact ml l f (fun y hy=>h y (by simp [hy]))
theorem iQ {P:Program} {w:World} {t:TypeId} {ks:List TK} (hk:tkS P t=some ks) {vs:List Value} (hl:vs.length=ks.length) (em:Bool) (n:Nat) (hk1:∀ t v k,tk1 P t=some k→(Instr.checkKey em n t v).run P w=.ok () w):(Instr.checkKey em (n + 1) t (.agg vs.toArray)).run P w=.ok () w:=by
 obtain ⟨h1,_,_,h4⟩:=jb hk
 obtain ⟨q1,q2⟩:=sI _ 0 ks h4
 simp only [Instr.checkKey,Sem.run_bind,run_underlying h1,Result.andThen_ok]
 rw [← Array.forIn_toList]
 rw [ml]
 ·rfl
 ·intro f hf
  obtain ⟨j,hj⟩:=List.getElem?_of_mem hf
  obtain ⟨e1,k,e2⟩:=q2 j f hj
  have hlt:f.offset < vs.toArray.size:=by have:=(List.getElem?_eq_some_iff.1 hj).1; simp; omega
  have hp:=dH (P:=P) (w:=w) e2 (cs:=vs.toArray) (i:=f.offset) (v:=vs.toArray[f.offset]) (by simp [hlt])
  by_cases hn:f.name="_"
  ·simp only [hn,ne_eq,not_true_eq_false,if_false,Sem.run_pure]
  ·simp only [hn,ne_eq,not_false_eq_true,if_true,Sem.run_bind,hp,Result.andThen_ok,hk1 _ _ _ e2,Sem.run_pure]
theorem nQ {P:Program} {w:World} {t:TypeId} {ks:List TK} (hk:tkA P t=some ks) {vs:List Value} (hl:vs.length=ks.length) (em:Bool) (N:Nat) (hk1:∀ (e:TypeId) (es:List TK) (us:List Value),tkS P e=some es→us.length=es.length→(Instr.checkKey em N e (.agg us.toArray)).run P w=.ok () w):(Instr.checkKey em (N + 1) t (.agg vs.toArray)).run P w=.ok () w:=by
 obtain ⟨n,e,es,hu,he,hc,rfl⟩:=rB hk
 obtain ⟨inf,hi⟩:=info_of_underlying (jb he).1
 have hlen:((List.replicate n es).flatten).length=n * es.length:=by simp
 rw [hlen] at hl
 simp only [Instr.checkKey,Sem.run_bind,run_underlying hu,Result.andThen_ok,Std.Legacy.Range.forIn_eq_forIn_range',Std.Legacy.Range.size,Nat.sub_zero,Nat.add_one_sub_one,Nat.div_one]
 rw [ml]
 ·rfl
 ·intro i hin
  have hin:i < n:=by
   have:=List.mem_range'.1 hin
   omega
  have hp:=gW (w:=w) he hc vs.toArray (i * P.cellsOf e)
  have hle:(i + 1) * es.length ≤ n * es.length:=Nat.mul_le_mul_right _ hin
  rw [Nat.add_mul,Nat.one_mul] at hle
  have ex:vs.toArray.extract (i * P.cellsOf e) (i * P.cellsOf e + es.length)=((vs.drop (i * P.cellsOf e)).take es.length).toArray:=by
   simp [List.extract_eq_take_drop,List.extract_toArray]
  have hck:=hk1 e es ((vs.drop (i * P.cellsOf e)).take es.length) he (by rw [List.length_take,List.length_drop,hc]; omega)
  simp only [Sem.run_bind,run_sizeOf w hi,hp,Result.andThen_ok,ex,hck,Sem.run_pure]
theorem gf {P:Program} {E:Env} {w:World} {t:TypeId} {k:MK} (hk:mkk P t=some k) {key:AV} {v:Value} (hx:Rel E w key v) (hfit:jd k key=true) (em:Bool):(Instr.checkKey em 10000 t v).run P w=.ok () w:=by
 rcases jU hk with ⟨k',rfl,hk'⟩ | ⟨ks,rfl,hk'⟩ | ⟨ks,rfl,hk'⟩
 ·exact fE hk' em 9999 v
 ·cases key <;> first | (cases hfit; done) | skip
  have hfit:ks.length == _:=hfit
  cases hx with
  | agg cs vs hl _=>exact iQ hk' (by have:=hfit; simp at this; omega) em 9999 (fun t v k h=>fE h em 9998 v)
 ·cases key <;> first | (cases hfit; done) | skip
  have hfit:ks.length == _:=hfit
  cases hx with
  | agg cs vs hl _=>exact nQ hk' (by have:=hfit; simp at this; omega) em 9999 (fun e es us h1 h2=>iQ h1 h2 em 9998 (fun t v k h=>fE h em 9997 v))
end Go.Abs
namespace Go.Abs
open Go.RowKit
theorem ey {P:Program} {w w':World} {s:Sem Value} {v:Value} (h:s.run P w=.ok v w'):(do pure (Next.value (← s)):Sem Next).run P w=.ok (.value v) w':=by
 simp only [Sem.run_bind,h,Result.andThen_ok]; rfl
theorem n5 {P:Program} {w w':World} {s:Sem Unit} (h:s.run P w=.ok () w'):(do s; pure Next.skip:Sem Next).run P w=.ok .skip w':=by
 simp only [Sem.run_bind,h,Result.andThen_ok]; rfl
def je (P:Program) (t:TypeId):Option (TypeId × TypeId):=match P.underlying t with
 | some (.map k e)=>some (k,e)
 | _=>none
theorem iB {P:Program} {t k e:TypeId} (h:je P t=some (k,e)):P.underlying t=some (.map k e):=by
 unfold je at h; split at h
 ·cases h; assumption
 ·cases h
theorem bW {P:Program} {w:World} {k:Nat} {o:Obj} (h:w.heap[k]?=some o) (hc:fl o=false):(getObj k).run P w=.ok o w:=by cases o <;> first | (cases hc; done) | simp [getObj,Sem.run,h]
theorem dV {P:Program} {w:World} {k:Nat} {o o':Obj} (h:w.heap[k]?=some o) (hc:fl o=false):(setObj k o').run P w=.ok () (w.putObj k o'):=by cases o <;> first | (cases hc; done) | simp [setObj,Sem.run,h,World.putObj]
theorem bA.sp {E E':Env} {nx:Nat} (h:bA E nx) {k:Nat} (he:E'={ E with sp:=fun b=>if b=nx then some k else E.sp b }):bA E' (nx + 1):=by
 intro b hb
 subst he
 obtain ⟨h1,h2,h3⟩:=h b (by omega)
 exact ⟨h1,by show (if b=nx then _ else _)=none; rw [if_neg (by omega)]; exact h2,h3⟩
theorem nJ {P:Program} {t:TypeId} {r:Option Operand} {T:Tm} {H:Hp} {nx:Nat} {K:AV→Hp→Nat→Prop} (ht:r=none ∨ ∃ x n k p,r=some x∧ev T x=.int k n∧je P t=some p)
    (h:K (.mp nx) (am H nx [.omap [] []]) (nx + 1)):cm P (.makeMap t r) T H nx K:=by
 refine bo (by intro c; simp) ?_
 rintro E w a ⟨dst,op,type,pos,after,guard⟩ ho hE hh hf htm
 simp only at ho
 subst ho
 obtain ⟨E',hE',he,hEo,hh',hs,hnew⟩:=rP hE hh (hf nx (Nat.le_refl _)) (.map #[] 0) rfl (by intro ds; simp)
 have hspm:=hEo.spm nx _ hs
 refine ⟨.value (.map (some w.heap.size)),.map (some w.heap.size),w.alloc (.map #[] 0),E',.mp nx,_,nx + 1,?_,.inl rfl,he,hEo,hh'.addSp (x:=.omap [] []) (Nat.lt_succ_self _) hspm hs ⟨#[],0,hnew,⟨rfl,rfl,by simp,by simp,by simp,rfl⟩⟩,hf.sp hE',.mp _ _ hs,h⟩
 refine ey ?_
 rcases ht with rfl | ⟨x,n,k,p,rfl,hx,hp⟩
 ·simp only [Option.map_none,Instr.makeMap,Sem.run_bind,run_newObj_alloc,Result.andThen_ok]
  rfl
 ·have hr:=htm x (by simp [Op.operands,Call.operands])
  rw [hx] at hr
  generalize hvx:a.eval x=vx at hr
  cases hr
  have hu:=iB (P:=P) (t:=t) (k:=p.1) (e:=p.2) hp
  simp only [Option.map_some,hvx,Instr.makeMap,Sem.run_bind,run_underlying hu,asInt,Sem.run_pure,run_newObj_alloc,Result.andThen_ok]
  rfl
theorem ia {E:Env} {H:Hp} {nx:Nat} {w:World} (hh:HeapOk E H nx w) {b k:Nat} {ks vs:List AV} (hb:H b=some [.omap ks vs]) (hs:E.sp b=some k):∃ es clock,w.heap[k]?=some (.map es clock)∧MapOk E w ks vs es clock:=by
 obtain ⟨k',h1,es,clock,h2,h3⟩:=hh.spec b _ hb rfl
 rw [hs] at h1; cases h1
 exact ⟨es,clock,h2,h3⟩
theorem map_set {E:Env} {H:Hp} {nx:Nat} {w:World} (hE:EnvOk E w) (hh:HeapOk E H nx w) {b k:Nat} {ks vs ks' vs':List AV} {es es':Array MapEntry} {clock clock':Nat} (hb:H b=some [.omap ks vs]) (hs:E.sp b=some k) (hw:w.heap[k]?=some (.map es clock))
    (hm:MapOk E w ks' vs' es' clock'):Ext E w E (w.putObj k (.map es' clock'))∧EnvOk E (w.putObj k (.map es' clock'))∧HeapOk E (am H b [.omap ks' vs']) nx (w.putObj k (.map es' clock')):=by
 have hlp:∀ r T,E.lp b=some (r,T)→False:=by
  intro r T h
  obtain ⟨k',st,p,h1,h2,_⟩:=hE.lp b r T h
  rw [hs] at h1; cases h1
  rw [hw] at h2; cases h2
 obtain ⟨q1,q2,q3⟩:=oJ hE (hh.del b) hs hw (o':=.map es' clock') rfl rfl (by intro ds; simp) (by intro ds; simp) (fun r T h=>(hlp r T h).elim) (fun x hx=>by rw [f8] at hx; cases hx)
 refine ⟨q1,q2,?_⟩
 have hH:am (bN H b) b [.omap ks' vs']=am H b [.omap ks' vs']:=by
  funext y; unfold am bN; split <;> rfl
 rw [← hH]
 exact q3.addSp (hh.dom _ _ hb) (q2.spm b k hs) hs ⟨es',clock',World.putObj_heap_same (Array.getElem?_eq_some_iff.1 hw).1,hm.ext q1⟩
def b5 (key:AV) (r:Option Nat) (ks:List AV):List AV:=match r with | some _=>ks | none=>ks ++ [key]
def hZ (v:AV) (r:Option Nat) (vs:List AV):List AV:=match r with | some i=>vs.set i v | none=>vs ++ [v]
theorem oh {a b:ByteArray} (h:a.toList=b.toList):a=b:=by
 rw [ByteArray.toList_eq,ByteArray.toList_eq] at h
 obtain ⟨⟨x⟩⟩:=a
 obtain ⟨⟨y⟩⟩:=b
 simp at h; rw [h]
theorem qB {k:TK} {x y:AV} (h:e8 k x y=some true):x=y:=by
 unfold e8 at h
 split at h
 ·split at h
  ·subst_vars; simp at h; rw [h]
  ·cases h
 ·simp at h
  rw [oh h]
 ·simp at h; rw [h]
 ·cases h
theorem qa:∀ {ks:List TK} {xs ys:List AV},bR ks xs ys=some true→xs=ys
 | [],[],[],_=>rfl
 | k :: ks,x :: xs,y :: ys,h=>by
  simp only [bR] at h
  split at h
  ·rename_i hs; rw [qB hs,qa h]
  ·cases h
  ·cases h
 | [],_ :: _,_,h=>by cases h
 | [],[],_ :: _,h=>by cases h
 | _ :: _,[],_,h=>by cases h
 | _ :: _,_ :: _,[],h=>by cases h
theorem qD {k:MK} {x y:AV} (h:jF k x y=some true):x=y:=by
 cases k with
 | one k=>exact qB h
 | st ks =>
  cases x <;> first | (cases h; done) | skip
  cases y <;> first | (cases h; done) | skip
  rw [qa h]
theorem gg {k:MK} {key:AV}:∀ {ks:List AV} {i:Nat},cw k key ks=some (some i)→∃ x,ks[i]?=some x∧jF k key x=some true
 | [],i,h=>by cases h
 | x :: l,i,h=>by
  simp only [cw] at h
  split at h
  ·rename_i hs; cases h; exact ⟨x,rfl,hs⟩
  ·cases hm:cw k key l with
   | none=>rw [hm] at h; cases h
   | some r =>
    rw [hm] at h
    cases r with
    | none=>cases h
    | some j =>
     cases h
     obtain ⟨y,h1,h2⟩:=gg hm
     exact ⟨y,by simpa using h1,h2⟩
  ·cases h
theorem mF {E:Env} {w:World} {k:TK} {x y:AV} {vx vy:Value} (hx:Rel E w x vx) (hy:Rel E w y vy) (h:e8 k x y=some true) (n:Nat):Instr.sameBits n vy vx=true:=by
 unfold e8 at h
 split at h
 ·cases hx; cases hy
  split at h
  ·subst_vars; simp at h; subst h; cases n <;> simp [Instr.sameBits]
  ·cases h
 ·cases hx; cases hy
  simp at h
  rw [oh h]
  cases n <;> simp [Instr.sameBits,beq_toListBytes]
 ·cases hx; cases hy
  simp at h; subst h; cases n <;> simp [Instr.sameBits]
 ·cases h
theorem mO {E:Env} {w:World} {n:Nat}:∀ {ks:List TK} {xs ys:List AV} {vx vy:List Value},bS E w xs vx→bS E w ys vy→bR ks xs ys=some true→vx.length=vy.length∧((vy.zip vx).all fun (x,y)=>Instr.sameBits n x y)=true
 | [],[],[],vx,vy,hx,hy,h=>by
  have h1:vx=[]:=List.length_eq_zero_iff.1 hx.1
  have h2:vy=[]:=List.length_eq_zero_iff.1 hy.1
  subst h1 h2; exact ⟨rfl,rfl⟩
 | k :: ks,x :: xs,y :: ys,vx,vy,hx,hy,h=>by
  cases vx with
  | nil=>have:=hx.1; simp at this
  | cons v1 vx =>
  cases vy with
  | nil=>have:=hy.1; simp at this
  | cons v2 vy =>
  simp only [bR] at h
  split at h
  ·rename_i hs
   have r1:bS E w xs vx:=⟨by have:=hx.1; simpa using this,fun i a b ha hb=>hx.2 (i + 1) a b (by simpa using ha) (by simpa using hb)⟩
   have r2:bS E w ys vy:=⟨by have:=hy.1; simpa using this,fun i a b ha hb=>hy.2 (i + 1) a b (by simpa using ha) (by simpa using hb)⟩
   obtain ⟨e1,e2⟩:=mO (n:=n) r1 r2 h
   refine ⟨by simp [e1],?_⟩
   simp only [List.zip_cons_cons,List.all_cons,Bool.and_eq_true]
   exact ⟨mF (hx.2 0 x v1 rfl rfl) (hy.2 0 y v2 rfl rfl) hs n,e2⟩
  ·cases h
  ·cases h
 | [],_ :: _,_,_,_,_,_,h=>by cases h
 | [],[],_ :: _,_,_,_,_,h=>by cases h
 | _ :: _,[],_,_,_,_,_,h=>by cases h
 | _ :: _,_ :: _,[],_,_,_,_,h=>by cases h
theorem mL {E:Env} {w:World} {k:MK} {x y:AV} {vx vy:Value} (hx:Rel E w x vx) (hy:Rel E w y vy) (h:jF k x y=some true):Instr.sameBits 10000 vy vx=true:=by
 cases k with
 | one k=>exact mF hx hy h _
 | st ks =>
  cases x <;> first | (cases h; done) | skip
  cases y <;> first | (cases h; done) | skip
  cases hx with
  | agg _ v1 l1 r1 =>
  cases hy with
  | agg _ v2 l2 r2 =>
  obtain ⟨e1,e2⟩:=mO (n:=9999) ⟨l1,r1⟩ ⟨l2,r2⟩ h
  show Instr.sameBits (9999 + 1) _ _=true
  simp only [Instr.sameBits,Bool.and_eq_true]
  exact ⟨by simp [e1],e2⟩
theorem lm {P:Program} {t kt et:TypeId} {m k x:Operand} {T:Tm} {H:Hp} {nx b:Nat} {K:AV→Hp→Nat→Prop} {mk:MK} {ks vs:List AV} {r:Option Nat} (ht:je P t=some (kt,et)) (hk:mkk P kt=some mk)
    (hm:ev T m=.mp b) (hb:H b=some [.omap ks vs]) (hfit:jd mk (ev T k)=true) (hr:cw mk (ev T k) ks=some r)
    (h:K (.tup []) (am H b [.omap (b5 (ev T k) r ks) (hZ (ev T x) r vs)]) nx):cm P (.mapUpdate t m k x) T H nx K:=by
 refine bo (by intro c; simp) ?_
 rintro E w a ⟨dst,op,type,pos,after,guard⟩ ho hE hh hf htm
 simp only at ho
 subst ho
 have hmr:=htm m (by simp [Op.operands,Call.operands])
 have hkr:=htm k (by simp [Op.operands,Call.operands])
 have hxr:=htm x (by simp [Op.operands,Call.operands])
 rw [hm] at hmr
 generalize hvm:a.eval m=vm at hmr
 cases hmr with
 | mp _ kb hs =>
 obtain ⟨es,clock,hw,hok⟩:=ia hh hb hs
 have hck:=gf (P:=P) (w:=w) hk hkr hfit false
 have hfk:=fH (P:=P) (es:=es.toList) (ks:=ks) hk hkr (by simpa using hok.len) (fun j y e h1 h2=>hok.key j y e h1 (by simpa using h2)) hr
 have hu:=iB ht
 have key:∃ es' clock',(Instr.mapUpdate t (.map (some kb)) (a.eval k) (a.eval x)).run P w=.ok () (w.putObj kb (.map es' clock'))∧MapOk E w (b5 (ev T k) r ks) (hZ (ev T x) r vs) es' clock':=by
  unfold Instr.mapUpdate
  simp only [Sem.run_bind,run_underlying hu,Result.andThen_ok,bW hw rfl,hck,hfk]
  cases r with
  | none =>
   simp only [jN,Option.map_none,dV hw rfl]
   refine ⟨_,_,rfl,?_⟩
   have hl:=hok.len
   have hl':=hok.len'
   refine ⟨by simp [b5,hl],by simp [hZ,b5,hl'],fun i y e h1 h2=>?_,fun i y e h1 h2=>?_,fun i e h1=>?_,by simp [hok.clk]⟩
   ·simp only [b5] at h1
    rw [Array.getElem?_push] at h2
    split at h2
    ·rename_i he
     cases h2
     rw [he,hl,List.getElem?_append_right (Nat.le_refl _)] at h1
     simp at h1; subst h1; exact hkr
    ·rename_i hne
     have hlt:i < es.size:=(Array.getElem?_eq_some_iff.1 h2).1
     rw [List.getElem?_append_left (by omega)] at h1
     exact hok.key i y e h1 h2
   ·simp only [hZ] at h1
    rw [Array.getElem?_push] at h2
    split at h2
    ·rename_i he
     cases h2
     rw [he,hl,List.getElem?_append_right (by omega)] at h1
     simp [hl'] at h1; subst h1; exact hxr
    ·rename_i hne
     have hlt:i < es.size:=(Array.getElem?_eq_some_iff.1 h2).1
     rw [List.getElem?_append_left (by omega)] at h1
     exact hok.val i y e h1 h2
   ·rw [Array.getElem?_push] at h1
    split at h1
    ·rename_i he; cases h1; rw [he]; exact hok.clk
    ·exact hok.born i e h1
  | some i =>
   obtain ⟨y,hy,hsame⟩:=gg hr
   have hlt:i < es.size:=by have:=(List.getElem?_eq_some_iff.1 hy).1; have:=hok.len; omega
   have hbits:=mL hkr (hok.key i y es[i] hy (by simp [hlt])) hsame
   have hkeep:(Instr.keyThatStays (((es[i]?).map (·.key)).getD (a.eval k)) (a.eval k)).run P w=.ok (a.eval k) w:=by
    unfold Instr.keyThatStays
    simp only [hlt,Array.getElem?_eq_getElem,Option.map_some,Option.getD_some]
    rw [if_pos hbits]; rfl
   simp only [jN,Option.map_some,Nat.zero_add,Sem.run_bind,hkeep,Result.andThen_ok,dV hw rfl]
   refine ⟨_,_,rfl,?_⟩
   have hmod:∀ j e,(es.modify i fun e=>{ e with key:=a.eval k,val:=a.eval x })[j]?=some e→∃ e0,es[j]?=some e0∧((i=j∧e={ e0 with key:=a.eval k,val:=a.eval x }) ∨ (i ≠ j∧e=e0)):=by
    intro j e he
    rw [Array.getElem?_modify] at he
    split at he
    ·rename_i hij
     cases h0:es[j]? with
     | none=>rw [h0] at he; cases he
     | some e0=>rw [h0] at he; cases he; exact ⟨e0,rfl,.inl ⟨hij,rfl⟩⟩
    ·rename_i hij; exact ⟨e,he,.inr ⟨hij,rfl⟩⟩
   refine ⟨by simp [b5,hok.len],by simp [hZ,b5,hok.len'],fun j z e h1 h2=>?_,fun j z e h1 h2=>?_,fun j e h1=>?_,by simp [hok.clk]⟩
   ·obtain ⟨e0,k1,(⟨rfl,rfl⟩ | ⟨hne,rfl⟩)⟩:=hmod j e h2
    ·simp only [b5] at h1
     rw [hy] at h1; cases h1
     rw [← qD hsame]; exact hkr
    ·exact hok.key j z e h1 k1
   ·obtain ⟨e0,k1,(⟨rfl,rfl⟩ | ⟨hne,rfl⟩)⟩:=hmod j e h2
    ·simp only [hZ] at h1
     have:i < vs.length:=by have:=hok.len'; have:=hok.len; omega
     rw [List.getElem?_set_self this] at h1
     cases h1; exact hxr
    ·simp only [hZ] at h1
     rw [List.getElem?_set_ne hne] at h1
     exact hok.val j z e h1 k1
   ·obtain ⟨e0,k1,(⟨rfl,rfl⟩ | ⟨hne,rfl⟩)⟩:=hmod j e h1
    ·exact hok.born i e0 k1
    ·exact hok.born j e k1
 obtain ⟨es',clock',hrun,hok'⟩:=key
 obtain ⟨q1,q2,q3⟩:=map_set hE hh hb hs hw hok'
 refine ⟨.skip,Go.undef,_,E,.tup [],_,nx,?_,.inr ⟨rfl,rfl⟩,q1,q2,q3,hf,d9 _ _,h⟩
 refine n5 ?_
 show (Instr.mapUpdate t (a.eval m) (a.eval k) (a.eval x)).run P w=_
 rw [hvm]; exact hrun
def mget (z:AV) (ok:Bool) (r:Option Nat) (vs:List AV):AV:=match r with
 | some i=>if ok=true then .tup [vs.getD i .undef,.bool true] else vs.getD i .undef
 | none=>if ok=true then .tup [z,.bool false] else z
theorem ji {E:Env} {w:World} {x y:AV} {u v:Value} (h1:Rel E w x u) (h2:Rel E w y v):Rel E w (.tup [x,y]) (.tuple #[u,v]):=by
 refine Rel.tup [x,y] [u,v] rfl (fun i a b ha hb=>?_)
 match i with
 | 0=>cases ha; cases hb; exact h1
 | 1=>cases ha; cases hb; exact h2
 | i + 2=>cases ha
theorem wo {E:Env} {w:World} {x y z:AV} {u v t:Value} (h1:Rel E w x u) (h2:Rel E w y v) (h3:Rel E w z t):Rel E w (.tup [x,y,z]) (.tuple #[u,v,t]):=by
 refine Rel.tup [x,y,z] [u,v,t] rfl (fun i a b ha hb=>?_)
 match i with
 | 0=>cases ha; cases hb; exact h1
 | 1=>cases ha; cases hb; exact h2
 | 2=>cases ha; cases hb; exact h3
 | i + 3=>cases ha
theorem uQ {E:Env} {w:World} {x:AV} {u:Value} (h1:Rel E w x u):Rel E w (.tup [x]) (.tuple #[u]):=by
 refine Rel.tup [x] [u] rfl (fun i a b ha hb=>?_)
 match i with
 | 0=>cases ha; cases hb; exact h1
 | i + 1=>cases ha
theorem oW {P:Program} {t kt et:TypeId} {m k:Operand} {ok:Bool} {T:Tm} {H:Hp} {nx b:Nat} {K:AV→Hp→Nat→Prop} {mk:MK} {ks vs:List AV} {r:Option Nat} {z:AV} (ht:je P t=some (kt,et)) (hk:mkk P kt=some mk) (hz:dN P et=some z)
    (hm:ev T m=.mp b) (hb:H b=some [.omap ks vs]) (hfit:jd mk (ev T k)=true) (hr:cw mk (ev T k) ks=some r)
    (h:K (mget z ok r vs) H nx):cm P (.lookup t m k ok) T H nx K:=by
 refine bo (by intro c; simp) ?_
 rintro E w a ⟨dst,op,type,pos,after,guard⟩ ho hE hh hf htm
 simp only at ho
 subst ho
 have hmr:=htm m (by simp [Op.operands,Call.operands])
 have hkr:=htm k (by simp [Op.operands,Call.operands])
 rw [hm] at hmr
 generalize hvm:a.eval m=vm at hmr
 cases hmr with
 | mp _ kb hs =>
 obtain ⟨es,clock,hw,hok⟩:=ia hh hb hs
 have hck:=gf (P:=P) (w:=w) hk hkr hfit es.isEmpty
 have hfk:=fH (P:=P) (es:=es.toList) (ks:=ks) hk hkr (by simpa using hok.len) (fun j y e h1 h2=>hok.key j y e h1 (by simpa using h2)) hr
 have hu:=iB ht
 obtain ⟨vz,hvz,hrz⟩:=cE hz
 have key:∃ v,(Instr.lookup t (.map (some kb)) (a.eval k) ok).run P w=.ok v w∧Rel E w (mget z ok r vs) v:=by
  unfold Instr.lookup
  simp only [Sem.run_bind,run_underlying hu,Result.andThen_ok,bW hw rfl,Sem.run_pure,hck,hfk]
  cases r with
  | none =>
   simp only [jN,Option.map_none,Sem.run_bind,hvz,Result.andThen_ok,Sem.run_pure]
   refine ⟨_,rfl,?_⟩
   unfold mget
   cases ok with
   | true=>exact ji (hrz E w) (.bool _)
   | false=>exact hrz E w
  | some i =>
   obtain ⟨y,hy,hsame⟩:=gg hr
   have hlt:i < es.size:=by have:=(List.getElem?_eq_some_iff.1 hy).1; have:=hok.len; omega
   have hlv:i < vs.length:=by have:=hok.len'; have:=hok.len; omega
   simp only [jN,Option.map_some,Sem.run_pure,Result.andThen_ok]
   refine ⟨_,rfl,?_⟩
   have e1:es.toList.getD i default=es[i]:=by simp [List.getD,hlt]
   have e2:vs.getD i .undef=vs[i]:=by simp [List.getD,hlv]
   have hrel:=hok.val i vs[i] es[i] (by simp [hlv]) (by simp [hlt])
   rw [e1]
   cases ok with
   | true =>
    show Rel E w (.tup [vs.getD i .undef,.bool true]) _
    rw [e2]; exact ji hrel (.bool _)
   | false =>
    show Rel E w (vs.getD i .undef) _
    rw [e2]; exact hrel
 obtain ⟨v,hrun,hrel⟩:=key
 refine ⟨.value v,v,w,E,_,H,nx,?_,.inl rfl,Ext.refl _ _,hE,hh,hf,hrel,h⟩
 refine ey ?_
 show (Instr.lookup t (a.eval m) (a.eval k) ok).run P w=_
 rw [hvm]; exact hrun
def gM (z:AV) (r:Option Nat) (vs:List AV):List AV:=match r with | some _=>vs | none=>vs ++ [z]
def p9 (r:Option Nat) (ks:List AV):Nat:=match r with | some i=>i | none=>ks.length
def rh (z:AV) (r:Option Nat) (vs:List AV):AV:=match r with | some i=>vs.getD i .undef | none=>z
theorem nk {P:Program} {t kt et:TypeId} {m k:Operand} {T:Tm} {H:Hp} {nx b:Nat} {K:AV→Hp→Nat→Prop} {mk:MK} {ks vs:List AV} {r:Option Nat} {z:AV} (ht:je P t=some (kt,et)) (hk:mkk P kt=some mk) (hz:dN P et=some z)
    (hm:ev T m=.mp b) (hb:H b=some [.omap ks vs]) (hfit:jd mk (ev T k)=true) (hr:cw mk (ev T k) ks=some r)
    (h:K (.tup [rh z r vs,.int .i64 (p9 r ks)]) (am H b [.omap (b5 (ev T k) r ks) (gM z r vs)]) nx):cm P (.mapEntry t m k) T H nx K:=by
 refine bo (by intro c; simp) ?_
 rintro E w a ⟨dst,op,type,pos,after,guard⟩ ho hE hh hf htm
 simp only at ho
 subst ho
 have hmr:=htm m (by simp [Op.operands,Call.operands])
 have hkr:=htm k (by simp [Op.operands,Call.operands])
 rw [hm] at hmr
 generalize hvm:a.eval m=vm at hmr
 cases hmr with
 | mp _ kb hs =>
 obtain ⟨es,clock,hw,hok⟩:=ia hh hb hs
 have hck:=gf (P:=P) (w:=w) hk hkr hfit false
 have hfk:=fH (P:=P) (es:=es.toList) (ks:=ks) hk hkr (by simpa using hok.len) (fun j y e h1 h2=>hok.key j y e h1 (by simpa using h2)) hr
 have hu:=iB ht
 obtain ⟨vz,hvz,hrz⟩:=cE hz
 have key:∃ v es' clock',(Instr.mapEntry t (.map (some kb)) (a.eval k)).run P w=.ok v (w.putObj kb (.map es' clock'))∧MapOk E w (b5 (ev T k) r ks) (gM z r vs) es' clock'∧Rel E w (.tup [rh z r vs,.int .i64 (p9 r ks)]) v:=by
  unfold Instr.mapEntry
  simp only [Sem.run_bind,run_underlying hu,Result.andThen_ok,bW hw rfl,hck,hfk]
  cases r with
  | none =>
   simp only [jN,Option.map_none,Sem.run_bind,hvz,Result.andThen_ok,dV hw rfl,Sem.run_pure]
   have hl:=hok.len
   have hl':=hok.len'
   refine ⟨_,_,_,rfl,⟨by simp [b5,hl],by simp [gM,b5,hl'],fun i y e h1 h2=>?_,fun i y e h1 h2=>?_,fun i e h1=>?_,by simp [hok.clk]⟩,?_⟩
   ·simp only [b5] at h1
    rw [Array.getElem?_push] at h2
    split at h2
    ·rename_i he
     cases h2
     rw [he,hl,List.getElem?_append_right (Nat.le_refl _)] at h1
     simp at h1; subst h1; exact hkr
    ·rename_i hne
     have hlt:i < es.size:=(Array.getElem?_eq_some_iff.1 h2).1
     rw [List.getElem?_append_left (by omega)] at h1
     exact hok.key i y e h1 h2
   ·simp only [gM] at h1
    rw [Array.getElem?_push] at h2
    split at h2
    ·rename_i he
     cases h2
     rw [he,hl,List.getElem?_append_right (by omega)] at h1
     simp [hl'] at h1; subst h1; exact hrz E w
    ·rename_i hne
     have hlt:i < es.size:=(Array.getElem?_eq_some_iff.1 h2).1
     rw [List.getElem?_append_left (by omega)] at h1
     exact hok.val i y e h1 h2
   ·rw [Array.getElem?_push] at h1
    split at h1
    ·rename_i he; cases h1; rw [he]; exact hok.clk
    ·exact hok.born i e h1
   ·refine ji (hrz E w) ?_
    rw [show (p9 none ks:Int)=(clock:Int) by rw [hok.clk,hl]; rfl]
    exact .int _ _
  | some i =>
   obtain ⟨y,hy,hsame⟩:=gg hr
   have hlt:i < es.size:=by have:=(List.getElem?_eq_some_iff.1 hy).1; have:=hok.len; omega
   have hlv:i < vs.length:=by have:=hok.len'; have:=hok.len; omega
   have hbits:=mL hkr (hok.key i y es[i] hy (by simp [hlt])) hsame
   have hkeep:(Instr.keyThatStays (((es[i]?).map (·.key)).getD (a.eval k)) (a.eval k)).run P w=.ok (a.eval k) w:=by
    unfold Instr.keyThatStays
    simp only [hlt,Array.getElem?_eq_getElem,Option.map_some,Option.getD_some]
    rw [if_pos hbits]; rfl
   simp only [jN,Option.map_some,Nat.zero_add,Sem.run_bind,hkeep,Result.andThen_ok,dV hw rfl,Sem.run_pure]
   have hmod:∀ j e,(es.modify i fun e=>{ e with key:=a.eval k })[j]?=some e→∃ e0,es[j]?=some e0∧((i=j∧e={ e0 with key:=a.eval k }) ∨ (i ≠ j∧e=e0)):=by
    intro j e he
    rw [Array.getElem?_modify] at he
    split at he
    ·rename_i hij
     cases h0:es[j]? with
     | none=>rw [h0] at he; cases he
     | some e0=>rw [h0] at he; cases he; exact ⟨e0,rfl,.inl ⟨hij,rfl⟩⟩
    ·rename_i hij; exact ⟨e,he,.inr ⟨hij,rfl⟩⟩
   refine ⟨_,_,_,rfl,⟨by simp [b5,hok.len],by simp [gM,b5,hok.len'],fun j z' e h1 h2=>?_,fun j z' e h1 h2=>?_,fun j e h1=>?_,by simp [hok.clk]⟩,?_⟩
   ·obtain ⟨e0,k1,(⟨rfl,rfl⟩ | ⟨hne,rfl⟩)⟩:=hmod j e h2
    ·simp only [b5] at h1
     rw [hy] at h1; cases h1
     rw [← qD hsame]; exact hkr
    ·exact hok.key j z' e h1 k1
   ·simp only [gM] at h1
    obtain ⟨e0,k1,(⟨rfl,rfl⟩ | ⟨hne,rfl⟩)⟩:=hmod j e h2
    ·exact hok.val i z' e0 h1 k1
    ·exact hok.val j z' e h1 k1
   ·obtain ⟨e0,k1,(⟨rfl,rfl⟩ | ⟨hne,rfl⟩)⟩:=hmod j e h1
    ·exact hok.born i e0 k1
    ·exact hok.born j e k1
   ·have e1:es.toList.getD i default=es[i]:=by simp [List.getD,hlt]
    have e2:vs.getD i .undef=vs[i]:=by simp [List.getD,hlv]
    have hrel:=hok.val i vs[i] es[i] (by simp [hlv]) (by simp [hlt])
    have hbn:=hok.born i es[i] (by simp [hlt])
    rw [e1]
    simp only [hlt,Array.getElem?_eq_getElem,Option.map_some,Option.getD_some,hbn]
    show Rel E w (.tup [vs.getD i .undef,.int .i64 (i:Nat)]) _
    rw [e2]
    exact ji hrel (.int _ _)
 obtain ⟨v,es',clock',hrun,hok',hrel⟩:=key
 obtain ⟨q1,q2,q3⟩:=map_set hE hh hb hs hw hok'
 refine ⟨.value v,v,_,E,_,_,nx,?_,.inl rfl,q1,q2,q3,hf,hrel.ext q1,h⟩
 refine ey ?_
 show (Instr.mapEntry t (a.eval m) (a.eval k)).run P w=_
 rw [hvm]; exact hrun
theorem ki {P:Program} {t:TypeId} {m s x:Operand} {T:Tm} {H:Hp} {nx b i:Nat} {K:AV→Hp→Nat→Prop} {ks vs:List AV}
    (hm:ev T m=.mp b) (hb:H b=some [.omap ks vs]) (hi:ev T s=.int .i64 (i:Int)) (hlt:i < ks.length)
    (h:K (.tup []) (am H b [.omap ks (vs.set i (ev T x))]) nx):cm P (.entryStore t m s x) T H nx K:=by
 refine bo (by intro c; simp) ?_
 rintro E w a ⟨dst,op,type,pos,after,guard⟩ ho hE hh hf htm
 simp only at ho
 subst ho
 have hmr:=htm m (by simp [Op.operands,Call.operands])
 have hsr:=htm s (by simp [Op.operands,Call.operands])
 have hxr:=htm x (by simp [Op.operands,Call.operands])
 rw [hm] at hmr
 rw [hi] at hsr
 generalize hvm:a.eval m=vm at hmr
 generalize hvs:a.eval s=vs1 at hsr
 cases hsr
 cases hmr with
 | mp _ kb hs =>
 obtain ⟨es,clock,hw,hok⟩:=ia hh hb hs
 have hle:i < es.size:=by have:=hok.len; omega
 have hfi:es.findIdx? (fun e=>(e.born:Int) == (i:Int))=some i:=by
  rw [Array.findIdx?_eq_some_iff_getElem]
  refine ⟨hle,?_,fun j hj=>?_⟩
  ·have:=hok.born i es[i] (by simp [hle])
   simp [this]
  ·have:=hok.born j es[j] (by simp [show j < es.size by omega])
   simp [this]; omega
 have key:∃ es' clock',(Instr.entryStore t (.map (some kb)) (.int .i64 (i:Int)) (a.eval x)).run P w=.ok () (w.putObj kb (.map es' clock'))∧MapOk E w ks (vs.set i (ev T x)) es' clock':=by
  unfold Instr.entryStore
  simp only [Sem.run_bind,Result.andThen_ok,bW hw rfl,asInt,asIntOf,Sem.run_pure,hfi,dV hw rfl]
  have hmod:∀ j e,(es.modify i fun e=>{ e with val:=a.eval x })[j]?=some e→∃ e0,es[j]?=some e0∧((i=j∧e={ e0 with val:=a.eval x }) ∨ (i ≠ j∧e=e0)):=by
   intro j e he
   rw [Array.getElem?_modify] at he
   split at he
   ·rename_i hij
    cases h0:es[j]? with
    | none=>rw [h0] at he; cases he
    | some e0=>rw [h0] at he; cases he; exact ⟨e0,rfl,.inl ⟨hij,rfl⟩⟩
   ·rename_i hij; exact ⟨e,he,.inr ⟨hij,rfl⟩⟩
  refine ⟨_,_,rfl,⟨by simp [hok.len],by simp [hok.len'],fun j z e h1 h2=>?_,fun j z e h1 h2=>?_,fun j e h1=>?_,by simp [hok.clk]⟩⟩
  ·obtain ⟨e0,k1,(⟨rfl,rfl⟩ | ⟨hne,rfl⟩)⟩:=hmod j e h2
   ·exact hok.key i z e0 h1 k1
   ·exact hok.key j z e h1 k1
  ·obtain ⟨e0,k1,(⟨rfl,rfl⟩ | ⟨hne,rfl⟩)⟩:=hmod j e h2
   ·have:i < vs.length:=by have:=hok.len'; omega
    rw [List.getElem?_set_self this] at h1
    cases h1; exact hxr
   ·rw [List.getElem?_set_ne hne] at h1
    exact hok.val j z e h1 k1
  ·obtain ⟨e0,k1,(⟨rfl,rfl⟩ | ⟨hne,rfl⟩)⟩:=hmod j e h1
   ·exact hok.born i e0 k1
   ·exact hok.born j e k1
 obtain ⟨es',clock',hrun,hok'⟩:=key
 obtain ⟨q1,q2,q3⟩:=map_set hE hh hb hs hw hok'
 refine ⟨.skip,Go.undef,_,E,.tup [],_,nx,?_,.inr ⟨rfl,rfl⟩,q1,q2,q3,hf,d9 _ _,h⟩
 refine n5 ?_
 show (Instr.entryStore t (a.eval m) (a.eval s) (a.eval x)).run P w=_
 rw [hvm,hvs]; exact hrun
theorem rL {P:Program} {t:TypeId} {m:Operand} {T:Tm} {H:Hp} {nx b:Nat} {K:AV→Hp→Nat→Prop} {p:TypeId × TypeId} {ks vs:List AV} (ht:je P t=some p) (hm:ev T m=.mp b) (hb:H b=some [.omap ks vs])
    (h:K (.int .i64 ks.length) H nx):cm P (.call { callee:=.builtin .len,args:=#[m],argTypes:=#[t] }) T H nx K:=by
 refine bo (by intro c; simp) ?_
 rintro E w a ⟨dst,op,type,pos,after,guard⟩ ho hE hh hf htm
 simp only at ho
 subst ho
 have hmr:=htm m (by simp [Op.operands,Call.operands])
 rw [hm] at hmr
 generalize hvm:a.eval m=vm at hmr
 cases hmr with
 | mp _ kb hs =>
 obtain ⟨es,clock,hw,hok⟩:=ia hh hb hs
 have hu:=iB (P:=P) (t:=t) (k:=p.1) (e:=p.2) ht
 have hrun:(Builtin.len_ #[t] type #[.map (some kb)]).run P w=.ok (goInt es.size) w:=by
  unfold Builtin.len_
  simp [run_underlying hu,bW hw rfl]
 refine ⟨.value (goInt es.size),goInt es.size,w,E,_,H,nx,?_,.inl rfl,Ext.refl _ _,hE,hh,hf,?_,h⟩
 ·simp only [execOp,resolve,invoke,builtin,Sem.run_bind,Sem.run_pure,Result.andThen_ok]
  simp [hvm,hrun]
 ·rw [hok.len]; exact .int _ _
theorem pg {P:Program} {t:TypeId} {m:Operand} {T:Tm} {H:Hp} {nx b:Nat} {K:AV→Hp→Nat→Prop} {p:TypeId × TypeId} {ks vs:List AV} (ht:je P t=some p) (hm:ev T m=.mp b) (hb:H b=some [.omap ks vs])
    (h:K (.itr nx) (am H nx [.oiter b ks.length []]) (nx + 1)):cm P (.range t m) T H nx K:=by
 refine bo (by intro c; simp) ?_
 rintro E w a ⟨dst,op,type,pos,after,guard⟩ ho hE hh hf htm
 simp only at ho
 subst ho
 have hmr:=htm m (by simp [Op.operands,Call.operands])
 rw [hm] at hmr
 generalize hvm:a.eval m=vm at hmr
 cases hmr with
 | mp _ kb hs =>
 obtain ⟨es,clock,hw,hok⟩:=ia hh hb hs
 have hu:=iB (P:=P) (t:=t) (k:=p.1) (e:=p.2) ht
 obtain ⟨E',hE',he,hEo,hh',hs',hnew⟩:=rP hE hh (hf nx (Nat.le_refl _)) (.mapIter (some kb) clock #[] clock) rfl (by intro ds; simp)
 have hcl:clock=ks.length:=by rw [hok.clk,hok.len]
 refine ⟨.value (.pointer (some ⟨w.heap.size,0,none⟩)),.pointer (some ⟨w.heap.size,0,none⟩),w.alloc (.mapIter (some kb) clock #[] clock),E',.itr nx,_,nx + 1,?_,.inl rfl,he,hEo,
  hh'.addSp (x:=.oiter b ks.length []) (Nat.lt_succ_self _) (hEo.spm nx _ hs') hs' ⟨kb,clock,by rw [hnew,hcl],he.sp _ _ hs,fun h=>absurd rfl h,hcl⟩,hf.sp hE',.itr _ _ hs',h⟩
 refine ey ?_
 show (Instr.range t (a.eval m)).run P w=_
 rw [hvm]
 unfold Instr.range
 simp only [Sem.run_bind,run_underlying hu,Result.andThen_ok,bW hw rfl,Sem.run_pure,run_newObj_alloc]
theorem sG {E:Env} {H:Hp} {nx:Nat} {w:World} (hh:HeapOk E H nx w) {b k m n0:Nat} {seen:List Nat} (hb:H b=some [.oiter m n0 seen]) (hs:E.sp b=some k) :
    ∃ km last,w.heap[k]?=some (.mapIter (some km) n0 seen.toArray last)∧E.sp m=some km∧(seen ≠ []→0 < last)∧last=n0:=by
 obtain ⟨k',h1,h2⟩:=hh.spec b _ hb rfl
 rw [hs] at h1; cases h1
 exact h2
theorem mH {es:Array MapEntry} {p:MapEntry→Bool} {e:MapEntry} (h:e ∈ es.filter p):(∃ i:Nat,es[i]?=some e)∧p e=true:=by
 rw [Array.mem_filter] at h
 obtain ⟨i,hi,rfl⟩:=Array.mem_iff_getElem.1 h.1
 exact ⟨⟨i,by simp [hi]⟩,h.2⟩
theorem lw {P:Program} {w:World} {n:Nat} (hn:0 < n):∃ c w1,(choose (.mapNext n)).run P w=.ok c w1∧c < n∧(w1=w ∨ w1=w.drew):=by
 rw [run_choose_drew]
 by_cases h:(Question.mapNext n).forced=true
 ·rw [if_pos h]; exact ⟨0,w,rfl,hn,.inl rfl⟩
 ·rw [if_neg h]; exact ⟨_,w.drew,rfl,Nat.mod_lt _ hn,.inr rfl⟩
def dF (es:Array MapEntry) (seen:List Nat) (n0:Nat):Array MapEntry:=(es.filter fun e=>!seen.toArray.contains e.born).filter (·.born < n0)
def lF (es:Array MapEntry) (seen:List Nat) (n0:Nat):Array MapEntry:=(es.filter fun e=>!seen.toArray.contains e.born).filter (·.born ≥ n0)
theorem vO {P:Program} {w:World} {k km n0 last clock:Nat} {seen:List Nat} {es:Array MapEntry} {ty:TypeId} (hw:w.heap[k]?=some (.mapIter (some km) n0 seen.toArray last)) (hwm:w.heap[km]?=some (.map es clock))
    (hg:(!seen.toArray.isEmpty && !es.isEmpty && es.all (·.born ≥ last))=false) :
    ∃ w1,(w1=w ∨ w1=w.drew) ∧
     ((dF es seen n0).isEmpty=true∧(Instr.next (.pointer (some ⟨k,0,none⟩)) false ty).run P w=.ok (.tuple #[.bool false]) w1 ∨
      ∃ (e:MapEntry) (i:Nat),es[i]?=some e∧seen.toArray.contains e.born=false∧(Instr.next (.pointer (some ⟨k,0,none⟩)) false ty).run P w=.ok (.tuple #[.bool true,e.key,e.val]) (w1.putObj k (.mapIter (some km) n0 (seen.toArray.push e.born) clock))):=by
 let cand:Array (Option MapEntry):=(if (dF es seen n0).isEmpty then #[none] else #[]) ++ (dF es seen n0 ++ lF es seen n0).map some
 have hpos:0 < cand.size:=by
  show 0 < ((if (dF es seen n0).isEmpty then #[none] else #[]) ++ (dF es seen n0 ++ lF es seen n0).map some).size
  split
  ·simp; omega
  ·rename_i hne
   have:(dF es seen n0).size ≠ 0:=by intro h; exact hne (by simp [Array.isEmpty,h])
   simp; omega
 obtain ⟨c,w1,hc,hlt,hw1⟩:=lw (P:=P) (w:=w) hpos
 refine ⟨w1,hw1,?_⟩
 have hh1:w1.heap=w.heap:=by rcases hw1 with rfl | rfl <;> rfl
 have hget:cand[c]?=some cand[c]:=by simp [hlt]
 have hrun:(Instr.next (.pointer (some ⟨k,0,none⟩)) false ty).run P w=(match cand[c] with
     | some e=>(do setObj k (.mapIter (some km) n0 (seen.toArray.push e.born) clock); pure (.tuple #[.bool true,e.key,e.val]):Sem Value).run P w1
     | none=>.ok (.tuple #[.bool false]) w1):=by
  unfold Instr.next
  simp only [Sem.run_bind,bW hw rfl,bW hwm rfl,Result.andThen_ok,hg,Bool.false_eq_true,if_false]
  have hc':(choose (.mapNext ((if (Array.filter (fun (x:MapEntry)=>decide (x.born < n0)) (Array.filter (fun (e:MapEntry)=>!seen.toArray.contains e.born) es)).isEmpty then #[none] else #[]) ++ Array.map some (Array.filter (fun (x:MapEntry)=>decide (x.born < n0)) (Array.filter (fun (e:MapEntry)=>!seen.toArray.contains e.born) es) ++ Array.filter (fun (x:MapEntry)=>decide (x.born ≥ n0)) (Array.filter (fun (e:MapEntry)=>!seen.toArray.contains e.born) es))).size)).run P w=.ok c w1:=hc
  simp only [hc',Result.andThen_ok]
  have hget':((if (Array.filter (fun (x:MapEntry)=>decide (x.born < n0)) (Array.filter (fun (e:MapEntry)=>!seen.toArray.contains e.born) es)).isEmpty then #[none] else #[]) ++ Array.map some (Array.filter (fun (x:MapEntry)=>decide (x.born < n0)) (Array.filter (fun (e:MapEntry)=>!seen.toArray.contains e.born) es) ++ Array.filter (fun (x:MapEntry)=>decide (x.born ≥ n0)) (Array.filter (fun (e:MapEntry)=>!seen.toArray.contains e.born) es)))[c]?=some cand[c]:=hget
  rw [hget']
  cases cand[c] with
  | none=>rfl
  | some e=>simp only [Sem.run_bind]
 have hmem:cand[c] ∈ cand:=Array.getElem_mem hlt
 have hmem':cand[c] ∈ (if (dF es seen n0).isEmpty then #[none] else #[]) ++ (dF es seen n0 ++ lF es seen n0).map some:=hmem
 generalize cand[c]=x at hrun hmem'
 rw [Array.mem_append] at hmem'
 cases x with
 | none =>
  left
  refine ⟨?_,hrun⟩
  rcases hmem' with h | h
  ·split at h
   ·assumption
   ·simp at h
  ·simp at h
 | some e =>
  right
  have he:e ∈ dF es seen n0 ∨ e ∈ lF es seen n0:=by
   rcases hmem' with h | h
   ·split at h <;> simp at h
   ·simpa using h
  have hleft:e ∈ es.filter fun e=>!seen.toArray.contains e.born:=by
   rcases he with h | h
   ·exact (Array.mem_filter.1 h).1
   ·exact (Array.mem_filter.1 h).1
  obtain ⟨⟨i,hi⟩,hs⟩:=mH hleft
  refine ⟨e,i,hi,by simpa using hs,?_⟩
  rw [hrun]
  have hw':w1.heap[k]?=some (.mapIter (some km) n0 seen.toArray last):=by rw [hh1]; exact hw
  simp only [Sem.run_bind,dV hw' rfl,Result.andThen_ok]
  rfl
theorem qY {P:Program} {it:Operand} {T:Tm} {H:Hp} {nx b m n0:Nat} {K:AV→Hp→Nat→Prop} {ks vs:List AV} {seen:List Nat} (hi:ev T it=.itr b) (hb:H b=some [.oiter m n0 seen]) (hm:H m=some [.omap ks vs]) (hkn:ks.length=n0)
    (h1:∀ i,i < ks.length→i ∉ seen→K (.tup [.bool true,ks.getD i .undef,vs.getD i .undef]) (am H b [.oiter m n0 (seen ++ [i])]) nx)
    (h2:(∀ i,i < n0→i < ks.length→i ∈ seen)→K (.tup [.bool false]) H nx):cm P (.next it false) T H nx K:=by
 refine bo (by intro c; simp) ?_
 rintro E w a ⟨dst,op,type,pos,after,guard⟩ ho hE hh hf htm
 simp only at ho
 subst ho
 have hir:=htm it (by simp [Op.operands,Call.operands])
 rw [hi] at hir
 generalize hvi:a.eval it=vi at hir
 cases hir with
 | itr _ k hs =>
 obtain ⟨km,last,hw,hsm,hlast,hln⟩:=sG hh hb hs
 obtain ⟨es,clock,hwm,hok⟩:=ia hh hm hsm
 have hl:=hok.len
 have hl':=hok.len'
 have hguard:(!seen.toArray.isEmpty && !es.isEmpty && es.all (·.born ≥ last))=false:=by
  by_cases hse:seen=[]
  ·subst hse; rfl
  ·have hpos:=hlast hse
   by_cases hz:es.size=0
   ·have:es=#[]:=Array.eq_empty_of_size_eq_zero hz
    subst this; simp
   ·have h0:=hok.born 0 es[0] (by simp)
    have:es.all (·.born ≥ last)=false:=by
     rw [Array.all_eq_false]
     exact ⟨0,by omega,by simp; omega⟩
    rw [this]; simp
 obtain ⟨w1,hw1,hrun⟩:=vO (P:=P) (ty:=type) hw hwm hguard
 have hE1:Ext E w E w1∧EnvOk E w1∧HeapOk E H nx w1∧w1.heap=w.heap:=by
  rcases hw1 with rfl | rfl
  ·exact ⟨Ext.refl _ _,hE,hh,rfl⟩
  ·exact ⟨Ext.same rfl,hE.drew,hh.same rfl,rfl⟩
 obtain ⟨k1,k2,k3,k4⟩:=hE1
 have hexec:∀ v w',(Instr.next (.pointer (some ⟨k,0,none⟩)) false type).run P w=.ok v w'→(execOp a.eval ⟨dst,.next it false,type,pos,after,guard⟩).run P w=.ok (.value v) w':=by
  intro v w' h
  refine ey ?_
  show (Instr.next (a.eval it) false type).run P w=_
  rw [hvi]; exact h
 rcases hrun with ⟨hold,hrun⟩ | ⟨e,i,hei,hns,hrun⟩
 ·refine ⟨.value (.tuple #[.bool false]),.tuple #[.bool false],w1,E,.tup [.bool false],H,nx,hexec _ _ hrun,.inl rfl,k1,k2,k3,hf,uQ (.bool _),h2 (fun i h0 hi=>?_)⟩
  have hlt:i < es.size:=by omega
  rcases Decidable.em (i ∈ seen) with h | h
  ·exact h
  ·exfalso
   have hb0:=hok.born i es[i] (by simp [hlt])
   have hmem:es[i] ∈ dF es seen n0:=by
    unfold dF
    rw [Array.mem_filter]
    refine ⟨Array.mem_filter.2 ⟨Array.getElem_mem hlt,?_⟩,by rw [hb0]; simpa using h0⟩
    rw [hb0]; simpa using h
   have:(dF es seen n0).size=0:=by simpa [Array.isEmpty] using hold
   rw [Array.eq_empty_of_size_eq_zero this] at hmem
   simp at hmem
 ·have hlt:i < es.size:=(Array.getElem?_eq_some_iff.1 hei).1
  have hb0:=hok.born i e hei
  have hni:i ∉ seen:=by
   rw [hb0] at hns; simpa using hns
  have hw1k:w1.heap[k]?=some (.mapIter (some km) n0 seen.toArray last):=by rw [k4]; exact hw
  have hlp:∀ r T,E.lp b=some (r,T)→False:=by
   intro r T h
   obtain ⟨k',st,p,h1,h2,_⟩:=hE.lp b r T h
   rw [hs] at h1; cases h1
   rw [hw] at h2; cases h2
  obtain ⟨q1,q2,q3⟩:=oJ k2 (k3.del b) hs hw1k (o':=.mapIter (some km) n0 (seen.toArray.push e.born) clock) rfl rfl (by intro ds; simp) (by intro ds; simp) (fun r T h=>(hlp r T h).elim) (fun x hx=>by rw [f8] at hx; cases hx)
  have hH:am (bN H b) b [.oiter m n0 (seen ++ [i])]=am H b [.oiter m n0 (seen ++ [i])]:=by
   funext y; unfold am bN; split <;> rfl
  have q4:=q3.addSp (x:=.oiter m n0 (seen ++ [i])) (hh.dom _ _ hb) (q2.spm b k hs) hs ⟨km,clock,by
   rw [World.putObj_heap_same (Array.getElem?_eq_some_iff.1 hw1k).1,hb0]; simp,hsm,fun _=>by rw [hok.clk]; omega,by rw [hok.clk,hl,hkn]⟩
  rw [hH] at q4
  have hkr:=hok.key i (ks.getD i .undef) e (by simp [List.getD,show i < ks.length by omega]) hei
  have hvr:=hok.val i (vs.getD i .undef) e (by simp [List.getD,show i < vs.length by omega]) hei
  exact ⟨.value (.tuple #[.bool true,e.key,e.val]),.tuple #[.bool true,e.key,e.val],_,E,.tup [.bool true,ks.getD i .undef,vs.getD i .undef],_,nx,hexec _ _ hrun,.inl rfl,k1.trans q1,q2,q4,hf,
   wo (.bool _) (hkr.ext (k1.trans q1)) (hvr.ext (k1.trans q1)),h1 i (by omega) hni⟩
theorem tJ {E:Env} {w:World} {x y:AV} {u v:Value} (h1:Rel E w x u) (h2:Rel E w y v):Rel E w (.tup [x,y]) (.tuple #[u,v]):=by
 refine Rel.tup [x,y] [u,v] rfl (fun i a b ha hb=>?_)
 match i with
 | 0=>cases ha; cases hb; exact h1
 | 1=>cases ha; cases hb; exact h2
 | i + 2=>cases ha
theorem oZ {P:Program} {it:Operand} {T:Tm} {H:Hp} {nx b m n0 i:Nat} {K:AV→Hp→Nat→Prop} {ks vs:List AV} {seen:List Nat} (hi:ev T it=.itr b) (hb:H b=some [.oiter m n0 seen]) (hm:H m=some [.omap ks vs])
    (hkn:ks.length=n0) (hl:seen.getLast?=some i) (hlt:i < ks.length) (h:K (.tup [ks.getD i .undef,vs.getD i .undef]) H nx):cm P (.entry it) T H nx K:=by
 refine bo (by intro c; simp) ?_
 rintro E w a ⟨dst,op,type,pos,after,guard⟩ ho hE hh hf htm
 simp only at ho
 subst ho
 have hir:=htm it (by simp [Op.operands,Call.operands])
 rw [hi] at hir
 generalize hvi:a.eval it=vi at hir
 cases hir with
 | itr _ k hs =>
 obtain ⟨km,last,hw,hsm,hlast,hln⟩:=sG hh hb hs
 obtain ⟨es,clock,hwm,hok⟩:=ia hh hm hsm
 have hlen:=hok.len
 have hlen':=hok.len'
 have hie:i < es.size:=by omega
 have hei:es[i]?=some es[i]:=by simp [hie]
 have hborn:=hok.born i es[i] hei
 have hback:seen.toArray.back?=some i:=by rw [List.back?_toArray,hl]
 have hfind:es.find? (·.born == i)=some es[i]:=by
  cases hf:es.find? (·.born == i) with
  | none =>
   have:=Array.find?_eq_none.1 hf es[i] (Array.getElem_mem hie)
   rw [hborn] at this
   simp at this
  | some e =>
   have h1:=Array.find?_some hf
   have h2:=Array.mem_of_find?_eq_some hf
   obtain ⟨j,hj,rfl⟩:=Array.mem_iff_getElem.1 h2
   have h3:=hok.born j es[j] (by simp [hj])
   simp only [h3,beq_iff_eq] at h1
   subst h1
   rfl
 have hclk:(clock != last)=false:=by
  have:clock=last:=by rw [hok.clk,hlen,hkn,hln]
  simp [this]
 have hkr:=hok.key i (ks.getD i .undef) es[i] (by simp [List.getD,hlt]) hei
 have hvr:=hok.val i (vs.getD i .undef) es[i] (by simp [List.getD,show i < vs.length by omega]) hei
 refine ⟨.value (.tuple #[es[i].key,es[i].val]),.tuple #[es[i].key,es[i].val],w,E,.tup [ks.getD i .undef,vs.getD i .undef],H,nx,?_,.inl rfl,Ext.refl _ _,hE,hh,hf,tJ hkr hvr,h⟩
 refine ey ?_
 show (Instr.entry (a.eval it)).run P w=_
 rw [hvi]
 unfold Instr.entry
 simp only [Sem.run_bind,bW hw rfl,bW hwm rfl,Result.andThen_ok,hback,hclk,hfind,Bool.false_eq_true,if_false,Sem.run_pure]
def sw (n:Nat):AV→AV
 | .sl sz l=>.sl sz (l.take n)
 | .msl b m sz off _=>.msl b m sz off n
 | x=>x
def eZ:AV→Option Nat
 | .sl _ l=>some l.length
 | .msl _ _ _ _ len=>some len
 | .esl=>some 0
 | _=>none
theorem pQ {P:Program} {E:Env} {H:Hp} {nx:Nat} {w:World} (hh:HeapOk E H nx w) {x:AV} {v:Value} (hx:Rel E w x v) {n k sz j:Nat} {new:List AV} (hk:eZ x=some k) (hn:n ≤ k) (hn0:0 < n) (h:dz sz H (sw n x)=some (j,new)) :
    (Builtin.lenOf v).run P w=.ok k w∧new.length=n * sz∧∃ vals:List Value,(Builtin.firstCells sz n v).run P w=.ok vals.toArray w∧vals.length=new.length∧∀ (i:Nat) (a:AV) (y:Value),new[i]?=some a→vals[i]?=some y→Rel E w a y:=by
 cases hx with
 | sl szz elems blk o cap vals him hlen hsz hcell hr =>
  cases hk
  have htl:(elems.take n).length=n:=by simp; omega
  have hx':Rel E w (.sl szz (elems.take n)) (.slice (some ⟨blk,o,none⟩) (elems.take n).length cap) :=
   Rel.sl szz (elems.take n) blk o cap vals him (by omega) (fun y hy=>hsz y (List.mem_of_mem_take hy)) (fun i hi=>hcell i (Nat.lt_of_lt_of_le hi (Nat.mul_le_mul_right _ (by omega)))) (fun i j y c hy hc=>by
    rw [List.getElem?_take] at hy
    split at hy
    ·exact hr i j y c hy hc
    ·cases hy)
  obtain ⟨h1,h2,vs,h3,h4,h5⟩:=gj (P:=P) hh hx' h
  have hj:j=n:=by
   have:=h1
   simp only [Builtin.lenOf,Sem.run_pure] at this
   injection this with e; omega
  subst hj
  exact ⟨rfl,h2,vs,h3,h4,h5⟩
 | msl b m szz off len blk bsz cap hm hl hc hnn =>
  cases hk
  have hx':Rel E w (.msl b m szz off n) (.slice (some ⟨blk,off,none⟩) n cap):=.msl _ _ _ _ _ _ _ _ hm (by omega) hc hnn
  obtain ⟨h1,h2,vs,h3,h4,h5⟩:=gj (P:=P) hh hx' h
  have hj:j=n:=by
   have:=h1
   simp only [Builtin.lenOf,Sem.run_pure] at this
   injection this with e; exact e.symm
  subst hj
  exact ⟨rfl,h2,vs,h3,h4,h5⟩
 | slnil=>cases hk; simp at hn; omega
 | slempty=>cases hk; simp at hn; omega
 | msl0=>cases hk; omega
 | eslnil=>cases hk; omega
 | esl=>cases hk; omega
 | _=>cases hk
theorem k9 {P:Program} {E:Env} {w:World} {x:AV} {v:Value} (hx:Rel E w x v) {k:Nat} (hk:eZ x=some k):(Builtin.lenOf v).run P w=.ok k w∧∃ a c,v=.slice a k c:=by
 cases hx with
 | sl=>cases hk; exact ⟨rfl,_,_,rfl⟩
 | msl=>cases hk; exact ⟨rfl,_,_,rfl⟩
 | slnil=>cases hk; exact ⟨rfl,_,_,rfl⟩
 | slempty=>cases hk; exact ⟨rfl,_,_,rfl⟩
 | msl0 _ _ _ h=>cases hk; rcases h with rfl | ⟨_,rfl⟩ <;> exact ⟨rfl,_,_,rfl⟩
 | eslnil=>cases hk; exact ⟨rfl,_,_,rfl⟩
 | esl=>cases hk; exact ⟨rfl,_,_,rfl⟩
 | _=>cases hk
theorem lr {P:Program} {w:World} {sz k c:Nat} {a:Option Addr}:(Builtin.firstCells sz 0 (.slice a k c)).run P w=.ok #[] w:=by
 cases a <;> simp [Builtin.firstCells,loadCells,loadCellsFrom]
def iO (sz:Nat) (d s:AV) (H:Hp):Option (Nat × Hp) :=
 match eZ d,eZ s with
 | some ld,some ls =>
  if min ls ld=0 then some (0,H) else
  match d with
  | .msl b n sz' off _=>match H b,dz sz H (sw (min ls ld) s) with
   | some cs,some (_,new)=>if cs.length=n∧sz'=sz∧off + min ls ld * sz ≤ n∧new.all AV.one=true then some (min ls ld,am H b (bb cs off new)) else none
   | _,_=>none
  | _=>none
 | _,_=>none
theorem rq {P:Program} {tD tS e:TypeId} {d s:Operand} {T:Tm} {H:Hp} {nx:Nat} {K:AV→Hp→Nat→Prop} {n:Nat} {H':Hp} (ht:d6 P tD=some e) (hte:tok P e=true)
    (h:iO (P.cellsOf e) (ev T d) (ev T s) H=some (n,H')) (hk:K (.int .i64 n) H' nx):cm P (.call { callee:=.builtin .copy,args:=#[d,s],argTypes:=#[tD,tS] }) T H nx K:=by
 refine bo (by intro c; simp) ?_
 rintro E w a ⟨dst,op,type,pos,after,guard⟩ ho hE hh hf htm
 simp only at ho
 subst ho
 have hdr:=htm d (by simp [Op.operands,Call.operands])
 have hsr:=htm s (by simp [Op.operands,Call.operands])
 have hu:=eB ht
 have hexec:∀ v w',(Builtin.copy_ #[tD,tS] type #[a.eval d,a.eval s]).run P w=.ok v w'→(execOp a.eval ⟨dst,.call { callee:=.builtin .copy,args:=#[d,s],argTypes:=#[tD,tS] },type,pos,after,guard⟩).run P w=.ok (.value v) w':=by
  intro v w' h
  simp only [execOp,resolve,invoke,builtin,Sem.run_bind,Sem.run_pure,Result.andThen_ok]
  simp [h]
 unfold iO at h
 split at h
 case h_2=>cases h
 rename_i ld ls hld hls
 obtain ⟨_,ad,cd,hvd⟩:=k9 (P:=P) hdr hld
 obtain ⟨hls',as,cs',hvs⟩:=k9 (P:=P) hsr hls
 split at h
 case isTrue h0 =>
  cases h
  have hrun:(Builtin.copy_ #[tD,tS] type #[a.eval d,a.eval s]).run P w=.ok (goInt 0) w:=by
   have h0':Nat.min ls ld=0:=h0
   unfold Builtin.copy_
   simp only [List.getElem?_toArray,List.getElem?_cons_zero,List.getElem?_cons_succ,Sem.run_bind,run_underlying hu,Result.andThen_ok,hvd]
   simp only [hls',Result.andThen_ok,h0',aJ hte]
   rw [hvs]
   simp only [lr,Result.andThen_ok]
   cases ad <;> simp [storeCells]
  exact ⟨.value (goInt 0),goInt 0,w,E,_,H,nx,hexec _ _ hrun,.inl rfl,Ext.refl _ _,hE,hh,hf,.int _ _,hk⟩
 case isFalse h0 =>
  split at h
  case h_2=>cases h
  rename_i b n' sz' off len hd
  split at h
  case h_2=>cases h
  rename_i cs j new hb hsrc
  split at h
  case isFalse=>cases h
  case isTrue hc =>
  obtain ⟨rfl,rfl,hfit,hone⟩:=hc
  cases h
  have hlen:len=ld:=by rw [hd] at hld; cases hld; rfl
  subst hlen
  obtain ⟨_,hnl,vals,h3,h4,h5⟩:=pQ (P:=P) hh hsr hls (Nat.min_le_left _ _) (by omega) hsrc
  have hones:∀ y ∈ vals,y.oneCell'=true:=by
   intro y hy
   obtain ⟨i,hi⟩:=List.getElem?_of_mem hy
   have hlt:i < new.length:=by have:=(List.getElem?_eq_some_iff.1 hi).1; omega
   exact (h5 i new[i] y (by simp [hlt]) hi).one (List.all_eq_true.1 hone _ (List.getElem_mem hlt))
  rw [hd] at hdr
  generalize hnn:cs.length=nn at hdr
  generalize hvd':a.eval d=vd at hdr
  cases hdr with
  | msl0=>omega
  | msl _ _ _ _ _ blk bsz cap hm hl hcp hcn =>
  subst hnn
  obtain ⟨w',E',g1,g2,g3,g4,g5,g6,g7⟩:=fv (P:=P) hE hh (off:=off) hb hm (new:=new) (nv:=vals) (by rw [hnl]; exact hfit) h4 h5 hones
  have hrun:(Builtin.copy_ #[tD,tS] type #[a.eval d,a.eval s]).run P w=.ok (goInt ((min ls len:Nat):Int)) w':=by
   have e:Nat.min ls len=min ls len:=rfl
   unfold Builtin.copy_
   simp only [List.getElem?_toArray,List.getElem?_cons_zero,List.getElem?_cons_succ,Sem.run_bind,run_underlying hu,Result.andThen_ok,hvd',hls',e,aJ hte,h3,g1,Sem.run_pure]
  exact ⟨.value (goInt ((min ls len:Nat):Int)),goInt ((min ls len:Nat):Int),w',E',.int .i64 ((min ls len:Nat):Int),_,nx,hexec _ _ hrun,.inl rfl,g2,g3,g4,hf.of (Nat.le_refl _) (fun b' n hb'=>g5 b' n (by have:=hh.dom _ _ hb; omega)) g6 g7,.int _ _,hk⟩
def fJ (sz:Nat) (z x:AV) (H:Hp):Option Hp:=match x with
 | .msl b n sz' off len=>if len=0 then some H else match H b with
  | some cs=>if cs.length=n∧sz'=sz∧z.flat=true∧z.cells.length=sz∧off + len * sz ≤ n then some (am H b (bb cs off (aZ z len))) else none
  | none=>none
 | _=>none
theorem qw {P:Program} {tX e:TypeId} {x:Operand} {T:Tm} {H:Hp} {nx:Nat} {K:AV→Hp→Nat→Prop} {z:AV} {H':Hp} (ht:d6 P tX=some e) (hz:dN P e=some z)
    (h:fJ (P.cellsOf e) z (ev T x) H=some H') (hpos:0 < P.cellsOf e) (hk:K (.tup []) H' nx):cm P (.call { callee:=.builtin .clear,args:=#[x],argTypes:=#[tX] }) T H nx K:=by
 refine bo (by intro c; simp) ?_
 rintro E w a ⟨dst,op,type,pos,after,guard⟩ ho hE hh hf htm
 simp only at ho
 subst ho
 have hxr:=htm x (by simp [Op.operands,Call.operands])
 have hu:=eB ht
 have hexec:∀ v w',(Builtin.clear_ #[tX] type #[a.eval x]).run P w=.ok v w'→(execOp a.eval ⟨dst,.call { callee:=.builtin .clear,args:=#[x],argTypes:=#[tX] },type,pos,after,guard⟩).run P w=.ok (.value v) w':=by
  intro v w' h
  simp only [execOp,resolve,invoke,builtin,Sem.run_bind,Sem.run_pure,Result.andThen_ok]
  simp [h]
 unfold fJ at h
 split at h
 case h_2=>cases h
 rename_i b n sz' off len hx
 rw [hx] at hxr
 split at h
 case isTrue h0 =>
  cases h
  subst h0
  have hrun:(Builtin.clear_ #[tX] type #[a.eval x]).run P w=.ok (.tuple #[]) w:=by
   generalize a.eval x=vx at hxr
   unfold Builtin.clear_
   simp only [List.getElem?_toArray,List.getElem?_cons_zero,Sem.run_bind,run_underlying hu,Result.andThen_ok]
   cases hxr with
   | msl=>rfl
   | msl0 _ _ _ hv=>rcases hv with rfl | ⟨_,rfl⟩ <;> rfl
  exact ⟨.value (.tuple #[]),.tuple #[],w,E,.tup [],H,nx,hexec _ _ hrun,.inl rfl,Ext.refl _ _,hE,hh,hf,d9 _ _,hk⟩
 case isFalse h0 =>
  split at h
  case h_2=>cases h
  rename_i cs hb
  split at h
  case isFalse=>cases h
  case isTrue hc =>
  obtain ⟨rfl,rfl,hfl,hzl,hfit⟩:=hc
  cases h
  generalize hnn:cs.length=nn at hxr
  generalize hvx:a.eval x=vx at hxr
  cases hxr with
  | msl0=>omega
  | msl _ _ _ _ _ blk bsz cap hm hl hcp hcn =>
  subst hnn
  obtain ⟨vz,hvz,hrz⟩:=cE hz
  obtain ⟨k1,k2,k3⟩:=(hrz E w).cells hfl
  have hvs : vz.cells.size = P.cellsOf e := by have : vz.cells.toList.length = vz.cells.size := by simp
                                               omega
  have hzc:(aZ z len).length=len * P.cellsOf e:=by simp [aZ,hzl]
  have hzz:(Builtin.zeroCells vz.cells len).size=len * P.cellsOf e:=by simp [Builtin.zeroCells,hvs]
  have hget:∀ j (y:Value),(Builtin.zeroCells vz.cells len)[j]?=some y→j < len * P.cellsOf e∧vz.cells[j % P.cellsOf e]?=some y:=by
   intro j y hy
   have hj:j < len * P.cellsOf e:=by rw [← hzz]; exact (Array.getElem?_eq_some_iff.1 hy).1
   refine ⟨hj,?_⟩
   have hlt:j % P.cellsOf e < vz.cells.size:=by rw [hvs]; exact Nat.mod_lt _ hpos
   unfold Builtin.zeroCells at hy
   rw [hvs,Array.getElem?_map,Array.getElem?_range,if_pos hj] at hy
   simp only [Option.map_some] at hy
   rw [getElem!_pos vz.cells _ hlt] at hy
   rw [← hy]; simp [hlt]
  obtain ⟨w',E',g1,g2,g3,g4,g5,g6,g7⟩:=fv (P:=P) hE hh (off:=off) hb hm (new:=aZ z len) (nv:=(Builtin.zeroCells vz.cells len).toList) (by rw [hzc]; exact hfit) (by simp [hzz,hzc]) (fun j p y hp hy=>by
   obtain ⟨hj,hvj⟩:=hget j y (by simpa using hy)
   unfold aZ at hp
   rw [bH _ _ (by rw [hzl]; exact hj),hzl] at hp
   exact k2 _ _ _ hp (by simpa using hvj)) (fun y hy=>by
   obtain ⟨j,hj⟩:=List.getElem?_of_mem hy
   obtain ⟨_,hvj⟩:=hget j y (by simpa using hj)
   exact k3 y (by simpa using Array.mem_of_getElem? hvj))
  have hrun:(Builtin.clear_ #[tX] type #[a.eval x]).run P w=.ok (.tuple #[]) w':=by
   cases len with
   | zero=>exact absurd rfl h0
   | succ len =>
   unfold Builtin.clear_
   simp only [List.getElem?_toArray,List.getElem?_cons_zero,Sem.run_bind,run_underlying hu,Result.andThen_ok,hvx,hvz,g1,Sem.run_pure]
  exact ⟨.value (.tuple #[]),.tuple #[],w',E',.tup [],_,nx,hexec _ _ hrun,.inl rfl,g2,g3,g4,hf.of (Nat.le_refl _) (fun b' n hb'=>g5 b' n (by have:=hh.dom _ _ hb; omega)) g6 g7,d9 _ _,hk⟩
theorem px {P:Program} {t:TypeId} {m k x:Operand} {T:Tm} {H:Hp} {nx:Nat} {K:AV→Hp→Nat→Prop} (h:cm P (.mapUpdate t m k x) T H nx K):cm P (.insert t m k x) T H nx K:=by
 refine ⟨by intro c; simp,?_⟩
 rintro rr E w a ⟨dst,op,type,pos,after,guard⟩ next Q ho hE hh hf htm hn
 simp only at ho
 subst ho
 have:=h.2 rr E w a ⟨dst,.mapUpdate t m k x,type,pos,after,guard⟩ next Q rfl hE hh hf htm hn
 have e:execOp a.eval ⟨dst,.insert t m k x,type,pos,after,guard⟩=execOp a.eval ⟨dst,.mapUpdate t m k x,type,pos,after,guard⟩:=rfl
 rw [e]
 exact this
theorem rf {E:Env} {w:World} {x:AV} {v:Value} (hx:Rel E w x v) {k:Nat} (hk:eZ x=some k):∃ a c,v=.slice a k c∧(0 < k→∃ b,a=some b):=by
 cases hx with
 | sl=>cases hk; exact ⟨_,_,rfl,fun _=>⟨_,rfl⟩⟩
 | msl=>cases hk; exact ⟨_,_,rfl,fun _=>⟨_,rfl⟩⟩
 | slnil=>cases hk; exact ⟨_,_,rfl,fun h=>by simp at h⟩
 | slempty=>cases hk; exact ⟨_,_,rfl,fun h=>by simp at h⟩
 | msl0 _ _ _ h=>cases hk; rcases h with rfl | ⟨_,rfl⟩ <;> exact ⟨_,_,rfl,fun h=>by omega⟩
 | eslnil=>cases hk; exact ⟨_,_,rfl,fun h=>by omega⟩
 | esl=>cases hk; exact ⟨_,_,rfl,fun h=>by omega⟩
 | _=>cases hk
def sx (neg:Bool) (k:Nat) (K:AV→Prop):Prop:=(0 < k→K (.bool neg))∧(k=0→K (.bool true)∧K (.bool false))
theorem lS {P:Program} {t e ty:TypeId} {x:Operand} {neg:Bool} {T:Tm} {H:Hp} {nx:Nat} {K:AV→Hp→Nat→Prop} {k:Nat} (ht:d6 P t=some e) (hk:eZ (ev T x)=some k)
    (h:sx neg k fun r=>K r H nx):cm P (.binOp (if neg=true then .neq else .eql) t x (.const (.slice none 0 0)) ty) T H nx K:=by
 refine bo (by intro c; simp) ?_
 rintro E w a ⟨dst,op,type,pos,after,guard⟩ ho hE hh hf htm
 simp only at ho
 subst ho
 have hxr:=htm x (by simp [Op.operands,Call.operands])
 obtain ⟨ad,c,hv,hsome⟩:=rf hxr hk
 have hu:=eB ht
 have he0:∀ d,(Op.equalIn (d + 1) t (.slice ad k c) (.slice none 0 0)).run P w=.ok ad.isNone w:=by
  intro d
  simp only [Op.equalIn,Sem.run_bind,run_underlying hu,Result.andThen_ok]
  cases ad <;> rfl
 have he:=he0 9999
 have hrun:∀ op,op=(if neg=true then BinOp.neq else BinOp.eql)→(do eqGuard op t x (.const (.slice none 0 0)) (.slice ad k c) (.slice none 0 0); binOp op t (.slice ad k c) (.slice none 0 0):Sem Value).run P w=.ok (.bool (if neg=true then !ad.isNone else ad.isNone)) w:=by
  intro op hop
  subst hop
  rw [Sem.run_bind,dP (by simp) (by simp)]
  simp only [Result.andThen_ok]
  cases neg with
  | true=>simp only [if_true,binOp,Op.equal,Op.maxDepth,Sem.run_bind,he,Result.andThen_ok]; rfl
  | false=>simp only [Bool.false_eq_true,if_false,binOp,Op.equal,Op.maxDepth,Sem.run_bind,he,Result.andThen_ok]; rfl
 have hexec:(execOp a.eval ⟨dst,.binOp (if neg=true then .neq else .eql) t x (.const (.slice none 0 0)) ty,type,pos,after,guard⟩).run P w=.ok (.value (.bool (if neg=true then !ad.isNone else ad.isNone))) w:=by
  refine ey ?_
  show (do eqGuard _ t x (.const (.slice none 0 0)) (a.eval x) (.slice none 0 0); binOp _ t (a.eval x) (.slice none 0 0):Sem Value).run P w=_
  rw [hv]
  exact hrun _ rfl
 refine ⟨_,.bool (if neg=true then !ad.isNone else ad.isNone),w,E,.bool (if neg=true then !ad.isNone else ad.isNone),H,nx,hexec,.inl rfl,Ext.refl _ _,hE,hh,hf,.bool _,?_⟩
 by_cases hk0:k=0
 ·obtain ⟨h1,h2⟩:=h.2 hk0
  cases neg <;> cases ad <;> first | exact h1 | exact h2
 ·obtain ⟨b,rfl⟩:=hsome (by omega)
  have:=h.1 (by omega)
  cases neg <;> exact this
theorem tx {P:Program} {t e:TypeId} {x:Operand} {T:Tm} {H:Hp} {nx:Nat} {K:AV→Hp→Nat→Prop} {n b n' off:Nat} {cs:List AV} (hu:P.underlying t=some (.array n e)) (he:tok P e=true) (h0:0 < n) (hx:ev T x=.ptr b n' off) (hb:H b=some cs) (hn:cs.length=n') (hf:off + n * P.cellsOf e=n')
    (hk:K (.msl b n' (P.cellsOf e) off n) H nx):cm P (.slice t x none none none) T H nx K:=by
 refine bo (by intro c; simp) ?_
 rintro E w a ⟨dst,op,type,pos,after,guard⟩ ho hE hh hf' htm
 simp only at ho
 subst ho
 have hxr:=htm x (by simp [Op.operands])
 rw [hx] at hxr
 generalize hvx:a.eval x=vx at hxr
 cases hxr with
 | ptr _ _ _ blk sz hm =>
 have hle:n' ≤ sz:=by
  subst hn
  rcases hh.box b cs hb with h | ⟨blk',sz',hbx⟩
  ·rw [h] at hm; cases hm
  ·have:=hbx.mu
   rw [hm] at this; cases this
   obtain ⟨vals,ty,fz,_,_,h1,h2,_⟩:=hbx.cells
   exact h2
 have hb2:=bv (P:=P) (E:=E) (w:=w) (lo:=none) (hi:=none) (vlo:=none) (vhi:=none) (isS:=false) (len:=n) (cap:=n) (l:=0) (h:=n) (fun _ h=>by cases h) (fun _=>rfl) (fun _ h=>by cases h) (fun _=>rfl) rfl rfl (Nat.zero_le _) (Nat.le_refl _)
 have hsz:=aJ (P:=P) he w
 have hrun:(Instr.sliceAt t (.pointer (some ⟨blk,off,none⟩)) none none none).run P w=.ok (.slice (some ⟨blk,off,none⟩) n n) w:=by
  have hne:n ≠ 0:=by omega
  simp [Instr.sliceAt,run_underlying hu,hb2,hsz,Instr.sureAddr,hne,bz]
 refine ⟨.value (.slice (some ⟨blk,off,none⟩) n n),.slice (some ⟨blk,off,none⟩) n n,w,E,_,H,nx,?_,.inl rfl,Ext.refl _ _,hE,hh,hf',.msl _ _ _ _ _ blk sz n hm (Nat.le_refl _) (by omega) (by omega),hk⟩
 refine ey ?_
 show (Instr.sliceAt t (a.eval x) none none none).run P w=_
 rw [hvx]; exact hrun
end Go.Abs
namespace Go.Abs
open Go.RowKit
def iG (b:UInt8):AV:=.int .u8 (b.toNat:Int)
theorem uj {P:Program} {s d e:TypeId} {x:Operand} {T:Tm} {H:Hp} {nx:Nat} {K:AV→Hp→Nat→Prop} {bs:ByteArray} (hs:P.underlying s=some .string) (hd:P.underlying d=some (.slice e)) (he:P.underlying e=some (.int .u8)) (hx:ev T x=.str bs)
    (h0:bs.size=0→K (.sl 1 []) H nx) (h1:bs.size ≠ 0→K (.msl nx bs.size 1 0 bs.size) (am H nx (bs.data.toList.map iG)) (nx + 1)):cm P (.convert s d x) T H nx K:=by
 refine bo (by intro c; simp) ?_
 rintro E w a ⟨dst,op,type,pos,after,guard⟩ ho hE hh hf htm
 simp only at ho
 subst ho
 have hxr:=htm x (by simp [Op.operands,Call.operands])
 rw [hx] at hxr
 generalize hv:a.eval x=vx at hxr
 cases hxr
 have hrun:=run_bytes_of_string (P:=P) w s d e bs hs hd he
 have hexec:(execOp a.eval ⟨dst,.convert s d x,type,pos,after,guard⟩).run P w=.ok (.value (.slice (some ⟨w.heap.size,0,none⟩) bs.size (grownCap w bs.size 0 e))) (w.drew.alloc (.cells (bytesRow bs (grownCap w bs.size 0 e)) e ((bytesRow bs (grownCap w bs.size 0 e)).size,(bytesRow bs (grownCap w bs.size 0 e)).size + 1))):=by
  unfold execOp
  simp only [hv,Sem.run_bind,hrun,Result.andThen_ok,Sem.run_pure]
 have hge:=grownCap_ge w bs.size 0 e
 generalize hcap:grownCap w bs.size 0 e=cap at *
 have hdr:w.drew.heap=w.heap:=rfl
 have hEd:=hE.drew
 have hhd:=hh.same (w':=w.drew) hdr
 have hext0:Ext E w E w.drew:=Ext.same hdr
 have hsz:(bytesRow bs cap).size=cap:=by
  have:bs.data.size=bs.size:=rfl
  simp [bytesRow]; omega
 by_cases hz:bs.size=0
 ·refine ⟨_,_,_,E,.sl 1 [],H,nx,hexec,.inl rfl,hext0.trans (Ext.alloc E w.drew _ hEd),hEd.alloc hhd.size _,hhd.alloc hEd _,hf,?_,h0 hz⟩
  rw [hz]
  exact .slempty _ _ _
 ·have hlen:(bs.data.toList.map iG).length=bs.size:=by simp
  obtain ⟨E',q1,q2,q3,q4,q5,q6,q7,q8⟩:=hhd.placeZ hEd (b:=nx) (nx':=nx + 1) (cs':=bs.data.toList.map iG) (Nat.lt_succ_self _) (Nat.le_succ _) (fun m y hm=>by rw [(hf nx (Nat.le_refl _)).1] at hm; cases hm) (hf nx (Nat.le_refl _)).2.1
   (bytesRow bs cap) e ((bytesRow bs cap).size,(bytesRow bs cap).size + 1) (fun j hj h=>by simp only at h; omega) (by rw [hlen,hsz]; exact hge) (fun i y hi=>by
    rw [List.getElem?_map] at hi
    cases hb:bs.data.toList[i]? with
    | none=>rw [hb] at hi; cases hi
    | some b =>
     rw [hb] at hi; cases hi
     have hi':i < bs.data.size:=by
      have:=(List.getElem?_eq_some_iff.1 hb).1
      simpa using this
     refine ⟨_,bytesRow_at bs cap i hi',rfl,?_⟩
     have:bs.data[i]=b:=by
      have:=(List.getElem?_eq_some_iff.1 hb).2
      simpa using this
     rw [this]
     exact .int _ _)
  refine ⟨_,_,_,E',.msl nx bs.size 1 0 bs.size,_,nx + 1,hexec,.inl rfl,hext0.trans q1,q2,q3,hf.of (Nat.le_succ _) (fun b n hb=>q6 b n (by omega)) q7 q8,?_,h1 hz⟩
  rw [hlen,hsz] at q4
  exact .msl nx bs.size 1 0 bs.size w.heap.size cap cap q4 hge (by omega) (by omega)
theorem qW {E:Env} {H:Hp} {nx n:Nat} {w:World} (hh:HeapOk E H nx w) {x:AV} {v:Value} (hr:Rel E w x v) {bs:List UInt8} (h:dz 1 H x=some (n,bs.map iG)) :
    (bs=[]∧∃ c,v=.slice none 0 c) ∨ ∃ (a:Addr) (cap:Nat),v=.slice (some a) bs.length cap∧∀ (j:Nat) (hj:j < bs.length),w.cell? (a.add j)=some (.int .u8 (bs[j].toNat:Int)):=by
 have hnil:∀ {bs:List UInt8},[]=bs.map iG→bs=[]:=fun h=>by
  rw [eq_comm,List.map_eq_nil_iff] at h; exact h
 cases hr with
 | eslnil =>
  simp only [dz,Option.some.injEq,Prod.mk.injEq] at h
  exact .inl ⟨hnil h.2,0,rfl⟩
 | esl a =>
  simp only [dz,Option.some.injEq,Prod.mk.injEq] at h
  have:=hnil h.2
  subst this
  exact .inr ⟨_,_,rfl,fun j hj=>absurd hj (by simp)⟩
 | slnil sz =>
  simp only [dz,or_true,if_true,Option.some.injEq,Prod.mk.injEq,List.flatMap_nil] at h
  exact .inl ⟨hnil h.2,0,rfl⟩
 | slempty sz a cap =>
  simp only [dz,or_true,if_true,Option.some.injEq,Prod.mk.injEq,List.flatMap_nil] at h
  have:=hnil h.2
  subst this
  exact .inr ⟨_,_,rfl,fun j hj=>absurd hj (by simp)⟩
 | sl sz elems blk o cap vals hi hlen hsz hc hr' =>
  simp only [dz] at h
  split at h
  case isFalse=>cases h
  case isTrue hsz1 =>
  simp only [Option.some.injEq,Prod.mk.injEq] at h
  obtain ⟨rfl,h2⟩:=h
  by_cases he:elems=[]
  ·subst he
   have:=hnil h2
   subst this
   exact .inr ⟨_,_,rfl,fun j hj=>absurd hj (by simp)⟩
  have hs1:sz=1:=hsz1.resolve_right he
  subst hs1
  obtain ⟨f1,f2⟩:=cb elems hsz
  have hll:elems.length=bs.length:=by rw [h2] at f1; simpa using f1.symm
  refine .inr ⟨⟨blk,o,none⟩,cap,by rw [hll],fun j hj=>?_⟩
  rw [bz,hc j (by omega)]
  have hg:(elems.flatMap AV.cells)[j]?=some (iG bs[j]):=by rw [h2]; simp [hj]
  obtain ⟨i,k,y,e1,e2,e3,e4⟩:=f2 j _ hg
  have hk:k=0:=by omega
  subst hk
  have:=hr' i 0 y _ e3 e4
  rw [← e1] at this
  unfold iG at this
  generalize vals j=u at this
  cases this; rfl
 | msl b m sz off len blk bsz cap hm hl hcap hn =>
  simp only [dz] at h
  split at h
  ·rename_i h0
   subst h0
   simp only [Option.some.injEq,Prod.mk.injEq] at h
   have:=hnil h.2
   subst this
   exact .inr ⟨_,_,rfl,fun j hj=>absurd hj (by simp)⟩
  ·split at h
   ·rename_i cs hb
    split at h
    case isFalse=>cases h
    case isTrue hc =>
    obtain ⟨hc1,rfl,hc3⟩:=hc
    simp only [Option.some.injEq,Prod.mk.injEq] at h
    obtain ⟨rfl,h2⟩:=h
    have hbl:bs.length=len:=by
     have:=congrArg List.length h2
     simp at this; omega
    rcases hh.box b cs hb with hno | ⟨blk',sz',hx⟩
    ·rw [hc1,hm] at hno; cases hno
    ·have:=hx.mu
     rw [hc1,hm] at this; cases this
     obtain ⟨vals,ty,fz,k1,kz,k2,k3,k4⟩:=hx.cells
     refine .inr ⟨⟨blk,off,none⟩,cap,by rw [hbl],fun j hj=>?_⟩
     have hg:cs[off + j]?=some (iG bs[j]):=by
      have e:((cs.drop off).take (len * 1))[j]?=some (iG bs[j]):=by rw [h2]; simp [hj]
      rw [List.getElem?_take] at e
      split at e
      ·rw [List.getElem?_drop] at e; exact e
      ·cases e
     obtain ⟨v,e1,e2,e3⟩:=k4 _ _ hg
     rw [bz]
     unfold iG at e3
     cases e3
     exact cell?_of_heap k1 e1
   ·cases h
 | msl0 b sz v hv =>
  simp only [dz,if_true,Option.some.injEq,Prod.mk.injEq] at h
  have:=hnil h.2
  subst this
  rcases hv with rfl | ⟨blk,o,rfl⟩
  ·exact .inl ⟨rfl,0,rfl⟩
  ·exact .inr ⟨_,_,rfl,fun j hj=>absurd hj (by simp)⟩
 | _=>simp [dz] at h
theorem uy {P:Program} {s d e:TypeId} {x:Operand} {T:Tm} {H:Hp} {nx n:Nat} {K:AV→Hp→Nat→Prop} {bs:List UInt8} (hs:P.underlying s=some (.slice e)) (he:P.underlying e=some (.int .u8)) (hd:P.underlying d=some .string) (hx:dz 1 H (ev T x)=some (n,bs.map iG))
    (hk:K (.str ⟨bs.toArray⟩) H nx):cm P (.convert s d x) T H nx K:=by
 refine bo (by intro c; simp) ?_
 rintro E w a ⟨dst,op,type,pos,after,guard⟩ ho hE hh hf htm
 simp only at ho
 subst ho
 have hxr:=htm x (by simp [Op.operands,Call.operands])
 have hrun:(convert s d (a.eval x)).run P w=.ok (.string ⟨bs.toArray⟩) w:=by
  rcases qW hh hxr hx with ⟨rfl,c,hv⟩ | ⟨ad,cap,hv,hc⟩
  ·rw [hv,run_convert_bytes_nil (w:=w) s e hs he 0 c d hd]; rfl
  ·rw [hv]; exact run_convert_bytes_back w s d e ad cap bs hs he hd hc
 refine ⟨.value (.string ⟨bs.toArray⟩),_,w,E,_,H,nx,?_,.inl rfl,Ext.refl _ _,hE,hh,hf,.str _,hk⟩
 unfold execOp
 simp only [Sem.run_bind,hrun,Result.andThen_ok,Sem.run_pure]
theorem pS {P:Program} {f:Operand} {args:Array Operand} {ts:Array TypeId} {T:Tm} {H:Hp} {nx:Nat} {K:AV→Hp→Nat→Prop} {g:FuncId} {fs:List AV} (hf:ev T f=.bfn g fs) (h:Fn P g (fs ++ args.toList.map (ev T)) H nx K) :
    cm P (.call { callee:=.value f,args:=args,argTypes:=ts }) T H nx K:=by
 refine ⟨by intro c; simp,?_⟩
 rintro rr E w a ⟨dst,op,type,pos,after,guard⟩ next Q ho hE hh hfr ht hn
 simp only at ho
 subst ho
 have hr:=ht f (by simp [Op.operands,Call.operands])
 rw [hf] at hr
 generalize hv:a.eval f=vf at hr
 cases hr with
 | bfn _ _ cv hl hcr =>
 have hargs:bS E w (fs ++ args.toList.map (ev T)) (cv ++ args.toList.map a.eval):=by
  have ha:=qN (E:=E) (w:=w) (T:=T) (a:=a) args.toList (fun x hx=>ht x (by simp only [Op.operands,Call.operands]; exact Array.mem_append.2 (.inr (by simpa using hx))))
  refine ⟨by simp [hl],fun j x y hx hy=>?_⟩
  rw [List.getElem?_append] at hx hy
  rw [hl] at hy
  split at hx
  ·rename_i hlt
   rw [if_pos hlt] at hy
   exact hcr _ _ _ hx hy
  ·rename_i hlt
   rw [if_neg hlt] at hy
   exact ha.2 _ _ _ hx hy
 have hcalls:=h.2 E w _ hE hh hfr hargs
 have hrun:(execOp a.eval ⟨dst,.call { callee:=.value f,args:=args,argTypes:=ts },type,pos,after,guard⟩).run P w=.ok (.enter g (cv ++ args.toList.map a.eval).toArray) w:=by
  unfold execOp
  simp only [resolve,hv,Deferred.ofValue,invoke,Sem.run_bind,Sem.run_pure,Result.andThen_ok]
  have:cv.toArray ++ args.map a.eval ++ #[]=(cv ++ args.toList.map a.eval).toArray:=by
   rw [eT]; simp
  rw [this]
  exact gb h.1 _ w
 rw [hrun,Oper.uponIn_enter]
 refine ⟨(fun h=>by cases h),?_⟩
 refine (gq hcalls).mono ?_
 rintro e w' ⟨v,E',r,H',nx',rfl,he,hE',hH',hf',hrel,hk⟩
 exact hn E' H' nx' r v w' he hE' hH' hf' hrel hk
end Go.Abs
namespace Go.Abs
open Go.RowKit
inductive Opd where
 | t (n:Nat)
 | c (v:AV)
 deriving Inhabited
def Opd.of:Operand→Opd
 | .tmp n=>.t n
 | x=>.c (ev (fun _=>.undef) x)
def ov (T:Tm):Opd→AV
 | .t n=>T n
 | .c v=>v
theorem bk {T:Tm} {x:Operand}:ov T (.of x)=ev T x:=by cases x <;> rfl
theorem fN {T:Tm} {l:List Operand}:(l.map Opd.of).map (ov T)=l.map (ev T):=by simp [bk]
theorem jW {T:Tm} {x:Option Operand}:(x.map Opd.of).map (ov T)=x.map (ev T):=by cases x <;> simp [bk]
inductive Ins where
 | dead
 | mov (x:Opd)
 | pick (c a b:Opd)
 | ld1 (a:Opd)
 | ldn (k:Nat) (a:Opd)
 | nilck (x:Opd)
 | bin (op:BinOp) (tb tf:Bool) (x y:Opd)
 | binS (op:BinOp) (ks:List TK) (x y:Opd)
 | un (op:UnOp) (x:Opd)
 | conv (k:IntKind) (x:Opd)
 | mkfn (f:FuncId) (caps:List Opd)
 | mkbf (f:FuncId) (first:List Opd)
 | slsA (n:Nat) (x:Opd) (lo hi:Option Opd)
 | sls (sz:Nat) (x:Opd) (lo hi mx:Option Opd)
 | slstr (x:Opd) (lo hi:Option Opd)
 | fa (k:Nat) (p:Opd)
 | part1 (off:Nat) (x:Opd)
 | partn (off k:Nat) (x:Opd)
 | ixaA (len sz:Nat) (x i:Opd)
 | ixaS (sz:Nat) (x i:Opd)
 | ixA1 (len sz:Nat) (x i:Opd)
 | ixAn (len sz:Nat) (x i:Opd)
 | ixStr (x i:Opd)
 | ext (x:Opd) (i:Nat)
 | bld (z:List AV) (parts:List (Nat × Nat × Opd))
 | lenS (x:Opd)
 | capE (x:Opd)
 | apz (sz bytes:Nat) (z:List AV) (s x:Opd)
 | lenStr (x:Opd)
 | lenC (n:Nat)
 | mx (x:Opd) (l:List Opd)
 | mn (x:Opd) (l:List Opd)
 | alloc (z:AV)
 | box (x:Opd)
 | bldS (sz len:Nat) (z:List AV) (parts:List (Nat × Nat × Opd))
 | mks (sz bytes:Nat) (z:List AV) (l c:Opd)
 | st (k:Nat) (p x:Opd)
 | app (sz bytes:Nat) (s x:Opd)
 | call (f:Opd) (args:List Opd)
 | mkm (h:Option Opd)
 | mput (k:MK) (m key x:Opd)
 | mget (k:MK) (z:AV) (ok:Bool) (m key:Opd)
 | mlen (m:Opd)
 | mrng (m:Opd)
 | mnxt (it:Opd)
 | ment (it:Opd)
 | cpy (sz:Nat) (d s:Opd)
 | clr (sz:Nat) (z:AV) (x:Opd)
 | slp (len sz:Nat) (x:Opd)
 | snil (neg:Bool) (x:Opd)
 | s2b (x:Opd)
 | b2s (x:Opd)
 | mplc (k:MK) (z:AV) (m key:Opd)
 | mpst (m s x:Opd)
def sV (P:Program) (t:TypeId):Bool:=match P.underlying t with | some (.func ..)=>true | _=>false
def aU (op:BinOp) (tb tf:Bool) (x y:AV):Option AV :=
 match x,y with
 | .int k a,.int k' b=>if op=.shl ∨ op=.shr then kd op k a b else if k=k' then dy op k a b else none
 | .bool a,.bool b=>if tb=true then (match op with | .eql=>some (.bool (a == b)) | .neq=>some (.bool (!(a == b))) | _=>none) else none
 | .str a,.str b=>pn op a b
 | .nilf,.nilf=>if tf=true then (match op with | .eql=>some (.bool true) | .neq=>some (.bool false) | _=>none) else none
 | .func _ _,.nilf=>if tf=true then (match op with | .eql=>some (.bool false) | .neq=>some (.bool true) | _=>none) else none
 | _,_=>none
theorem vH {P:Program} {op:BinOp} {t:TypeId} {x y:AV} {r:AV} (h:aU op (sP P t) (sV P t) x y=some r):tg P op t x y=some r:=by
 unfold aU at h
 unfold tg
 split at h
 ·exact h
 ·exact h
 ·exact h
 ·split at h
  ·rename_i hf
   unfold sV at hf
   split at hf
   ·rename_i hu; simp only [hu]
    split at h <;> simp_all
   ·cases hf
  ·cases h
 ·split at h
  ·rename_i hf
   unfold sV at hf
   split at hf
   ·rename_i hu; simp only [hu]
    split at h <;> simp_all
   ·cases hf
  ·cases h
 ·cases h
def d7 (sz:Nat) (x i:AV):Option AV:=match i with
 | .int _ n=>match x with
  | .sl s elems=>if s=sz∧0 ≤ n∧n < elems.length then some (.iptr (elems.getD n.toNat .undef).cells 0) else none
  | .msl b m s off len=>if s=sz∧0 ≤ n∧n < len then some (.ptr b m (off + n.toNat * s)) else none
  | _=>none
 | _=>none
def lN (sz:Nat) (x:AV) (lo hi mx:Option AV):Option AV:=match x with
 | .sl s elems =>
  match bn 0 lo,bn elems.length hi,mx with
  | some l,some h,none=>if s=sz∧l ≤ h∧h ≤ elems.length then some (.sl s ((elems.take h).drop l)) else none
  | some l,some h,some m=>match bn 0 (some m) with
   | some m=>if l=0∧h=0∧m=0 then some .esl else none
   | none=>none
  | _,_,_=>none
 | .esl=>match bn 0 lo,bn 0 hi,mx with
  | some 0,some 0,none=>some .esl
  | _,_,_=>none
 | .msl b n s off len =>
  match bn 0 lo,bn len hi,mx with
  | some l,some h,none=>if s=sz∧l ≤ h∧h ≤ len∧n ≠ 0 then (if l=0 ∨ l < h then some (.msl b n s (off + l * s) (h - l)) else some (.sl s [])) else none
  | some l,some h,some m=>match bn 0 (some m) with
   | some m=>if l=0∧h=0∧m=0 then some .esl else none
   | none=>none
  | _,_,_=>none
 | _=>none
def pj (x:AV) (lo hi:Option AV):Option AV:=match x with
 | .str s=>match bn 0 lo,bn s.size hi with
  | some l,some h=>if l ≤ h∧h ≤ s.size then some (.str (s.extract l h)) else none
  | _,_=>none
 | _=>none
def cL (cells:List AV):List (Nat × Nat × AV)→Option (List AV)
 | []=>some cells
 | (off,size,x) :: rest=>if x.flat=true∧x.cells.length=size∧off + size ≤ cells.length then cL (bb cells off x.cells) rest else none
def cg (x:AV) (f:List AV→Option AV):Option AV:=match x with | .agg cs=>f cs | _=>none
def jC (x:AV) (f:Int→Option AV):Option AV:=match x with | .int _ n=>f n | _=>none
def cR (x:AV):Option AV:=match x with
 | .sl _ elems=>some (.int .i64 elems.length)
 | .esl=>some (.int .i64 0)
 | .msl _ _ _ _ len=>some (.int .i64 len)
 | _=>none
def aX (T:Tm) (H:Hp):Ins→Option AV
 | .mov x=>some (ov T x)
 | .pick c a b=>match ov T c with | .bool t=>some (if t=true then ov T a else ov T b) | _=>none
 | .ld1 a=>rd1 H (ov T a)
 | .ldn k a=>(rd H k (ov T a)).map .agg
 | .nilck x=>match ov T x with | .ptr b n o=>some (.ptr b n o) | .iptr c o=>some (.iptr c o) | .func f c=>some (.func f c) | _=>none
 | .bin op tb tf x y=>aU op tb tf (ov T x) (ov T y)
 | .binS op ks x y=>cg (ov T x) fun xs=>cg (ov T y) fun ys=>jk op ks xs ys
 | .un op x=>aun op (ov T x)
 | .conv k x=>jC (ov T x) fun n=>some (.int k (k.wrap n))
 | .mkfn f caps=>some (.func f (caps.map (ov T)))
 | .mkbf f first=>some (.bfn f (first.map (ov T)))
 | .slsA n x lo hi=>qC n (ov T x) (lo.map (ov T)) (hi.map (ov T)) none
 | .sls sz x lo hi mx=>lN sz (ov T x) (lo.map (ov T)) (hi.map (ov T)) (mx.map (ov T))
 | .slstr x lo hi=>pj (ov T x) (lo.map (ov T)) (hi.map (ov T))
 | .fa k p=>gy k (ov T p)
 | .part1 off x=>cg (ov T x) fun cs=>cs[off]?
 | .partn off k x=>cg (ov T x) fun cs=>if off + k ≤ cs.length then some (.agg ((cs.drop off).take k)) else none
 | .ixaA len sz x i=>jC (ov T i) fun n=>if 0 ≤ n∧n < len then gy (n.toNat * sz) (ov T x) else none
 | .ixaS sz x i=>d7 sz (ov T x) (ov T i)
 | .ixA1 len sz x i=>cg (ov T x) fun cs=>jC (ov T i) fun n=>if 0 ≤ n∧n < len then cs[n.toNat * sz]? else none
 | .ixAn len sz x i=>cg (ov T x) fun cs=>jC (ov T i) fun n=>if 0 ≤ n∧n < len then (if n.toNat * sz + sz ≤ cs.length then some (.agg ((cs.drop (n.toNat * sz)).take sz)) else none) else none
 | .ixStr x i=>match ov T x with
  | .str s=>jC (ov T i) fun n=>if 0 ≤ n∧n < s.size then some (.int .u8 (s[n.toNat]?.getD 0).toNat) else none
  | _=>none
 | .ext x i=>eE (ov T x) i
 | .bld z parts=>(cL z (parts.map fun p=>(p.1,p.2.1,ov T p.2.2))).map .agg
 | .lenS x=>cR (ov T x)
 | .capE x=>match ov T x with | .esl=>some (.int .i64 0) | _=>none
 | .lenStr x=>match ov T x with | .str s=>some (.int .i64 s.size) | _=>none
 | .lenC n=>some (.int .i64 n)
 | .mx x l=>eu jG (ov T x) (l.map (ov T))
 | .mn x l=>eu jD (ov T x) (l.map (ov T))
 | _=>none
def wc (sz bytes:Nat) (s x:AV) (H:Hp) (nx:Nat):Option (AV × Hp × Nat) :=
 match dz sz H x with
 | none=>none
 | some (k,new) =>
  if new.all AV.one=true then
   match s with
   | .esl=>if k * bytes ≤ 140737488355328∧k ≤ 9223372036854775807 then some (.msl nx (k * sz) sz 0 k,am H nx new,nx + 1) else none
   | .msl b n s off len=>match H b with
    | some cs =>
     if cs.length=n∧s=sz then
      if off=0∧n=len * s∧(len + k) * bytes ≤ 140737488355328∧len + k ≤ 9223372036854775807 then some (.msl b ((len + k) * s) s 0 (len + k),am H b (cs ++ new),nx)
      else if off + (len + k) * s ≤ n∧0 < n then some (.msl b n s off (len + k),am H b (bb cs (off + len * s) new),nx)
      else if off=0∧len * s < n∧n < (len + k) * s∧(len + k) * bytes ≤ 140737488355328∧len + k ≤ 9223372036854775807 then some (.msl b ((len + k) * s) s 0 (len + k),am H b (cs.take (len * s) ++ new),nx)
      else none
     else none
    | none=>none
   | _=>none
  else none
def ec (T:Tm) (H:Hp) (nx:Nat):Ins→Option (AV × Hp × Nat)
 | .alloc z=>lu z H nx
 | .box x=>lu (ov T x) H nx
 | .bldS sz len z parts=>if len=0 then (if parts.isEmpty=true then some (.esl,H,nx) else none) else
     match cL (aZ (.agg z) len) (parts.map fun p=>(p.1,p.2.1,ov T p.2.2)) with
     | some cells=>some (.msl nx cells.length sz 0 len,am H nx cells,nx + 1)
     | none=>none
 | .mks sz bytes z l c=>match ov T l,ov T c with
  | .int _ n,.int _ m=>if 0 ≤ n∧n ≤ m∧m ≤ 9223372036854775807∧bytes * m ≤ 281474976710656 then some (.msl nx (m.toNat * sz) sz 0 n.toNat,am H nx (aZ (.agg z) m.toNat),nx + 1) else none
  | _,_=>none
 | .st k p x=>match ov T p with
  | .ptr b n off=>match H b with
   | some cs=>if cs.length=n∧(ov T x).flat=true∧(ov T x).cells.length=k∧off + k ≤ n then some (.tup [],am H b (bb cs off (ov T x).cells),nx) else none
   | none=>none
  | _=>none
 | .app sz bytes s x=>wc sz bytes (ov T s) (ov T x) H nx
 | .apz sz bytes z s x=>match ov T s,ov T x with
  | .esl,.int _ n=>if 0 < n∧n ≤ 9223372036854775807∧n.toNat * bytes ≤ 140737488355328 then some (.msl nx (n.toNat * sz) sz 0 n.toNat,am H nx (aZ (.agg z) n.toNat),nx + 1) else none
  | _,_=>none
 | _=>none
def xX (lo hi mx:Option Operand):Bool:=!(mx.isSome && hi.isNone)
def jq (pl:List (Nat × Nat)):List (Nat × Operand)→Option (List (Nat × Nat × Opd))
 | []=>some []
 | (i,x) :: l=>match pl[i]?,jq pl l with
  | some (o,s),some r=>some ((o,s,.of x) :: r)
  | _,_=>none
def fP (sz:Nat) (l:List (Nat × Operand)):List (Nat × Nat × Opd):=l.map fun p=>(p.1 * sz,sz,.of p.2)
def eO (P:Program):Op→Option Ins
 | .move x=>some (.mov (.of x))
 | .assign x=>some (.mov (.of x))
 | .pick c a b=>some (.pick (.of c) (.of a) (.of b))
 | .load t a=>if tok P t then (if lz P t then (if 0 < P.cellsOf t then some (.ldn (P.cellsOf t) (.of a)) else none) else some (.ld1 (.of a))) else none
 | .nilCheck x=>some (.nilck (.of x))
 | .binOp op t x y _=>match d6 P t with | some _=>none | none=>match xt P t with | some ks=>some (.binS op ks (.of x) (.of y)) | none=>some (.bin op (sP P t) (sV P t) (.of x) (.of y))
 | .unOp op _ x=>some (.un op (.of x))
 | .convert s d x=>if tok P s then (match gB P d with | some k=>some (.conv k (.of x)) | none=>none) else none
 | .makeFunc (.func f) first captured=>if first.size=0 then some (.mkfn f (captured.toList.map .of)) else if captured.size=0 then some (.mkbf f (first.toList.map .of)) else none
 | .slice t x lo hi mx=>if xX lo hi mx then (match P.underlying t with
  | some (.slice e)=>if tok P e then some (.sls (P.cellsOf e) (.of x) (lo.map .of) (hi.map .of) (mx.map .of)) else none
  | some .string=>match mx with | none=>some (.slstr (.of x) (lo.map .of) (hi.map .of)) | some _=>none
  | some (.array n e)=>if tok P e=true∧P.cellsOf e=1 then (match mx with | none=>some (.slsA n (.of x) (lo.map .of) (hi.map .of)) | some _=>none) else none
  | _=>none) else none
 | .fieldAddr t x f=>match yT P t f with | some k=>some (.fa k (.of x)) | none=>none
 | .field t x f=>match P.underlying t with
  | some (.struct fs)=>match fs[f]? with
   | some fd=>if tok P fd.type then (if lz P fd.type then some (.partn fd.offset (P.cellsOf fd.type) (.of x)) else some (.part1 fd.offset (.of x))) else none
   | none=>none
  | _=>none
 | .indexAddr t x i=>match P.underlying t with
  | some (.array len e)=>if tok P e then some (.ixaA len (P.cellsOf e) (.of x) (.of i)) else none
  | some (.slice e)=>if tok P e then some (.ixaS (P.cellsOf e) (.of x) (.of i)) else none
  | _=>none
 | .index t x i=>match P.underlying t with
  | some (.array len e)=>if tok P e then (if lz P e then some (.ixAn len (P.cellsOf e) (.of x) (.of i)) else some (.ixA1 len (P.cellsOf e) (.of x) (.of i))) else none
  | some .string=>some (.ixStr (.of x) (.of i))
  | _=>none
 | .extract x i=>some (.ext (.of x) i)
 | .build t parts=>match dN P t with
  | some z=>if z.flat=true then
   match pb P t with
   | some pl=>match jq pl parts.toList with
    | some ps=>some (.bld z.cells ps)
    | none=>none
   | none=>match rC P t with
    | some (_,e)=>if tok P e=true then some (.bld z.cells (fP (P.cellsOf e) parts.toList)) else none
    | none=>none
   else none
  | none=>none
 | .call { callee:=.builtin .len,args:=⟨[x]⟩,argTypes:=⟨[t]⟩ }=>match P.underlying t with
  | some (.slice _)=>some (.lenS (.of x))
  | some .string=>some (.lenStr (.of x))
  | some (.array n _)=>some (.lenC n)
  | _=>none
 | .call { callee:=.builtin .max,args:=⟨x :: l⟩,argTypes:=_ }=>some (.mx (.of x) (l.map .of))
 | .call { callee:=.builtin .cap,args:=⟨[x]⟩,argTypes:=⟨[t]⟩ }=>match d6 P t with
  | some _=>some (.capE (.of x))
  | none=>none
 | .call { callee:=.builtin .min,args:=⟨x :: l⟩,argTypes:=_ }=>some (.mn (.of x) (l.map .of))
 | _=>none
def gR (P:Program):Op→Option Ins
 | .alloc e=>match dN P e with | some z=>some (.alloc z) | none=>none
 | .box _ x=>some (.box (.of x))
 | .buildSlice t len parts=>match d6 P t with
  | none=>none
  | some e=>if tok P e=true∧0 < P.cellsOf e∧len * P.cellsOf e ≤ 16777216 then (match dN P e with
   | some z=>if z.flat=true∧z.cells.length=P.cellsOf e then some (.bldS (P.cellsOf e) len z.cells (fP (P.cellsOf e) parts.toList)) else none
   | none=>none) else none
 | .makeSlice t l c=>match d6 P t with
  | none=>none
  | some e=>match dN P e with
   | some z=>if tok P e=true∧z.flat=true∧z.cells.length=P.cellsOf e∧0 < P.cellsOf e then some (.mks (P.cellsOf e) (db P e) z.cells (.of l) (.of c)) else none
   | none=>none
 | .store t p x=>if tok P t=true∧0 < P.cellsOf t then some (.st (P.cellsOf t) (.of p) (.of x)) else none
 | .call { callee:=.builtin .append,args:=⟨[s,x]⟩,argTypes:=⟨[tS,tX]⟩ }=>match d6 P tS with
  | none=>none
  | some e=>if tok P e=true∧tok P tX=true∧gB P tX=none∧0 < P.cellsOf e∧zok P e=true then some (.app (P.cellsOf e) (db P e) (.of s) (.of x)) else if (gB P tX).isSome=true then (match dN P e with
   | some z=>if tok P e=true∧z.flat=true∧z.cells.length=P.cellsOf e∧0 < P.cellsOf e∧zok P e=true then some (.apz (P.cellsOf e) (db P e) z.cells (.of s) (.of x)) else none
   | none=>none) else none
 | _=>none
theorem iJ {T:Tm} (pl:List (Nat × Nat)):∀ (parts:List (Nat × Operand)) (ps:List (Nat × Nat × Opd)) (cells:List AV),jq pl parts=some ps →
    eP (fun i=>pl[i]?) cells (parts.map fun p=>(p.1,ev T p.2))=cL cells (ps.map fun p=>(p.1,p.2.1,ov T p.2.2))
 | [],ps,cells,h=>by cases h; rfl
 | (i,x) :: l,ps,cells,h=>by
  simp only [jq] at h
  split at h
  ·rename_i o s r h1 h2
   cases h
   simp only [List.map_cons,eP,h1,cL,bk]
   split
   ·exact iJ pl l r _ h2
   ·rfl
  ·cases h
theorem fh {T:Tm} (sz:Nat):∀ (parts:List (Nat × Operand)) (cells:List AV),
    eP (fun i=>some (i * sz,sz)) cells (parts.map fun p=>(p.1,ev T p.2))=cL cells ((fP sz parts).map fun p=>(p.1,p.2.1,ov T p.2.2))
 | [],cells=>rfl
 | (i,x) :: l,cells=>by
  simp only [List.map_cons,eP,cL,fP,bk]
  split
  ·exact fh sz l _
  ·rfl
theorem gm (z:AV) (k:Nat):aZ (.agg z.cells) k=aZ z k:=rfl
theorem oM {P:Program} {op:Op} {i:Ins} {T:Tm} {H:Hp} {r:AV} (hc:eO P op=some i) (h:aX T H i=some r):bG P T H op=some r:=by
 cases op with
 | move x=>cases hc; simp only [aX,bk] at h; exact h
 | assign x=>cases hc; simp only [aX,bk] at h; exact h
 | pick c a b=>cases hc; simp only [aX,bk] at h; exact h
 | load t a =>
  simp only [eO] at hc
  simp only [bG,fV]
  split at hc
  ·rename_i h1
   rw [if_pos h1]
   split at hc
   ·rename_i h2
    rw [if_pos h2]
    split at hc
    ·rename_i h3
     rw [if_pos h3]
     cases hc; simp only [aX,bk] at h; exact h
    ·cases hc
   ·rename_i h2
    rw [if_neg h2]
    cases hc; simp only [aX,bk] at h; exact h
  ·cases hc
 | nilCheck x=>cases hc; simp only [aX,bk] at h; exact h
 | binOp op t x y _ =>
  simp only [eO] at hc
  split at hc
  ·cases hc
  split at hc
  ·rename_i ks hks
   cases hc
   simp only [aX,bk] at h
   simp only [bG]
   unfold cg at h
   split at h
   ·rename_i cs hx
    split at h
    ·rename_i cs' hy
     rw [hx,hy]
     simp only [tg,hks]; exact h
    ·cases h
   ·cases h
  ·cases hc; simp only [aX,bk] at h; exact vH h
 | unOp op _ x=>cases hc; simp only [aX,bk] at h; exact h
 | convert s d x =>
  simp only [eO] at hc
  split at hc
  ·rename_i h1
   split at hc
   ·rename_i k hk
    cases hc
    simp only [aX,bk] at h
    simp only [bG,sC]
    unfold jC at h
    split at h
    ·rename_i hx; simp only [hx,h1,hk,if_true]; exact h
    ·cases h
   ·cases hc
  ·cases hc
 | makeFunc fn first captured =>
  cases fn with
  | func f =>
   simp only [eO] at hc
   split at hc
   ·rename_i h1
    cases hc
    simp only [aX,fN] at h
    simp only [bG,if_pos h1]; exact h
   ·rename_i h1
    split at hc
    ·rename_i h2
     cases hc
     simp only [aX,fN] at h
     simp only [bG,if_neg h1,if_pos h2]; exact h
    ·cases hc
  | _=>cases hc
 | slice t x lo hi mx =>
  simp only [eO] at hc
  split at hc
  ·rename_i hb
   have hb':¬ (mx.isSome=true∧hi.isNone=true):=by
    rintro ⟨h1,h2⟩
    simp [xX,h1,h2] at hb
   split at hc
   ·rename_i e hu
    split at hc
    ·rename_i h1
     cases hc
     simp only [aX,bk,jW] at h
     simp only [bG,if_neg hb',kB,hu,h1,if_true]
     exact h
    ·cases hc
   ·rename_i hu
    split at hc
    ·cases hc
     simp only [aX,bk,jW] at h
     simp only [bG,if_neg hb',kB,hu]
     unfold pj at h
     split at h
     ·rename_i s hs
      rw [hs]
      simp only [Option.map_none]
      split at h
      ·rename_i l h' e1 e2
       simp only [e1,e2]; exact h
      ·cases h
     ·cases h
    ·cases hc
   ·rename_i n e hu
    split at hc
    ·rename_i h1
     split at hc
     ·cases hc
      simp only [aX,bk,jW] at h
      simp only [bG,if_neg hb',kB,hu,if_pos h1]
      exact h
     ·cases hc
    ·cases hc
   ·cases hc
  ·cases hc
 | fieldAddr t x f =>
  simp only [eO] at hc
  split at hc
  ·rename_i k hk
   cases hc
   simp only [aX,bk] at h
   simp only [bG,gw,hk]; exact h
  ·cases hc
 | field t x f =>
  simp only [eO] at hc
  split at hc
  ·rename_i fs hu
   split at hc
   ·rename_i fd hfd
    split at hc
    ·rename_i h1
     split at hc
     ·rename_i h2
      cases hc
      simp only [aX,bk] at h
      unfold cg at h
      split at h
      ·rename_i cs hx
       simp only [bG,mv,hx,hu,hfd,apart,h1,h2,if_true]; exact h
      ·cases h
     ·rename_i h2
      cases hc
      simp only [aX,bk] at h
      unfold cg at h
      split at h
      ·rename_i cs hx
       simp only [bG,mv,hx,hu,hfd,apart,h1,h2,if_true]; exact h
      ·cases h
    ·cases hc
   ·cases hc
  ·cases hc
 | indexAddr t x i =>
  simp only [eO] at hc
  split at hc
  ·rename_i len e hu
   split at hc
   ·rename_i h1
    cases hc
    simp only [aX,bk] at h
    unfold jC at h
    split at h
    ·rename_i n hn
     simp only [bG,fe,hn,hu,h1,true_and]
     exact h
    ·cases h
   ·cases hc
  ·rename_i e hu
   split at hc
   ·rename_i h1
    cases hc
    simp only [aX,bk] at h
    unfold d7 at h
    split at h
    ·rename_i n hn
     simp only [bG,fe,hn,hu,h1,if_true]
     split at h
     ·rename_i s elems hx
      simp only [hx]
      split at h
      ·rename_i hb
       obtain ⟨b1,b2,b3⟩:=hb
       rw [if_pos ⟨b1,b2⟩]
       have hlt:n.toNat < elems.length:=by omega
       rw [List.getElem?_eq_getElem hlt]
       simp only [List.getD,List.getElem?_eq_getElem hlt,Option.getD_some] at h
       exact h
      ·cases h
     ·rename_i hx
      simp only [hx]; exact h
     ·cases h
    ·cases h
   ·cases hc
  ·cases hc
 | index t x i =>
  simp only [eO] at hc
  split at hc
  ·rename_i len e hu
   have hta:rC P t=some (len,e):=by simp [rC,hu]
   split at hc
   ·rename_i h1
    split at hc
    ·rename_i h2
     cases hc
     simp only [aX,bk] at h
     unfold cg at h
     split at h
     ·rename_i cs hx
      unfold jC at h
      split at h
      ·rename_i n hn
       simp only [bG,j0,hx,hn,hta,apart,h1,h2,if_true]; exact h
      ·cases h
     ·cases h
    ·rename_i h2
     cases hc
     simp only [aX,bk] at h
     unfold cg at h
     split at h
     ·rename_i cs hx
      unfold jC at h
      split at h
      ·rename_i n hn
       simp only [bG,j0,hx,hn,hta,apart,h1,h2,if_true]; exact h
      ·cases h
     ·cases h
   ·cases hc
  ·rename_i hu
   cases hc
   simp only [aX,bk] at h
   split at h
   ·rename_i s hs
    unfold jC at h
    split at h
    ·rename_i n hn
     simp only [bG,j0,hs,hn,hu]
     simp only at h
     split at h
     ·rename_i hb
      rw [if_pos hb.1]
      have hlt:n.toNat < s.size:=by omega
      have e:s[n.toNat]?=some s[n.toNat]:=by simp [hlt]
      rw [e] at h ⊢
      exact h
     ·cases h
    ·cases h
   ·cases h
  ·cases hc
 | extract x i=>cases hc; simp only [aX,bk] at h; exact h
 | build t parts =>
  simp only [eO] at hc
  split at hc
  ·rename_i z hz
   split at hc
   ·rename_i hf
    split at hc
    ·rename_i pl hpl
     split at hc
     ·rename_i ps hps
      cases hc
      simp only [aX] at h
      rw [← iJ pl _ _ _ hps] at h
      simp only [bG,ms,hz,hpl,if_pos hf]; exact h
     ·cases hc
    ·rename_i hpl
     split at hc
     ·rename_i k e hta
      split at hc
      ·rename_i h1
       cases hc
       simp only [aX] at h
       rw [← fh] at h
       simp only [bG,ms,hz,hpl,if_pos hf,hta,if_pos h1]; exact h
      ·cases hc
     ·cases hc
   ·cases hc
  ·cases hc
 | call c =>
  obtain ⟨callee,args,argTypes⟩:=c
  cases callee with
  | builtin b =>
   obtain ⟨args⟩:=args
   obtain ⟨argTypes⟩:=argTypes
   cases b with
   | len =>
    rcases args with _ | ⟨x,_ | ⟨y,l⟩⟩
    ·cases hc
    ·rcases argTypes with _ | ⟨t,_ | ⟨u,l⟩⟩
     ·cases hc
     ·simp only [eO] at hc
      split at hc
      ·rename_i e hu
       cases hc
       simp only [aX,bk] at h
       unfold cR at h
       simp only [bG,sX,hu]
       split at h <;> rename_i hx <;> first | (simp only [hx]; exact h) | cases h
      ·rename_i hu
       cases hc
       simp only [aX,bk] at h
       simp only [bG,sX,hu]
       split at h <;> rename_i hx <;> first | (simp only [hx]; exact h) | cases h
      ·rename_i n e hu
       cases hc
       simp only [aX] at h
       simp only [bG,sX,hu]
       exact h
      ·cases hc
     ·cases hc
    ·cases hc
   | max =>
    rcases args with _ | ⟨x,l⟩
    ·cases hc
    ·cases hc
     simp only [aX,bk,fN] at h; exact h
   | cap =>
    rcases args with _ | ⟨x,_ | ⟨y,l⟩⟩
    ·cases hc
    ·rcases argTypes with _ | ⟨t,_ | ⟨u,l⟩⟩
     ·cases hc
     ·simp only [eO] at hc
      split at hc
      ·rename_i e he
       cases hc
       simp only [aX,bk] at h
       simp only [bG,he]
       split at h <;> rename_i hx <;> first | (simp only [hx]; exact h) | cases h
      ·cases hc
     ·cases hc
    ·cases hc
   | min =>
    rcases args with _ | ⟨x,l⟩
    ·cases hc
    ·cases hc
     simp only [aX,bk,fN] at h; exact h
   | _=>cases hc
  | _=>cases hc
 | _=>cases hc
theorem sF {P:Program} {op:Op} {i:Ins} {T:Tm} {H:Hp} {nx:Nat} {r:AV × Hp × Nat} (hc:gR P op=some i) (h:ec T H nx i=some r):dw P T H nx op=some r:=by
 cases op with
 | alloc e =>
  simp only [gR] at hc
  split at hc
  ·rename_i z hz
   cases hc
   simp only [dw,mj,hz]; exact h
  ·cases hc
 | box _ x=>cases hc; simp only [ec,bk] at h; exact h
 | buildSlice t len parts =>
  simp only [gR] at hc
  split at hc
  ·cases hc
  ·rename_i e he
   split at hc
   ·rename_i h1
    split at hc
    ·rename_i z hz
     split at hc
     ·rename_i h2
      cases hc
      simp only [ec] at h
      simp only [dw,jH,he,if_pos h1]
      split at h
      ·rename_i hl
       rw [if_pos hl]
       split at h
       ·rename_i hp
        have:parts.toList=[]:=by
         unfold fP at hp
         simpa using hp
        rw [this]; exact h
       ·cases h
      ·rename_i hl
       rw [if_neg hl]
       simp only [hz,if_pos h2]
       rw [gm,← fh] at h
       exact h
     ·cases hc
    ·cases hc
   ·cases hc
 | makeSlice t l c =>
  simp only [gR] at hc
  split at hc
  ·cases hc
  ·rename_i e he
   split at hc
   ·rename_i z hz
    split at hc
    ·rename_i h1
     cases hc
     simp only [ec,bk] at h
     split at h
     ·rename_i k n k' m hl hm
      split at h
      ·rename_i hb
       simp only [dw,pM,he,hl,hm,hz]
       rw [if_pos ⟨h1.1,h1.2.1,h1.2.2.1,h1.2.2.2,hb.1,hb.2.1,hb.2.2.1,hb.2.2.2⟩]
       rw [gm] at h
       exact h
      ·cases h
     ·cases h
    ·cases hc
   ·cases hc
 | store t p x =>
  simp only [gR] at hc
  split at hc
  ·rename_i h1
   cases hc
   simp only [ec,bk] at h
   split at h
   ·rename_i b n off hp
    split at h
    ·rename_i cs hb
     split at h
     ·rename_i h2
      simp only [dw,kw,hp,hb]
      rw [if_pos ⟨h2.1,h1.1,h2.2.1,h2.2.2.1,h2.2.2.2,h1.2⟩]
      exact h
     ·cases h
    ·cases h
   ·cases h
  ·cases hc
 | call c =>
  obtain ⟨callee,args,argTypes⟩:=c
  cases callee with
  | builtin b =>
   obtain ⟨args⟩:=args
   obtain ⟨argTypes⟩:=argTypes
   cases b with
   | append =>
    rcases args with _ | ⟨x,_ | ⟨y,_ | ⟨z,l⟩⟩⟩
    ·cases hc
    ·cases hc
    ·rcases argTypes with _ | ⟨t,_ | ⟨u,_ | ⟨v,l⟩⟩⟩
     ·cases hc
     ·cases hc
     ·simp only [gR] at hc
      split at hc
      ·cases hc
      ·rename_i e he
       split at hc
       ·rename_i h1
        cases hc
        simp only [ec,bk] at h
        simp only [dw,h1.2.2.1,Option.isSome_none,Bool.false_eq_true,if_false]
        simp only [ju,he,if_pos h1]
        exact h
       ·split at hc
        ·rename_i hti
         obtain ⟨kx,hkx⟩:=Option.isSome_iff_exists.1 hti
         split at hc
         ·rename_i z hz
          split at hc
          ·rename_i h2
           cases hc
           simp only [ec,bk] at h
           split at h
           ·rename_i kn n hs hx
            split at h
            ·rename_i h3
             simp only [dw,hkx,Option.isSome_some,if_true,qX,he,hs,hx,hz]
             rw [if_pos ⟨h2.1,h2.2.1,h2.2.2.1,h2.2.2.2.1,h2.2.2.2.2,h3.1,h3.2.1,h3.2.2⟩]
             rw [gm] at h
             exact h
            ·cases h
           ·cases h
          ·cases hc
         ·cases hc
        ·cases hc
     ·cases hc
    ·cases hc
   | _=>cases hc
  | _=>cases hc
 | _=>cases hc
def isp (i:Ins) (T:Tm) (H:Hp) (nx:Nat) (K:AV→Hp→Nat→Prop):Prop:=match i with
 | .mkm h=>(h=none ∨ ∃ x k n,h=some x∧ov T x=.int k n)∧K (.mp nx) (am H nx [.omap [] []]) (nx + 1)
 | .mput k m key x=>∃ b ks vs r,ov T m=.mp b∧H b=some [.omap ks vs]∧jd k (ov T key)=true∧cw k (ov T key) ks=some r∧K (.tup []) (am H b [.omap (b5 (ov T key) r ks) (hZ (ov T x) r vs)]) nx
 | .mget k z ok m key=>∃ b ks vs r,ov T m=.mp b∧H b=some [.omap ks vs]∧jd k (ov T key)=true∧cw k (ov T key) ks=some r∧K (Go.Abs.mget z ok r vs) H nx
 | .mlen m=>∃ b ks vs,ov T m=.mp b∧H b=some [.omap ks vs]∧K (.int .i64 ks.length) H nx
 | .mrng m=>∃ b ks vs,ov T m=.mp b∧H b=some [.omap ks vs]∧K (.itr nx) (am H nx [.oiter b ks.length []]) (nx + 1)
 | .mnxt it=>∃ b m n0 seen ks vs,ov T it=.itr b∧H b=some [.oiter m n0 seen]∧H m=some [.omap ks vs]∧ks.length=n0 ∧
     (∀ i,i < ks.length→i ∉ seen→K (.tup [.bool true,ks.getD i .undef,vs.getD i .undef]) (am H b [.oiter m n0 (seen ++ [i])]) nx) ∧
     ((∀ i,i < n0→i < ks.length→i ∈ seen)→K (.tup [.bool false]) H nx)
 | .ment it=>∃ b m n0 i seen ks vs,ov T it=.itr b∧H b=some [.oiter m n0 seen]∧H m=some [.omap ks vs]∧ks.length=n0∧seen.getLast?=some i∧i < ks.length∧K (.tup [ks.getD i .undef,vs.getD i .undef]) H nx
 | .cpy sz d s=>∃ n H',iO sz (ov T d) (ov T s) H=some (n,H')∧K (.int .i64 n) H' nx
 | .clr sz z x=>∃ H',fJ sz z (ov T x) H=some H'∧K (.tup []) H' nx
 | .slp len sz x=>∃ (b n off:Nat) (cs:List AV),ov T x=.ptr b n off∧H b=some cs∧cs.length=n∧off + len * sz=n∧K (.msl b n sz off len) H nx
 | .snil neg x=>∃ k,eZ (ov T x)=some k∧sx neg k fun r=>K r H nx
 | .s2b x=>∃ bs:ByteArray,ov T x=.str bs∧(bs.size=0→K (.sl 1 []) H nx)∧(bs.size ≠ 0→K (.msl nx bs.size 1 0 bs.size) (am H nx (bs.data.toList.map iG)) (nx + 1))
 | .b2s x=>∃ (n:Nat) (bs:List UInt8),dz 1 H (ov T x)=some (n,bs.map iG)∧K (.str ⟨bs.toArray⟩) H nx
 | .mplc k z m key=>∃ b ks vs r,ov T m=.mp b∧H b=some [.omap ks vs]∧jd k (ov T key)=true∧cw k (ov T key) ks=some r∧K (.tup [rh z r vs,.int .i64 (p9 r ks)]) (am H b [.omap (b5 (ov T key) r ks) (gM z r vs)]) nx
 | .mpst m s x=>∃ (b:Nat) (ks vs:List AV) (i:Nat),ov T m=.mp b∧H b=some [.omap ks vs]∧ov T s=.int .i64 (i:Int)∧i < ks.length∧K (.tup []) (am H b [.omap ks (vs.set i (ov T x))]) nx
 | _=>False
def qu (P:Program):Op→Option Ins
 | .makeMap t r=>match je P t with | some _=>some (.mkm (r.map .of)) | none=>none
 | .mapUpdate t m k x=>match je P t with
  | some (kt,_)=>(mkk P kt).map fun mk=>.mput mk (.of m) (.of k) (.of x)
  | none=>none
 | .insert t m k x=>match je P t with
  | some (kt,_)=>(mkk P kt).map fun mk=>.mput mk (.of m) (.of k) (.of x)
  | none=>none
 | .lookup t m k ok=>match je P t with
  | some (kt,et)=>match mkk P kt,dN P et with
   | some mk,some z=>some (.mget mk z ok (.of m) (.of k))
   | _,_=>none
  | none=>none
 | .range t m=>match je P t with | some _=>some (.mrng (.of m)) | none=>none
 | .next it false=>some (.mnxt (.of it))
 | .entry it=>some (.ment (.of it))
 | .call { callee:=.builtin .len,args:=⟨[x]⟩,argTypes:=⟨[t]⟩ }=>match je P t with | some _=>some (.mlen (.of x)) | none=>none
 | .binOp .eql t x (.const (.slice none 0 0)) _=>match d6 P t with | some _=>some (.snil false (.of x)) | none=>none
 | .binOp .neq t x (.const (.slice none 0 0)) _=>match d6 P t with | some _=>some (.snil true (.of x)) | none=>none
 | .call { callee:=.builtin .copy,args:=⟨[d,s]⟩,argTypes:=⟨[tD,_]⟩ }=>match d6 P tD with
  | some e=>if tok P e=true then some (.cpy (P.cellsOf e) (.of d) (.of s)) else none
  | none=>none
 | .call { callee:=.builtin .clear,args:=⟨[x]⟩,argTypes:=⟨[t]⟩ }=>match d6 P t with
  | some e=>match dN P e with
   | some z=>if 0 < P.cellsOf e then some (.clr (P.cellsOf e) z (.of x)) else none
   | none=>none
  | none=>none
 | .convert s d x=>match P.underlying s,P.underlying d with
  | some .string,some (.slice e)=>if gB P e=some .u8 then some (.s2b (.of x)) else none
  | some (.slice e),some .string=>if gB P e=some .u8 then some (.b2s (.of x)) else none
  | _,_=>none
 | .mapEntry t m k=>match je P t with
  | some (kt,et)=>match mkk P kt,dN P et with
   | some mk,some z=>some (.mplc mk z (.of m) (.of k))
   | _,_=>none
  | none=>none
 | .entryStore _ m s x=>some (.mpst (.of m) (.of s) (.of x))
 | .slice t x none none none=>match P.underlying t with
  | some (.array n e)=>if tok P e=true∧0 < n then some (.slp n (P.cellsOf e) (.of x)) else none
  | _=>none
 | _=>none
theorem yk {P:Program} {op:Op} {i:Ins} {T:Tm} {H:Hp} {nx:Nat} {K:AV→Hp→Nat→Prop} (hc:qu P op=some i) (h:isp i T H nx K):cm P op T H nx K:=by
 have put:∀ t m k x,qu P (.mapUpdate t m k x)=some i→isp i T H nx K→cm P (.mapUpdate t m k x) T H nx K:=by
  intro t m k x hc h
  simp only [qu] at hc
  split at hc
  ·rename_i kt et ht
   cases hk:mkk P kt with
   | none=>rw [hk] at hc; cases hc
   | some mk =>
    rw [hk] at hc; cases hc
    obtain ⟨b,ks,vs,r,h1,h2,h3,h4,h5⟩:=h
    simp only [bk] at h1 h3 h4 h5
    exact lm ht hk h1 h2 h3 h4 h5
  ·cases hc
 unfold qu at hc
 split at hc
 ·rename_i t r
  split at hc
  ·rename_i p ht
   cases hc
   obtain ⟨h1,h2⟩:=h
   refine nJ ?_ h2
   rcases h1 with h1 | ⟨x,k,n,h1,h3⟩
   ·cases r with
    | none=>exact .inl rfl
    | some r=>cases h1
   ·cases r with
    | none=>cases h1
    | some r=>cases h1; rw [bk] at h3; exact .inr ⟨r,n,k,p,rfl,h3,ht⟩
  ·cases hc
 ·rename_i t m k x
  exact put t m k x hc h
 ·rename_i t m k x
  exact px (put t m k x hc h)
 ·rename_i t m k ok
  split at hc
  ·rename_i kt et ht
   split at hc
   ·rename_i mk z hk hz
    cases hc
    obtain ⟨b,ks,vs,r,h1,h2,h3,h4,h5⟩:=h
    simp only [bk] at h1 h3 h4
    exact oW ht hk hz h1 h2 h3 h4 h5
   ·cases hc
  ·cases hc
 ·rename_i t m
  split at hc
  ·rename_i p ht
   cases hc
   obtain ⟨b,ks,vs,h1,h2,h3⟩:=h
   rw [bk] at h1
   exact pg ht h1 h2 h3
  ·cases hc
 ·cases hc
  obtain ⟨b,m,n0,seen,ks,vs,h1,h2,h3,h4,h5,h6⟩:=h
  rw [bk] at h1
  exact qY h1 h2 h3 h4 h5 h6
 ·cases hc
  obtain ⟨b,m,n0,i,seen,ks,vs,h1,h2,h3,h4,h5,h6,h7⟩:=h
  rw [bk] at h1
  exact oZ h1 h2 h3 h4 h5 h6 h7
 ·rename_i x t
  split at hc
  ·rename_i p ht
   cases hc
   obtain ⟨b,ks,vs,h1,h2,h3⟩:=h
   rw [bk] at h1
   exact rL ht h1 h2 h3
  ·cases hc
 ·rename_i t x ty
  split at hc
  ·rename_i e ht
   cases hc
   obtain ⟨k,h1,h2⟩:=h
   rw [bk] at h1
   exact lS (neg:=false) ht h1 h2
  ·cases hc
 ·rename_i t x ty
  split at hc
  ·rename_i e ht
   cases hc
   obtain ⟨k,h1,h2⟩:=h
   rw [bk] at h1
   exact lS (neg:=true) ht h1 h2
  ·cases hc
 ·rename_i d s tD tS
  split at hc
  ·rename_i e ht
   split at hc
   ·rename_i hte
    cases hc
    obtain ⟨n,H',h1,h2⟩:=h
    simp only [bk] at h1
    exact rq ht hte h1 h2
   ·cases hc
  ·cases hc
 ·rename_i x t
  split at hc
  ·rename_i e ht
   split at hc
   ·rename_i z hz
    split at hc
    ·rename_i hpos
     cases hc
     obtain ⟨H',h1,h2⟩:=h
     simp only [bk] at h1
     exact qw ht hz h1 hpos h2
    ·cases hc
   ·cases hc
  ·cases hc
 ·rename_i s d x
  have tu:∀ {e},gB P e=some .u8→P.underlying e=some (.int .u8):=fun {e} h=>by
   unfold gB at h
   split at h
   ·rename_i hu; cases h; exact hu
   ·cases h
  split at hc
  ·rename_i e hs hd
   split at hc
   ·rename_i he
    cases hc
    obtain ⟨bs,h1,h2,h3⟩:=h
    rw [bk] at h1
    exact uj hs hd (tu he) h1 h2 h3
   ·cases hc
  ·rename_i e hs hd
   split at hc
   ·rename_i he
    cases hc
    obtain ⟨n,bs,h1,h2⟩:=h
    rw [bk] at h1
    exact uy hs (tu he) hd h1 h2
   ·cases hc
  ·cases hc
 ·rename_i t m k
  split at hc
  ·rename_i kt et ht
   split at hc
   ·rename_i mk z hk hz
    cases hc
    obtain ⟨b,ks,vs,r,h1,h2,h3,h4,h5⟩:=h
    simp only [bk] at h1 h3 h4 h5
    exact nk ht hk hz h1 h2 h3 h4 h5
   ·cases hc
  ·cases hc
 ·cases hc
  obtain ⟨b,ks,vs,i,h1,h2,h3,h4,h5⟩:=h
  simp only [bk] at h1 h3 h5
  exact ki h1 h2 h3 h4 h5
 ·rename_i t x
  split at hc
  ·rename_i n e hu
   split at hc
   ·rename_i hce
    cases hc
    obtain ⟨b,n',off,cs,h1,h2,h3,h4,h5⟩:=h
    rw [bk] at h1
    exact tx hu hce.1 hce.2 h1 h2 h3 h4 h5
   ·cases hc
  ·cases hc
 ·cases hc
end Go.Abs