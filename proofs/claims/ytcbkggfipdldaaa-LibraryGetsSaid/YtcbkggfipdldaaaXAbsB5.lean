/- The conditions of code, on abstract states. -/
import Derived.Test.YtcbkggfipdldaaaXAbsB4
import Derived.LoopNIn
import Derived.TacticsIn
set_option linter.unusedVariables false
namespace Go.Abs
open Go.RowKit

abbrev Tm := Nat → AV
abbrev Hp := Nat → Option (List AV)
abbrev SP := Tm → Hp → Nat → Prop

inductive AEx where
  | normal | exit (id : Nat) | ret

def obind {α : Type} (x : Option α) (K : α → Prop) : Prop := match x with | some a => K a | none => False
@[congr] theorem obind_congr {α : Type} {x y : Option α} {K : α → Prop} (h : x = y) : obind x K = obind y K := by rw [h]
theorem obind_some {α : Type} {a : α} {K : α → Prop} : obind (some a) K = K a := rfl
theorem obind_none {α : Type} {K : α → Prop} : obind none K = False := rfl

/-- guards -/
def gbind (x : Option Bool) (A B : Prop) : Prop := match x with | some true => A | some false => B | none => False
@[congr] theorem gbind_congr {x y : Option Bool} {A B : Prop} (h : x = y) : gbind x A B = gbind y A B := by rw [h]
theorem gbind_true {A B : Prop} : gbind (some true) A B = A := rfl
theorem gbind_false {A B : Prop} : gbind (some false) A B = B := rfl

def bbind (x : Bool) (A : Prop) : Prop := x = true ∧ A
@[congr] theorem bbind_congr {x y : Bool} {A : Prop} (h : x = y) : bbind x A = bbind y A := by rw [h]
theorem bbind_true {A : Prop} : bbind true A = A := by simp [bbind]
theorem bbind_false {A : Prop} : bbind false A = False := by simp [bbind]

def acond (v : AV) (A B : Prop) : Prop := match v with | .bool b => (b = true → A) ∧ (b = false → B) | _ => False
@[congr] theorem acond_congr {v v' : AV} {A B : Prop} (h : v = v') : acond v A B = acond v' A B := by rw [h]
theorem acond_true {A B : Prop} : acond (.bool true) A B = A := by simp [acond]
theorem acond_false {A B : Prop} : acond (.bool false) A B = B := by simp [acond]
theorem acond_split {b : Bool} {A B : Prop} (h1 : b = true → A) (h2 : b = false → B) : acond (.bool b) A B := ⟨h1, h2⟩
theorem acond_dec {p : Prop} [Decidable p] {A B : Prop} (h1 : p → A) (h2 : ¬ p → B) : acond (.bool (decide p)) A B := ⟨fun h => h1 (of_decide_eq_true h), fun h => h2 (of_decide_eq_false h)⟩

/-- a pure call inside a region that draws -/
def PCall (P : Program) (g : FuncId) (args : List AV) (H : Hp) (K : AV → Prop) : Prop := ∃ r, CallOk P g args H r ∧ K r
@[congr] theorem PCall_congr {P : Program} {g : FuncId} {args args' : List AV} {H H' : Hp} {K : AV → Prop} (h : args = args') (h2 : H = H') : PCall P g args H K = PCall P g args' H' K := by rw [h, h2]
theorem PCall.of_pure {P : Program} {f : FuncId} {args args' : List AV} {r : AV} {H : Hp} {K : AV → Prop} (hp : Pure P f args' r) (hs : SnapArgs H args args' r) (hR : K r) : PCall P f args H K := ⟨_, hp.callOk hs, hR⟩
theorem PCall.of_callOk {P : Program} {f : FuncId} {args : List AV} {r : AV} {H : Hp} {K : AV → Prop} (hp : CallOk P f args H r) (hR : K r) : PCall P f args H K := ⟨_, hp, hR⟩

def isFn (v : AV) : Option (FuncId × List AV) := match v with | .func g caps => some (g, caps) | _ => none

/-- the operation as a call of a function value -/
def callOf : Op → Option (Operand × Array Operand)
  | .call { callee := .value f, args := args, argTypes := _ } => some (f, args)
  | _ => none

theorem callOf_eq {op : Op} {f : Operand} {args : Array Operand} (h : callOf op = some (f, args)) : ∃ ts, op = .call { callee := .value f, args := args, argTypes := ts } := by
  unfold callOf at h
  split at h
  · cases h; exact ⟨_, rfl⟩
  · cases h

inductive OpC where
  | val | eff | call | other
def opc : Op → OpC
  | .call { callee := .value _, .. } => .call
  | op => match opk op with
    | .pure | .touch => .val
    | .alloc | .write => .eff
    | .other => .other

inductive DM where
  | text | draw | fresh (m : Nat)

def DM.fr : DM → Option Nat
  | .fresh m => some m
  | _ => none

def DM.isText : DM → Bool
  | .text => true
  | _ => false

/-- in a region of stores to what is new -/
def dmOk (dm : DM) (T : Tm) (op : Op) : Bool := match dm with
  | .fresh m => frOk T op m
  | _ => true

def aop1o (P : Program) (dm : DM) (op : Op) (T : Tm) (H : Hp) (nx : Nat) (K : AV → Hp → Nat → Prop) : Prop :=
  match opc op with
  | .val => bbind (dmOk dm T op) (obind (aval P T H op) fun r => K r H nx)
  | .eff => bbind (dmOk dm T op) (obind (aeff P T H nx op) fun x => K x.1 x.2.1 x.2.2)
  | .call => obind (callOf op) fun x => obind (isFn (ev T x.1)) fun y => match dm.isText with
    | false => PCall P y.1 (x.2.toList.map (ev T) ++ y.2) H fun r => K r H nx
    | true => Fn P y.1 (x.2.toList.map (ev T) ++ y.2) H nx K
  | .other => False

/-- any other operation, said by what it does -/
def aspec (P : Program) (op : Op) (T : Tm) (H : Hp) (nx : Nat) (K : AV → Hp → Nat → Prop) : Prop :=
  (∀ c, op ≠ .defer c) ∧ ∀ (rr : Option Nat) (E : Env) (w : World) (a : Act) (o : Oper) (next : Act → World → Prop) (Q : Exit → Act → World → Prop), o.op = op → EnvOk E w → HeapOk E H nx w → Fresh E nx → (∀ t, Rel E w (T t) (a.tmps.getD t Go.undef)) →
    (∀ (E' : Env) (H' : Hp) (nx' : Nat) (r : AV) (v : Value) (w' : World), Ext E w E' w' → EnvOk E' w' → HeapOk E' H' nx' w' → Fresh E' nx' → Rel E' w' r v → K r H' nx' → next (a.put o.dst v) w') →
    o.uponIn (FW rr) 0 P a next Q ((execOp a.eval o).run P w)

def aop1 (P : Program) (dm : DM) (op : Op) (T : Tm) (H : Hp) (nx : Nat) (K : AV → Hp → Nat → Prop) : Prop :=
  aop1o P dm op T H nx K ∨ (dm.isText = true ∧ aspec P op T H nx K)

def aop (P : Program) (n : Nat) (dm : DM) (dsts : List (Option Nat)) (o : Oper) (T : Tm) (H : Hp) (nx : Nat) (K : SP) : Prop :=
  bbind (dok n o.dst) (gbind (gval T dsts o.guard) (aop1 P dm o.op T H nx fun r H' nx' => K (updo T o.dst r) H' nx') (K (updo T o.dst (.tup [])) H nx))

def aops (P : Program) (n : Nat) (dm : DM) (dsts : List (Option Nat)) : List Oper → Tm → Hp → Nat → SP → Prop
  | [], T, H, nx, K => K T H nx
  | o :: l, T, H, nx, K => aop P n dm dsts o T H nx fun T H nx => aops P n dm dsts l T H nx K

theorem aspec_mono {P : Program} {op : Op} {T : Tm} {H : Hp} {nx : Nat} {K K' : AV → Hp → Nat → Prop} (h : aspec P op T H nx K) (hK : ∀ r H nx, K r H nx → K' r H nx) : aspec P op T H nx K' :=
  ⟨h.1, fun rr E w a o next Q ho hE hh hf ht hn => h.2 rr E w a o next Q ho hE hh hf ht (fun E' H' nx' r v w' h1 h2 h3 h4 h5 h6 => hn E' H' nx' r v w' h1 h2 h3 h4 h5 (hK _ _ _ h6))⟩

theorem aop1o_mono {P : Program} {dm : DM} {op : Op} {T : Tm} {H : Hp} {nx : Nat} {K K' : AV → Hp → Nat → Prop} (h : aop1o P dm op T H nx K) (hK : ∀ r H nx, K r H nx → K' r H nx) : aop1o P dm op T H nx K' := by
  have ob : ∀ {α : Type} {x : Option α} {A B : α → Prop}, (∀ a, A a → B a) → obind x A → obind x B := by
    intro α x A B hab h; cases x with
    | none => exact h
    | some a => exact hab a h
  unfold aop1o at h ⊢
  split at h
  · exact ⟨h.1, ob (fun a => hK _ _ _) h.2⟩
  · exact ⟨h.1, ob (fun a => hK _ _ _) h.2⟩
  · refine ob (fun a => ob (fun b => ?_)) h
    intro h
    cases hd : dm.isText with
    | false => rw [hd] at h; obtain ⟨r, h1, h3⟩ := h; exact ⟨r, h1, hK _ _ _ h3⟩
    | true => rw [hd] at h; exact Fn.mono h hK
  · exact h

theorem aop1_mono {P : Program} {dm : DM} {op : Op} {T : Tm} {H : Hp} {nx : Nat} {K K' : AV → Hp → Nat → Prop} (h : aop1 P dm op T H nx K) (hK : ∀ r H nx, K r H nx → K' r H nx) : aop1 P dm op T H nx K' :=
  h.imp (fun h => aop1o_mono h hK) (fun h => ⟨h.1, aspec_mono h.2 hK⟩)

theorem aop_mono {P : Program} {N : Nat} {dm : DM} {dsts : List (Option Nat)} {o : Oper} {T : Tm} {H : Hp} {nx : Nat} {K K' : SP} (h : aop P N dm dsts o T H nx K) (hK : ∀ T H nx, K T H nx → K' T H nx) : aop P N dm dsts o T H nx K' := by
  unfold aop at h ⊢
  refine ⟨h.1, ?_⟩
  have h := h.2
  cases hg : gval T dsts o.guard with
  | none => rw [hg] at h; exact h.elim
  | some b =>
    rw [hg] at h
    cases b with
    | true => exact aop1_mono (K := fun r H' nx' => K (updo T o.dst r) H' nx') h (fun _ _ _ => hK _ _ _)
    | false => exact hK _ _ _ h

theorem aops_mono {P : Program} {N : Nat} {dm : DM} {dsts : List (Option Nat)} {K K' : SP} (hK : ∀ T H nx, K T H nx → K' T H nx) : ∀ (l : List Oper) {T : Tm} {H : Hp} {nx : Nat}, aops P N dm dsts l T H nx K → aops P N dm dsts l T H nx K'
  | [], _, _, _, h => hK _ _ _ h
  | o :: l, _, _, _, h => aop_mono h (fun _ _ _ => aops_mono hK l)

/-- a temporary forgotten -/
def Weak (T T' : Tm) : Prop := ∀ t, T' t = T t ∨ T' t = .undef

theorem Weak.refl (T : Tm) : Weak T T := fun _ => .inl rfl

theorem Sim.weak {E : Env} {N : Cfg} {T T' : Tm} {H : Hp} {nx : Nat} {a : Act} {w : World} (h : Sim E N ⟨T, H, nx⟩ a w) (hw : Weak T T') : Sim E N ⟨T', H, nx⟩ a w :=
  ⟨h.env, h.heap, h.fresh, h.round, h.floor, h.size, fun t => by
    show Rel E w (T' t) _
    rcases hw t with e | e
    · rw [e]; exact h.tmps t
    · rw [e]; exact .undef _, h.defers⟩

/-! ### steps of the reader's alone: boxes become data, empty rows become boxes -/
/-- one value -/
def GhV (Hf : Hp) (nx nx' : Nat) (x x' : AV) : Prop := x' = x ∨ Snap Hf x x' ∨ (x = .esl ∧ ∃ b sz, x' = .msl b 0 sz 0 0 ∧ nx ≤ b ∧ b < nx')

structure Gh (T : Tm) (H : Hp) (nx : Nat) (T' : Tm) (H' : Hp) (nx' : Nat) (Hf : Hp) : Prop where
  sub : ∀ b cs, Hf b = some cs → H b = some cs
  le : nx ≤ nx'
  heap : ∀ b cs', H' b = some cs' → (∃ cs, H b = some cs ∧ Hf b = none ∧ cs'.length = cs.length ∧ ∀ (i : Nat) (x x' : AV), cs[i]? = some x → cs'[i]? = some x' → GhV Hf nx nx' x x') ∨ (cs' = [] ∧ nx ≤ b ∧ b < nx')
  tmps : ∀ t, T' t = .undef ∨ GhV Hf nx nx' (T t) (T' t)

theorem Gh.refl (T : Tm) (H : Hp) (nx : Nat) : Gh T H nx T H nx noBoxes :=
  ⟨fun _ _ h => (by cases h), Nat.le_refl _, fun b cs h => .inl ⟨cs, h, rfl, rfl, fun i x x' h1 h2 => .inl (by rw [h1] at h2; cases h2; rfl)⟩, fun t => .inr (.inl rfl)⟩

theorem HeapOk.blk_cells {E : Env} {H : Hp} {nx : Nat} {w : World} (h : HeapOk E H nx w) {b : Nat} {cs : List AV} {blk sz : Nat} (hb : H b = some cs) (hm : E.mu b cs.length = some (blk, sz)) : ∃ vals ty, w.heap[blk]? = some (.cells vals ty (0, 0)) := by
  rcases h.box b cs hb with hn | ⟨blk', sz', hx⟩
  · rw [hn] at hm; cases hm
  · rw [hx.mu] at hm; cases hm
    obtain ⟨vals, ty, h1, _⟩ := hx.cells
    exact ⟨vals, ty, h1⟩

theorem GhV.sound {E : Env} {H Hf : Hp} {nx nx' : Nat} {w : World} (hh : HeapOk E H nx w) (hsub : ∀ b cs, Hf b = some cs → H b = some cs) {x x' : AV} (h : GhV Hf nx nx' x x') {v : Value} (hv : Rel E w x v) :
    Rel { E with imm := fun b => E.imm b ∨ liveB E Hf b } w x' v := by
  rcases h with rfl | h | ⟨rfl, b, sz, rfl, _, _⟩
  · exact hv.mono (E' := { E with imm := fun b => E.imm b ∨ liveB E Hf b }) (fun _ h => .inl h) (fun _ _ _ h => h) (fun _ _ h => h)
  · have hf : HeapOk E Hf nx w := hh.fewer hsub (fun b cs hb => hh.dom b cs (hsub b cs hb))
    exact Rel.mono (E := E0 fun b => E.imm b ∨ liveB E Hf b) (E' := { E with imm := fun b => E.imm b ∨ liveB E Hf b }) (fun _ h => h) (fun _ _ _ h => (by cases h)) (fun _ _ h => (by cases h)) (h.sound hf hv)
  · cases hv with
    | eslnil => exact .msl0 _ _ _ (.inl rfl)
    | esl b' o => exact .msl0 _ _ _ (.inr ⟨_, _, rfl⟩)

theorem Sim.ghost {E : Env} {N : Cfg} {T T' : Tm} {H H' Hf : Hp} {nx nx' : Nat} {a : Act} {w : World} (h : Sim E N ⟨T, H, nx⟩ a w) (hg : Gh T H nx T' H' nx' Hf) : ∃ E', Ext E w E' w ∧ Sim E' N ⟨T', H', nx'⟩ a w := by
  have hh := h.heap
  have hfr := h.fresh
  simp only at hh hfr
  have hblk : ∀ b, liveB E Hf b → b < w.heap.size ∧ E.base ≤ b ∧ ¬ E.imm b := fun b ⟨b', cs, sz, h1, h2⟩ => hh.blk_lt (hg.sub _ _ h1) h2
  have he : Ext E w { E with imm := fun b => E.imm b ∨ liveB E Hf b } w :=
    ⟨rfl, rfl, fun _ h => .inl h, fun b hb => hb.imp id (fun h => (hblk b h).2.1), fun _ _ _ h => h, fun _ _ h => h, fun _ _ h => h, fun _ h => ⟨h, rfl⟩, Nat.le_refl _, fun _ _ => rfl⟩
  have hEs : EnvOk { E with imm := fun b => E.imm b ∨ liveB E Hf b } w := h.env.step he (fun b hb => hb.imp id (fun h => (hblk b h).1)) (fun k hk => hk.imp id (fun ⟨b', cs, sz, h1, h2⟩ b hb => by
    obtain ⟨vals, ty, hc⟩ := hh.blk_cells (hg.sub _ _ h1) h2
    obtain ⟨_, _, o, ho, hno, _⟩ := h.env.spb b k hb
    rw [hc] at ho; cases ho; cases hno)) (Below.refl _ _) (Still.refl _) rfl rfl rfl (fun _ _ _ _ => rfl)
  refine ⟨_, he, hEs, ?_, fun b hb => hfr b (Nat.le_trans hg.le hb), fun l hl => h.round l hl, h.floor, h.size, fun t => ?_, h.defers.ext he⟩
  · refine ⟨fun b cs' hb => ?_, fun b cs' hb => ?_, fun b b' cs1 cs2 blk sz blk' sz' hb hb' hne m1 m2 => ?_, hh.size, fun b cs' m x hb hm => ?_, fun b x hb hx => ?_, fun b hb => ?_⟩
    · rcases hg.heap b cs' hb with ⟨cs, h1, h2, h3, h4⟩ | ⟨rfl, h1, h2⟩
      · rw [h3]
        rcases hh.box b cs h1 with hn | ⟨blk, sz, hx⟩
        · exact .inl hn
        · refine .inr ⟨blk, sz, by rw [h3]; exact hx.mu, hx.base, ?_, ?_⟩
          · rintro (hi | ⟨b', cs1, sz', k1, k2⟩)
            · exact hx.imm hi
            · have hne : b ≠ b' := fun e => by subst e; rw [h2] at k1; cases k1
              exact hh.apart b b' cs cs1 blk sz blk sz' h1 (hg.sub _ _ k1) hne hx.mu k2 rfl
          · obtain ⟨vals, ty, k1, k2, k3, k4⟩ := hx.cells
            refine ⟨vals, ty, k1, k2, by omega, fun i x' hx' => ?_⟩
            have hlt : i < cs.length := by have := (List.getElem?_eq_some_iff.1 hx').1; omega
            obtain ⟨v, e1, e2, e3⟩ := k4 i cs[i] (by simp [hlt])
            exact ⟨v, e1, e2, (h4 i _ x' (by simp [hlt]) hx').sound hh hg.sub e3⟩
      · exact .inl ((hfr b h1).1 _)
    · rcases hg.heap b cs' hb with ⟨cs, h1, _⟩ | ⟨_, _, h2⟩
      · exact Nat.lt_of_lt_of_le (hh.dom _ _ h1) hg.le
      · exact h2
    · rcases hg.heap b cs1 hb with ⟨ds1, h1, _, h1', _⟩ | ⟨_, h1, _⟩
      · rcases hg.heap b' cs2 hb' with ⟨ds2, h2, _, h2', _⟩ | ⟨_, h2, _⟩
        · rw [h1'] at m1; rw [h2'] at m2
          exact hh.apart b b' ds1 ds2 blk sz blk' sz' h1 h2 hne m1 m2
        · have := (hfr b' h2).1 cs2.length
          rw [this] at m2; cases m2
      · have := (hfr b h1).1 cs1.length
        rw [this] at m1; cases m1
    · rcases hg.heap b cs' hb with ⟨cs, h1, _, h3, _⟩ | ⟨_, h1, _⟩
      · rw [h3]; exact hh.top b cs m x h1 hm
      · have := (hfr b h1).1 m
        rw [this] at hm; cases hm
    · rcases hg.heap b [x] hb with ⟨cs, h1, _, h3, h4⟩ | ⟨hn, _⟩
      · match cs, h3 with
        | [y], _ =>
          have e : x = y := by
            rcases h4 0 y x rfl rfl with e | e | ⟨_, _, _, e, _⟩
            · exact e
            · exfalso; cases e <;> cases hx
            · subst e; cases hx
          subst e
          obtain ⟨k, k1, k2⟩ := hh.spec b x h1 hx
          exact ⟨k, k1, k2.ext he (fun _ _ _ h _ => h)⟩
      · cases hn
    · rcases hg.heap b [] hb with ⟨cs, h1, _, h3, _⟩ | ⟨_, h1, _⟩
      · exact hh.nsp b (by rw [h1, List.length_eq_zero_iff.1 h3.symm])
      · exact (hfr b h1).2.1
  · show Rel _ w (T' t) _
    rcases hg.tmps t with e | e
    · rw [e]; exact .undef _
    · exact e.sound hh hg.sub (h.tmps t)

def athen (e : AEx) (A B : Prop) : Prop := match e with | .normal => A | _ => B
@[congr] theorem athen_congr {e e' : AEx} {A B : Prop} (h : e = e') : athen e A B = athen e' A B := by rw [h]
theorem athen_normal {A B : Prop} : athen .normal A B = A := rfl
theorem athen_ret {A B : Prop} : athen .ret A B = B := rfl
theorem athen_exit {A B : Prop} {i : Nat} : athen (.exit i) A B = B := rfl

def ablock (id : Nat) : AEx → AEx
  | .exit i => if i = id then .normal else .exit i
  | e => e

abbrev CP := AEx → SP

def aloopN (body : Tm → Hp → Nat → CP → Prop) (K : CP) : Nat → Tm → Hp → Nat → Prop
  | 0, _, _, _ => False
  | n + 1, T, H, nx => ∃ T' H' nx' Hf, Gh T H nx T' H' nx' Hf ∧ body T' H' nx' fun e T H nx => athen e (aloopN body K n T H nx) (K e T H nx)

def aloop (body : Tm → Hp → Nat → CP → Prop) (T : Tm) (H : Hp) (nx : Nat) (K : CP) : Prop := ∃ n, aloopN body K n T H nx

def AEx.cv : AEx → Exit
  | .normal => .normal
  | .exit i => .exit i
  | .ret => .ret

/-- what holds behind code -/
def APost (P : Program) (N : Cfg) (E : Env) (w : World) (K : CP) : Exit → Act → World → Prop := fun e a' w' =>
  ∃ x E' T H nx, e = AEx.cv x ∧ Ext E w E' w' ∧ Sim E' N ⟨T, H, nx⟩ a' w' ∧ K x T H nx

theorem APost.trans {P : Program} {N : Cfg} {E E' : Env} {w w' : World} {K : CP} (he : Ext E w E' w') {e : Exit} {a : Act} {w'' : World} (h : APost P N E' w' K e a w'') : APost P N E w K e a w'' := by
  obtain ⟨x, E'', T, H, nx, h1, h2, h3, h4⟩ := h
  exact ⟨x, E'', T, H, nx, h1, he.trans h2, h3, h4⟩

theorem APost.mono {P : Program} {N : Cfg} {E : Env} {w : World} {K K' : CP} (hK : ∀ e T H nx, K e T H nx → K' e T H nx) {e : Exit} {a : Act} {w' : World} (h : APost P N E w K e a w') : APost P N E w K' e a w' := by
  obtain ⟨x, E', T, H, nx, h1, h2, h3, h4⟩ := h
  exact ⟨x, E', T, H, nx, h1, h2, h3, hK _ _ _ _ h4⟩

/-- a loop over a function, said by what it does -/
def RF (P : Program) (n : Nat) (c : Code) (T : Tm) (H : Hp) (nx : Nat) (K : CP) : Prop :=
  ∀ (N : Cfg) (E : Env) (a : Act) (w : World), N.n = n → Sim E N ⟨T, H, nx⟩ a w → c.wpIn (FW N.rd) 0 P (APost P N E w K) a w

theorem RF.mono {P : Program} {n : Nat} {c : Code} {T : Tm} {H : Hp} {nx : Nat} {K K' : CP} (h : RF P n c T H nx K) (hK : ∀ e T H nx, K e T H nx → K' e T H nx) : RF P n c T H nx K' :=
  fun N E a w hn hS => wpIn_mono (h N E a w hn hS) (fun _ _ _ => APost.mono hK)

def awp (P : Program) (n : Nat) : Code → Tm → Hp → Nat → CP → Prop
  | .skip, T, H, nx, K => K .normal T H nx
  | .label _, T, H, nx, K => K .normal T H nx
  | .region _ ops draw, T₀, H₀, nx₀, K => ∃ T H nx Hf, Gh T₀ H₀ nx₀ T H nx Hf ∧ match draw with
    | true => if drawOk false ops.toList = true then aops P n .draw (ops.toList.map (·.dst)) ops.toList T H nx (K .normal) else bbind (drawOk true ops.toList) (aops P n (.fresh nx) (ops.toList.map (·.dst)) ops.toList T H nx (K .normal))
    | false => aops P n .text (ops.toList.map (·.dst)) ops.toList T H nx (K .normal)
  | .seq x y, T, H, nx, K => awp P n x T H nx fun e T H nx => athen e (awp P n y T H nx K) (K e T H nx)
  | .cond c x y, T, H, nx, K => acond (ev T c) (awp P n x T H nx K) (awp P n y T H nx K)
  | .block id b, T, H, nx, K => awp P n b T H nx fun e T H nx => K (ablock id e) T H nx
  | .loop b, T, H, nx, K => aloop (awp P n b) T H nx K
  | .exit id, T, H, nx, K => K (.exit id) T H nx
  | .ret, T, H, nx, K => K .ret T H nx
  | .rangeFunc g ps x y, T, H, nx, K => RF P n (.rangeFunc g ps x y) T H nx K
  | _, _, _, _, _ => False

theorem Sim.put {E E' : Env} {N : Cfg} {T : Tm} {H H' : Hp} {nx nx' : Nat} {a : Act} {w w' : World} (h : Sim E N ⟨T, H, nx⟩ a w) (he : Ext E w E' w') (hE : EnvOk E' w') (hH : HeapOk E' H' nx' w') (hf : Fresh E' nx')
    {d : Option Nat} (hd : dok N.n d = true) {r : AV} {v : Value} (hr : Rel E' w' r v) : Sim E' N ⟨updo T d r, H', nx'⟩ (a.put d v) w' := by
  refine ⟨hE, hH, hf, fun l hl => let ⟨b, x, h1, h2⟩ := h.round l hl; ⟨b, x, he.lp _ _ h1, he.sp _ _ h2⟩, Nat.le_trans h.floor he.size, ?_, fun t => ?_, ?_⟩
  · cases d with
    | none => exact h.size
    | some d => simp [Act.put, h.size]
  · cases d with
    | none => exact (h.tmps t).ext he
    | some d =>
      simp only [dok, decide_eq_true_eq] at hd
      simp only [updo, upd, Act.put]
      by_cases hdt : t = d
      · subst hdt
        rw [if_pos rfl]
        have : t < a.tmps.size := by rw [h.size]; exact hd
        simp [this]; exact hr
      · rw [if_neg hdt]
        have := (h.tmps t).ext he
        have e : (a.tmps.setIfInBounds d v).getD t Go.undef = a.tmps.getD t Go.undef := by
          simp only [Array.getD_eq_getD_getElem?]
          rw [Array.getElem?_setIfInBounds_ne (Ne.symm hdt)]
        rw [e]; exact this
  · have : (a.put d v).defers = a.defers := by cases d <;> rfl
    rw [this]; exact h.defers.ext he

theorem opc_cases {op : Op} : (opc op = .call → ∃ x, callOf op = some x) := by
  unfold opc callOf
  split
  · intro _; exact ⟨_, rfl⟩
  · intro h; split at h <;> cases h

/-- one operation in the order of the text -/
theorem aop_sound {P : Program} {N : Cfg} {rr : Option Nat} {ops : Array Oper} {Q : Exit → Act → World → Prop} {next : Act → World → Prop} {o : Oper} {E : Env} {T : Tm} {H : Hp} {nx : Nat} {a : Act} {w : World} {K : SP} (hS : Sim E N ⟨T, H, nx⟩ a w)
    (h : aop P N.n .text (ops.toList.map (·.dst)) o T H nx K) (hK : ∀ E' T' H' nx' a' w', Ext E w E' w' → Sim E' N ⟨T', H', nx'⟩ a' w' → K T' H' nx' → next a' w') :
    if Region.wanted o (yielded ops a.tmps) then o.wpIn (FW rr) 0 P a w next Q else (∀ f, o.about P w a.eval = some f → (FW rr).fn f) ∧ next (a.put o.dst Go.undef) w := by
  obtain ⟨hd, h⟩ := h
  have hfin : ∀ E' H' nx' r v w', Ext E w E' w' → EnvOk E' w' → HeapOk E' H' nx' w' → Fresh E' nx' → Rel E' w' r v → K (updo T o.dst r) H' nx' → next (a.put o.dst v) w' :=
    fun E' H' nx' r v w' he hE hH hf hr hk => hK E' _ _ _ _ _ he (hS.put he hE hH hf hd hr) hk
  cases hg : gval T (ops.toList.map (·.dst)) o.guard with
  | none => rw [hg] at h; exact h.elim
  | some b =>
    have hw := gval_sound (E := E) (w := w) (a := a) (o := o) (fun t _ => hS.tmps t) hg
    rw [hg] at h
    rw [Array.toArray_toList] at hw
    rw [hw]
    cases b with
    | false =>
      simp only [Bool.false_eq_true, if_false]
      exact ⟨fun _ _ => trivial, hfin E H nx (.tup []) Go.undef w (Ext.refl _ _) hS.env hS.heap hS.fresh (undef_rel _ _) h⟩
    | true =>
      simp only [if_true]
      refine ⟨fun _ _ => trivial, ?_⟩
      have h : aop1 P .text o.op T H nx fun r H' nx' => K (updo T o.dst r) H' nx' := h
      rcases h with h | h
      rotate_left
      · rw [semAt_FW h.2.1]
        exact h.2.2 rr E w a o next Q rfl hS.env hS.heap hS.fresh hS.tmps (fun E' H' nx' r v w' h1 h2 h3 h4 h5 h6 => hfin E' H' nx' r v w' h1 h2 h3 h4 h5 h6)
      unfold aop1o at h
      split at h
      · obtain ⟨_, h⟩ := h
        cases ha : aval P T H o.op with
        | none => rw [ha] at h; exact h.elim
        | some r =>
          rw [ha] at h
          obtain ⟨v, h1, h2⟩ := aval_sound hS.heap hS.tmps ha
          rw [semAt_FW (aval_nodefer ha), h1, Oper.uponIn_value]
          exact hfin E H nx r v w (Ext.refl _ _) hS.env hS.heap hS.fresh h2 h
      · obtain ⟨_, h⟩ := h
        cases ha : aeff P T H nx o.op with
        | none => rw [ha] at h; exact h.elim
        | some x =>
          obtain ⟨r, H', nx'⟩ := x
          rw [ha] at h
          obtain ⟨n, v, w', E', h1, h2, h3, h4, h5, h6, h7⟩ := aeff_sound hS.env hS.heap hS.fresh hS.tmps ha
          rw [semAt_FW (aeff_nodefer ha), h1]
          have := hfin E' H' nx' r v w' h3 h4 h5 h7 h6 h
          rcases h2 with rfl | ⟨rfl, rfl⟩
          · rw [Oper.uponIn_value]; exact this
          · rw [Oper.uponIn_skip]; exact this
      · cases hc : callOf o.op with
        | none => rw [hc] at h; exact h.elim
        | some x =>
          obtain ⟨f, args⟩ := x
          rw [hc] at h
          obtain ⟨ts, ho⟩ := callOf_eq hc
          have h : obind (isFn (ev T f)) fun y => Fn P y.1 (args.toList.map (ev T) ++ y.2) H nx fun r H' nx' => K (updo T o.dst r) H' nx' := h
          cases hf : isFn (ev T f) with
          | none => rw [hf] at h; exact h.elim
          | some y =>
            obtain ⟨g, caps⟩ := y
            rw [hf] at h
            have hev : ev T f = .func g caps := by
              unfold isFn at hf; split at hf
              · rename_i hh; cases hf; exact hh
              · cases hf
            have h : Fn P g (args.toList.map (ev T) ++ caps) H nx fun r H' nx' => K (updo T o.dst r) H' nx' := h
            have hfr := ev_rel (E := E) (w := w) (a := a) hS.tmps f
            simp only at hfr
            rw [hev] at hfr
            generalize hvf : a.eval f = vf at hfr
            cases hfr with
            | func _ _ cv hl hcr =>
            have hargs : RelL E w (args.toList.map (ev T) ++ caps) (args.toList.map a.eval ++ cv) := by
              refine ⟨by simp [hl], fun j x y hx hy => ?_⟩
              rw [List.getElem?_append] at hx hy
              simp only [List.length_map] at hx hy
              split at hx
              · rename_i hlt
                rw [if_pos hlt] at hy
                exact (relL_map (T := T) hS.tmps args.toList).2 j x y hx hy
              · rename_i hlt
                rw [if_neg hlt] at hy
                exact hcr _ _ _ hx hy
            have hcalls := h.2 E w _ hS.env hS.heap hS.fresh hargs
            rw [semAt_FW (by rw [ho]; intro c; simp), run_callValue ho hvf h.1, Oper.uponIn_enter]
            refine ⟨(fun h => by cases h), ?_⟩
            have harr : args.map a.eval ++ cv.toArray = (args.toList.map a.eval ++ cv).toArray := by
              rw [arr_map]; simp
            rw [harr]
            refine (callsIn_FW hcalls).mono ?_
            rintro e w' ⟨v, E', r, H', nx', rfl, he, hE', hH', hf', hrel, hk⟩
            exact hfin E' H' nx' r v w' he hE' hH' hf' hrel hk
      · exact h.elim

theorem aops_sound {P : Program} {N : Cfg} {rr : Option Nat} {ops : Array Oper} {Q : Exit → Act → World → Prop} {K : SP} : ∀ (l : List Oper) {E : Env} {T : Tm} {H : Hp} {nx : Nat} {a : Act} {w : World}, Sim E N ⟨T, H, nx⟩ a w →
    aops P N.n .text (ops.toList.map (·.dst)) l T H nx K → (∀ E' T' H' nx' a' w', Ext E w E' w' → Sim E' N ⟨T', H', nx'⟩ a' w' → K T' H' nx' → Q .normal a' w') → wpListIn (FW rr) 0 P ops Q l a w
  | [], E, T, H, nx, a, w, hS, h, hQ => hQ E T H nx a w (Ext.refl _ _) hS h
  | o :: l, E, T, H, nx, a, w, hS, h, hQ => by
    have := aop_sound (rr := rr) (ops := ops) (Q := Q) (next := wpListIn (FW rr) 0 P ops Q l) hS h (fun E' T' H' nx' a' w' he hS' hk =>
      aops_sound l hS' hk (fun E'' T'' H'' nx'' a'' w'' he' => hQ E'' T'' H'' nx'' a'' w'' (he.trans he')))
    exact this

/-- the order of the text, as a list of states -/
theorem aops_trace {P : Program} {N : Cfg} {dm : DM} (hdm : dm.isText = false) {dsts : List (Option Nat)} {K : SP} : ∀ (l : List Oper) {T : Tm} {H : Hp} {nx : Nat}, aops P N.n dm dsts l T H nx K →
    ∃ (s : Nat → St) (r : Nat → AV), s 0 = ⟨T, H, nx⟩ ∧ (∀ i o, l[i]? = some o → DStep P N dm.fr dsts o (s i) (r i) (s (i + 1))) ∧ K (s l.length).T (s l.length).H (s l.length).nx
  | [], T, H, nx, h => ⟨fun _ => ⟨T, H, nx⟩, fun _ => .undef, rfl, fun i o h => (by cases h), h⟩
  | o :: l, T, H, nx, h => by
    have hgo : ∀ (q : AV) (st' : St), DStep P N dm.fr dsts o ⟨T, H, nx⟩ q st' → aops P N.n dm dsts l st'.T st'.H st'.nx K →
        ∃ (s : Nat → St) (r : Nat → AV), s 0 = ⟨T, H, nx⟩ ∧ (∀ i o', (o :: l)[i]? = some o' → DStep P N dm.fr dsts o' (s i) (r i) (s (i + 1))) ∧ K (s (o :: l).length).T (s (o :: l).length).H (s (o :: l).length).nx := by
      intro q st' hst hrest
      obtain ⟨s, r, h0, h1, h2⟩ := aops_trace hdm l hrest
      refine ⟨fun i => match i with | 0 => ⟨T, H, nx⟩ | i + 1 => s i, fun i => match i with | 0 => q | i + 1 => r i, rfl, fun i o' ho' => ?_, h2⟩
      cases i with
      | zero =>
        simp at ho'; subst ho'
        show DStep P N dm.fr dsts o ⟨T, H, nx⟩ q (s 0)
        rw [h0]; exact hst
      | succ i => exact h1 i o' (by simpa using ho')
    obtain ⟨hd, h⟩ := h
    cases hg : gval T dsts o.guard with
    | none => rw [hg] at h; exact h.elim
    | some b =>
      rw [hg] at h
      cases b with
      | false => exact hgo (.tup []) _ (.skip hg hd) h
      | true =>
        have h : aop1 P dm o.op T H nx fun r H' nx' => aops P N.n dm dsts l (updo T o.dst r) H' nx' K := h
        replace h := h.resolve_right (fun h => by rw [hdm] at h; cases h.1)
        unfold aop1o at h
        split at h
        · obtain ⟨hk, h⟩ := h
          have hk' : ∀ m, dm.fr = some m → frOk T o.op m = true := by
            intro m hm
            cases dm <;> first | (cases hm; done) | (cases hm; exact hk)
          cases ha : aval P T H o.op with
          | none => rw [ha] at h; exact h.elim
          | some r => rw [ha] at h; exact hgo r _ (.val r hk' hg hd ha) h
        · obtain ⟨hk, h⟩ := h
          have hk' : ∀ m, dm.fr = some m → frOk T o.op m = true := by
            intro m hm
            cases dm <;> first | (cases hm; done) | (cases hm; exact hk)
          cases ha : aeff P T H nx o.op with
          | none => rw [ha] at h; exact h.elim
          | some x => obtain ⟨r, H', nx'⟩ := x; rw [ha] at h; exact hgo r _ (.eff r H' nx' hk' hg hd ha) h
        · cases hc : callOf o.op with
          | none => rw [hc] at h; exact h.elim
          | some x =>
            obtain ⟨f, args⟩ := x
            rw [hc, hdm] at h
            obtain ⟨ts, ho⟩ := callOf_eq hc
            have h : obind (isFn (ev T f)) fun y => PCall P y.1 (args.toList.map (ev T) ++ y.2) H fun r => aops P N.n dm dsts l (updo T o.dst r) H nx K := h
            cases hf : isFn (ev T f) with
            | none => rw [hf] at h; exact h.elim
            | some y =>
              obtain ⟨g, caps⟩ := y
              rw [hf] at h
              have hev : ev T f = .func g caps := by
                unfold isFn at hf; split at hf
                · rename_i hh; cases hf; exact hh
                · cases hf
              obtain ⟨r, h1, h3⟩ := h
              exact hgo r _ (.call r f args ts g caps hg hd ho hev h1) h3
        · exact h.elim

theorem awp_mono {P : Program} {N : Nat} : ∀ (c : Code) {T : Tm} {H : Hp} {nx : Nat} {K K' : CP}, awp P N c T H nx K → (∀ e T H nx, K e T H nx → K' e T H nx) → awp P N c T H nx K'
  | .skip, _, _, _, _, _, h, hK => hK _ _ _ _ h
  | .label _, _, _, _, _, _, h, hK => hK _ _ _ _ h
  | .exit _, _, _, _, _, _, h, hK => hK _ _ _ _ h
  | .ret, _, _, _, _, _, h, hK => hK _ _ _ _ h
  | .region _ ops draw, _, _, _, _, _, h, hK => by
    obtain ⟨T, H, nx, Hf, hg, h⟩ := h
    refine ⟨T, H, nx, Hf, hg, ?_⟩
    cases draw with
    | true =>
      simp only at h ⊢
      split
      · rename_i hd; rw [if_pos hd] at h; exact aops_mono (hK .normal) _ h
      · rename_i hd; rw [if_neg hd] at h; exact ⟨h.1, aops_mono (hK .normal) _ h.2⟩
    | false => exact aops_mono (hK .normal) _ h
  | .seq x y, _, _, _, K, K', h, hK => by
    refine awp_mono x h (fun e T H nx h => ?_)
    cases e with
    | normal => exact awp_mono y h hK
    | exit i => exact hK _ _ _ _ h
    | ret => exact hK _ _ _ _ h
  | .cond c x y, T, H, nx, K, K', h, hK => by
    simp only [awp] at h ⊢
    unfold acond at h ⊢
    split at h
    · exact ⟨fun hb => awp_mono x (h.1 hb) hK, fun hb => awp_mono y (h.2 hb) hK⟩
    · exact h
  | .block id b, _, _, _, _, _, h, hK => awp_mono b h (fun e T H nx h => hK _ _ _ _ h)
  | .loop b, T, H, nx, K, K', h, hK => by
    obtain ⟨n, h⟩ := h
    refine ⟨n, ?_⟩
    induction n generalizing T H nx with
    | zero => exact h
    | succ n ih =>
      obtain ⟨T', H', nx', Hf, hw, h⟩ := h
      refine ⟨T', H', nx', Hf, hw, awp_mono b h (fun e T H nx h => ?_)⟩
      cases e with
      | normal => exact ih _ _ _ h
      | exit i => exact hK _ _ _ _ h
      | ret => exact hK _ _ _ _ h
  | .rangeFunc .., _, _, _, _, _, h, hK => h.mono hK
  | .scope _, _, _, _, _, _, h, _ => h
  | .goto _, _, _, _, _, _, h, _ => h
  | .refuse _, _, _, _, _, _, h, _ => h

theorem awp_sound {P : Program} {N : Cfg} (hm : P.follows .mixedOrders = true) : ∀ (c : Code) {E : Env} {T : Tm} {H : Hp} {nx : Nat} {a : Act} {w : World} {K : CP}, Sim E N ⟨T, H, nx⟩ a w →
    awp P N.n c T H nx K → c.wpIn (FW N.rd) 0 P (APost P N E w K) a w
  | .skip, _, _, _, _, _, _, _, hS, h => wpIn_skip ⟨.normal, _, _, _, _, rfl, Ext.refl _ _, hS, h⟩
  | .label _, _, _, _, _, _, _, _, hS, h => wpIn_label ⟨.normal, _, _, _, _, rfl, Ext.refl _ _, hS, h⟩
  | .exit i, _, _, _, _, _, _, _, hS, h => wpIn_exit ⟨.exit i, _, _, _, _, rfl, Ext.refl _ _, hS, h⟩
  | .ret, _, _, _, _, _, _, _, hS, h => wpIn_ret ⟨.ret, _, _, _, _, rfl, Ext.refl _ _, hS, h⟩
  | .region id ops draw, E₁, T₁, H₁, nx₁, a, w, K, hS₁, h => by
    obtain ⟨T, H, nx, Hf, hg, h⟩ := h
    obtain ⟨E, he₁, hS⟩ := hS₁.ghost hg
    refine wpIn_mono (F := FW N.rd) ?_ (fun e a w h => APost.trans he₁ h)
    cases draw with
    | false => exact wpIn_region_list (aops_sound ops.toList hS h (fun E' T' H' nx' a' w' he hS' hk => ⟨.normal, E', T', H', nx', rfl, he, hS', hk⟩))
    | true =>
      simp only at h
      have key : ∀ dm : DM, dm.isText = false → drawOk dm.fr.isSome ops.toList = true → (∀ m, dm.fr = some m → m = nx) → aops P N.n dm (ops.toList.map (·.dst)) ops.toList T H nx (K .normal) → (Code.region id ops true).wpIn (FW N.rd) 0 P (APost P N E w K) a w := by
        intro dm hdm hok hm0 h
        obtain ⟨s, r, h0, h1, h2⟩ := aops_trace hdm ops.toList h
        have ht : Txt P N dm.fr ops.toList s r := ⟨h1, hok, by rw [h0]; exact hm0⟩
        have := wp_draw (rr := N.rd) (rid := id) (Q := APost P N E w K) (a := a) (w₀ := w) (E₀ := E) hm ht (by rw [h0]; exact hS) (fun E' a' w' he hS' => ⟨.normal, E', _, _, _, rfl, he, hS', h2⟩)
        rw [Array.toArray_toList] at this
        exact this
      split at h
      · rename_i hok
        exact key .draw rfl hok (fun m hm => (by cases hm)) h
      · exact key (.fresh nx) rfl h.1 (fun m hm => by cases hm; rfl) h.2
  | .seq x y, E, T, H, nx, a, w, K, hS, h => by
    refine wpIn_seq (wpIn_mono (awp_sound hm x hS h) ?_)
    rintro e a' w' ⟨z, E', T', H', nx', rfl, he, hS', hk⟩
    cases z with
    | normal => exact wpIn_mono (awp_sound hm y hS' hk) (fun e a w h => h.trans he)
    | exit i => exact ⟨.exit i, E', T', H', nx', rfl, he, hS', hk⟩
    | ret => exact ⟨.ret, E', T', H', nx', rfl, he, hS', hk⟩
  | .cond c x y, E, T, H, nx, a, w, K, hS, h => by
    simp only [awp] at h
    unfold acond at h
    split at h
    · rename_i b hb
      have hr := ev_rel (E := E) (w := w) (a := a) hS.tmps c
      simp only at hr
      rw [hb] at hr
      generalize hv : a.eval c = v at hr
      cases hr
      exact wpIn_cond_split hv (fun hb => awp_sound hm x hS (h.1 hb)) (fun hb => awp_sound hm y hS (h.2 hb))
    · exact h.elim
  | .block id b, E, T, H, nx, a, w, K, hS, h => by
    refine wpIn_block (wpIn_mono (awp_sound hm b hS h) ?_)
    rintro e a' w' ⟨z, E', T', H', nx', rfl, he, hS', hk⟩
    cases z with
    | normal => exact ⟨.normal, E', T', H', nx', rfl, he, hS', hk⟩
    | exit i =>
      simp only [AEx.cv, Exit.inBlock]
      split
      · rename_i hi
        refine ⟨.normal, E', T', H', nx', rfl, he, hS', ?_⟩
        simp only [ablock, if_pos hi] at hk; exact hk
      · rename_i hi
        refine ⟨.exit i, E', T', H', nx', rfl, he, hS', ?_⟩
        simp only [ablock, if_neg hi] at hk; exact hk
    | ret => exact ⟨.ret, E', T', H', nx', rfl, he, hS', hk⟩
  | .loop b, E, T, H, nx, a, w, K, hS, h => by
    obtain ⟨n, h⟩ := h
    refine wpIn_loop_rounds n ?_
    have key : ∀ n (E' : Env) T H nx a w', Ext E w E' w' → Sim E' N ⟨T, H, nx⟩ a w' → aloopN (awp P N.n b) K n T H nx → Code.roundsIn (FW N.rd) 0 P b (APost P N E w K) n a w' := by
      intro n
      induction n with
      | zero => intro E' T H nx a w' _ _ h; exact h
      | succ n ih =>
        intro E' T H nx a w' he hS h
        obtain ⟨T', H', nx', Hf, hwk, h⟩ := h
        obtain ⟨E₁, he₁, hS₁⟩ := hS.ghost hwk
        refine wpIn_mono (awp_sound hm b hS₁ h) ?_
        rintro e a' w'' ⟨z, E'', T'', H'', nx'', rfl, he', hS', hk⟩
        cases z with
        | normal => exact ih E'' _ _ _ _ _ ((he.trans he₁).trans he') hS' hk
        | exit i => exact ⟨.exit i, E'', T'', H'', nx'', rfl, (he.trans he₁).trans he', hS', hk⟩
        | ret => exact ⟨.ret, E'', T'', H'', nx'', rfl, (he.trans he₁).trans he', hS', hk⟩
    exact key n E T H nx a w (Ext.refl _ _) hS h
  | .rangeFunc .., _, _, _, _, _, _, _, hS, h => h N _ _ _ rfl hS
  | .scope _, _, _, _, _, _, _, _, _, h => h.elim
  | .goto _, _, _, _, _, _, _, _, _, h => h.elim
  | .refuse _, _, _, _, _, _, _, _, _, h => h.elim

end Go.Abs
