/- Code without types: the conditions. -/
import Derived.Test.YtcbkggfipdldaaaXAbsC1
set_option linter.unusedVariables false
namespace Go.Abs
open Go.RowKit

structure Op2 where
  d : Option Nat
  g : Option (Nat × Bool)
  i : Ins

inductive C2 where
  | skip
  | ops (m : Nat) (l : List Op2)
  | seq (a b : C2)
  | cond (c : Opd) (a b : C2)
  | block (id : Nat) (b : C2)
  | loop (b : C2)
  | exit (id : Nat)
  | ret
  | rangeF (g : Opd) (ps : List Nat) (a b : C2)

inductive IC where
  | val | eff | call | sp
  deriving DecidableEq

def ic : Ins → IC
  | .alloc _ | .box _ | .bldS .. | .mks .. | .st .. | .app .. => .eff
  | .call .. => .call
  | .mkm .. | .mput .. | .mget .. | .mlen _ | .mrng _ | .mnxt _ | .cpy .. | .clr .. | .snil .. => .sp
  | _ => .val

def oldP (m : Nat) (p : AV) : Bool := match p with | .ptr b _ _ => b < m | _ => true
def newP (m : Nat) (p : AV) : Bool := match p with | .ptr b _ _ => m ≤ b | _ => true

def dm2 (dm : DM) (T : Tm) (i : Ins) : Bool := match dm with
  | .fresh m => match i with
    | .ld1 a => oldP m (ov T a)
    | .ldn _ a => oldP m (ov T a)
    | .st _ p _ => newP m (ov T p)
    | .app .. => false
    | _ => true
  | _ => true

def ains (P : Program) (dm : DM) (i : Ins) (T : Tm) (H : Hp) (nx : Nat) (K : AV → Hp → Nat → Prop) : Prop :=
  match ic i with
  | .val => bbind (dm2 dm T i) (obind (ival T H i) fun r => K r H nx)
  | .eff => bbind (dm2 dm T i) (obind (ieff T H nx i) fun x => K x.1 x.2.1 x.2.2)
  | .call => match i with
    | .call f args => (obind (isFn (ov T f)) fun y => match dm.isText with
      | false => PCall P y.1 (args.map (ov T) ++ y.2) H fun r => K r H nx
      | true => Fn P y.1 (args.map (ov T) ++ y.2) H nx K) ∨ (dm.isText = true ∧ ∃ b, ov T f = .yld b ∧ Yl P b (args.map (ov T)) H nx K)
    | _ => False
  | .sp => dm.isText = true ∧ isp i T H nx K

def g2 (T : Tm) : Option (Nat × Bool) → Option Bool
  | none => some true
  | some (t, want) => match T t with
    | .bool b => some (b == want)
    | .tup [] => some false
    | _ => none

def aops2 (P : Program) (dm : DM) : List Op2 → Tm → Hp → Nat → SP → Prop
  | [], T, H, nx, K => K T H nx
  | o :: l, T, H, nx, K => gbind (g2 T o.g) (ains P dm o.i T H nx fun r H nx => aops2 P dm l (updo T o.d r) H nx K) (aops2 P dm l (updo T o.d (.tup [])) H nx K)

def awp2 (P : Program) : C2 → Tm → Hp → Nat → CP → Prop
  | .skip, T, H, nx, K => K .normal T H nx
  | .ops m l, T₀, H₀, nx₀, K => ∃ T H nx Hf, Gh T₀ H₀ nx₀ T H nx Hf ∧ aops2 P (match m with | 0 => .text | 1 => .draw | _ => .fresh nx) l T H nx (K .normal)
  | .seq x y, T, H, nx, K => awp2 P x T H nx fun e T H nx => athen e (awp2 P y T H nx K) (K e T H nx)
  | .cond c x y, T, H, nx, K => acond (ov T c) (awp2 P x T H nx K) (awp2 P y T H nx K)
  | .block id b, T, H, nx, K => awp2 P b T H nx fun e T H nx => K (ablock id e) T H nx
  | .loop b, T, H, nx, K => aloop (awp2 P b) T H nx K
  | .exit id, T, H, nx, K => K (.exit id) T H nx
  | .ret, T, H, nx, K => K .ret T H nx
  | .rangeF g ps a b, T, H, nx, K => ∃ f caps, ov T g = .func f caps ∧ ∀ (c0 : AV) (cj : AEx → AV),
      (∀ (args : List AV) (H' : Hp) (nx' : Nat) (K' : AV → Hp → Nat → Prop), H' nx = some [c0] → args.length = ps.length →
        awp2 P a (updl T ps args) H' nx' (fun e T2 H2 nx2 => athen e (H2 nx = some [c0] ∧ awp2 P b T2 (hdel H2 nx) nx2 fun e T3 H3 nx3 => athen e (K' (.bool true) (hupd H3 nx [c0]) nx3) (K' (.bool false) (hupd H3 nx [cj e]) nx3)) False) →
        Yl P nx args H' nx' K') →
      Fn P f (.yld nx :: caps) (hupd H nx [c0]) (nx + 1) fun _ H' nx' => (H' nx = some [c0] ∧ K .normal T (hdel H' nx) nx') ∨ ∃ e, e ≠ .normal ∧ H' nx = some [cj e] ∧ K e T (hdel H' nx) nx'

def opIC : Op → Option IC
  | .call { callee := .value _, .. } => some .call
  | op => match opk op with
    | .pure | .touch => some .val
    | .alloc | .write => some .eff
    | .other => none

def compI (P : Program) (op : Op) : Option Ins := match opIC op with
  | some .call => match callOf op with
    | some (f, args) => some (.call (.of f) (args.toList.map .of))
    | none => none
  | some .val => match comp1 P op with
    | some i => if ic i = .val then some i else none
    | none => none
  | some .eff => match comp2 P op with
    | some i => if ic i = .eff then some i else none
    | none => none
  | _ => none

/-- what is not covered must not be reached -/
def compD (P : Program) (op : Op) : Ins := match compI P op with
  | some i => i
  | none => match comp3 P op with
    | some i => if ic i = .sp then i else .dead
    | none => .dead

def compG (dsts : List (Option Nat)) : Option (Nat × Bool) → Option (Option (Nat × Bool))
  | none => some none
  | some (j, want) => match dsts[j]? with
    | some (some d) => some (some (d, want))
    | _ => none

def compO (P : Program) (N : Nat) (dsts : List (Option Nat)) (o : Oper) : Option Op2 :=
  if dok N o.dst then (match compG dsts o.guard with
    | some g => some ⟨o.dst, g, compD P o.op⟩
    | none => none) else none

def compL (P : Program) (N : Nat) (dsts : List (Option Nat)) : List Oper → Option (List Op2)
  | [] => some []
  | o :: l => match compO P N dsts o, compL P N dsts l with
    | some o, some l => some (o :: l)
    | _, _ => none

def comp (P : Program) (N : Nat) : Code → Option C2
  | .skip => some .skip
  | .label _ => some .skip
  | .region _ ops draw => match compL P N (ops.toList.map (·.dst)) ops.toList with
    | some l => if draw = true then (if drawOk false ops.toList = true then some (.ops 1 l) else if drawOk true ops.toList = true then some (.ops 2 l) else none) else some (.ops 0 l)
    | none => none
  | .seq a b => match comp P N a, comp P N b with
    | some a, some b => some (.seq a b)
    | _, _ => none
  | .cond c a b => match comp P N a, comp P N b with
    | some a, some b => some (.cond (.of c) a b)
    | _, _ => none
  | .block id b => match comp P N b with
    | some b => some (.block id b)
    | none => none
  | .loop b => match comp P N b with
    | some b => some (.loop b)
    | none => none
  | .exit id => some (.exit id)
  | .ret => some .ret
  | .rangeFunc g ps a b => if ps.toList.all (fun t => decide (t < N)) = true then (match comp P N a, comp P N b with
    | some a, some b => some (.rangeF (.of g) ps.toList a b)
    | _, _ => none) else none
  | _ => none

theorem obind_mono {α : Type} {x : Option α} {A B : α → Prop} (hab : ∀ a, A a → B a) (h : obind x A) : obind x B := by
  cases x with
  | none => exact h
  | some a => exact hab a h

theorem dm2_ok {P : Program} {dm : DM} {op : Op} {i : Ins} {T : Tm} (hc : (comp1 P op = some i ∧ opk op ≠ .write) ∨ comp2 P op = some i) (h : dm2 dm T i = true) : dmOk dm T op = true := by
  cases dm with
  | text => rfl
  | draw => rfl
  | fresh m =>
    rcases hc with ⟨hc, hk⟩ | hc
    · cases op with
      | load t a =>
        simp only [comp1] at hc
        split at hc
        · split at hc
          · split at hc
            · cases hc
              simp only [dm2, oldP, ov_of] at h
              simp only [dmOk, frOk]; exact h
            · cases hc
          · cases hc
            simp only [dm2, oldP, ov_of] at h
            simp only [dmOk, frOk]; exact h
        · cases hc
      | store t p x => exact absurd rfl hk
      | _ => simpa [dmOk, frOk] using hk
    · cases op with
      | store t p x =>
        simp only [comp2] at hc
        split at hc
        · cases hc
          simp only [dm2, newP, ov_of] at h
          simp only [dmOk, frOk]; exact h
        · cases hc
      | alloc e => rfl
      | box e x => rfl
      | buildSlice t len parts => rfl
      | makeSlice t l c => rfl
      | call c =>
        obtain ⟨callee, args, argTypes⟩ := c
        cases callee with
        | builtin b =>
          obtain ⟨args⟩ := args
          obtain ⟨argTypes⟩ := argTypes
          cases b with
          | append =>
            rcases args with _ | ⟨x, _ | ⟨y, _ | ⟨z, l⟩⟩⟩
            · cases hc
            · cases hc
            · rcases argTypes with _ | ⟨t, _ | ⟨u, _ | ⟨v, l⟩⟩⟩
              · cases hc
              · cases hc
              · simp only [comp2] at hc
                split at hc
                · cases hc
                · split at hc
                  · cases hc
                    cases h
                  · cases hc
              · cases hc
            · cases hc
          | _ => cases hc
        | _ => cases hc
      | _ => cases hc

theorem ains_ok {P : Program} {dm : DM} {op : Op} {i : Ins} {T : Tm} {H : Hp} {nx : Nat} {K : AV → Hp → Nat → Prop} (hc : compI P op = some i) (h : ains P dm i T H nx K) : aop1 P dm op T H nx K := by
  unfold aop1
  unfold compI at hc
  split at hc
  · rename_i hk
    split at hc
    · rename_i f args hf
      cases hc
      have h : (obind (isFn (ov T (.of f))) fun y => match (generalizing := false) dm.isText with
        | false => PCall P y.1 ((args.toList.map Opd.of).map (ov T) ++ y.2) H fun r => K r H nx
        | true => Fn P y.1 ((args.toList.map Opd.of).map (ov T) ++ y.2) H nx K) ∨ (dm.isText = true ∧ ∃ b, ov T (.of f) = .yld b ∧ Yl P b ((args.toList.map Opd.of).map (ov T)) H nx K) := h
      rw [ov_of, ov_of_map] at h
      obtain ⟨ts, rfl⟩ := callOf_eq hf
      rcases h with h | ⟨h1, b, h2, h3⟩
      · exact .inl h
      · exact .inr ⟨h1, aspec_yield h2 h3⟩
    · cases hc
  · rename_i hk
    split at hc
    · rename_i j hj
      split at hc
      · rename_i hic
        cases hc
        have hoc : opc op = .val ∧ opk op ≠ .write := by
          unfold opIC at hk
          split at hk
          · cases hk
          · rename_i hn
            unfold opc
            split
            · rename_i a b c; exact absurd rfl (hn _ _ _)
            · split at hk <;> rename_i hkk <;> (try rw [hkk]) <;> first | (cases hk; done) | (exact ⟨rfl, by decide⟩)
        unfold ains at h
        rw [hic] at h
        simp only at h
        left
        unfold aop1o
        rw [hoc.1]
        simp only
        refine ⟨dm2_ok (.inl ⟨hj, hoc.2⟩) h.1, ?_⟩
        have h := h.2
        cases hv : ival T H i with
        | none => rw [hv] at h; exact h.elim
        | some r => rw [ival_ok hj hv]; rw [hv] at h; exact h
      · cases hc
    · cases hc
  · rename_i hk
    split at hc
    · rename_i j hj
      split at hc
      · rename_i hic
        cases hc
        have hoc : opc op = .eff := by
          unfold opIC at hk
          split at hk
          · cases hk
          · rename_i hn
            unfold opc
            split
            · rename_i a b c; exact absurd rfl (hn _ _ _)
            · split at hk <;> rename_i hkk <;> (try rw [hkk]) <;> cases hk
        unfold ains at h
        rw [hic] at h
        simp only at h
        left
        unfold aop1o
        rw [hoc]
        simp only
        refine ⟨dm2_ok (.inr hj) h.1, ?_⟩
        have h := h.2
        cases hv : ieff T H nx i with
        | none => rw [hv] at h; exact h.elim
        | some r => rw [ieff_ok hj hv]; rw [hv] at h; exact h
      · cases hc
    · cases hc
  · cases hc

theorem ains_okD {P : Program} {dm : DM} {op : Op} {T : Tm} {H : Hp} {nx : Nat} {K : AV → Hp → Nat → Prop} (h : ains P dm (compD P op) T H nx K) : aop1 P dm op T H nx K := by
  unfold compD at h
  split at h
  · rename_i i hi; exact ains_ok hi h
  · split at h
    · rename_i i hi
      split at h
      · rename_i hic
        unfold ains at h
        rw [hic] at h
        exact .inr ⟨h.1, isp_ok hi h.2⟩
      · exact h.2.elim
    · exact h.2.elim

theorem g2_ok {dsts : List (Option Nat)} {T : Tm} {g : Option (Nat × Bool)} {g' : Option (Nat × Bool)} (h : compG dsts g = some g') : gval T dsts g = g2 T g' := by
  unfold compG at h
  split at h
  · cases h; rfl
  · split at h
    · rename_i d hd
      cases h
      simp only [gval, hd, g2]
      generalize T d = v
      cases v <;> try rfl
    · cases h

theorem aops2_ok {P : Program} {N : Nat} {dm : DM} {dsts : List (Option Nat)} {K : SP} : ∀ (l : List Oper) (l2 : List Op2) {T : Tm} {H : Hp} {nx : Nat}, compL P N dsts l = some l2 → aops2 P dm l2 T H nx K → aops P N dm dsts l T H nx K
  | [], l2, T, H, nx, hc, h => by cases hc; exact h
  | o :: l, l2, T, H, nx, hc, h => by
    simp only [compL] at hc
    split at hc
    · rename_i o2 r2 ho hr
      cases hc
      unfold compO at ho
      split at ho
      · rename_i hd
        split at ho
        · rename_i g hg
          cases ho
          refine ⟨hd, ?_⟩
          rw [g2_ok hg]
          have h : gbind (g2 T g) (ains P dm (compD P o.op) T H nx fun r H nx => aops2 P dm r2 (updo T o.dst r) H nx K) (aops2 P dm r2 (updo T o.dst (.tup [])) H nx K) := h
          cases hgv : g2 T g with
          | none => rw [hgv] at h; exact h.elim
          | some b =>
            rw [hgv] at h
            cases b with
            | true =>
              have h : ains P dm (compD P o.op) T H nx fun r H nx => aops2 P dm r2 (updo T o.dst r) H nx K := h
              exact aop1_mono (ains_okD h) (fun r H nx hh => aops2_ok l r2 hr hh)
            | false => exact aops2_ok l r2 hr h
        · cases ho
      · cases ho
    · cases hc

theorem awp2_ok {P : Program} {N : Nat} (hm : P.follows .mixedOrders = true) : ∀ (c : Code) (c2 : C2) {T : Tm} {H : Hp} {nx : Nat} {K : CP}, comp P N c = some c2 → awp2 P c2 T H nx K → awp P N c T H nx K
  | .skip, c2, _, _, _, _, hc, h => by cases hc; exact h
  | .label _, c2, _, _, _, _, hc, h => by cases hc; exact h
  | .exit _, c2, _, _, _, _, hc, h => by cases hc; exact h
  | .ret, c2, _, _, _, _, hc, h => by cases hc; exact h
  | .region _ ops draw, c2, _, _, _, _, hc, h => by
    simp only [comp] at hc
    split at hc
    · rename_i l hl
      cases draw with
      | true =>
        simp only [if_true] at hc
        split at hc
        · rename_i hd
          cases hc
          obtain ⟨T, H, nx, Hf, hg, h⟩ := h
          refine ⟨T, H, nx, Hf, hg, ?_⟩
          simp only
          rw [if_pos hd]
          exact aops2_ok _ _ hl h
        · rename_i hd
          split at hc
          · rename_i hd2
            cases hc
            obtain ⟨T, H, nx, Hf, hg, h⟩ := h
            refine ⟨T, H, nx, Hf, hg, ?_⟩
            simp only
            rw [if_neg hd]
            exact ⟨hd2, aops2_ok _ _ hl h⟩
          · cases hc
      | false =>
        simp only [Bool.false_eq_true, if_false] at hc
        cases hc
        obtain ⟨T, H, nx, Hf, hg, h⟩ := h
        exact ⟨T, H, nx, Hf, hg, aops2_ok _ _ hl h⟩
    · cases hc
  | .seq a b, c2, _, _, _, K, hc, h => by
    simp only [comp] at hc
    split at hc
    · rename_i a2 b2 ha hb
      cases hc
      refine awp_mono a (awp2_ok hm a a2 ha h) (fun e T H nx h => ?_)
      cases e with
      | normal => exact awp2_ok hm b b2 hb h
      | exit i => exact h
      | ret => exact h
    · cases hc
  | .cond c a b, c2, _, _, _, K, hc, h => by
    simp only [comp] at hc
    split at hc
    · rename_i a2 b2 ha hb
      cases hc
      simp only [awp2, ov_of] at h
      simp only [awp]
      unfold acond at h ⊢
      split at h
      · exact ⟨fun hh => awp2_ok hm a a2 ha (h.1 hh), fun hh => awp2_ok hm b b2 hb (h.2 hh)⟩
      · exact h
    · cases hc
  | .block id b, c2, _, _, _, K, hc, h => by
    simp only [comp] at hc
    split at hc
    · rename_i b2 hb
      cases hc
      exact awp2_ok hm b b2 hb h
    · cases hc
  | .loop b, c2, T, H, nx, K, hc, h => by
    simp only [comp] at hc
    split at hc
    · rename_i b2 hb
      cases hc
      obtain ⟨n, h⟩ := h
      refine ⟨n, ?_⟩
      induction n generalizing T H nx with
      | zero => exact h
      | succ n ih =>
        obtain ⟨T', H', nx', Hf, hg, h⟩ := h
        refine ⟨T', H', nx', Hf, hg, awp_mono b (awp2_ok hm b b2 hb h) (fun e T H nx h => ?_)⟩
        cases e with
        | normal => exact ih _ _ _ h
        | exit i => exact h
        | ret => exact h
    · cases hc
  | .rangeFunc g ps a b, c2, T, H, nx, K, hc, h => by
    simp only [comp] at hc
    split at hc
    case isFalse => cases hc
    case isTrue hps =>
    split at hc
    · rename_i a2 b2 ha hb
      cases hc
      obtain ⟨f, caps, h1, h2⟩ := h
      rw [ov_of] at h1
      show RF P N _ T H nx K
      refine RF_of h1 (fun r hr => ?_)
      refine h2 (.oloop r T) (leftBox r T) (fun args H' nx' K' hH hl hw => ?_)
      refine Yl.of_awp hr hm (fun t ht => by simpa using List.all_eq_true.1 hps t ht) hH (by simpa using hl) (awp_mono a (awp2_ok hm a a2 ha hw) (fun e T2 H2 nx2 h => ?_))
      cases e with
      | normal => exact ⟨h.1, awp2_ok hm b b2 hb h.2⟩
      | exit i => exact h
      | ret => exact h
    · cases hc
  | .scope _, _, _, _, _, _, hc, _ => by cases hc
  | .goto _, _, _, _, _, _, hc, _ => by cases hc
  | .refuse _, _, _, _, _, _, hc, _ => by cases hc

/-! ### functions -/
inductive RV where
  | t (n : Nat)
  | c1 (n : Nat)
  | cn (n k : Nat)

structure F2 where
  n : Nat
  res : List RV
  body : C2

def compR (P : Program) : List ResultVar → Option (List RV)
  | [] => some []
  | .tmp t :: l => match compR P l with | some l => some (.t t :: l) | none => none
  | .cell a t :: l => if tok P t = true then (match compR P l with
    | some l => if tagg P t = true then (if 0 < P.cellsOf t then some (.cn a (P.cellsOf t) :: l) else none) else some (.c1 a :: l)
    | none => none) else none

def compF (P : Program) (fn : Func) : Option F2 :=
  match fn.body with
  | some c => if fn.name == "runtime.NumGoroutine" then none else match comp P fn.ntmps c, compR P fn.results.toList with
    | some b, some r => some ⟨fn.ntmps, r, b⟩
    | _, _ => none
  | none => none

def rv (T : Tm) (H : Hp) : RV → Option AV
  | .t n => some (T n)
  | .c1 n => rd1 H (T n)
  | .cn n k => (rd H k (T n)).map .agg

/-- the results -/
def res1 (T : Tm) (H : Hp) (K : AV → Prop) : List RV → Prop
  | [a] => obind (rv T H a) K
  | [a, b] => obind (rv T H a) fun x => obind (rv T H b) fun y => K (.tup [x, y])
  | [a, b, c] => obind (rv T H a) fun x => obind (rv T H b) fun y => obind (rv T H c) fun z => K (.tup [x, y, z])
  | [] => K (.tup [])
  | _ => False

theorem rv_ok {P : Program} {T : Tm} {H : Hp} {r : ResultVar} {l : List ResultVar} {x : RV} {xs : List RV} {v : AV} (h : compR P (r :: l) = some (x :: xs)) (hv : rv T H x = some v) :
    compR P l = some xs ∧ ares P T H (r :: l) = (match ares P T H l with | some ys => some (v :: ys) | none => none) := by
  cases r with
  | tmp t =>
    simp only [compR] at h
    split at h
    · rename_i ys hy
      cases h
      cases hv
      exact ⟨hy, rfl⟩
    · cases h
  | cell a t =>
    simp only [compR] at h
    split at h
    · rename_i h1
      split at h
      · rename_i ys hy
        split at h
        · rename_i h2
          split at h
          · rename_i h3
            cases h
            refine ⟨hy, ?_⟩
            simp only [rv] at hv
            simp only [ares, aload, h1, h2, if_true, if_pos h3, hv]
            cases ares P T H l <;> rfl
          · cases h
        · rename_i h2
          cases h
          refine ⟨hy, ?_⟩
          simp only [rv] at hv
          simp only [ares, aload, h1, h2, if_true, hv]
          cases ares P T H l <;> rfl
      · cases h
    · cases h

theorem compR_nil {P : Program} {l : List ResultVar} (h : compR P l = some []) : l = [] := by
  cases l with
  | nil => rfl
  | cons r l =>
    cases r with
    | tmp t => simp only [compR] at h; split at h <;> cases h
    | cell a t =>
      simp only [compR] at h
      split at h
      · split at h
        · split at h
          · split at h <;> cases h
          · cases h
        · cases h
      · cases h

theorem compR_cons {P : Program} {l : List ResultVar} {x : RV} {xs : List RV} (h : compR P l = some (x :: xs)) : ∃ r l', l = r :: l' := by
  cases l with
  | nil => cases h
  | cons r l => exact ⟨r, l, rfl⟩

theorem res1_ok {P : Program} {T : Tm} {H : Hp} {K : AV → Prop} {l : List ResultVar} {r : List RV} (h : compR P l = some r) (hk : res1 T H K r) : obind (ares1 P T H l) K := by
  have one : ∀ {x : RV} {K' : AV → Prop}, obind (rv T H x) K' → ∃ v, rv T H x = some v ∧ K' v := by
    intro x K' h
    cases hv : rv T H x with
    | none => rw [hv] at h; exact h.elim
    | some v => rw [hv] at h; exact ⟨v, rfl, h⟩
  rcases r with _ | ⟨a, _ | ⟨b, _ | ⟨c, _ | ⟨d, r⟩⟩⟩⟩
  · have := compR_nil h; subst this; exact hk
  · obtain ⟨r1, l1, rfl⟩ := compR_cons h
    obtain ⟨v, hv, hk⟩ := one hk
    obtain ⟨h1, e1⟩ := rv_ok h hv
    have := compR_nil h1; subst this
    simp only [ares1, e1, ares]; exact hk
  · obtain ⟨r1, l1, rfl⟩ := compR_cons h
    obtain ⟨v, hv, hk⟩ := one hk
    obtain ⟨h1, e1⟩ := rv_ok h hv
    obtain ⟨r2, l2, rfl⟩ := compR_cons h1
    obtain ⟨v2, hv2, hk⟩ := one hk
    obtain ⟨h2, e2⟩ := rv_ok h1 hv2
    have := compR_nil h2; subst this
    simp only [ares1, e1, e2, ares]; exact hk
  · obtain ⟨r1, l1, rfl⟩ := compR_cons h
    obtain ⟨v, hv, hk⟩ := one hk
    obtain ⟨h1, e1⟩ := rv_ok h hv
    obtain ⟨r2, l2, rfl⟩ := compR_cons h1
    obtain ⟨v2, hv2, hk⟩ := one hk
    obtain ⟨h2, e2⟩ := rv_ok h1 hv2
    obtain ⟨r3, l3, rfl⟩ := compR_cons h2
    obtain ⟨v3, hv3, hk⟩ := one hk
    obtain ⟨h3, e3⟩ := rv_ok h2 hv3
    have := compR_nil h3; subst this
    simp only [ares1, e1, e2, e3, ares]; exact hk
  · exact hk.elim

/-- function f of P is this code -/
structure Is (P : Program) (f : FuncId) (F : F2) : Prop where
  out : ∃ fn, P.funcs[f]? = some fn ∧ compF P fn = some F

theorem Is.mk' {P : Program} {f : FuncId} {F : F2} {fn : Func} (h1 : P.funcs[f]? = some fn) (h2 : compF P fn = some F) : Is P f F := ⟨fn, h1, h2⟩

theorem Is.cok {P : Program} {f : FuncId} {F : F2} (h : Is P f F) : cok P f = true := by
  obtain ⟨fn, h1, h2⟩ := h.out
  unfold compF at h2
  split at h2
  · rename_i c hc
    split at h2
    · cases h2
    · rename_i hn
      unfold Go.Abs.cok
      simp only [h1, hc, Option.isSome_some, Bool.true_and, Bool.not_eq_true']
      simpa using hn
  · cases h2

theorem Is.bodyOk {P : Program} {f : FuncId} {F : F2} (h : Is P f F) (hm : P.follows .mixedOrders = true) {args : List AV} {H : Hp} {nx : Nat} {K : AV → Hp → Nat → Prop} (hl : args.length ≤ F.n)
    (hb : awp2 P F.body (T0 args) H nx fun e T H nx => bbind e.ends (res1 T H (fun x => K x H nx) F.res)) : ∃ fn, P.funcs[f]? = some fn ∧ BodyOk P fn args H nx K := by
  obtain ⟨fn, h1, h2⟩ := h.out
  refine ⟨fn, h1, ?_⟩
  unfold compF at h2
  split at h2
  · rename_i c hc
    split at h2
    · cases h2
    · split at h2
      · rename_i b r hb' hr
        cases h2
        exact ⟨c, hc, hl, awp_mono c (awp2_ok hm c b hb' hb) (fun e T H nx hh => ⟨hh.1, res1_ok hr hh.2⟩)⟩
      · cases h2
  · cases h2

theorem Pure.of_c2 {P : Program} {f : FuncId} {F : F2} {args : List AV} {r : AV} (hm : P.follows .mixedOrders = true) (hf : Is P f F) (hl : args.length ≤ F.n)
    (hb : awp2 P F.body (T0 args) noBoxes 0 fun e T H nx => bbind e.ends (res1 T H (fun x => Snap H x r) F.res)) : Pure P f args r := by
  obtain ⟨fn, h1, h2⟩ := hf.bodyOk hm (K := fun x H nx => Snap H x r) hl hb
  exact Pure.of_body hm h1 hf.cok h2

theorem Fn.of_c2 {P : Program} {f : FuncId} {F : F2} {args : List AV} {H : Hp} {nx : Nat} {K : AV → Hp → Nat → Prop} (hm : P.follows .mixedOrders = true) (hf : Is P f F) (hl : args.length ≤ F.n)
    (hb : awp2 P F.body (T0 args) H nx fun e T H nx => bbind e.ends (res1 T H (fun x => K x H nx) F.res)) : Fn P f args H nx K := by
  obtain ⟨fn, h1, h2⟩ := hf.bodyOk hm (K := K) hl hb
  exact Fn.of_body hm h1 hf.cok h2

theorem PureF.of_c2 {P : Program} {f : FuncId} {F : F2} {args : List AV} {r : AV} (hm : P.follows .mixedOrders = true) (hf : Is P f F) (hl : args.length ≤ F.n)
    (hb : awp2 P F.body (T0 args) noBoxes 0 fun e T H nx => bbind e.ends (res1 T H (fun x => SnapF H x r) F.res)) : PureF P f args r :=
  PureF.of_fn (Fn.of_c2 hm hf hl hb)

end Go.Abs
