/- Regions that draw their order: what is asked of them, and what an operation looks at. -/
import Derived.Test.YtcbkggfipdldaaaXAbsA9
set_option linter.unusedVariables false
namespace Go.Abs
open Go.RowKit

def upd (T : Nat → AV) (d : Nat) (v : AV) : Nat → AV := fun t => if t = d then v else T t

def updo (T : Nat → AV) (d : Option Nat) (v : AV) : Nat → AV := match d with
  | some d => upd T d v
  | none => T

def St.put (st : St) (d : Option Nat) (v : AV) : St := { st with T := updo st.T d v }

def dok (N : Nat) (d : Option Nat) : Bool := match d with
  | some d => d < N
  | none => true

/-- does the guard let the operation run? -/
def gval (T : Nat → AV) (dsts : List (Option Nat)) (g : Option (Nat × Bool)) : Option Bool :=
  match g with
  | none => some true
  | some (j, want) => match dsts[j]? with
    | some (some d) => match T d with
      | .bool b => some (b == want)
      | .tup [] => some false
      | _ => none
    | _ => none

theorem gval_sound {E : Env} {w : World} {T : Nat → AV} {a : Act} {ops : List Oper} {o : Oper} {b : Bool} (ht : ∀ t, (∃ j want, o.guard = some (j, want) ∧ ((ops[j]?).bind (·.dst)) = some t) → Rel E w (T t) (a.tmps.getD t Go.undef))
    (h : gval T (ops.map (·.dst)) o.guard = some b) : Region.wanted o (yielded ops.toArray a.tmps) = b := by
  unfold gval at h
  unfold Region.wanted
  split at h
  · rename_i hg; rw [hg]; cases h; rfl
  · rename_i j want hg
    rw [hg]
    simp only
    split at h
    · rename_i d hd
      have hj : (ops[j]?).bind (·.dst) = some d := by
        rw [List.getElem?_map] at hd
        cases ho : ops[j]? with
        | none => rw [ho] at hd; cases hd
        | some o' => rw [ho] at hd; simp at hd; simp [hd]
      have hr := ht d ⟨j, want, hg, hj⟩
      split at h
      · rename_i b' hb
        cases h
        rw [hb] at hr
        generalize hv : a.tmps.getD d Go.undef = v at hr
        cases hr
        have : a.tmps[d]? = some (.bool b') := by
          cases hq : a.tmps[d]? with
          | none => simp [hq] at hv; cases hv
          | some u => simp [hq] at hv; rw [hv]
        have hy : yielded ops.toArray a.tmps j = some b' := by
          unfold yielded
          simp only [List.getElem?_toArray, hj, Option.bind_some, this]
        rw [hy]
        cases b' <;> cases want <;> rfl
      · rename_i hb
        cases h
        rw [hb] at hr
        generalize hv : a.tmps.getD d Go.undef = v at hr
        cases hr with
        | tup cs vs hl _ =>
        have hvs : vs = [] := List.length_eq_zero_iff.1 hl
        subst hvs
        have hy : yielded ops.toArray a.tmps j = none := by
          unfold yielded
          simp only [List.getElem?_toArray, hj, Option.bind_some]
          cases hq : a.tmps[d]? with
          | none => rfl
          | some u => simp [hq] at hv; rw [hv]
        rw [hy]
        cases want <;> rfl
      · cases h
    · cases h

inductive OpK where
  | pure | touch | alloc | write | other
  deriving DecidableEq

def opk : Op → OpK
  | .move _ | .assign _ | .pick .. | .nilCheck _ | .binOp .. | .unOp .. | .convert .. | .makeFunc .. | .slice .. | .fieldAddr .. | .field .. | .indexAddr .. | .index .. | .extract .. | .build .. => .pure
  | .load .. => .touch
  | .alloc _ | .box .. | .buildSlice .. | .makeSlice .. => .alloc
  | .store .. => .write
  | .call { callee := .value _, .. } => .touch
  | .call { callee := .builtin .len, .. } | .call { callee := .builtin .max, .. } | .call { callee := .builtin .min, .. } => .pure
  | .call { callee := .builtin .append, .. } => .write
  | _ => .other

def isLoad : Op → Bool
  | .load .. => true
  | _ => false

/-- operations that need not stand apart from writes -/
def quiet (fr : Bool) (op : Op) : Bool := opk op == .pure || (fr && isLoad op)

/-- loads of what lay before the region, stores in what the region makes -/
def frOk (T : Nat → AV) (op : Op) (m : Nat) : Bool := match op with
  | .load _ a => match ev T a with | .ptr b _ _ => b < m | _ => true
  | .store _ p _ => match ev T p with | .ptr b _ _ => m ≤ b | _ => true
  | op => opk op != .write

def conflict (fr : Bool) (ops : List Oper) (x y : Oper) : Bool :=
  (match x.dst with | some d => (y.looksAt ops.toArray).contains d | none => false) ||
  (match y.dst with | some d => (x.looksAt ops.toArray).contains d | none => false) ||
  (opk x.op == .write && !quiet fr y.op) || (opk y.op == .write && !quiet fr x.op)

theorem quiet_of {fr : Bool} {op : Op} (h : opk op ≠ .pure) (h2 : isLoad op = false) : quiet fr op = false := by
  simp [quiet, h2, h]

theorem quiet_alloc {fr : Bool} {op : Op} (h : opk op = .alloc) : quiet fr op = false := by
  refine quiet_of (by rw [h]; decide) ?_
  cases op <;> first | rfl | (simp [opk] at h; done)

theorem quiet_write {fr : Bool} {op : Op} (h : opk op = .write) : quiet fr op = false := by
  refine quiet_of (by rw [h]; decide) ?_
  cases op <;> first | rfl | (simp [opk] at h; done)

def mbit (m : Array Nat) (j i : Nat) : Bool := (m.getD j 0).testBit i
def direct (o : Oper) : List Nat := (o.after.toList.filter (Region.binds .any ·)).map (·.on)

def drawOk (fr : Bool) (ops : List Oper) : Bool :=
  let m := Region.before ops.toArray
  let n := ops.length
  ((List.range n).all fun j => (direct (ops.getD j default)).all fun k => k < j) &&
  ((List.range n).all fun j => (List.range n).all fun i => !mbit m j i || (direct (ops.getD j default)).any fun k => k == i || mbit m k i) &&
  ((List.range n).all fun j => (List.range j).all fun i => !conflict fr ops (ops.getD i default) (ops.getD j default) || mbit m j i) &&
  ((List.range n).all fun j => (List.range j).all fun i => (ops.getD i default).dst.isNone || (ops.getD i default).dst != (ops.getD j default).dst)

theorem ev_congr {T T' : Nat → AV} {x : Operand} (h : ∀ t, x = .tmp t → T t = T' t) : ev T x = ev T' x := by
  cases x with
  | tmp t => exact h t rfl
  | _ => rfl

theorem aval_congr {P : Program} {T T' : Nat → AV} {H : Nat → Option (List AV)} {op : Op} (h : ∀ x ∈ op.operands, ev T x = ev T' x) : aval P T H op = aval P T' H op := by
  have harr : ∀ (xs : Array Operand), (∀ x ∈ xs, ev T x = ev T' x) → xs.toList.map (ev T) = xs.toList.map (ev T') := fun xs hx => List.map_congr_left fun x hm => hx x (by simpa using hm)
  have hlist : ∀ (xs : List Operand), (∀ x ∈ xs, ev T x = ev T' x) → xs.map (ev T) = xs.map (ev T') := fun xs hx => List.map_congr_left fun x hm => hx x hm
  cases op with
  | call c =>
    obtain ⟨callee, args, argTypes⟩ := c
    simp only [Op.operands, Call.operands] at h
    obtain ⟨args⟩ := args
    obtain ⟨argTypes⟩ := argTypes
    cases callee with
    | builtin b =>
      simp only [Array.mem_append] at h
      have ha : ∀ x ∈ args, ev T x = ev T' x := fun x hx => h x (.inr (by simpa using hx))
      cases b <;> try rfl
      · rcases args with _ | ⟨x, _ | ⟨y, l⟩⟩
        · rfl
        · rcases argTypes with _ | ⟨t, _ | ⟨u, l⟩⟩
          · rfl
          · simp only [aval, ha x (by simp)]
          · rfl
        · rfl
      · rcases args with _ | ⟨x, l⟩
        · rfl
        · simp only [aval, ha x (by simp), hlist l (fun y hy => ha y (by simp [hy]))]
      · rcases args with _ | ⟨x, l⟩
        · rfl
        · simp only [aval, ha x (by simp), hlist l (fun y hy => ha y (by simp [hy]))]
    | _ => rfl
  | makeFunc fn first captured =>
    cases fn with
    | func f =>
      simp only [Op.operands, Array.mem_append] at h
      simp only [aval, harr captured (fun x hx => h x (.inr hx))]
    | _ => rfl
  | build t parts =>
    simp only [Op.operands] at h
    simp only [aval]
    congr 1
    refine List.map_congr_left fun p hp => ?_
    rw [h p.2 (by simp; exact ⟨p.1, by simpa using hp⟩)]
  | slice t x lo hi mx =>
    simp only [Op.operands, Array.mem_append] at h
    have h1 : ev T x = ev T' x := h x (.inl (.inl (.inl (by simp))))
    have h2 : lo.map (ev T) = lo.map (ev T') := by cases lo with | none => rfl | some l => simp [h l (.inl (.inl (.inr (by simp))))]
    have h3 : hi.map (ev T) = hi.map (ev T') := by cases hi with | none => rfl | some l => simp [h l (.inl (.inr (by simp)))]
    have h4 : mx.map (ev T) = mx.map (ev T') := by cases mx with | none => rfl | some l => simp [h l (.inr (by simp))]
    simp only [aval, h1, h2, h3, h4]
  | _ => first
    | rfl
    | (simp only [Op.operands] at h
       simp_all only [aval, List.mem_toArray, List.mem_cons, List.not_mem_nil, or_false, forall_eq_or_imp, forall_eq]
       done)

theorem aeff_congr {P : Program} {T T' : Nat → AV} {H : Nat → Option (List AV)} {nx : Nat} {op : Op} (h : ∀ x ∈ op.operands, ev T x = ev T' x) : aeff P T H nx op = aeff P T' H nx op := by
  cases op with
  | call c =>
    obtain ⟨callee, args, argTypes⟩ := c
    simp only [Op.operands, Call.operands] at h
    obtain ⟨args⟩ := args
    obtain ⟨argTypes⟩ := argTypes
    cases callee with
    | builtin b =>
      simp only [Array.mem_append] at h
      have ha : ∀ x ∈ args, ev T x = ev T' x := fun x hx => h x (.inr (by simpa using hx))
      cases b <;> try rfl
      rcases args with _ | ⟨x, _ | ⟨y, _ | ⟨z, l⟩⟩⟩
      · rfl
      · rfl
      · rcases argTypes with _ | ⟨t, _ | ⟨u, _ | ⟨v, l⟩⟩⟩
        · rfl
        · rfl
        · simp only [aeff, ha x (by simp), ha y (by simp)]
        · rfl
      · rfl
    | _ => rfl
  | buildSlice t len parts =>
    simp only [Op.operands] at h
    simp only [aeff]
    congr 1
    refine List.map_congr_left fun p hp => ?_
    rw [h p.2 (by simp; exact ⟨p.1, by simpa using hp⟩)]
  | _ => first
    | rfl
    | (simp only [Op.operands] at h
       simp_all only [aeff, List.mem_toArray, List.mem_cons, List.not_mem_nil, or_false, forall_eq_or_imp, forall_eq]
       done)

/-- which kind of operation gives what -/
theorem aval_kind {P : Program} {T : Nat → AV} {H : Nat → Option (List AV)} {op : Op} {r : AV} (h : aval P T H op = some r) : opk op = .pure ∨ opk op = .touch := by
  unfold aval at h
  split at h <;> first | (cases h; done) | (simp [opk]; done)

theorem aval_pure {P : Program} {T : Nat → AV} {H H' : Nat → Option (List AV)} {op : Op} (h : opk op = .pure) : aval P T H op = aval P T H' op := by
  cases op with
  | call c =>
    obtain ⟨callee, args, argTypes⟩ := c
    cases callee with
    | builtin b =>
      obtain ⟨args⟩ := args
      obtain ⟨argTypes⟩ := argTypes
      cases b <;> first | rfl | (rcases args with _ | ⟨x, _ | ⟨y, l⟩⟩ <;> rcases argTypes with _ | ⟨t, _ | ⟨u, l'⟩⟩ <;> rfl)
    | _ => rfl
  | makeFunc fn first captured => cases fn <;> rfl
  | _ => first | rfl | (simp [opk] at h; done)

theorem aeff_kind {P : Program} {T : Nat → AV} {H : Nat → Option (List AV)} {nx : Nat} {op : Op} {r : AV} {H' : Nat → Option (List AV)} {nx' : Nat} (h : aeff P T H nx op = some (r, H', nx')) : opk op = .alloc ∨ opk op = .write := by
  unfold aeff at h
  split at h <;> first | (cases h; done) | (simp [opk]; done)

theorem aeff_alloc {P : Program} {E : Env} {w : World} {T : Nat → AV} {a : Act} {H : Nat → Option (List AV)} {nx : Nat} {o : Oper} {r : AV} {H' : Nat → Option (List AV)} {nx' : Nat} (hk : opk o.op = .alloc) (he : ∀ x ∈ o.op.operands, Rel E w (ev T x) (a.eval x))
    (h : aeff P T H nx o.op = some (r, H', nx')) : ∃ s : Sem Value, execOp a.eval o = (do pure (Next.value (← s)) : Sem Next) ∧ ARun P E w s r H nx H' nx' := by
  obtain ⟨dst, op, type, pos, after, guard⟩ := o
  simp only at h hk he
  cases op <;> first | (simp [opk] at hk; done) | skip
  · exact ⟨_, rfl, aalloc_run h⟩
  · exact ⟨_, rfl, abox_run (he _ (by simp [Op.operands])) h⟩
  · rename_i t len parts
    refine ⟨Instr.buildSlice t len (parts.toList.map fun p => (p.1, a.eval p.2)).toArray, ?_, abuildS_run (by simp) (fun i p q hp hq => ?_) h⟩
    · have pmap : (parts.map fun (i, x) => (i, a.eval x)) = (parts.toList.map fun p => (p.1, a.eval p.2)).toArray := by rw [← arr_map]
      rw [← pmap]
      rfl
    · rw [List.getElem?_map] at hp hq
      cases hl : parts.toList[i]? with
      | none => rw [hl] at hp; cases hp
      | some o =>
        rw [hl] at hp hq; cases hp; cases hq
        refine ⟨rfl, he _ ?_⟩
        simp only [Op.operands, List.mem_toArray, List.mem_map]
        exact ⟨o, List.mem_of_getElem? hl, rfl⟩
  · exact ⟨_, rfl, amake_run (he _ (by simp [Op.operands])) (he _ (by simp [Op.operands])) h⟩
  · rename_i c
    obtain ⟨callee, args, argTypes⟩ := c
    cases callee <;> first | (simp [opk] at hk; done) | skip
    rename_i b
    cases b <;> simp [opk] at hk

theorem aload_old {P : Program} {H H' : Nat → Option (List AV)} {t : TypeId} {p : AV} (h : ∀ b n off, p = .ptr b n off → H b = H' b) : aload P H t p = aload P H' t p := by
  unfold aload
  cases p with
  | ptr b n off =>
    have e := h b n off rfl
    simp only [rd, rd1, e]
  | _ => rfl

end Go.Abs
