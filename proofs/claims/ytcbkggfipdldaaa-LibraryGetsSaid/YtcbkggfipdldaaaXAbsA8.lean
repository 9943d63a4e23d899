/- One operation, on abstract states. -/
import Derived.Test.YtcbkggfipdldaaaXAbsA7
import Derived.OwnWalkIn
set_option linter.unusedVariables false
namespace Go.Abs
open Go.RowKit

def amax2 : AV → AV → Option AV
  | .int k x, .int _ y => some (.int k (if y > x then y else x))
  | _, _ => none
def amin2 : AV → AV → Option AV
  | .int k x, .int _ y => some (.int k (if y < x then y else x))
  | _, _ => none
def afold (f : AV → AV → Option AV) : AV → List AV → Option AV
  | x, [] => some x
  | x, y :: l => match f x y with | some z => afold f z l | none => none

/-- operations that give a value and leave the world -/
def aval (P : Program) (T : Nat → AV) (H : Nat → Option (List AV)) : Op → Option AV
  | .move x => some (ev T x)
  | .assign x => some (ev T x)
  | .pick c a b => match ev T c with | .bool t => some (if t = true then ev T a else ev T b) | _ => none
  | .load t a => aload P H t (ev T a)
  | .nilCheck x => match ev T x with | .ptr b n o => some (.ptr b n o) | .iptr c o => some (.iptr c o) | .func f c => some (.func f c) | _ => none
  | .binOp op t x y _ => abin P op t (ev T x) (ev T y)
  | .unOp op _ x => aun op (ev T x)
  | .convert s d x => aconv P s d (ev T x)
  | .makeFunc (.func f) first captured => if first.size = 0 then some (.func f (captured.toList.map (ev T))) else none
  | .slice t x lo hi mx => if mx.isSome = true ∧ hi.isNone = true then none else aslice P t (ev T x) (lo.map (ev T)) (hi.map (ev T)) (mx.map (ev T))
  | .fieldAddr t x f => afieldAddr P t (ev T x) f
  | .field t x f => afield P t (ev T x) f
  | .indexAddr t x i => aindexAddr P t (ev T x) (ev T i)
  | .index t x i => aindex P t (ev T x) (ev T i)
  | .extract x i => aextract (ev T x) i
  | .build t parts => abuild P t (parts.toList.map fun p => (p.1, ev T p.2))
  | .call { callee := .builtin .len, args := ⟨[x]⟩, argTypes := ⟨[t]⟩ } => alen P t (ev T x)
  | .call { callee := .builtin .max, args := ⟨x :: l⟩, argTypes := _ } => afold amax2 (ev T x) (l.map (ev T))
  | .call { callee := .builtin .min, args := ⟨x :: l⟩, argTypes := _ } => afold amin2 (ev T x) (l.map (ev T))
  | _ => none

theorem afold_sound {P : Program} {E : Env} {w : World} {f : AV → AV → Option AV} {g : Value → Value → Sem Value}
    (hf : ∀ x y vx vy r, Rel E w x vx → Rel E w y vy → f x y = some r → ∃ v, (g vx vy).run P w = .ok v w ∧ Rel E w r v) :
    ∀ (l : List AV) (vl : List Value) (x : AV) (vx : Value) (r : AV), Rel E w x vx → RelL E w l vl → afold f x l = some r → ∃ v, (vl.foldlM g vx).run P w = .ok v w ∧ Rel E w r v
  | [], vl, x, vx, r, hx, hl, h => by
    have : vl = [] := List.length_eq_zero_iff.1 hl.1
    subst this
    cases h
    exact ⟨vx, rfl, hx⟩
  | y :: l, vl, x, vx, r, hx, hl, h => by
    cases vl with
    | nil => have := hl.1; simp at this
    | cons vy vl =>
      simp only [afold] at h
      split at h
      · rename_i z hz
        obtain ⟨vz, h1, h2⟩ := hf x y vx vy z hx (hl.2 0 y vy rfl rfl) hz
        obtain ⟨v, h3, h4⟩ := afold_sound hf l vl z vz r h2 ⟨by have := hl.1; simpa using this, fun i a b ha hb => hl.2 (i + 1) a b (by simpa using ha) (by simpa using hb)⟩ h
        refine ⟨v, ?_, h4⟩
        simp only [List.foldlM_cons, Sem.run_bind, h1, Result.andThen_ok, h3]
      · cases h

theorem arr_map {α β : Type} (f : α → β) (xs : Array α) : xs.map f = (xs.toList.map f).toArray := by
  apply Array.ext'
  simp

theorem relL_map {E : Env} {w : World} {T : Nat → AV} {a : Act} (h : ∀ t, Rel E w (T t) (a.tmps.getD t Go.undef)) (l : List Operand) : RelL E w (l.map (ev T)) (l.map a.eval) := by
  refine ⟨by simp, fun i x y hx hy => ?_⟩
  rw [List.getElem?_map] at hx hy
  cases hl : l[i]? with
  | none => rw [hl] at hx; cases hx
  | some o => rw [hl] at hx hy; cases hx; cases hy; exact ev_rel h o

theorem aval_sound {P : Program} {E : Env} {H : Nat → Option (List AV)} {nx : Nat} {w : World} {T : Nat → AV} {a : Act} (hh : HeapOk E H nx w) (ht : ∀ t, Rel E w (T t) (a.tmps.getD t Go.undef)) {o : Oper} {r : AV}
    (h : aval P T H o.op = some r) : ∃ v, (execOp a.eval o).run P w = .ok (.value v) w ∧ Rel E w r v := by
  have he := fun x => ev_rel (E := E) (w := w) (T := T) (a := a) ht x
  have lift : ∀ (s : Sem Value) (r : AV), (∃ v, s.run P w = .ok v w ∧ Rel E w r v) → ∃ v, (do pure (Next.value (← s)) : Sem Next).run P w = .ok (.value v) w ∧ Rel E w r v := by
    rintro s r ⟨v, h1, h2⟩
    exact ⟨v, by simp only [Sem.run_bind, h1, Result.andThen_ok]; rfl, h2⟩
  obtain ⟨dst, op, type, pos, after, guard⟩ := o
  simp only at h
  unfold aval at h
  split at h
  · cases h; exact ⟨_, rfl, he _⟩
  · cases h; exact ⟨_, rfl, he _⟩
  · rename_i c x y
    split at h
    · rename_i t hc
      cases h
      have hc' := he c
      rw [hc] at hc'
      generalize hv : a.eval c = vc at hc'
      cases hc'
      refine ⟨if t = true then a.eval x else a.eval y, ?_, ?_⟩
      · simp only [execOp, hv, Sem.run_bind, asBool, Sem.run_pure, Result.andThen_ok]
      · split
        · exact he _
        · exact he _
    · cases h
  · rename_i t x
    exact lift _ _ (aload_sound hh (he x) h)
  · rename_i x
    have hx := he x
    split at h
    all_goals first | (cases h; done) | skip
    · rename_i b n o hc
      cases h
      rw [hc] at hx
      refine ⟨a.eval x, ?_, hx⟩
      generalize hv : a.eval x = vx at hx
      cases hx with
      | ptr => simp only [execOp, hv]; rfl
    · rename_i c o hc
      cases h
      rw [hc] at hx
      refine ⟨a.eval x, ?_, hx⟩
      generalize hv : a.eval x = vx at hx
      cases hx with
      | iptr => simp only [execOp, hv]; rfl
    · rename_i f c hc
      cases h
      rw [hc] at hx
      refine ⟨a.eval x, ?_, hx⟩
      generalize hv : a.eval x = vx at hx
      cases hx with
      | func => simp only [execOp, hv]; rfl
  · rename_i op t x y ty
    exact lift _ _ (abin_sound x y (he x) (he y) h)
  · rename_i op t x
    exact lift _ _ (aun_sound (he x) h)
  · rename_i s d x
    exact lift _ _ (aconv_sound (he x) h)
  · rename_i f first captured
    split at h
    case isFalse => cases h
    case isTrue hs =>
      cases h
      have hfirst : first = #[] := Array.eq_empty_of_size_eq_zero hs
      subst hfirst
      have hl := relL_map (E := E) (w := w) ht captured.toList
      refine ⟨.func (.func f) #[] (captured.toList.map a.eval).toArray, ?_, .func f _ _ hl.1 hl.2⟩
      simp only [execOp, Instr.makeFunc, arr_map a.eval captured, Sem.run_bind, Sem.run_pure, Result.andThen_ok]
      simp
  · rename_i t x lo hi mx
    split at h
    case isTrue => cases h
    case isFalse hmh =>
      refine lift _ _ (aslice_sound (he x) ?_ ?_ ?_ ?_ ?_ ?_ ?_ h)
      · intro y hy; cases lo with
        | none => cases hy
        | some l => cases hy; exact ⟨_, rfl, he l⟩
      · intro hn; cases lo with
        | none => rfl
        | some l => cases hn
      · intro y hy; cases hi with
        | none => cases hy
        | some l => cases hy; exact ⟨_, rfl, he l⟩
      · intro hn; cases hi with
        | none => rfl
        | some l => cases hn
      · intro y hy; cases mx with
        | none => cases hy
        | some l => cases hy; exact ⟨_, rfl, he l⟩
      · intro hn; cases mx with
        | none => rfl
        | some l => cases hn
      · intro hm hn
        cases mx with
        | none => exact hm rfl
        | some m => cases hi with
          | none => exact hmh ⟨rfl, rfl⟩
          | some _ => cases hn
  · rename_i t x f
    exact lift _ _ (afieldAddr_sound (he x) h)
  · rename_i t x f
    exact lift _ _ (afield_sound (he x) h)
  · rename_i t x i
    exact lift _ _ (aindexAddr_sound (he x) (he i) h)
  · rename_i t x i
    exact lift _ _ (aindex_sound (he x) (he i) h)
  · rename_i x i
    exact lift _ _ (aextract_sound (he x) h)
  · rename_i t parts
    have := abuild_sound (P := P) (E := E) (w := w) (parts := parts.toList.map fun p => (p.1, ev T p.2)) (vparts := parts.toList.map fun p => (p.1, a.eval p.2)) (by simp) (fun i p q hp hq => by
      rw [List.getElem?_map] at hp hq
      cases hl : parts.toList[i]? with
      | none => rw [hl] at hp; cases hp
      | some o => rw [hl] at hp hq; cases hp; cases hq; exact ⟨rfl, he _⟩) h
    obtain ⟨v, h1, h2⟩ := this
    refine lift _ _ ⟨v, ?_, h2⟩
    rw [← h1, ← arr_map]
  · rename_i x t
    obtain ⟨v, h1, h2⟩ := alen_sound (P := P) type (he x) h
    refine ⟨v, ?_, h2⟩
    simp [execOp, resolve, invoke, builtin, h1]
  · rename_i x l ts
    obtain ⟨v, h1, h2⟩ := afold_sound (P := P) (E := E) (w := w) (f := amax2) (g := Builtin.max2) (fun x y vx vy r hx hy hr => by
      unfold amax2 at hr
      split at hr
      · cases hr; cases hx; cases hy; exact ⟨_, rfl, .int _ _⟩
      · cases hr) (l.map (ev T)) (l.map a.eval) (ev T x) (a.eval x) r (he x) (relL_map ht l) h
    refine ⟨v, ?_, h2⟩
    simp [execOp, resolve, invoke, builtin, Builtin.max_, h1]
  · rename_i x l ts
    obtain ⟨v, h1, h2⟩ := afold_sound (P := P) (E := E) (w := w) (f := amin2) (g := Builtin.min2) (fun x y vx vy r hx hy hr => by
      unfold amin2 at hr
      split at hr
      · cases hr; cases hx; cases hy; exact ⟨_, rfl, .int _ _⟩
      · cases hr) (l.map (ev T)) (l.map a.eval) (ev T x) (a.eval x) r (he x) (relL_map ht l) h
    refine ⟨v, ?_, h2⟩
    simp [execOp, resolve, invoke, builtin, Builtin.min_, h1]
  · cases h

/-- operations that make or write memory -/
def aeff (P : Program) (T : Nat → AV) (H : Nat → Option (List AV)) (nx : Nat) : Op → Option (AV × (Nat → Option (List AV)) × Nat)
  | .alloc e => aalloc P e H nx
  | .box _ x => abox (ev T x) H nx
  | .buildSlice t len parts => abuildS P t len (parts.toList.map fun p => (p.1, ev T p.2)) H nx
  | .makeSlice t l c => amake P t (ev T l) (ev T c) H nx
  | .store t p x => match astore P t (ev T p) (ev T x) H with
    | some H' => some (.tup [], H', nx)
    | none => none
  | .call { callee := .builtin .append, args := ⟨[s, x]⟩, argTypes := ⟨[tS, tX]⟩ } => aappend P tS tX (ev T s) (ev T x) H nx
  | _ => none

theorem undef_rel (E : Env) (w : World) : Rel E w (.tup []) Go.undef := Rel.tup [] [] rfl (by simp)

set_option maxHeartbeats 1000000 in
theorem aeff_sound {P : Program} {E : Env} {H : Nat → Option (List AV)} {nx : Nat} {w : World} {T : Nat → AV} {a : Act} (hE : EnvOk E w) (hh : HeapOk E H nx w) (hfr : Fresh E nx) (ht : ∀ t, Rel E w (T t) (a.tmps.getD t Go.undef)) {o : Oper}
    {r : AV} {H' : Nat → Option (List AV)} {nx' : Nat} (h : aeff P T H nx o.op = some (r, H', nx')) :
    ∃ n v w' E', (execOp a.eval o).run P w = .ok n w' ∧ (n = .value v ∨ n = .skip ∧ v = Go.undef) ∧ Ext E w E' w' ∧ EnvOk E' w' ∧ HeapOk E' H' nx' w' ∧ Rel E' w' r v ∧ Fresh E' nx' := by
  have he := fun x => ev_rel (E := E) (w := w) (T := T) (a := a) ht x
  have lift : ∀ (s : Sem Value) (r : AV) (H' : Nat → Option (List AV)) (nx' : Nat), EffOk P E w s r H' nx' →
      ∃ v w' E', (do pure (Next.value (← s)) : Sem Next).run P w = .ok (.value v) w' ∧ Ext E w E' w' ∧ EnvOk E' w' ∧ HeapOk E' H' nx' w' ∧ Rel E' w' r v ∧ Fresh E' nx' := by
    rintro s r H' nx' ⟨v, w', E', h1, h2⟩
    exact ⟨v, w', E', by simp only [Sem.run_bind, h1, Result.andThen_ok]; rfl, h2⟩
  have fin : ∀ (s : Sem Value) (r : AV) (H' : Nat → Option (List AV)) (nx' : Nat), execOp a.eval o = (do pure (Next.value (← s)) : Sem Next) → EffOk P E w s r H' nx' →
      ∃ n v w' E', (execOp a.eval o).run P w = .ok n w' ∧ (n = .value v ∨ n = .skip ∧ v = Go.undef) ∧ Ext E w E' w' ∧ EnvOk E' w' ∧ HeapOk E' H' nx' w' ∧ Rel E' w' r v ∧ Fresh E' nx' := by
    intro s r H' nx' hs hk
    obtain ⟨v, w', E', h1, h2⟩ := lift s r H' nx' hk
    exact ⟨.value v, v, w', E', by rw [hs]; exact h1, .inl rfl, h2⟩
  obtain ⟨dst, op, type, pos, after, guard⟩ := o
  simp only at h
  unfold aeff at h
  have pmap : ∀ parts : Array (Nat × Operand), (parts.map fun (i, x) => (i, a.eval x)) = (parts.toList.map fun p => (p.1, a.eval p.2)).toArray := fun parts => by rw [← arr_map]
  have prel : ∀ parts : Array (Nat × Operand), ∀ (i : Nat) (p : Nat × AV) (q : Nat × Value), (parts.toList.map fun p => (p.1, ev T p.2))[i]? = some p → (parts.toList.map fun p => (p.1, a.eval p.2))[i]? = some q → q.1 = p.1 ∧ Rel E w p.2 q.2 := by
    intro parts i p q hp hq
    rw [List.getElem?_map] at hp hq
    cases hl : parts.toList[i]? with
    | none => rw [hl] at hp; cases hp
    | some o => rw [hl] at hp hq; cases hp; cases hq; exact ⟨rfl, he _⟩
  split at h
  · exact fin _ _ _ _ rfl ((aalloc_run h).effOk hE hh hfr)
  · rename_i t x
    exact fin _ _ _ _ rfl ((abox_run (t := t) (he x) h).effOk hE hh hfr)
  · rename_i t len parts
    have hs := abuildS_run (P := P) (vparts := parts.toList.map fun p => (p.1, a.eval p.2)) (by rw [List.length_map, List.length_map]) (prel parts) h
    refine fin _ _ _ _ ?_ (hs.effOk hE hh hfr)
    rw [← pmap]
    rfl
  · rename_i t l c
    exact fin _ _ _ _ rfl ((amake_run (he l) (he c) h).effOk hE hh hfr)
  · rename_i t p x
    split at h
    · rename_i H1 hs
      cases h
      obtain ⟨w', E', h1, h2, h3, h4, h5⟩ := astore_sound (P := P) hE hh hfr (he p) (he x) hs
      exact ⟨.skip, Go.undef, w', E', by simp only [execOp, Sem.run_bind, h1, Result.andThen_ok]; rfl, .inr ⟨rfl, rfl⟩, h2, h3, h4, undef_rel _ _, h5⟩
    · cases h
  · rename_i s x tS tX
    refine fin (Builtin.append_ #[tS, tX] type #[a.eval s, a.eval x]) _ _ _ ?_ (aappend_sound hE hh hfr (he s) (he x) h)
    simp [execOp, resolve, invoke, builtin]
  · cases h

end Go.Abs
