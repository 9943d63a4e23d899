/- From a body to a contract. -/
import Derived.Test.YtcbkggfipdldaaaXAbsB5
import Derived.RangeFuncLeaves
set_option linter.unusedVariables false
namespace Go.Abs
open Go.RowKit

def ares (P : Program) (T : Tm) (H : Hp) : List ResultVar → Option (List AV)
  | [] => some []
  | .tmp t :: l => match ares P T H l with | some xs => some (T t :: xs) | none => none
  | .cell a t :: l => match aload P H t (T a), ares P T H l with | some x, some xs => some (x :: xs) | _, _ => none

def ares1 (P : Program) (T : Tm) (H : Hp) (l : List ResultVar) : Option AV := match ares P T H l with
  | some [x] => some x
  | some xs => some (.tup xs)
  | none => none

/-- the cells of one world are cells of the other -/
def Cells (w w' : World) : Prop := ∀ a v, w.cell? a = some v → w'.cell? a = some v

theorem loadVar_run {P : Program} {E : Env} {H : Hp} {nx : Nat} {w : World} (hh : HeapOk E H nx w) {p : AV} {v : Value} (hr : Rel E w p v) {t : TypeId} {x : AV} (hx : aload P H t p = some x) :
    ∃ y, (∀ w', Cells w w' → (do loadVar t (← asAddr v) : Sem Value).run P w' = .ok y w') ∧ Rel E w x y := by
  unfold aload at hx
  split at hx
  case isFalse => cases hx
  case isTrue ht =>
    split at hx
    case isTrue hagg =>
      split at hx
      case isFalse => cases hx
      case isTrue hpos =>
        cases hrd : rd H (P.cellsOf t) p with
        | none => simp [hrd] at hx
        | some xs =>
          simp [hrd] at hx
          subst hx
          obtain ⟨blk, o, vals, rfl, hlen, hrow⟩ := rd_sound hh hr hrd hpos
          refine ⟨.agg vals.toArray, fun w' hw => ?_, .agg xs vals hrow.len hrow.rel⟩
          have hl : vals.length = P.cellsOf t := hrow.len.trans hlen
          simp only [asAddr, loadVar, Sem.run_bind, Sem.run_pure, Result.andThen_ok, run_isAgg ht, hagg, if_true, run_sizeOf' ht, ← hl]
          rw [run_loadCells_list (P := P) (w := w') ⟨blk, o, none⟩ vals (fun j v hv => by rw [addr_add]; exact hw _ _ (hrow.cell _ _ hv))]
          rfl
    case isFalse hagg =>
      obtain ⟨blk, o, y, rfl, hc, hrel⟩ := rd1_sound hh hr hx
      refine ⟨y, fun w' hw => ?_, hrel⟩
      simp [asAddr, loadVar, run_isAgg ht, hagg, hw _ _ hc]

theorem ares_run {P : Program} {E : Env} {w : World} {H : Hp} {nx : Nat} {T : Tm} {tmps : Array Value} (hh : HeapOk E H nx w) (ht : ∀ t, Rel E w (T t) (tmps.getD t Go.undef)) : ∀ (l : List ResultVar) (xs : List AV), ares P T H l = some xs →
    ∃ vs, (∀ w', Cells w w' → (l.mapM (fun r : ResultVar => match r with | .tmp t => (pure (tmps.getD t Go.undef) : Sem Value) | .cell a t => do loadVar t (← asAddr (tmps.getD a Go.undef)))).run P w' = .ok vs w') ∧ RelL E w xs vs
  | [], xs, h => by cases h; exact ⟨[], fun _ _ => rfl, rfl, by simp⟩
  | .tmp t :: l, xs, h => by
    simp only [ares] at h
    split at h
    · rename_i ys hy
      cases h
      obtain ⟨vs, h1, h2⟩ := ares_run (P := P) hh ht l ys hy
      refine ⟨tmps.getD t Go.undef :: vs, fun w' hw => ?_, by simp [h2.1], fun i x y hx hy => ?_⟩
      · rw [List.mapM_cons]
        simp only [Sem.run_bind, Sem.run_pure, Result.andThen_ok, h1 w' hw]
      · cases i with
        | zero => simp at hx hy; subst hx; rw [← hy]; have := ht t; simpa using this
        | succ i => exact h2.2 i x y (by simpa using hx) (by simpa using hy)
    · cases h
  | .cell a t :: l, xs, h => by
    simp only [ares] at h
    split at h
    · rename_i x0 ys hx0 hy
      cases h
      obtain ⟨vs, h1, h2⟩ := ares_run (P := P) hh ht l ys hy
      obtain ⟨y0, k1, k2⟩ := loadVar_run (P := P) hh (ht a) hx0
      refine ⟨y0 :: vs, fun w' hw => ?_, by simp [h2.1], fun i x y hx hy => ?_⟩
      · rw [List.mapM_cons, Sem.run_bind]
        have := k1 w' hw
        rw [this]
        simp only [Sem.run_bind, Sem.run_pure, Result.andThen_ok, h1 w' hw]
      · cases i with
        | zero => simp at hx hy; subst hx; rw [← hy]; exact k2
        | succ i => exact h2.2 i x y (by simpa using hx) (by simpa using hy)
    · cases h

theorem ares1_run {P : Program} {E : Env} {w : World} {H : Hp} {nx : Nat} {T : Tm} {tmps : Array Value} {fn : Func} {x : AV} (hh : HeapOk E H nx w) (ht : ∀ t, Rel E w (T t) (tmps.getD t Go.undef)) (h : ares1 P T H fn.results.toList = some x) :
    ∃ v, (∀ w', Cells w w' → (results fn tmps).run P w' = .ok v w') ∧ Rel E w x v := by
  have key : ∀ xs, ares P T H fn.results.toList = some xs → ∃ vs : Array Value, (∀ w', Cells w w' → (results fn tmps).run P w' = .ok (if h : vs.size = 1 then vs[0] else .tuple vs) w') ∧ RelL E w xs vs.toList := by
    intro xs hx
    obtain ⟨vs, h1, h2⟩ := ares_run (P := P) hh ht _ _ hx
    refine ⟨vs.toArray, fun w' hw => ?_, h2⟩
    have e : results fn tmps = (do
        let vs ← (List.toArray <$> fn.results.toList.mapM (fun r : ResultVar => match r with | .tmp t => (pure (tmps.getD t Go.undef) : Sem Value) | .cell a t => do loadVar t (← asAddr (tmps.getD a Go.undef))) : Sem (Array Value))
        pure (if h : vs.size = 1 then vs[0] else .tuple vs)) := by
      unfold results
      rw [Array.mapM_eq_mapM_toList]
      rfl
    rw [e, map_eq_pure_bind]
    simp only [Sem.run_bind, h1 w' hw, Result.andThen_ok, Sem.run_pure]
  unfold ares1 at h
  split at h
  · rename_i y hy
    cases h
    obtain ⟨vs, h1, h2⟩ := key _ hy
    have hs : vs.size = 1 := by have := h2.1; simpa using this
    refine ⟨vs[0], fun w' hw => by rw [h1 w' hw, dif_pos hs], h2.2 0 _ _ rfl (by simp [hs])⟩
  · rename_i xs hne hy
    cases h
    obtain ⟨vs, h1, h2⟩ := key _ hy
    have hs : vs.size ≠ 1 := by
      intro hs
      have := h2.1
      rw [Array.length_toList, hs] at this
      match xs, this, hne with
      | [x], _, hne => exact hne x rfl
    refine ⟨.tuple vs, fun w' hw => by rw [h1 w' hw, dif_neg hs], ?_⟩
    exact Rel.tup _ vs.toList h2.1 h2.2
  · cases h

/-- another world with the same cells -/
theorem Rel.world {E : Env} {w w' : World} (hc : ∀ a v, w.cell? a = some v → w'.cell? a = some v) {x : AV} {v : Value} (h : Rel E w x v) : Rel E w' x v := by
  induction h with
  | undef v => exact .undef v
  | bool b => exact .bool b
  | int k n => exact .int k n
  | str s => exact .str s
  | nilp => exact .nilp
  | nilf => exact .nilf
  | yld b l h => exact .yld b l h
  | mp b k h => exact .mp b k h
  | nilm => exact .nilm
  | itr b k h => exact .itr b k h
  | ptr b n off blk sz h => exact .ptr b n off blk sz h
  | iptr cells off blk o vals h1 h2 _ ih => exact .iptr cells off blk o vals h1 (fun i h => hc _ _ (h2 i h)) ih
  | eslnil => exact .eslnil
  | esl b o => exact .esl b o
  | slnil sz => exact .slnil sz
  | slempty sz b o c => exact .slempty sz b o c
  | sl sz elems blk o cap vals h1 hlen hsz h2 _ ih => exact .sl sz elems blk o cap vals h1 hlen hsz (fun i h => hc _ _ (h2 i h)) ih
  | msl b n sz off len blk bsz cap h hl hc' hn => exact .msl b n sz off len blk bsz cap h hl hc' hn
  | msl0 b sz v h => exact .msl0 b sz v h
  | func f caps cv hl _ ih => exact .func f caps cv hl ih
  | agg cs vs hl _ ih => exact .agg cs vs hl ih
  | tup cs vs hl _ ih => exact .tup cs vs hl ih

theorem cell_shut {w : World} {D : Nat} {o o' : Obj} (hD : w.heap[D]? = some o) (hno : ∀ c e f, o ≠ .cells c e f) : ∀ a v, w.cell? a = some v → (w.putObj D o').cell? a = some v := by
  intro a v h
  have hne : a.block ≠ D := by
    intro e
    unfold World.cell? at h
    rw [e, hD] at h
    split at h
    · rename_i hh; cases hh; exact absurd rfl (hno _ _ _)
    · cases h
  unfold World.cell? at h ⊢
  have : (w.putObj D o').heap[a.block]? = w.heap[a.block]? := by
    simp only [World.putObj]
    exact Array.getElem?_setIfInBounds_ne (Ne.symm hne)
  rw [this]; exact h

theorem run_take {P : Program} {w : World} {D : Nat} (hD : w.heap[D]? = some (.deferred (some []))) : (Instr.takeDeferred D).run P w = .ok [] (w.putObj D (.deferred none)) := by
  unfold Instr.takeDeferred
  simp [getObj, setObj, Sem.run, hD, World.putObj, bind, Sem.bind, pure]

/-- what is no block of deferred calls stays -/
def Undef (w w' : World) : Prop := ∀ (k : Nat) (o : Obj), w.heap[k]? = some o → (∀ ds, o ≠ .deferred ds) → w'.heap[k]? = some o

/-- the marks are taken, one after the other -/
theorem leaves_marks {P : Program} {fn : Func} {tmps : Array Value} {R : Ending → World → Prop} {E : Env} {N : Cfg} {w₀ : World} {v : Value} (hv : ∀ w, Cells w₀ w → (results fn tmps).run P w = .ok v w)
    (hR : ∀ w, Below E.base w₀ w → Below N.floor w₀ w → w.heap.size = w₀.heap.size → Undef w₀ w → (∀ a v, w₀.cell? a = some v → w.cell? a = some v) → R (.returned v) w) :
    ∀ (ds : List Deferred) (w : World), Marks E N w ds → Below E.base w₀ w → Below N.floor w₀ w → w.heap.size = w₀.heap.size → Undef w₀ w → (∀ a v, w₀.cell? a = some v → w.cell? a = some v) → LeavesInM Fence.wide 0 P fn tmps R ds .returning w
  | [], w, _, hb, hb2, hs, hu, hc => ⟨v, hv w hc, hR w hb hb2 hs hu hc⟩
  | d :: ds, w, hm, hb, hb2, hs, hu, hc => by
    obtain ⟨D, rfl, hD1, hD3, _, hD2⟩ := hm.2 d (by simp)
    have hpw := List.pairwise_cons.1 hm.1
    have hne : ∀ k, D ≠ k → (w.putObj D (.deferred none)).heap[k]? = w.heap[k]? := fun k hk => by
      simp only [World.putObj]
      exact Array.getElem?_setIfInBounds_ne hk
    refine ⟨by simp, .inl ⟨D, w.putObj D (.deferred none), rfl, run_take hD2, leaves_marks (N := N) hv hR ds _ ⟨hpw.2, fun d' hd' => ?_⟩ ?_ ?_ ?_ ?_ ?_⟩⟩
    · obtain ⟨D', rfl, h2, h2', h3, h4⟩ := hm.2 d' (by simp [hd'])
      refine ⟨D', rfl, h2, h2', h3, ?_⟩
      rw [hne D' (fun e => hpw.1 _ hd' (by rw [e]))]; exact h4
    · exact hb.trans ⟨rfl, rfl, rfl, by simp [World.putObj], fun k hk => hne k (by omega)⟩
    · exact hb2.trans ⟨rfl, rfl, rfl, by simp [World.putObj], fun k hk => hne k (by omega)⟩
    · simp [World.putObj, hs]
    · intro k o ho hno
      have h1 := hu k o ho hno
      rw [hne k (fun e => by subst e; rw [hD2] at h1; cases h1; exact hno _ rfl)]; exact h1
    · exact fun a v h => cell_shut hD2 (by intros; simp) a v (hc a v h)

theorem Rel.env {E E' : Env} {w : World} (hi : E'.imm = E.imm) (hm : E'.mu = E.mu) (hs : E'.sp = E.sp) {x : AV} {v : Value} (h : Rel E w x v) : Rel E' w x v :=
  h.mono (fun b hb => by rw [hi]; exact hb) (fun b n x hb => by rw [hm]; exact hb) (fun b x hb => by rw [hs]; exact hb)

/-- behind the marks -/
theorem marks_off {E E' : Env} {w w₁ w' : World} {H : Hp} {nx : Nat} (hE : EnvOk E w) (he : Ext E w E' w₁) (hE' : EnvOk E' w₁) (hh : HeapOk E' H nx w₁) (hb : Below E'.base w₁ w') (hb2 : Below w.heap.size w₁ w') (hs : w'.heap.size = w₁.heap.size) (hu : Undef w₁ w') (hc : ∀ a v, w₁.cell? a = some v → w'.cell? a = some v) :
    Ext E w { E' with dm := E.dm } w' ∧ EnvOk { E' with dm := E.dm } w' ∧ HeapOk { E' with dm := E.dm } H nx w' ∧ ∀ x v, Rel E' w₁ x v → Rel { E' with dm := E.dm } w' x v := by
  have hrel : ∀ x v, Rel E' w₁ x v → Rel { E' with dm := E.dm } w' x v := fun x v h => Rel.env (E := E') (E' := { E' with dm := E.dm }) rfl rfl rfl (h.world hc)
  have hmap : ∀ {ks vs es clock}, MapOk E' w₁ ks vs es clock → MapOk { E' with dm := E.dm } w' ks vs es clock := fun h =>
    ⟨h.len, h.len', fun i x e h1 h2 => hrel _ _ (h.key i x e h1 h2), fun i x e h1 h2 => hrel _ _ (h.val i x e h1 h2), h.born, h.clk⟩
  refine ⟨⟨he.base, he.w0, he.imm, he.new, he.mu, he.sp, he.lp, fun b hb' => ⟨hb', ?_⟩, by rw [hs]; exact he.size, fun b hb' => ?_⟩, ⟨fun b hb' => by rw [hs]; exact hE'.lt b hb', hE'.below.trans hb, fun b hb' => ?_, hE'.spi, fun b k hk => ?_, hE'.spm, fun b r T hl => ?_⟩, ⟨fun b cs hb' => ?_, hh.dom, hh.apart, by rw [hs]; exact hh.size, hh.top, fun b x hb' hx => ?_, hh.nsp⟩, hrel⟩
  · rw [hb2.block b (hE.dlt hb'), (he.dm b hb').2]
  · rw [hb2.block b (hE.lt b hb'), he.keep b hb']
  · obtain ⟨ds, hd⟩ := hE.dm b hb'
    exact ⟨ds, by rw [hb2.block b (hE.dlt hb'), (he.dm b hb').2, hd]⟩
  · obtain ⟨h1, h2, o, h3, h4, h5⟩ := hE'.spb b k hk
    exact ⟨h1, h2, o, hu k o h3 h5, h4, h5⟩
  · obtain ⟨k, st, p, h1, h2, h3⟩ := hE'.lp b r T hl
    exact ⟨k, st, p, h1, hu _ _ h2 (by intro ds; simp), fun t => hrel _ _ (h3 t)⟩
  · rcases hh.box b cs hb' with hn | ⟨blk, sz, hx⟩
    · exact .inl hn
    · obtain ⟨vals, ty, k1, k2, k3, k4⟩ := hx.cells
      exact .inr ⟨blk, sz, hx.mu, hx.base, hx.imm, vals, ty, hu _ _ k1 (by intro ds; simp), k2, k3, fun i x hx' => by
        obtain ⟨v, e1, e2, e3⟩ := k4 i x hx'
        exact ⟨v, e1, e2, hrel _ _ e3⟩⟩
  · obtain ⟨k, h1, h2⟩ := hh.spec b x hb' hx
    refine ⟨k, h1, ?_⟩
    cases x with
    | omap ks vs =>
      obtain ⟨es, clock, h3, h4⟩ := h2
      exact ⟨es, clock, hu _ _ h3 (by intro ds; simp), hmap h4⟩
    | oloop r T => exact ⟨hu _ _ h2.1 (by intro ds; simp), h2.2⟩
    | oiter m n0 seen =>
      obtain ⟨km, last, h3, h4, h5⟩ := h2
      exact ⟨km, last, hu _ _ h3 (by intro ds; simp), h4, h5⟩
    | _ => exact h2.elim

def AEx.ends : AEx → Bool
  | .exit _ => false
  | _ => true

/-- the temporaries at the start -/
def T0 (args : List AV) : Tm := fun t => args.getD t .undef

/-- what a body must give -/
def BodyOk (P : Program) (fn : Func) (args : List AV) (H : Hp) (nx : Nat) (K : AV → Hp → Nat → Prop) : Prop :=
  ∃ c, fn.body = some c ∧ args.length ≤ fn.ntmps ∧ awp P fn.ntmps c (T0 args) H nx fun e T H nx => bbind e.ends (obind (ares1 P T H fn.results.toList) fun x => K x H nx)

theorem T0_rel {E : Env} {w : World} {args : List AV} {vs : List Value} (h : RelL E w args vs) (N : Nat) : ∀ t, Rel E w (T0 args t) ((vs.toArray ++ Array.replicate (N - vs.toArray.size) Go.undef).getD t Go.undef) := by
  intro t
  unfold T0
  by_cases hlt : t < args.length
  · have h1 : args.getD t .undef = args[t] := by simp [List.getD, hlt]
    have hv : t < vs.length := by rw [h.1]; exact hlt
    have h2 : (vs.toArray ++ Array.replicate (N - vs.toArray.size) Go.undef).getD t Go.undef = vs[t] := by
      simp [Array.getElem?_append, hv]
    rw [h1, h2]
    exact h.2 t _ _ (by simp) (by simp)
  · have h1 : args.getD t .undef = .undef := by
      simp only [List.getD]
      rw [List.getElem?_eq_none (by omega)]
      rfl
    rw [h1]
    exact .undef _

theorem body_sound {P : Program} {f : FuncId} {fn : Func} {args : List AV} {H : Hp} {nx : Nat} {K : AV → Hp → Nat → Prop} (hm : P.follows .mixedOrders = true) (hf : P.funcs[f]? = some fn) (hb : BodyOk P fn args H nx K)
    {E : Env} {w : World} {vs : List Value} (hE : EnvOk E w) (hh : HeapOk E H nx w) (hfr : Fresh E nx) (hv : RelL E w args vs) :
    Calls P f vs.toArray w fun e w' => ∃ v E' r H' nx', e = .returned v ∧ Ext E w E' w' ∧ EnvOk E' w' ∧ HeapOk E' H' nx' w' ∧ Fresh E' nx' ∧ Rel E' w' r v ∧ K r H' nx' := by
  obtain ⟨c, hc, hlen, h⟩ := hb
  refine (callsIn_wide (n := 0)).1 (callsIn_of_wp_marks hf hc trivial ?_)
  have hS : Sim E ⟨fn.ntmps, w.heap.size, none⟩ ⟨T0 args, H, nx⟩ { tmps := vs.toArray ++ Array.replicate (fn.ntmps - vs.toArray.size) Go.undef, defers := [] } w := by
    refine ⟨hE, hh, hfr, fun l hl => (by cases hl), Nat.le_refl _, ?_, T0_rel hv _, ⟨List.Pairwise.nil, fun d hd => (by cases hd)⟩⟩
    simp [hv.1]; omega
  refine wpIn_mono (F := Fence.wide) (awp_sound hm c hS h) ?_
  rintro e a' w₁ ⟨x, E', T, H', nx', rfl, he, hS', hk⟩
  obtain ⟨hx, hk⟩ := hk
  cases hr : ares1 P T H' fn.results.toList with
  | none => rw [hr] at hk; exact hk.elim
  | some r =>
    rw [hr] at hk
    obtain ⟨v, h1, h2⟩ := ares1_run (P := P) hS'.heap hS'.tmps hr
    have : LeavesInM Fence.wide 0 P fn a'.tmps (fun e w' => ∃ v E' r H' nx', e = .returned v ∧ Ext E w E' w' ∧ EnvOk E' w' ∧ HeapOk E' H' nx' w' ∧ Fresh E' nx' ∧ Rel E' w' r v ∧ K r H' nx') a'.defers .returning w₁ := by
      refine leaves_marks (E := E') (N := ⟨fn.ntmps, w.heap.size, none⟩) (w₀ := w₁) h1 (fun w' hb hb2 hs hu hc => ?_) a'.defers w₁ hS'.defers (Below.refl _ _) (Below.refl _ _) rfl (fun _ _ h _ => h) (fun _ _ h => h)
      obtain ⟨k1, k2, k3, k4⟩ := marks_off hE he hS'.env hS'.heap hb hb2 hs hu hc
      exact ⟨v, _, r, H', nx', rfl, k1, k2, k3, hS'.fresh, k4 _ _ h2, hk⟩
    cases x with
    | normal => exact this
    | ret => exact this
    | exit i => cases hx

theorem Fn.of_body {P : Program} {f : FuncId} {fn : Func} {args : List AV} {H : Hp} {nx : Nat} {K : AV → Hp → Nat → Prop} (hm : P.follows .mixedOrders = true) (hf : P.funcs[f]? = some fn) (hc : cok P f = true) (hb : BodyOk P fn args H nx K) : Fn P f args H nx K :=
  ⟨hc, fun E w vs hE hh hfr hv => body_sound hm hf hb hE hh hfr hv⟩

/-- the contract of a function that starts without boxes -/
theorem Pure.of_fn {P : Program} {f : FuncId} {args : List AV} {r : AV} (h : Fn P f args noBoxes 0 fun x H nx => Snap H x r) : Pure P f args r := by
  refine ⟨h.1, fun imm w vs hi hv => ?_⟩
  let E : Env := ⟨w.heap.size, w, imm, fun _ _ => none, fun _ => none, fun _ => none, fun _ => False⟩
  have hE : EnvOk E w := ⟨hi, Below.refl _ _, fun _ h => h.elim, fun _ _ _ h => (by cases h), fun _ _ h => (by cases h), fun _ _ h => (by cases h), fun _ _ _ h => (by cases h)⟩
  have hv' : RelL E w args vs := ⟨hv.1, fun i x y hx hy => Rel.mono (E := E0 imm) (E' := E) (fun _ h => h) (fun _ _ _ h => h) (fun _ _ h => h) (hv.2 i x y hx hy)⟩
  refine (h.2 E w vs hE (HeapOk.noBox (Nat.le_refl _)) (fun _ _ => ⟨fun _ => rfl, rfl, rfl⟩) hv').mono ?_
  rintro e w' ⟨v, E', x, H', nx', rfl, he, hE', hh', hfr', hrel, hs⟩
  refine ⟨v, fun b => E'.imm b ∨ liveB E' H' b, rfl, ?_, fun b hb => .inl (he.imm b hb), ?_, ?_, hs.sound hh' hrel⟩
  · have := hE'.below; rw [he.base, he.w0] at this; exact this
  · rintro b (hb | ⟨b', cs, sz, h1, h2⟩)
    · exact he.new b hb
    · have := (hh'.blk_lt h1 h2).2.1
      rw [he.base] at this
      exact .inr this
  · rintro b (hb | ⟨b', cs, sz, h1, h2⟩)
    · exact hE'.lt b hb
    · exact (hh'.blk_lt h1 h2).1

/-- a contract of one that borrows -/
theorem PureF.of_fn {P : Program} {f : FuncId} {args : List AV} {r : AV} (h : Fn P f args noBoxes 0 fun x H nx => SnapF H x r) : PureF P f args r := by
  refine ⟨h.1, fun imm w vs hi hv => ?_⟩
  let E : Env := ⟨w.heap.size, w, imm, fun _ _ => none, fun _ => none, fun _ => none, fun _ => False⟩
  have hE : EnvOk E w := ⟨hi, Below.refl _ _, fun _ h => h.elim, fun _ _ _ h => (by cases h), fun _ _ h => (by cases h), fun _ _ h => (by cases h), fun _ _ _ h => (by cases h)⟩
  have hv' : RelL E w args vs := ⟨hv.1, fun i x y hx hy => Rel.mono (E := E0 imm) (E' := E) (fun _ h => h) (fun _ _ _ h => h) (fun _ _ h => h) (hv.2 i x y hx hy)⟩
  refine (h.2 E w vs hE (HeapOk.noBox (Nat.le_refl _)) (fun _ _ => ⟨fun _ => rfl, rfl, rfl⟩) hv').mono ?_
  rintro e w' ⟨v, E', x, H', nx', rfl, he, hE', hh', hfr', hrel, hs⟩
  refine ⟨v, fun b => liveB E' H' b, rfl, ?_, ?_, ?_, hs.sound hh' hrel⟩
  · have := hE'.below; rw [he.base, he.w0] at this; exact this
  · rintro b ⟨b', cs, sz, h1, h2⟩
    have := (hh'.blk_lt h1 h2).2.1
    rw [he.base] at this
    exact this
  · rintro b ⟨b', cs, sz, h1, h2⟩
    exact (hh'.blk_lt h1 h2).1

theorem Pure.of_body {P : Program} {f : FuncId} {fn : Func} {args : List AV} {r : AV} (hm : P.follows .mixedOrders = true) (hf : P.funcs[f]? = some fn) (hc : cok P f = true) (hb : BodyOk P fn args noBoxes 0 fun x H nx => Snap H x r) : Pure P f args r :=
  Pure.of_fn (Fn.of_body hm hf hc hb)

end Go.Abs
