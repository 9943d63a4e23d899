/- Loops over functions, and the rounds that their functions call. -/
import Derived.Test.YtcbkggfipdldaaaXAbsB6
import Derived.RangeFuncRecord
import Derived.RangeFuncNested
set_option linter.unusedVariables false
namespace Go.Abs
open Go.RowKit

def hdel (H : Hp) (b : Nat) : Hp := fun x => if x = b then none else H x

theorem hdel_self {H : Hp} {b : Nat} : hdel H b b = none := by simp [hdel]
theorem hdel_some {H : Hp} {b x : Nat} {cs : List AV} (h : hdel H b x = some cs) : x ≠ b ∧ H x = some cs := by
  unfold hdel at h; split at h
  · cases h
  · exact ⟨‹_›, h⟩

theorem HeapOk.del {E : Env} {H : Hp} {nx : Nat} {w : World} (h : HeapOk E H nx w) (b : Nat) : HeapOk E (hdel H b) nx w :=
  h.fewer (fun _ _ hb => (hdel_some hb).2) (fun x cs hb => h.dom x cs (hdel_some hb).2)

/-- A special box's block is written; the box is not in H. -/
theorem sp_set {E : Env} {H : Hp} {nx : Nat} {w : World} (hE : EnvOk E w) (hh : HeapOk E H nx w) {b k : Nat} {o o' : Obj} (hs : E.sp b = some k) (ho : w.heap[k]? = some o)
    (hc : isCells o = false) (hc' : isCells o' = false) (hd : ∀ ds, o ≠ .deferred ds) (hd' : ∀ ds, o' ≠ .deferred ds)
    (hl : ∀ r T, E.lp b = some (r, T) → ∃ st p, o' = .loop { r with state := st, pending := p }) (hH : ∀ x, H b = some [x] → x.special = false) :
    Ext E w E (w.putObj k o') ∧ EnvOk E (w.putObj k o') ∧ HeapOk E H nx (w.putObj k o') := by
  obtain ⟨hbase, himm, _⟩ := hE.spb b k hs
  have hlt : k < w.heap.size := (Array.getElem?_eq_some_iff.1 ho).1
  have hne : ∀ k', k' ≠ k → (w.putObj k o').heap[k']? = w.heap[k']? := fun k' h => World.putObj_heap_other h
  have hself : (w.putObj k o').heap[k]? = some o' := World.putObj_heap_same hlt
  have hcell : ∀ blk vals ty fz, w.heap[blk]? = some (.cells vals ty fz) → blk ≠ k := fun blk vals ty fz h e => by
    subst e; rw [ho] at h; cases h; cases hc
  have hcs : ∀ a v, w.cell? a = some v → (w.putObj k o').cell? a = some v := cell_shut ho (by
    intro c e f e'; subst e'; cases hc)
  have he : Ext E w E (w.putObj k o') := ⟨rfl, rfl, fun _ h => h, fun _ h => .inl h, fun _ _ _ h => h, fun _ _ h => h, fun _ _ h => h, fun b' hb' => ⟨hb', hne b' (fun e => by
    subst e; obtain ⟨ds, hds⟩ := hE.dm _ hb'; rw [ho] at hds; cases hds; exact hd _ rfl)⟩, by simp, fun b' hb' => hne b' (fun e => himm (e ▸ hb'))⟩
  have hspE : ∀ b' x, b' ≠ b → ∀ k', E.sp b' = some k' → SpOk E w b' k' x → SpOk E (w.putObj k o') b' k' x := by
    intro b' x hb' k' hk' h
    have hkk : k' ≠ k := fun e => hb' (hE.spi b' b k (by rw [← e]; exact hk') hs)
    cases x with
    | omap ks vs =>
      obtain ⟨es, clock, h1, h2⟩ := h
      exact ⟨es, clock, (hne _ hkk).trans h1, h2.ext he⟩
    | oloop r T => exact ⟨(hne _ hkk).trans h.1, h.2⟩
    | oiter m n0 seen =>
      obtain ⟨km, last, h1, h2, h3⟩ := h
      exact ⟨km, last, (hne _ hkk).trans h1, h2, h3⟩
    | _ => exact h.elim
  refine ⟨he, ⟨fun b' hb' => by simpa using hE.lt b' hb', hE.below.trans ⟨rfl, rfl, rfl, by simp, fun k' hk' => hne k' (by omega)⟩, fun b' hb' => ?_, hE.spi, fun b' k' hk' => ?_, hE.spm, fun b' r T hl' => ?_⟩,
    ⟨fun b' cs hb' => ?_, hh.dom, hh.apart, by simpa using hh.size, hh.top, fun b' x hb' hx => ?_, hh.nsp⟩⟩
  · obtain ⟨ds, hds⟩ := hE.dm b' hb'
    exact ⟨ds, by rw [(he.dm b' hb').2]; exact hds⟩
  · obtain ⟨h1, h2, o1, h3, h4, h5⟩ := hE.spb b' k' hk'
    by_cases hkk : k' = k
    · subst hkk; exact ⟨h1, h2, o', hself, hc', hd'⟩
    · exact ⟨h1, h2, o1, (hne _ hkk).trans h3, h4, h5⟩
  · obtain ⟨k', st, p, h1, h2, h3⟩ := hE.lp b' r T hl'
    by_cases hkk : k' = k
    · subst hkk
      obtain rfl := hE.spi b' b _ h1 hs
      obtain ⟨st', p', rfl⟩ := hl r T hl'
      exact ⟨_, st', p', h1, hself, fun t => (h3 t).world hcs⟩
    · exact ⟨k', st, p, h1, (hne _ hkk).trans h2, fun t => (h3 t).world hcs⟩
  · rcases hh.box b' cs hb' with hn | ⟨blk, sz, hx⟩
    · exact .inl hn
    · obtain ⟨vals, ty, k1, k2, k3, k4⟩ := hx.cells
      exact .inr ⟨blk, sz, hx.mu, hx.base, hx.imm, vals, ty, (hne _ (hcell _ _ _ _ k1)).trans k1, k2, k3, fun i x hx' => by
        obtain ⟨v, e1, e2, e3⟩ := k4 i x hx'
        exact ⟨v, e1, e2, e3.world hcs⟩⟩
  · obtain ⟨k', h1, h2⟩ := hh.spec b' x hb' hx
    refine ⟨k', h1, hspE b' x (fun e => ?_) k' h1 h2⟩
    subst e; rw [hH x hb'] at hx; cases hx

/-- what a special box holds becomes known -/
theorem HeapOk.addSp {E : Env} {H : Hp} {nx : Nat} {w : World} (h : HeapOk E H nx w) {b k : Nat} {x : AV} (hb : b < nx) (hm : ∀ n, E.mu b n = none) (hs : E.sp b = some k) (hx : SpOk E w b k x) : HeapOk E (hupd H b [x]) nx w := by
  refine ⟨fun b' cs hb' => ?_, fun b' cs hb' => ?_, fun b1 b2 cs1 cs2 blk1 sz1 blk2 sz2 hb1 hb2 hne m1 m2 => ?_, h.size, fun b' cs m y hb' hm' => ?_, fun b' y hb' hy => ?_, fun b' hb' => ?_⟩
  · rcases hupd_some hb' with ⟨rfl, rfl⟩ | ⟨_, h1⟩
    · exact .inl (hm _)
    · exact h.box b' cs h1
  · rcases hupd_some hb' with ⟨rfl, rfl⟩ | ⟨_, h1⟩
    · exact hb
    · exact h.dom b' cs h1
  · rcases hupd_some hb1 with ⟨rfl, rfl⟩ | ⟨_, h1⟩
    · rw [hm] at m1; cases m1
    · rcases hupd_some hb2 with ⟨rfl, rfl⟩ | ⟨_, h2⟩
      · rw [hm] at m2; cases m2
      · exact h.apart b1 b2 cs1 cs2 blk1 sz1 blk2 sz2 h1 h2 hne m1 m2
  · rcases hupd_some hb' with ⟨rfl, rfl⟩ | ⟨_, h1⟩
    · rw [hm] at hm'; cases hm'
    · exact h.top b' cs m y h1 hm'
  · rcases hupd_some hb' with ⟨rfl, e⟩ | ⟨_, h1⟩
    · cases e; exact ⟨k, hs, hx⟩
    · exact h.spec b' y h1 hy
  · rcases hupd_some hb' with ⟨rfl, e⟩ | ⟨_, h1⟩
    · cases e
    · exact h.nsp b' h1

/-- A new special box. -/
theorem sp_new {E : Env} {H : Hp} {nx : Nat} {w : World} (hE : EnvOk E w) (hh : HeapOk E H nx w) (hf : FreeAt E nx) (o : Obj) (hc : isCells o = false) (hd : ∀ ds, o ≠ .deferred ds) :
    ∃ E', E' = { E with sp := fun b => if b = nx then some w.heap.size else E.sp b } ∧ Ext E w E' (w.alloc o) ∧ EnvOk E' (w.alloc o) ∧ HeapOk E' H (nx + 1) (w.alloc o) ∧ E'.sp nx = some w.heap.size ∧ (w.alloc o).heap[w.heap.size]? = some o := by
  let E' : Env := { E with sp := fun b => if b = nx then some w.heap.size else E.sp b }
  have hspo : ∀ b, b ≠ nx → E'.sp b = E.sp b := fun b hb => if_neg hb
  have hself : E'.sp nx = some w.heap.size := if_pos rfl
  have hspm : ∀ b x, E.sp b = some x → E'.sp b = some x := fun b x hb => by rw [hspo b (fun e => by subst e; rw [hf.2.1] at hb; cases hb)]; exact hb
  have hext : Ext E w E' (w.alloc o) :=
    ⟨rfl, rfl, fun _ h => h, fun _ h => .inl h, fun _ _ _ h => h, hspm, fun _ _ h => h, fun _ h => ⟨h, heap_push_old (hE.dlt h)⟩, by simp, fun b hb => heap_push_old (hE.lt b hb)⟩
  have hnew : (w.alloc o).heap[w.heap.size]? = some o := World.alloc_heap_new w o
  have hst := Still.alloc w o
  refine ⟨E', rfl, hext, ⟨fun b hb => ?_, hE.below.trans ((Below.refl _ _).alloc hh.size o), fun b hb => ?_, fun b b' k h1 h2 => ?_, fun b k hk => ?_, fun b k hk n => ?_, fun b r T hl => ?_⟩,
    ⟨fun b cs hb => ?_, fun b cs hb => Nat.lt_succ_of_lt (hh.dom b cs hb), hh.apart, by simpa using Nat.le_succ_of_le hh.size, hh.top, fun b x hb hx => ?_, fun b hb => ?_⟩, hself, hnew⟩
  · have := hE.lt b hb; simp; omega
  · obtain ⟨ds, h⟩ := hE.dm b hb; exact ⟨ds, hst _ _ h rfl⟩
  · by_cases hb : b = nx
    · subst hb
      rw [hself] at h1; cases h1
      by_cases hb' : b' = b
      · exact hb'.symm
      · rw [hspo b' hb'] at h2; have := hE.splt h2; omega
    · rw [hspo b hb] at h1
      by_cases hb' : b' = nx
      · subst hb'; rw [hself] at h2; cases h2; have := hE.splt h1; omega
      · rw [hspo b' hb'] at h2; exact hE.spi b b' k h1 h2
  · by_cases hb : b = nx
    · subst hb; rw [hself] at hk; cases hk
      exact ⟨hh.size, fun hi => by have := hE.lt _ hi; omega, o, hnew, hc, hd⟩
    · rw [hspo b hb] at hk
      obtain ⟨h1, h2, o1, h3, h4, h5⟩ := hE.spb b k hk
      exact ⟨h1, h2, o1, hst _ _ h3 h4, h4, h5⟩
  · by_cases hb : b = nx
    · subst hb; exact hf.1 n
    · rw [hspo b hb] at hk; exact hE.spm b k hk n
  · obtain ⟨k, st, p, h1, h2, h3⟩ := hE.lp b r T hl
    exact ⟨k, st, p, hspm _ _ h1, hst _ _ h2 rfl, fun t => (h3 t).ext hext⟩
  · rcases hh.box b cs hb with hn | ⟨blk, sz, hx⟩
    · exact .inl hn
    · obtain ⟨vals, ty, k1, k2, k3, k4⟩ := hx.cells
      exact .inr ⟨blk, sz, hx.mu, hx.base, hx.imm, vals, ty, (heap_push_old (Array.getElem?_eq_some_iff.1 k1).1).trans k1, k2, k3, fun i x hx' => by
        obtain ⟨v, e1, e2, e3⟩ := k4 i x hx'
        exact ⟨v, e1, e2, e3.ext hext⟩⟩
  · obtain ⟨k, h1, h2⟩ := hh.spec b x hb hx
    exact ⟨k, hspm _ _ h1, h2.ext hext (fun k o _ => hst k o)⟩
  · have := hh.dom b _ hb
    rw [hspo b (by omega)]; exact hh.nsp b hb

/-! ### a round -/
/-- What a call of yield does: yield is that of the loop whose box is b. -/
def Yl (P : Program) (b : Nat) (args : List AV) (H : Hp) (nx : Nat) (K : AV → Hp → Nat → Prop) : Prop :=
  ∀ (E : Env) (w : World) (vs : List Value), EnvOk E w → HeapOk E H nx w → Fresh E nx → RelL E w args vs →
    ∃ l r, E.sp b = some l ∧ w.heap[l]? = some (.loop r) ∧ vs.length = r.params.size ∧
      RoundIn Fence.wide 0 P l r.fn ((r.params.zip vs.toArray).foldl (fun tmps (t, a) => tmps.setIfInBounds t a) r.tmps) r.assign r.body w fun e w' =>
        ∃ v E' x H' nx', e = .returned v ∧ Ext E w E' w' ∧ EnvOk E' w' ∧ HeapOk E' H' nx' w' ∧ Fresh E' nx' ∧ Rel E' w' x v ∧ K x H' nx'

theorem Yl.mono {P : Program} {b : Nat} {args : List AV} {H : Hp} {nx : Nat} {K K' : AV → Hp → Nat → Prop} (h : Yl P b args H nx K) (hK : ∀ r H nx, K r H nx → K' r H nx) : Yl P b args H nx K' := by
  intro E w vs h1 h2 h3 h4
  obtain ⟨l, r, k1, k2, k3, k4⟩ := h E w vs h1 h2 h3 h4
  refine ⟨l, r, k1, k2, k3, k4.mono ?_⟩
  rintro e w' ⟨v, E', x, H', nx', m1, m2, m3, m4, m5, m6, m7⟩
  exact ⟨v, E', x, H', nx', m1, m2, m3, m4, m5, m6, hK _ _ _ m7⟩

theorem aspec_yield {P : Program} {f : Operand} {args : Array Operand} {ts : Array TypeId} {T : Tm} {H : Hp} {nx b : Nat} {K : AV → Hp → Nat → Prop} (hf : ev T f = .yld b) (h : Yl P b (args.toList.map (ev T)) H nx K) :
    aspec P (.call { callee := .value f, args := args, argTypes := ts }) T H nx K := by
  refine ⟨by intro c; simp, ?_⟩
  rintro rr E w a ⟨dst, op, type, pos, after, guard⟩ next Q ho hE hh hfr ht hn
  simp only at ho
  subst ho
  have hr := ev_rel (E := E) (w := w) (a := a) ht f
  rw [hf] at hr
  generalize hv : a.eval f = vf at hr
  cases hr with
  | yld _ l hl =>
  obtain ⟨l', r, k1, k2, k3, k4⟩ := h E w (args.toList.map a.eval) hE hh hfr (relL_map ht args.toList)
  rw [hl] at k1; cases k1
  have harr : args.map a.eval = (args.toList.map a.eval).toArray := arr_map a.eval args
  have hrun : (execOp a.eval ⟨dst, .call { callee := .value f, args := args, argTypes := ts }, type, pos, after, guard⟩).run P w = .ok (.round l r.fn ((r.params.zip (args.toList.map a.eval).toArray).foldl (fun tmps (t, a) => tmps.setIfInBounds t a) r.tmps) r.assign r.body) w := by
    have hy := run_yield (P := P) (args := (args.toList.map a.eval).toArray) k2 (by simpa using k3)
    unfold execOp
    simp only [resolve, hv, Deferred.ofValue, invoke, Sem.run_bind, Sem.run_pure, Result.andThen_ok, Array.empty_append]
    rw [harr]; exact hy
  rw [hrun, Oper.uponIn_round]
  refine ⟨(fun h => by cases h), ?_⟩
  refine (RoundIn.mono (F := FW rr) (show RoundIn (FW rr) 0 P l r.fn _ r.assign r.body w _ from k4) ?_)
  rintro e w' ⟨v, E', x, H', nx', rfl, m2, m3, m4, m5, m6, m7⟩
  exact hn E' H' nx' x v w' m2 m3 m4 m5 m6 m7

/-- the parameters of a loop take the values -/
def updl (T : Tm) : List Nat → List AV → Tm
  | t :: ts, x :: xs => updl (upd T t x) ts xs
  | _, _ => T

theorem updl_rel {E : Env} {w : World} : ∀ (ps : List Nat) (xs : List AV) (vs : List Value) (T : Tm) (tmps : Array Value), RelL E w xs vs → (∀ t ∈ ps, t < tmps.size) → (∀ t, Rel E w (T t) (tmps.getD t Go.undef)) →
    ((ps.zip vs).foldl (fun tmps (t, a) => tmps.setIfInBounds t a) tmps).size = tmps.size ∧ ∀ t, Rel E w (updl T ps xs t) (((ps.zip vs).foldl (fun tmps (t, a) => tmps.setIfInBounds t a) tmps).getD t Go.undef)
  | [], xs, vs, T, tmps, hl, hp, h => by simp [updl]; exact fun t => by simpa using h t
  | p :: ps, [], vs, T, tmps, hl, hp, h => by
    have : vs = [] := List.length_eq_zero_iff.1 hl.1
    subst this
    simp [updl]; exact fun t => by simpa using h t
  | p :: ps, x :: xs, vs, T, tmps, hl, hp, h => by
    cases vs with
    | nil => have := hl.1; simp at this
    | cons v vs =>
      have hx : Rel E w x v := hl.2 0 x v rfl rfl
      have hl' : RelL E w xs vs := ⟨by have := hl.1; simpa using this, fun i a b ha hb => hl.2 (i + 1) a b (by simpa using ha) (by simpa using hb)⟩
      have := updl_rel ps xs vs (upd T p x) (tmps.setIfInBounds p v) hl' (fun t ht => by simpa using hp t (by simp [ht])) (fun t => by
        simp only [upd]
        split
        · rename_i e; subst e
          have : t < tmps.size := hp t (by simp)
          simp [this]; exact hx
        · rename_i hne
          have e : (tmps.setIfInBounds p v).getD t Go.undef = tmps.getD t Go.undef := by
            simp only [Array.getD_eq_getD_getElem?]
            rw [Array.getElem?_setIfInBounds_ne (Ne.symm hne)]
          rw [e]; exact h t)
      refine ⟨by simpa using this.1, fun t => ?_⟩
      simpa [updl] using this.2 t

/-- the record of a loop, ready -/
structure Ready0 (n : Nat) (ps : Array Nat) (assign body : Code) (r : Loop) : Prop where
  params : r.params = ps
  assign : r.assign = assign
  body : r.body = body
  state : r.state = .ready
  pending : r.pending = none
  size : r.tmps.size = n

def jumpOf : AEx → Code
  | .exit i => .exit i
  | _ => .ret
/-- the box of a loop that has been left -/
def leftBox (r : Loop) (T : Tm) (e : AEx) : AV := .oloop { r with state := .done, pending := some (jumpOf e) } T

theorem ready_eq {n : Nat} {ps : Array Nat} {assign body : Code} {r : Loop} (h : Ready0 n ps assign body r) : { r with state := .ready, pending := none } = r := by
  have h1 := h.state
  have h2 := h.pending
  cases r
  simp only at h1 h2
  subst h1 h2
  rfl

theorem Yl.of_awp {P : Program} {n : Nat} {ps : Array Nat} {assign body : Code} {r : Loop} (hr : Ready0 n ps assign body r) (hm : P.follows .mixedOrders = true) (hps : ∀ t ∈ ps.toList, t < n)
    {b : Nat} {args : List AV} {T : Tm} {H : Hp} {nx : Nat} {K : AV → Hp → Nat → Prop} (hb : H b = some [.oloop r T]) (hl : args.length = ps.size)
    (h : awp P n assign (updl T ps.toList args) H nx fun e T2 H2 nx2 => athen e (H2 b = some [.oloop r T] ∧ awp P n body T2 (hdel H2 b) nx2 fun e T3 H3 nx3 =>
      athen e (K (.bool true) (hupd H3 b [.oloop r T]) nx3) (K (.bool false) (hupd H3 b [leftBox r T e]) nx3)) False) : Yl P b args H nx K := by
  intro E w vs hE hh hf hv
  obtain ⟨l, hs, hw, hlp⟩ := hh.spec b _ hb rfl
  have hlp : E.lp b = some (r, T) := by rw [← ready_eq hr]; exact hlp
  obtain ⟨l', st, p, e1, e2, hT⟩ := hE.lp b r T hlp
  rw [hs] at e1; cases e1
  obtain ⟨hbase, himm, _⟩ := hE.spb b l hs
  refine ⟨l, r, hs, hw, by rw [hr.params, hv.1, hl], ?_⟩
  refine roundIn_of_wpIn (F := Fence.wide) trivial ?_
  have htm := updl_rel ps.toList args vs T r.tmps hv (fun t ht => by rw [hr.size]; exact hps t ht) hT
  have hfold : (r.params.zip vs.toArray).foldl (fun tmps (t, a) => tmps.setIfInBounds t a) r.tmps = (ps.toList.zip vs).foldl (fun tmps (t, a) => tmps.setIfInBounds t a) r.tmps := by
    rw [hr.params, ← Array.foldl_toList]; simp
  rw [hfold, hr.assign, hr.body]
  have hS : Sim E ⟨n, 0, some l⟩ ⟨updl T ps.toList args, H, nx⟩ { tmps := (ps.toList.zip vs).foldl (fun tmps (t, a) => tmps.setIfInBounds t a) r.tmps, defers := [] } w :=
    ⟨hE, hh, hf, fun l' hl' => by cases hl'; exact ⟨b, _, hlp, hs⟩, Nat.zero_le _, by rw [← hr.size]; exact htm.1, htm.2, ⟨List.Pairwise.nil, fun d hd => (by cases hd)⟩⟩
  -- the record is written
  have put : ∀ (E1 : Env) (H1 : Hp) (nx1 : Nat) (w1 : World) (r1 : Loop) (st : LoopState) (p : Option Code), Ext E w E1 w1 → EnvOk E1 w1 → HeapOk E1 H1 nx1 w1 → w1.heap[l]? = some (.loop r1) →
      Ext E1 w1 E1 (w1.putObj l (.loop { r with state := st, pending := p })) ∧ EnvOk E1 (w1.putObj l (.loop { r with state := st, pending := p })) ∧ HeapOk E1 (hdel H1 b) nx1 (w1.putObj l (.loop { r with state := st, pending := p })) := by
    intro E1 H1 nx1 w1 r1 st p he1 hE1 hh1 hw1
    refine sp_set hE1 (hh1.del b) (he1.sp _ _ hs) hw1 rfl rfl (by intro ds; simp) (by intro ds; simp) (fun r' T' h' => ?_) (fun x hx => ?_)
    · rw [he1.lp _ _ hlp] at h'; cases h'; exact ⟨st, p, rfl⟩
    · rw [hdel_self] at hx; cases hx
  have static : ∀ (E1 : Env) (w1 : World), Ext E w E1 w1 → EnvOk E1 w1 → ∃ st p, w1.heap[l]? = some (.loop { r with state := st, pending := p }) := by
    intro E1 w1 he1 hE1
    obtain ⟨l1, st1, p1, f1, f2, _⟩ := hE1.lp b r T (he1.lp _ _ hlp)
    rw [he1.sp _ _ hs] at f1; cases f1
    exact ⟨st1, p1, f2⟩
  refine wpIn_mono (F := FW (some l)) (awp_sound hm assign hS h) ?_
  rintro e a1 w1 ⟨x, E1, T1, H1, nx1, rfl, he1, hS1, hk⟩
  cases x with
  | exit i => exact hk.elim
  | ret => exact hk.elim
  | normal =>
  obtain ⟨hb1, hk⟩ := hk
  obtain ⟨l1, g1, g2, _⟩ := hS1.heap.spec b _ hb1 rfl
  rw [he1.sp _ _ hs] at g1; cases g1
  refine ⟨_, run_beginRound g2 hr.state, ?_⟩
  have hbusy : ({ r with state := .busy } : Loop) = { r with state := .busy, pending := none } := by have := hr.pending; cases r; simp only at this; subst this; rfl
  rw [hbusy]
  obtain ⟨p1, p2, p3⟩ := put E1 H1 nx1 w1 r .busy none he1 hS1.env hS1.heap g2
  have hS2 : Sim E1 ⟨n, 0, some l⟩ ⟨T1, hdel H1 b, nx1⟩ a1 (w1.putObj l (.loop { r with state := .busy, pending := none })) :=
    ⟨p2, p3, hS1.fresh, hS1.round, Nat.zero_le _, hS1.size, fun t => (hS1.tmps t).ext p1, hS1.defers.ext p1⟩
  refine wpIn_mono (F := FW (some l)) (awp_sound hm body hS2 hk) ?_
  rintro e a3 w3 ⟨x, E3, T3, H3, nx3, rfl, he3, hS3, hk3⟩
  have he03 : Ext E w E3 w3 := (he1.trans p1).trans he3
  obtain ⟨st3, pd3, hw3⟩ := static E3 w3 he03 hS3.env
  have hlt3 : b < nx3 := by
    rcases Nat.lt_or_ge b nx3 with h | h
    · exact h
    · have := (hS3.fresh b h).2.1
      rw [he03.sp _ _ hs] at this; cases this
  have hl3 := Array.getElem?_eq_some_iff.1 hw3
  have fin : ∀ (st : LoopState) (jump : Option Code) (v : Bool), K (.bool v) (hupd H3 b [.oloop { r with state := st, pending := jump } T]) nx3 → st = (if jump.isNone then .ready else .done) → v = jump.isNone →
      ∃ v' w', (Instr.endRound l jump).run P w3 = .ok v' w' ∧ ∃ v E' x H' nx', Ending.returned v' = .returned v ∧ Ext E w E' w' ∧ EnvOk E' w' ∧ HeapOk E' H' nx' w' ∧ Fresh E' nx' ∧ Rel E' w' x v ∧ K x H' nx' := by
    intro st jump v hK hst hv
    obtain ⟨q1, q2, q3⟩ := put E3 H3 nx3 w3 _ st jump he03 hS3.env hS3.heap hw3
    have q4 := q3.addSp (x := .oloop { r with state := st, pending := jump } T) hlt3 (q2.spm b l (he03.sp _ _ hs)) (he03.sp _ _ hs) ⟨World.putObj_heap_same hl3.1, by
      have := he03.lp _ _ hlp; rw [← ready_eq hr] at this; exact this⟩
    have hH : hupd (hdel H3 b) b [.oloop { r with state := st, pending := jump } T] = hupd H3 b [.oloop { r with state := st, pending := jump } T] := by
      funext y; unfold hupd hdel; split <;> rfl
    rw [hH] at q4
    refine ⟨_, _, run_endRound jump hw3, ?_⟩
    subst hv
    refine ⟨.bool jump.isNone, E3, .bool jump.isNone, _, nx3, rfl, ?_, ?_, ?_, hS3.fresh, .bool _, hK⟩
    · subst hst; exact he03.trans q1
    · subst hst; exact q2
    · subst hst; exact q4
  cases x with
  | normal =>
    have hk3 : K (.bool true) (hupd H3 b [.oloop r T]) nx3 := hk3
    rw [← ready_eq hr] at hk3
    exact fin .ready none true hk3 rfl rfl
  | exit i => exact fin .done (some (.exit i)) false hk3 rfl rfl
  | ret => exact fin .done (some .ret) false hk3 rfl rfl

/-! ### the loop -/
/-- the block for a loop's deferred calls -/
theorem dm_new {E : Env} {H : Hp} {nx : Nat} {w : World} (hE : EnvOk E w) (hh : HeapOk E H nx w) :
    ∃ E', E' = { E with dm := fun b => E.dm b ∨ b = w.heap.size } ∧ Ext E w E' (w.alloc (.deferred (some []))) ∧ EnvOk E' (w.alloc (.deferred (some []))) ∧ HeapOk E' H nx (w.alloc (.deferred (some []))) := by
  let E' : Env := { E with dm := fun b => E.dm b ∨ b = w.heap.size }
  have hext : Ext E w E' (w.alloc (.deferred (some []))) :=
    ⟨rfl, rfl, fun _ h => h, fun _ h => .inl h, fun _ _ _ h => h, fun _ _ h => h, fun _ _ h => h, fun b h => ⟨.inl h, heap_push_old (hE.dlt h)⟩, by simp, fun b hb => heap_push_old (hE.lt b hb)⟩
  have hst := Still.alloc w (.deferred (some []))
  refine ⟨E', rfl, hext, ⟨fun b hb => ?_, hE.below.trans ((Below.refl _ _).alloc hh.size _), fun b hb => ?_, hE.spi, fun b k hk => ?_, hE.spm, fun b r T hl => ?_⟩, ?_⟩
  · have := hE.lt b hb; simp; omega
  · rcases hb with hb | rfl
    · obtain ⟨ds, h⟩ := hE.dm b hb; exact ⟨ds, hst _ _ h rfl⟩
    · exact ⟨some [], World.alloc_heap_new w _⟩
  · obtain ⟨h1, h2, o, h3, h4, h5⟩ := hE.spb b k hk
    exact ⟨h1, h2, o, hst _ _ h3 h4, h4, h5⟩
  · obtain ⟨k, st, p, h1, h2, h3⟩ := hE.lp b r T hl
    exact ⟨k, st, p, h1, hst _ _ h2 rfl, fun t => (h3 t).ext hext⟩
  · exact hh.step hext (fun _ h => .inl h) (Nat.le_refl _) (fun _ _ _ _ => rfl) (fun b cs blk sz hb hm => heap_push_old (hh.blk_lt hb hm).1) hst rfl

/-- the record of a new loop -/
theorem loop_new {E : Env} {H : Hp} {nx n : Nat} {w : World} (hE : EnvOk E w) (hh : HeapOk E H nx w) (hf : Fresh E nx) {r : Loop} {T : Tm} {ps : Array Nat} {assign body : Code} (hr : Ready0 n ps assign body r) (hT : ∀ t, Rel E w (T t) (r.tmps.getD t Go.undef)) :
    ∃ E', Ext E w E' (w.alloc (.loop r)) ∧ EnvOk E' (w.alloc (.loop r)) ∧ HeapOk E' (hupd H nx [.oloop r T]) (nx + 1) (w.alloc (.loop r)) ∧ Fresh E' (nx + 1) ∧ E'.sp nx = some w.heap.size ∧ E'.lp nx = some (r, T) ∧ E'.dm = E.dm := by
  obtain ⟨E1, hE1, he, hE', hh', hs, hnew⟩ := sp_new hE hh (hf nx (Nat.le_refl _)) (.loop r) rfl (by intro ds; simp)
  let E2 : Env := { E1 with lp := fun b => if b = nx then some (r, T) else E1.lp b }
  have hlp1 : E1.lp = E.lp := by rw [hE1]
  have hlpo : ∀ b x, E1.lp b = some x → E2.lp b = some x := fun b x hb => by
    show (if b = nx then some (r, T) else E1.lp b) = some x
    rw [if_neg (fun e => by subst e; rw [hlp1, (hf b (Nat.le_refl _)).2.2] at hb; cases hb)]; exact hb
  have hself : E2.lp nx = some (r, T) := if_pos rfl
  have he2 : Ext E1 (w.alloc (.loop r)) E2 (w.alloc (.loop r)) :=
    ⟨rfl, rfl, fun _ h => h, fun _ h => .inl h, fun _ _ _ h => h, fun _ _ h => h, hlpo, fun _ h => ⟨h, rfl⟩, Nat.le_refl _, fun _ _ => rfl⟩
  have hE2 : EnvOk E2 (w.alloc (.loop r)) := ⟨hE'.lt, hE'.below, hE'.dm, hE'.spi, hE'.spb, hE'.spm, fun b r' T' hl => by
    by_cases hb : b = nx
    · subst hb; rw [hself] at hl; cases hl
      exact ⟨w.heap.size, r.state, r.pending, hs, hnew, fun t => (hT t).ext (he.trans he2)⟩
    · have hl : E1.lp b = some (r', T') := by rw [← hl]; exact (if_neg hb).symm
      obtain ⟨k, st, p, h1, h2, h3⟩ := hE'.lp b r' T' hl
      exact ⟨k, st, p, h1, h2, fun t => (h3 t).ext he2⟩⟩
  have hh2 : HeapOk E2 H (nx + 1) (w.alloc (.loop r)) := hh'.step he2 (fun _ h => .inl h) (Nat.le_refl _) (fun _ _ _ _ => rfl) (fun _ _ _ _ _ _ => rfl) (Still.refl _) rfl
  refine ⟨E2, he.trans he2, hE2, ?_, fun b hb => ?_, hs, hself, by show E1.dm = E.dm; rw [hE1]⟩
  · refine hh2.addSp (Nat.lt_succ_self _) (hE2.spm nx _ hs) hs ⟨hnew, ?_⟩
    rw [hself, ready_eq hr]
  · have h0 := hf b (by omega)
    refine ⟨fun n => ?_, ?_, ?_⟩
    · show E1.mu b n = none; rw [hE1]; exact h0.1 n
    · show E1.sp b = none; rw [hE1]; show (if b = nx then _ else _) = none; rw [if_neg (by omega)]; exact h0.2.1
    · show (if b = nx then _ else E1.lp b) = none; rw [if_neg (by omega), hlp1]; exact h0.2.2

/-- how a loop is left -/
def RFpost (r : Loop) (T : Tm) (b : Nat) (K : CP) : Hp → Nat → Prop := fun H nx =>
  (H b = some [.oloop r T] ∧ K .normal T (hdel H b) nx) ∨ ∃ e, e ≠ .normal ∧ H b = some [leftBox r T e] ∧ K e T (hdel H b) nx

theorem RF_of {P : Program} {n : Nat} {g : Operand} {ps : Array Nat} {assign body : Code} {T : Tm} {H : Hp} {nx : Nat} {K : CP} {f : FuncId} {caps : List AV} (hf : ev T g = .func f caps)
    (h : ∀ r : Loop, Ready0 n ps assign body r → Fn P f (.yld nx :: caps) (hupd H nx [.oloop r T]) (nx + 1) fun _ H' nx' => RFpost r T nx K H' nx') : RF P n (.rangeFunc g ps assign body) T H nx K := by
  intro N E a w hn hS
  refine wpIn_rangeFunc (F := FW N.rd) (n := 0) ?_
  intro fn _
  -- the world in which the iterator is called
  have hgo : ∃ (l dd : Nat) (mark : List Deferred) (w₁ : World) (E1 : Env), (Instr.enterLoop fn a.tmps ps assign body N.rd).run P w = .ok (l, mark) (w₁.alloc (.loop { state := .ready, pending := none, fn, tmps := a.tmps, params := ps, assign, body, defers := dd })) ∧
      l = w₁.heap.size ∧ Ext E w E1 w₁ ∧ EnvOk E1 w₁ ∧ HeapOk E1 H nx w₁ ∧ Fresh E1 nx ∧ Marks E1 N w₁ (mark ++ a.defers) := by
    cases hrd : N.rd with
    | none =>
      obtain ⟨E1, hE1, he, hE', hh'⟩ := dm_new hS.env hS.heap
      refine ⟨w.heap.size + 1, w.heap.size, [{ target := .collected w.heap.size, args := #[] }], _, E1, run_enterLoop_outer _ _ _ _ _, by simp, he, hE', hh', by rw [hE1]; exact hS.fresh, ?_⟩
      refine ⟨List.pairwise_cons.2 ⟨fun d hd => ?_, hS.defers.1⟩, fun d hd => ?_⟩
      · obtain ⟨D, rfl, _, _, hD, _⟩ := hS.defers.2 d hd
        have := hS.env.dlt hD
        intro e; simp at e; omega
      · rcases List.mem_cons.1 hd with rfl | hd
        · exact ⟨w.heap.size, rfl, by rw [he.base]; exact hS.heap.size, hS.floor, by rw [hE1]; exact .inr rfl, World.alloc_heap_new w _⟩
        · exact (hS.defers.ext he).2 d hd
    | some l0 =>
      obtain ⟨b, ⟨r0, T0⟩, h1, h2⟩ := hS.round l0 hrd
      obtain ⟨k, st, p, e1, e2, _⟩ := hS.env.lp b r0 T0 h1
      rw [h2] at e1; cases e1
      exact ⟨w.heap.size, r0.defers, [], w, E, run_enterLoop_inner e2 _ _ _ _ _, rfl, Ext.refl _ _, hS.env, hS.heap, hS.fresh, hS.defers⟩
  obtain ⟨l, dd, mark, w₁, E1, hrun, hl, he1, hE1, hh1, hf1, hmk⟩ := hgo
  have hr : Ready0 n ps assign body { state := .ready, pending := none, fn, tmps := a.tmps, params := ps, assign, body, defers := dd } := ⟨rfl, rfl, rfl, rfl, rfl, by show a.tmps.size = n; rw [hS.size, hn]⟩
  generalize hrr : ({ state := .ready, pending := none, fn, tmps := a.tmps, params := ps, assign, body, defers := dd } : Loop) = r at hr hrun
  have hrt : r.tmps = a.tmps := by subst hrr; rfl
  obtain ⟨E2, he2, hE2, hh2, hf2, hsp, hlp, hdm⟩ := loop_new hE1 hh1 hf1 (T := T) hr (fun t => by rw [hrt]; exact (hS.tmps t).ext he1)
  rw [← hl] at hsp
  have hfn := h r hr
  have hfr := ev_rel (E := E) (w := w) (a := a) hS.tmps g
  simp only at hfr
  rw [hf] at hfr
  generalize hvg : a.eval g = vg at hfr
  cases hfr with
  | func _ _ cv hcl hcr =>
  have he12 := he1.trans he2
  refine ⟨l, mark, w₁.alloc (.loop r), { target := .fn (.func f) cv.toArray, args := #[.func (.yield l) #[] #[]] }, w₁.alloc (.loop r), f, #[.func (.yield l) #[] #[]] ++ cv.toArray, w₁.alloc (.loop r), hrun, ?_, fun _ _ => trivial, ?_, (fun h => by cases h), ?_⟩
  · simp only [resolve, hvg]
    simp [go_sem]
  · simp only [invoke]
    exact run_callFunc hfn.1 _ _
  · have hargs : RelL E2 (w₁.alloc (.loop r)) (.yld nx :: caps) (.func (.yield l) #[] #[] :: cv) := by
      refine ⟨by simp [hcl], fun i x y hx hy => ?_⟩
      cases i with
      | zero => simp at hx hy; subst hx hy; exact .yld _ _ hsp
      | succ i => exact (hcr i x y (by simpa using hx) (by simpa using hy)).ext he12
    have hcalls := hfn.2 E2 _ _ hE2 hh2 hf2 hargs
    have harr : #[.func (.yield l) #[] #[]] ++ cv.toArray = (.func (.yield l) #[] #[] :: cv : List Value).toArray := by simp
    rw [harr]
    refine (callsIn_FW (r := N.rd) (n := 0 - 1) hcalls).mono ?_
    rintro e w' ⟨v, E', x, H', nx', rfl, he', hE', hh', hf', _, hpost⟩
    have hsp' := he'.sp _ _ hsp
    have hlp' := he'.lp _ _ hlp
    have fin : ∀ (r1 : Loop) (T1 : Tm), H' nx = some [.oloop r1 T1] → r1.state ≠ .busy → ∃ w4, (Instr.endLoop l).run P w' = .ok r1.pending w4 ∧ ∃ E4, Ext E w E4 w4 ∧ Sim E4 N ⟨T, hdel H' nx, nx'⟩ { a with defers := mark ++ a.defers } w4 := by
      intro r1 T1 hb hst
      obtain ⟨l1, g1, g2, g3⟩ := hh'.spec nx _ hb rfl
      rw [hsp'] at g1; cases g1
      refine ⟨_, run_endLoop g2 hst, E', ?_⟩
      rw [hlp'] at g3
      injection g3 with g3; injection g3 with g3 _
      obtain ⟨q1, q2, q3⟩ := sp_set hE' (hh'.del nx) hsp' g2 (o' := .loop { r1 with state := .exhausted }) rfl rfl (by intro ds; simp) (by intro ds; simp) (fun r' T' h' => by
        rw [hlp'] at h'; cases h'
        exact ⟨.exhausted, r1.pending, by rw [g3]⟩) (fun x hx => by rw [hdel_self] at hx; cases hx)
      have heAll : Ext E w E' (w'.putObj l (.loop { r1 with state := .exhausted })) := (he12.trans he').trans q1
      refine ⟨heAll, q2, q3, hf', fun l' hl' => ?_, Nat.le_trans hS.floor heAll.size, hS.size, fun t => (hS.tmps t).ext heAll, hmk.ext ((he2.trans he').trans q1)⟩
      obtain ⟨b, x, h1, h2⟩ := hS.round l' hl'
      exact ⟨b, x, heAll.lp _ _ h1, heAll.sp _ _ h2⟩
    rcases hpost with ⟨hb, hk⟩ | ⟨e, hne, hb, hk⟩
    · obtain ⟨w4, h1, E4, h2, h3⟩ := fin r T hb (by rw [hr.state]; simp)
      rw [hr.pending] at h1
      exact ⟨none, w4, h1, .normal, E4, T, _, nx', rfl, h2, h3, hk⟩
    · obtain ⟨w4, h1, E4, h2, h3⟩ := fin _ T hb (by simp)
      refine ⟨_, w4, h1, ?_⟩
      cases e with
      | normal => exact absurd rfl hne
      | exit i => exact wpIn_exit ⟨.exit i, E4, T, _, nx', rfl, h2, h3, hk⟩
      | ret => exact wpIn_ret ⟨.ret, E4, T, _, nx', rfl, h2, h3, hk⟩

end Go.Abs
