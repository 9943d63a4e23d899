/- How the heap of boxes goes along: new boxes, stores, appends. -/
import Derived.Test.YtcbkggfipdldaaaXAbsA4
import Derived.Laws.CopyOwn
import Derived.Laws.CopyRow
import Derived.Laws.Tables
set_option linter.unusedVariables false
namespace Go.Abs
open Go.RowKit

def AV.one : AV → Bool
  | .undef | .agg _ | .tup _ | .omap _ _ | .oloop _ _ | .oiter _ _ _ => false
  | _ => true

theorem AV.one_special {x : AV} (h : x.one = true) : x.special = false := by cases x <;> first | rfl | (cases h; done)

theorem Rel.one {E : Env} {w : World} {x : AV} {v : Value} (h : Rel E w x v) (ho : x.one = true) : v.oneCell' = true := by
  cases h <;> first | rfl | (simp [AV.one] at ho; done) | skip
  case msl0 b sz h => rcases h with rfl | ⟨_, _, rfl⟩ <;> rfl

/-- all cells are known and single -/
def AV.flat (x : AV) : Bool := x.cells.all AV.one

theorem Rel.cells {E : Env} {w : World} {x : AV} {v : Value} (h : Rel E w x v) (hf : x.flat = true) :
    v.cells.toList.length = x.cells.length ∧ (∀ (i : Nat) (a : AV) (y : Value), x.cells[i]? = some a → v.cells.toList[i]? = some y → Rel E w a y) ∧ (∀ y ∈ v.cells.toList, y.oneCell' = true) := by
  have hone : ∀ (hx : x.cells = [x]) (hv : v.cells = #[v]), v.cells.toList.length = x.cells.length ∧ (∀ (i : Nat) (a : AV) (y : Value), x.cells[i]? = some a → v.cells.toList[i]? = some y → Rel E w a y) ∧ (∀ y ∈ v.cells.toList, y.oneCell' = true) := by
    intro hx hv
    have ho : x.one = true := by simpa [AV.flat, hx] using hf
    rw [hx, hv]
    refine ⟨rfl, ?_, ?_⟩
    · intro i a y ha hy
      cases i with
      | zero => simp at ha hy; subst ha hy; exact h
      | succ i => simp at ha
    · intro y hy; simp at hy; subst hy; exact h.one ho
  cases h with
  | agg cs vs hl hr =>
    refine ⟨by simpa [Value.cells, AV.cells] using hl, by simpa [Value.cells, AV.cells] using hr, ?_⟩
    intro y hy
    simp [Value.cells] at hy
    obtain ⟨i, hi⟩ := List.getElem?_of_mem hy
    have hlt : i < cs.length := by have := (List.getElem?_eq_some_iff.1 hi).1; omega
    have := hr i cs[i] y (by simp [hlt]) hi
    refine this.one ?_
    have hall : cs.all AV.one = true := hf
    exact List.all_eq_true.1 hall _ (List.getElem_mem hlt)
  | undef v => simp [AV.flat, AV.cells, AV.one] at hf
  | tup cs vs hl hr => simp [AV.flat, AV.cells, AV.one] at hf
  | msl0 b sz v h => rcases h with rfl | ⟨_, _, rfl⟩ <;> exact hone rfl rfl
  | _ => exact hone rfl rfl

/-- every block but rows of cells stays -/
def Still (w w' : World) : Prop := ∀ (k : Nat) (o : Obj), w.heap[k]? = some o → isCells o = false → w'.heap[k]? = some o

theorem Still.refl (w : World) : Still w w := fun _ _ h _ => h
theorem Still.trans {w w' w'' : World} (h : Still w w') (h' : Still w' w'') : Still w w'' := fun k o ho hc => h' k o (h k o ho hc) hc

theorem EnvOk.step {E E' : Env} {w w' : World} (h : EnvOk E w) (he : Ext E w E' w') (hn : ∀ b, E'.imm b → E.imm b ∨ b < w'.heap.size) (hns : ∀ k, E'.imm k → E.imm k ∨ ∀ b, E.sp b ≠ some k) (hb : Below E.base w w') (hst : Still w w') (hsp : E'.sp = E.sp) (hlp : E'.lp = E.lp) (hdm : E'.dm = E.dm) (hmu : ∀ b k, E.sp b = some k → ∀ n, E'.mu b n = E.mu b n) : EnvOk E' w' := by
  refine ⟨fun b hb' => ?_, ?_, fun b hb' => ?_, ?_, fun b k hk => ?_, fun b k hk n => ?_, fun b r T hl => ?_⟩
  · rcases hn b hb' with h1 | h1
    · exact Nat.lt_of_lt_of_le (h.lt b h1) he.size
    · exact h1
  · rw [he.base, he.w0]; exact h.below.trans hb
  · rw [hdm] at hb'; obtain ⟨ds, hd⟩ := h.dm b hb'; exact ⟨ds, hst _ _ hd rfl⟩
  · rw [hsp]; exact h.spi
  · rw [hsp] at hk
    obtain ⟨h1, h2, o, h3, h4, h5⟩ := h.spb b k hk
    refine ⟨by rw [he.base]; exact h1, fun hi => ?_, o, hst _ _ h3 h4, h4, h5⟩
    rcases hns k hi with h6 | h6
    · exact h2 h6
    · exact h6 b hk
  · rw [hsp] at hk; rw [hmu b k hk n]; exact h.spm b k hk n
  · rw [hlp] at hl
    obtain ⟨k, st, p, h1, h2, h3⟩ := h.lp b r T hl
    exact ⟨k, st, p, by rw [hsp]; exact h1, hst _ _ h2 rfl, fun t => (h3 t).ext he⟩

/-- the same data -/
theorem EnvOk.step0 {E E' : Env} {w w' : World} (h : EnvOk E w) (he : Ext E w E' w') (hi : E'.imm = E.imm) (hb : Below E.base w w') (hst : Still w w') (hsp : E'.sp = E.sp) (hlp : E'.lp = E.lp) (hdm : E'.dm = E.dm) (hmu : ∀ b k, E.sp b = some k → ∀ n, E'.mu b n = E.mu b n) : EnvOk E' w' :=
  h.step he (fun b hb => .inl (by rw [hi] at hb; exact hb)) (fun k hk => .inl (by rw [hi] at hk; exact hk)) hb hst hsp hlp hdm hmu

theorem MapOk.ext {E E' : Env} {w w' : World} (he : Ext E w E' w') {ks vs : List AV} {es : Array MapEntry} {clock : Nat} (h : MapOk E w ks vs es clock) : MapOk E' w' ks vs es clock :=
  ⟨h.len, h.len', fun i x e h1 h2 => (h.key i x e h1 h2).ext he, fun i x e h1 h2 => (h.val i x e h1 h2).ext he, h.born, h.clk⟩

theorem SpOk.ext {E E' : Env} {w w' : World} (he : Ext E w E' w') (hst : ∀ (k : Nat) (o : Obj), E.sp k = none ∨ True → w.heap[k]? = some o → isCells o = false → w'.heap[k]? = some o) {b k : Nat} {x : AV} (h : SpOk E w b k x) : SpOk E' w' b k x := by
  cases x with
  | omap ks vs =>
    obtain ⟨es, clock, h1, h2⟩ := h
    exact ⟨es, clock, hst _ _ (.inr trivial) h1 rfl, h2.ext he⟩
  | oloop r T => exact ⟨hst _ _ (.inr trivial) h.1 rfl, he.lp _ _ h.2⟩
  | oiter m n0 seen =>
    obtain ⟨km, last, h1, h2, h3⟩ := h
    exact ⟨km, last, hst _ _ (.inr trivial) h1 rfl, he.sp _ _ h2, h3⟩
  | _ => exact h.elim

/-- The boxes stay where their blocks do. -/
theorem HeapOk.step {E E' : Env} {H : Nat → Option (List AV)} {nx nx' : Nat} {w w' : World} (h : HeapOk E H nx w) (he : Ext E w E' w')
    (hi : ∀ b, E'.imm b → E.imm b ∨ w.heap.size ≤ b) (hnx : nx ≤ nx')
    (hv : ∀ b cs, H b = some cs → ∀ m, E'.mu b m = E.mu b m)
    (hk : ∀ b cs blk sz, H b = some cs → E.mu b cs.length = some (blk, sz) → w'.heap[blk]? = w.heap[blk]?) (hst : Still w w') (hsp : E'.sp = E.sp) : HeapOk E' H nx' w' := by
  refine ⟨?_, fun b cs hb => Nat.lt_of_lt_of_le (h.dom b cs hb) hnx, ?_, by rw [he.base]; exact Nat.le_trans h.size he.size, fun b cs m x hb hm => h.top b cs m x hb (by rw [← hv b cs hb m]; exact hm), fun b x hb hx => ?_, fun b hb => by rw [hsp]; exact h.nsp b hb⟩
  · intro b cs hb
    rcases h.box b cs hb with hn | ⟨blk, sz, hx⟩
    · exact .inl (by rw [hv b cs hb]; exact hn)
    obtain ⟨vals, ty, h1, h2, h3, h4⟩ := hx.cells
    refine .inr ⟨blk, sz, he.mu _ _ _ hx.mu, by rw [he.base]; exact hx.base, ?_, vals, ty, by rw [hk b cs blk sz hb hx.mu]; exact h1, h2, h3, ?_⟩
    · intro him
      rcases hi blk him with h5 | h5
      · exact hx.imm h5
      · have := (Array.getElem?_eq_some_iff.1 h1).1; omega
    · intro i x hx'
      obtain ⟨v, hv, ho, hr⟩ := h4 i x hx'
      exact ⟨v, hv, ho, hr.ext he⟩
  · have key : ∀ b cs blk sz, H b = some cs → E'.mu b cs.length = some (blk, sz) → E.mu b cs.length = some (blk, sz) := by
      intro b cs blk sz hb hm
      rw [hv b cs hb] at hm; exact hm
    intro b b' cs cs' blk sz blk' sz' hb hb' hne h1 h2
    exact h.apart b b' cs cs' blk sz blk' sz' hb hb' hne (key _ _ _ _ hb h1) (key _ _ _ _ hb' h2)
  · obtain ⟨k, h1, h2⟩ := h.spec b x hb hx
    exact ⟨k, he.sp _ _ h1, h2.ext he (fun k o _ => hst k o)⟩

theorem rel_special {E : Env} {w : World} {x : AV} {v : Value} (h : Rel E w x v) : x.special = false := by cases h <;> rfl

def hupd (H : Nat → Option (List AV)) (b : Nat) (cs : List AV) : Nat → Option (List AV) := fun x => if x = b then some cs else H x

theorem heap_push_old {w : World} {o : Obj} {k : Nat} (h : k < w.heap.size) : (w.alloc o).heap[k]? = w.heap[k]? := Below.heap_alloc w o k h

/-- A new block that no box is in. -/
theorem Still.alloc (w : World) (o : Obj) : Still w (w.alloc o) := fun k o' h _ => by
  rw [heap_push_old (Array.getElem?_eq_some_iff.1 h).1]; exact h

theorem EnvOk.dlt {E : Env} {w : World} (hE : EnvOk E w) {b : Nat} (h : E.dm b) : b < w.heap.size := by
  obtain ⟨ds, hd⟩ := hE.dm b h; exact (Array.getElem?_eq_some_iff.1 hd).1

theorem EnvOk.splt {E : Env} {w : World} (hE : EnvOk E w) {b k : Nat} (h : E.sp b = some k) : k < w.heap.size := by
  obtain ⟨_, _, o, hd, _⟩ := hE.spb b k h; exact (Array.getElem?_eq_some_iff.1 hd).1

theorem Ext.alloc (E : Env) (w : World) (o : Obj) (hE : EnvOk E w) : Ext E w E (w.alloc o) :=
  ⟨rfl, rfl, fun _ h => h, fun _ h => .inl h, fun _ _ _ h => h, fun _ _ h => h, fun _ _ h => h, fun _ h => ⟨h, heap_push_old (hE.dlt h)⟩, by simp, fun b hb => heap_push_old (hE.lt b hb)⟩

theorem HeapOk.blk_lt {E : Env} {H : Nat → Option (List AV)} {nx : Nat} {w : World} (h : HeapOk E H nx w) {b : Nat} {cs : List AV} {blk sz : Nat} (hb : H b = some cs) (hm : E.mu b cs.length = some (blk, sz)) :
    blk < w.heap.size ∧ E.base ≤ blk ∧ ¬ E.imm blk := by
  rcases h.box b cs hb with hn | ⟨blk', sz', hx⟩
  · rw [hn] at hm; cases hm
  · rw [hx.mu] at hm; cases hm
    obtain ⟨vals, ty, h1, _⟩ := hx.cells
    exact ⟨(Array.getElem?_eq_some_iff.1 h1).1, hx.base, hx.imm⟩

theorem HeapOk.alloc {E : Env} {H : Nat → Option (List AV)} {nx : Nat} {w : World} (h : HeapOk E H nx w) (hE : EnvOk E w) (o : Obj) : HeapOk E H nx (w.alloc o) :=
  h.step (Ext.alloc E w o hE) (fun _ h => .inl h) (Nat.le_refl _) (fun _ _ _ _ => rfl) (fun b cs blk sz hb hm => heap_push_old (h.blk_lt hb hm).1) (Still.alloc w o) rfl

theorem EnvOk.alloc {E : Env} {w : World} (hE : EnvOk E w) (hs : E.base ≤ w.heap.size) (o : Obj) : EnvOk E (w.alloc o) :=
  hE.step0 (Ext.alloc E w o hE) rfl ((Below.refl _ _).alloc hs o) (Still.alloc w o) rfl rfl rfl (fun _ _ _ _ => rfl)

/-- A box is laid into a new block. -/
theorem HeapOk.place {E : Env} {H : Nat → Option (List AV)} {nx nx' : Nat} {w : World} (h : HeapOk E H nx w) (hE : EnvOk E w) {b : Nat} {cs' : List AV} (hb : b < nx') (hnx : nx ≤ nx') (hold : ∀ m x, E.mu b m = some x → m < cs'.length) (hnsp : E.sp b = none)
    (vals : Array Value) (ty : TypeId) (hl : cs'.length ≤ vals.size)
    (hr : ∀ (i : Nat) (x : AV), cs'[i]? = some x → ∃ v : Value, vals[i]? = some v ∧ v.oneCell' = true ∧ Rel E w x v) :
    ∃ E', Ext E w E' (w.alloc (.cells vals ty)) ∧ EnvOk E' (w.alloc (.cells vals ty)) ∧ HeapOk E' (hupd H b cs') nx' (w.alloc (.cells vals ty)) ∧ E'.mu b cs'.length = some (w.heap.size, vals.size) ∧ (∀ b, E'.imm b → E.imm b) ∧ (∀ b' n, b' ≠ b → E'.mu b' n = E.mu b' n) ∧ E'.sp = E.sp ∧ E'.lp = E.lp := by
  let E' : Env := { E with mu := fun b' n => if b' = b ∧ n = cs'.length then some (w.heap.size, vals.size) else E.mu b' n }
  have hmuE : ∀ b' n x, E.mu b' n = some x → E'.mu b' n = some x := by
    intro b' n x hm
    show (if b' = b ∧ n = cs'.length then some (w.heap.size, vals.size) else E.mu b' n) = some x
    split
    · rename_i hc
      obtain ⟨rfl, rfl⟩ := hc
      have := hold _ _ hm; omega
    · exact hm
  have hext : Ext E w E' (w.alloc (.cells vals ty)) :=
    ⟨rfl, rfl, fun _ h => h, fun _ h => .inl h, hmuE, fun _ _ h => h, fun _ _ h => h, fun _ h => ⟨h, heap_push_old (hE.dlt h)⟩, by simp, fun b hb => heap_push_old (hE.lt b hb)⟩
  have hmu' : ∀ b' n, b' ≠ b → E'.mu b' n = E.mu b' n := fun b' n hb' => if_neg (fun e => hb' e.1)
  have hself : E'.mu b cs'.length = some (w.heap.size, vals.size) := if_pos ⟨rfl, rfl⟩
  have hlt : ∀ b' cs1 blk1 sz1, H b' = some cs1 → E.mu b' cs1.length = some (blk1, sz1) → blk1 < w.heap.size := fun b' cs1 blk1 sz1 hb' hm => (h.blk_lt hb' hm).1
  have hspec : ∀ b' x, hupd H b cs' b' = some [x] → x.special = true → ∃ k, E'.sp b' = some k ∧ SpOk E' (w.alloc (.cells vals ty)) b' k x := by
    intro b' x hb' hx
    unfold hupd at hb'
    split at hb'
    · cases hb'
      obtain ⟨v, _, _, hrel⟩ := hr 0 x rfl
      rw [rel_special hrel] at hx; cases hx
    · obtain ⟨k, h1, h2⟩ := h.spec b' x hb' hx
      exact ⟨k, h1, h2.ext hext (fun k o _ => Still.alloc w _ k o)⟩
  refine ⟨E', hext, hE.step0 hext rfl ((Below.refl _ _).alloc h.size _) (Still.alloc w _) rfl rfl rfl (fun b' k hk n => hmu' b' n (fun e => by subst e; rw [hnsp] at hk; cases hk)), ⟨?_, ?_, ?_, by simpa using Nat.le_succ_of_le h.size, ?_, hspec, fun b' hb' => by
    unfold hupd at hb'
    split at hb'
    · subst_vars; exact hnsp
    · exact h.nsp b' hb'⟩, hself, fun _ h => h, hmu', rfl, rfl⟩
  · intro b' cs1 hb'
    unfold hupd at hb'
    split at hb'
    · subst_vars; cases hb'
      refine .inr ⟨w.heap.size, vals.size, hself, h.size, fun hi => by have := hE.lt _ hi; omega, vals, ty, World.alloc_heap_new w _, rfl, hl, fun i x hx => ?_⟩
      obtain ⟨v, hv, ho, hrel⟩ := hr i x hx
      exact ⟨v, hv, ho, hrel.ext hext⟩
    · rename_i hne
      rcases h.box b' cs1 hb' with hn | ⟨blk1, sz1, hx1⟩
      · exact .inl (by rw [hmu' _ _ hne]; exact hn)
      · obtain ⟨vals1, ty1, k1, k2, k3, k4⟩ := hx1.cells
        refine .inr ⟨blk1, sz1, by rw [hmu' _ _ hne]; exact hx1.mu, hx1.base, hx1.imm, vals1, ty1, by rw [heap_push_old (hlt _ _ _ _ hb' hx1.mu)]; exact k1, k2, k3, fun i x hxi => ?_⟩
        obtain ⟨v, hv, ho, hrel⟩ := k4 i x hxi
        exact ⟨v, hv, ho, hrel.ext hext⟩
  · intro b' cs1 hb'
    unfold hupd at hb'
    split at hb'
    · subst_vars; exact hb
    · exact Nat.lt_of_lt_of_le (h.dom _ _ hb') hnx
  · intro b1 b2 cs1 cs2 blk1 sz1 blk2 sz2 hb1 hb2 hne m1 m2
    unfold hupd at hb1 hb2
    split at hb1
    · subst_vars; cases hb1
      rw [if_neg (Ne.symm hne)] at hb2
      rw [hself] at m1; cases m1
      rw [hmu' _ _ (Ne.symm hne)] at m2
      have := hlt _ _ _ _ hb2 m2; omega
    · rename_i hn1
      split at hb2
      · subst_vars; cases hb2
        rw [hself] at m2; cases m2
        rw [hmu' _ _ hn1] at m1
        have := hlt _ _ _ _ hb1 m1; omega
      · rename_i hn2
        rw [hmu' _ _ hn1] at m1
        rw [hmu' _ _ hn2] at m2
        exact h.apart b1 b2 cs1 cs2 blk1 sz1 blk2 sz2 hb1 hb2 hne m1 m2
  · intro b' cs1 m x hb' hm
    unfold hupd at hb'
    split at hb'
    · subst_vars; cases hb'
      have hm : (if b' = b' ∧ m = cs'.length then some (w.heap.size, vals.size) else E.mu b' m) = some x := hm
      split at hm
      · rename_i hc; omega
      · have := hold _ _ hm; omega
    · rename_i hne
      rw [hmu' _ _ hne] at hm
      exact h.top _ _ _ _ hb' hm

/-- A new box in a new block. -/
theorem HeapOk.newBox {E : Env} {H : Nat → Option (List AV)} {nx : Nat} {w : World} (h : HeapOk E H nx w) (hE : EnvOk E w) (hfree : FreeAt E nx) (cs : List AV) (vals : Array Value) (ty : TypeId) (hl : cs.length ≤ vals.size)
    (hr : ∀ (i : Nat) (x : AV), cs[i]? = some x → ∃ v : Value, vals[i]? = some v ∧ v.oneCell' = true ∧ Rel E w x v) :
    ∃ E', Ext E w E' (w.alloc (.cells vals ty)) ∧ EnvOk E' (w.alloc (.cells vals ty)) ∧ HeapOk E' (hupd H nx cs) (nx + 1) (w.alloc (.cells vals ty)) ∧ E'.mu nx cs.length = some (w.heap.size, vals.size) ∧
      (∀ b, E'.imm b → E.imm b) ∧ (∀ b n, b ≠ nx → E'.mu b n = E.mu b n) ∧ E'.sp = E.sp ∧ E'.lp = E.lp :=
  h.place hE (Nat.lt_succ_self _) (Nat.le_succ _) (fun m x hm => by rw [hfree.1] at hm; cases hm) hfree.2.1 vals ty hl hr

/-- A live box's block is written. -/
theorem HeapOk.write {E : Env} {H : Nat → Option (List AV)} {nx : Nat} {w : World} (h : HeapOk E H nx w) (hE : EnvOk E w) {b : Nat} {cs cs' : List AV} {blk sz : Nat} (hb : H b = some cs) (hx : BoxOk E w b cs blk sz)
    (vals' : Array Value) (hs : vals'.size = sz) (hl : cs'.length ≤ sz) (hge : cs.length ≤ cs'.length) (hfree : cs'.length = cs.length ∨ E.mu b cs'.length = none ∨ E.mu b cs'.length = some (blk, sz))
    (hr : ∀ (i : Nat) (x : AV), cs'[i]? = some x → ∃ v : Value, vals'[i]? = some v ∧ v.oneCell' = true ∧ Rel E w x v) :
    ∃ E', Ext E w E' (w.setRow blk vals') ∧ EnvOk E' (w.setRow blk vals') ∧ HeapOk E' (hupd H b cs') nx (w.setRow blk vals') ∧ E'.mu b cs'.length = some (blk, sz) ∧ (∀ b, E'.imm b → E.imm b) ∧ (∀ b' n, b' ≠ b → E'.mu b' n = E.mu b' n) ∧ E'.sp = E.sp ∧ E'.lp = E.lp := by
  let E' : Env := { E with mu := fun b' n => if b' = b ∧ n = cs'.length then some (blk, sz) else E.mu b' n }
  have hkeep : ∀ k, k ≠ blk → (w.setRow blk vals').heap[k]? = w.heap[k]? := fun k hk => setRow_other w blk k vals' hk
  have hmuE : ∀ b' n x, E.mu b' n = some x → E'.mu b' n = some x := by
    intro b' n x hm
    show (if b' = b ∧ n = cs'.length then some (blk, sz) else E.mu b' n) = some x
    split
    · rename_i hc
      obtain ⟨rfl, rfl⟩ := hc
      rcases hfree with h1 | h1 | h1
      · rw [h1, hx.mu] at hm; exact hm
      · rw [h1] at hm; cases hm
      · rw [h1] at hm; exact hm
    · exact hm
  obtain ⟨vals0, ty0, h01, _⟩ := hx.cells
  have hstill : Still w (w.setRow blk vals') := fun k o ho hc => by
    rw [hkeep k (fun e => by subst e; rw [h01] at ho; cases ho; cases hc)]; exact ho
  have hext : Ext E w E' (w.setRow blk vals') :=
    ⟨rfl, rfl, fun _ h => h, fun _ h => .inl h, hmuE, fun _ _ h => h, fun _ _ h => h, fun b' hb' => ⟨hb', by obtain ⟨ds, hd⟩ := hE.dm b' hb'; rw [hstill _ _ hd rfl, hd]⟩, by simp, fun b' hb' => hkeep b' (fun e => hx.imm (e ▸ hb'))⟩
  have hbel : Below E.base w (w.setRow blk vals') := below_setRow (Below.refl _ _) hx.base _
  obtain ⟨vals, ty, h1, h2, h3, h4⟩ := hx.cells
  have hmu' : ∀ b' n, b' ≠ b → E'.mu b' n = E.mu b' n := fun b' n hb' => if_neg (fun e => hb' e.1)
  have hself : E'.mu b cs'.length = some (blk, sz) := if_pos ⟨rfl, rfl⟩
  have hother : ∀ b' cs1 blk1 sz1, b' ≠ b → H b' = some cs1 → E.mu b' cs1.length = some (blk1, sz1) → blk1 ≠ blk := fun b' cs1 blk1 sz1 hne hb' hm =>
    h.apart b' b cs1 cs blk1 sz1 blk sz hb' hb hne hm hx.mu
  have hspec : ∀ b' x, hupd H b cs' b' = some [x] → x.special = true → ∃ k, E'.sp b' = some k ∧ SpOk E' (w.setRow blk vals') b' k x := by
    intro b' x hb' hxs
    unfold hupd at hb'
    split at hb'
    · cases hb'
      obtain ⟨v, _, _, hrel⟩ := hr 0 x rfl
      rw [rel_special hrel] at hxs; cases hxs
    · obtain ⟨k, h1, h2⟩ := h.spec b' x hb' hxs
      exact ⟨k, h1, h2.ext hext (fun k o _ => hstill k o)⟩
  refine ⟨E', hext, hE.step0 hext rfl hbel hstill rfl rfl rfl (fun b' k hk n => hmu' b' n (fun e => by subst e; have := hE.spm _ _ hk cs.length; rw [hx.mu] at this; cases this)), ⟨?_, ?_, ?_, by simpa using h.size, ?_, hspec, fun b' hb' => by
    unfold hupd at hb'
    split at hb'
    · subst_vars; cases hb'; exact h.nsp _ (by rw [hb, List.length_eq_zero_iff.1 (Nat.le_zero.1 hge)])
    · exact h.nsp b' hb'⟩, hself, fun _ h => h, hmu', rfl, rfl⟩
  · intro b' cs1 hb'
    unfold hupd at hb'
    split at hb'
    · subst_vars; cases hb'
      refine .inr ⟨blk, vals'.size, hself, hx.base, hx.imm, vals', ty, setRow_heap w blk vals vals' ty (0, 0) h1, rfl, hl, fun i x hxi => ?_⟩
      obtain ⟨v, hv, ho, hrel⟩ := hr i x hxi
      exact ⟨v, hv, ho, hrel.ext hext⟩
    · rename_i hne
      rcases h.box b' cs1 hb' with hn | ⟨blk1, sz1, hx1⟩
      · exact .inl (by rw [hmu' _ _ hne]; exact hn)
      · obtain ⟨vals1, ty1, k1, k2, k3, k4⟩ := hx1.cells
        refine .inr ⟨blk1, sz1, by rw [hmu' _ _ hne]; exact hx1.mu, hx1.base, hx1.imm, vals1, ty1, by rw [hkeep _ (hother _ _ _ _ hne hb' hx1.mu)]; exact k1, k2, k3, fun i x hxi => ?_⟩
        obtain ⟨v, hv, ho, hrel⟩ := k4 i x hxi
        exact ⟨v, hv, ho, hrel.ext hext⟩
  · intro b' cs1 hb'
    unfold hupd at hb'
    split at hb'
    · subst_vars; exact h.dom _ _ hb
    · exact h.dom _ _ hb'
  · intro b1 b2 cs1 cs2 blk1 sz1 blk2 sz2 hb1 hb2 hne m1 m2
    unfold hupd at hb1 hb2
    split at hb1
    · subst_vars; cases hb1
      rw [if_neg (Ne.symm hne)] at hb2
      rw [hself] at m1; cases m1
      rw [hmu' _ _ (Ne.symm hne)] at m2
      exact Ne.symm (hother _ _ _ _ (Ne.symm hne) hb2 m2)
    · rename_i hn1
      split at hb2
      · subst_vars; cases hb2
        rw [hself] at m2; cases m2
        rw [hmu' _ _ hn1] at m1
        exact hother _ _ _ _ hn1 hb1 m1
      · rename_i hn2
        rw [hmu' _ _ hn1] at m1
        rw [hmu' _ _ hn2] at m2
        exact h.apart b1 b2 cs1 cs2 blk1 sz1 blk2 sz2 hb1 hb2 hne m1 m2
  · intro b' cs1 m x hb' hm
    unfold hupd at hb'
    split at hb'
    · subst_vars; cases hb'
      have hm : (if b' = b' ∧ m = cs'.length then some (blk, vals'.size) else E.mu b' m) = some x := hm
      split at hm
      · rename_i hc; omega
      · have := h.top _ _ _ _ hb hm; omega
    · rename_i hne
      rw [hmu' _ _ hne] at hm
      exact h.top _ _ _ _ hb' hm

/-- A box moves into a new block. -/
theorem HeapOk.move {E : Env} {H : Nat → Option (List AV)} {nx : Nat} {w : World} (h : HeapOk E H nx w) (hE : EnvOk E w) {b : Nat} {cs cs' : List AV} (hb : H b = some cs)
    (vals : Array Value) (ty : TypeId) (hl : cs'.length ≤ vals.size) (hge : cs.length < cs'.length) (hnsp : E.sp b = none)
    (hr : ∀ (i : Nat) (x : AV), cs'[i]? = some x → ∃ v : Value, vals[i]? = some v ∧ v.oneCell' = true ∧ Rel E w x v) :
    ∃ E', Ext E w E' (w.alloc (.cells vals ty)) ∧ EnvOk E' (w.alloc (.cells vals ty)) ∧ HeapOk E' (hupd H b cs') nx (w.alloc (.cells vals ty)) ∧ E'.mu b cs'.length = some (w.heap.size, vals.size) ∧ (∀ b, E'.imm b → E.imm b) ∧ (∀ b' n, b' ≠ b → E'.mu b' n = E.mu b' n) ∧ E'.sp = E.sp ∧ E'.lp = E.lp :=
  h.place hE (h.dom _ _ hb) (Nat.le_refl _) (fun m x hm => by have := h.top _ _ _ _ hb hm; omega) hnsp vals ty hl hr

/-- A box that has no block: an empty one. -/
theorem HeapOk.virtual {E : Env} {H : Nat → Option (List AV)} {nx : Nat} {w : World} (h : HeapOk E H nx w) (hfree : FreeAt E nx) : HeapOk E (hupd H nx []) (nx + 1) w := by
  refine ⟨?_, ?_, ?_, h.size, ?_, ?_, ?_⟩
  · intro b cs hb
    unfold hupd at hb
    split at hb
    · subst_vars; cases hb; exact .inl (hfree.1 _)
    · exact h.box b cs hb
  · intro b cs hb
    unfold hupd at hb
    split at hb
    · omega
    · have := h.dom _ _ hb; omega
  · intro b1 b2 cs1 cs2 blk1 sz1 blk2 sz2 hb1 hb2 hne m1 m2
    unfold hupd at hb1 hb2
    split at hb1
    · subst_vars; rw [hfree.1] at m1; cases m1
    · split at hb2
      · subst_vars; rw [hfree.1] at m2; cases m2
      · exact h.apart b1 b2 cs1 cs2 blk1 sz1 blk2 sz2 hb1 hb2 hne m1 m2
  · intro b cs m x hb hm
    unfold hupd at hb
    split at hb
    · subst_vars; rw [hfree.1] at hm; cases hm
    · exact h.top _ _ _ _ hb hm
  · intro b x hb hx
    unfold hupd at hb
    split at hb
    · cases hb
    · exact h.spec b x hb hx
  · intro b hb
    unfold hupd at hb
    split at hb
    · subst_vars; exact hfree.2.1
    · exact h.nsp b hb

/-- The same memory. -/
theorem Ext.same {E : Env} {w w' : World} (hh : w'.heap = w.heap) : Ext E w E w' :=
  ⟨rfl, rfl, fun _ h => h, fun _ h => .inl h, fun _ _ _ h => h, fun _ _ h => h, fun _ _ h => h, fun _ h => ⟨h, by rw [hh]⟩, by rw [hh]; exact Nat.le_refl _, fun b _ => by rw [hh]⟩
theorem Still.same {w w' : World} (hh : w'.heap = w.heap) : Still w w' := fun _ _ h _ => by rw [hh]; exact h

theorem HeapOk.same {E : Env} {H : Nat → Option (List AV)} {nx : Nat} {w w' : World} (h : HeapOk E H nx w) (hh : w'.heap = w.heap) : HeapOk E H nx w' :=
  h.step (Ext.same hh) (fun _ h => .inl h) (Nat.le_refl _) (fun _ _ _ _ => rfl) (fun b cs blk sz hb hm => by rw [hh]) (Still.same hh) rfl

theorem EnvOk.drew {E : Env} {w : World} (h : EnvOk E w) : EnvOk E w.drew := h.step0 (Ext.same rfl) rfl (Below.refl _ _).drew (Still.same rfl) rfl rfl rfl (fun _ _ _ _ => rfl)

/-- cells of a list replaced from a place on -/
def lput (cs : List AV) (off : Nat) (new : List AV) : List AV := cs.take off ++ new ++ cs.drop (off + new.length)

theorem lput_length {cs new : List AV} {off : Nat} (h : off + new.length ≤ cs.length) : (lput cs off new).length = cs.length := by
  simp [lput]; omega

theorem lput_rel {E : Env} {w : World} {cs new : List AV} {vals nv : List Value} {off : Nat} (h : off + new.length ≤ cs.length) (hvl : cs.length ≤ vals.length) (hnl : nv.length = new.length)
    (hr : ∀ (i : Nat) (x : AV), cs[i]? = some x → ∃ v : Value, vals[i]? = some v ∧ v.oneCell' = true ∧ Rel E w x v)
    (hn : ∀ (i : Nat) (x : AV) (y : Value), new[i]? = some x → nv[i]? = some y → Rel E w x y) (h1 : ∀ y ∈ nv, y.oneCell' = true)
    (i : Nat) (x : AV) (hx : (lput cs off new)[i]? = some x) : ∃ v : Value, (vals.take off ++ nv ++ vals.drop (off + nv.length))[i]? = some v ∧ v.oneCell' = true ∧ Rel E w x v := by
  unfold lput at hx
  rw [List.append_assoc] at hx ⊢
  by_cases hi : i < off
  · rw [List.getElem?_append_left (by simp; omega), List.getElem?_take, if_pos hi] at hx
    rw [List.getElem?_append_left (by simp; omega), List.getElem?_take, if_pos hi]
    exact hr i x hx
  · rw [List.getElem?_append_right (by simp; omega)] at hx
    rw [List.getElem?_append_right (by simp; omega)]
    have e1 : (List.take off cs).length = off := by simp; omega
    have e2 : (List.take off vals).length = off := by simp; omega
    rw [e1] at hx
    rw [e2]
    by_cases hi2 : i - off < new.length
    · rw [List.getElem?_append_left hi2] at hx
      rw [List.getElem?_append_left (by omega)]
      have hlt : i - off < nv.length := by omega
      refine ⟨nv[i - off], by simp [hlt], h1 _ (List.getElem_mem hlt), hn _ _ _ hx (by simp [hlt])⟩
    · rw [List.getElem?_append_right (by omega), List.getElem?_drop] at hx
      rw [List.getElem?_append_right (by omega), List.getElem?_drop, hnl]
      exact hr _ x hx

end Go.Abs
