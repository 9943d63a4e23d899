/- Abstract values, their relation to values in a world, and what is stable. -/
import Derived.CallsIn
import Derived.OrdersIn
import Derived.RangeFuncIn
import Derived.RangeFuncCalls
import Derived.Below
import Derived.Deep.Draws
namespace Go.Abs
open Go.RowKit

inductive AV where
  | undef
  | bool (b : Bool)
  | int (k : IntKind) (n : Int)
  | str (s : ByteArray)
  | nilp
  | ptr (b n off : Nat)
  | iptr (cells : List AV) (off : Nat)
  | esl
  | sl (sz : Nat) (elems : List AV)
  | msl (b n sz off len : Nat)
  | func (f : FuncId) (caps : List AV)
  | nilf
  | yld (b : Nat)
  | mp (b : Nat)
  | nilm
  | itr (b : Nat)
  | agg (cells : List AV)
  | tup (vs : List AV)
  | omap (ks vs : List AV)
  | oloop (r : Loop) (T : Nat → AV)
  | oiter (m n0 : Nat) (seen : List Nat)
  deriving Inhabited

/-- what a special box holds -/
def AV.special : AV → Bool
  | .omap _ _ | .oloop _ _ | .oiter _ _ _ => true
  | _ => false

def AV.cells : AV → List AV
  | .agg cs => cs
  | v => [v]

structure Env where
  base : Nat
  w0 : World
  imm : Nat → Prop
  mu : Nat → Nat → Option (Nat × Nat)
  sp : Nat → Option Nat
  lp : Nat → Option (Loop × (Nat → AV))
  dm : Nat → Prop

/-- What an abstract value is in a world. An immutable row lies in a block of E.imm. -/
inductive Rel (E : Env) (w : World) : AV → Value → Prop
  | undef (v : Value) : Rel E w .undef v
  | bool (b : Bool) : Rel E w (.bool b) (.bool b)
  | int (k : IntKind) (n : Int) : Rel E w (.int k n) (.int k n)
  | str (s : ByteArray) : Rel E w (.str s) (.string s)
  | nilp : Rel E w .nilp (.pointer none)
  | nilf : Rel E w .nilf .nilFunc
  | yld (b l : Nat) (h : E.sp b = some l) : Rel E w (.yld b) (.func (.yield l) #[] #[])
  | mp (b k : Nat) (h : E.sp b = some k) : Rel E w (.mp b) (.map (some k))
  | nilm : Rel E w .nilm (.map none)
  | itr (b k : Nat) (h : E.sp b = some k) : Rel E w (.itr b) (.pointer (some ⟨k, 0, none⟩))
  | ptr (b n off blk sz : Nat) (h : E.mu b n = some (blk, sz)) : Rel E w (.ptr b n off) (.pointer (some ⟨blk, off, none⟩))
  | iptr (cells : List AV) (off blk o : Nat) (vals : Nat → Value) (hi : E.imm blk)
      (hc : ∀ i, i < cells.length → w.cell? ⟨blk, o + i, none⟩ = some (vals i))
      (hr : ∀ (i : Nat) (x : AV), cells[i]? = some x → Rel E w x (vals i)) : Rel E w (.iptr cells off) (.pointer (some ⟨blk, o + off, none⟩))
  | eslnil : Rel E w .esl (.slice none 0 0)
  | esl (blk o : Nat) : Rel E w .esl (.slice (some ⟨blk, o, none⟩) 0 0)
  | slnil (sz : Nat) : Rel E w (.sl sz []) (.slice none 0 0)
  | slempty (sz blk o cap : Nat) : Rel E w (.sl sz []) (.slice (some ⟨blk, o, none⟩) 0 cap)
  | sl (sz : Nat) (elems : List AV) (blk o cap : Nat) (vals : Nat → Value) (hi : E.imm blk) (hlen : elems.length ≤ cap)
      (hsz : ∀ x ∈ elems, x.cells.length = sz)
      (hc : ∀ i, i < elems.length * sz → w.cell? ⟨blk, o + i, none⟩ = some (vals i))
      (hr : ∀ (i j : Nat) (x y : AV), elems[i]? = some x → x.cells[j]? = some y → Rel E w y (vals (i * sz + j))) :
      Rel E w (.sl sz elems) (.slice (some ⟨blk, o, none⟩) elems.length cap)
  | msl (b n sz off len blk bsz cap : Nat) (h : E.mu b n = some (blk, bsz)) (hl : len ≤ cap) (hc : off + cap * sz ≤ bsz) (hn : n ≤ off + cap * sz) :
      Rel E w (.msl b n sz off len) (.slice (some ⟨blk, off, none⟩) len cap)
  | msl0 (b sz : Nat) (v : Value) (h : v = .slice none 0 0 ∨ ∃ blk o, v = .slice (some ⟨blk, o, none⟩) 0 0) : Rel E w (.msl b 0 sz 0 0) v
  | func (f : FuncId) (caps : List AV) (cv : List Value) (hl : cv.length = caps.length)
      (hr : ∀ (i : Nat) (x : AV) (y : Value), caps[i]? = some x → cv[i]? = some y → Rel E w x y) : Rel E w (.func f caps) (.func (.func f) #[] cv.toArray)
  | agg (cs : List AV) (vs : List Value) (hl : vs.length = cs.length)
      (hr : ∀ (i : Nat) (x : AV) (y : Value), cs[i]? = some x → vs[i]? = some y → Rel E w x y) : Rel E w (.agg cs) (.agg vs.toArray)
  | tup (cs : List AV) (vs : List Value) (hl : vs.length = cs.length)
      (hr : ∀ (i : Nat) (x : AV) (y : Value), cs[i]? = some x → vs[i]? = some y → Rel E w x y) : Rel E w (.tup cs) (.tuple vs.toArray)

/-- From (E, w) to (E', w'): what is known stays known. -/
structure Ext (E : Env) (w : World) (E' : Env) (w' : World) : Prop where
  base : E'.base = E.base
  w0 : E'.w0 = E.w0
  imm : ∀ b, E.imm b → E'.imm b
  new : ∀ b, E'.imm b → E.imm b ∨ E.base ≤ b
  mu : ∀ b n x, E.mu b n = some x → E'.mu b n = some x
  sp : ∀ b x, E.sp b = some x → E'.sp b = some x
  lp : ∀ b x, E.lp b = some x → E'.lp b = some x
  dm : ∀ b, E.dm b → E'.dm b ∧ w'.heap[b]? = w.heap[b]?
  size : w.heap.size ≤ w'.heap.size
  keep : ∀ b, E.imm b → w'.heap[b]? = w.heap[b]?

theorem Ext.refl (E : Env) (w : World) : Ext E w E w :=
  ⟨rfl, rfl, fun _ h => h, fun _ h => .inl h, fun _ _ _ h => h, fun _ _ h => h, fun _ _ h => h, fun _ h => ⟨h, rfl⟩, Nat.le_refl _, fun _ _ => rfl⟩

theorem Ext.trans {E E' E'' : Env} {w w' w'' : World} (h : Ext E w E' w') (k : Ext E' w' E'' w'') : Ext E w E'' w'' :=
  ⟨k.base.trans h.base, k.w0.trans h.w0, fun b hb => k.imm b (h.imm b hb),
   fun b hb => (k.new b hb).elim (h.new b) (fun hh => .inr (by rw [← h.base]; exact hh)),
   fun b n x hx => k.mu b n x (h.mu b n x hx), fun b x hx => k.sp b x (h.sp b x hx), fun b x hx => k.lp b x (h.lp b x hx), fun b hb => ⟨(k.dm b (h.dm b hb).1).1, (k.dm b (h.dm b hb).1).2.trans (h.dm b hb).2⟩, Nat.le_trans h.size k.size, fun b hb => (k.keep b (h.imm b hb)).trans (h.keep b hb)⟩

theorem Rel.ext {E E' : Env} {w w' : World} (he : Ext E w E' w') {a : AV} {v : Value} (h : Rel E w a v) : Rel E' w' a v := by
  induction h with
  | undef v => exact .undef v
  | bool b => exact .bool b
  | int k n => exact .int k n
  | str s => exact .str s
  | nilp => exact .nilp
  | nilf => exact .nilf
  | yld b l h => exact .yld b l (he.sp _ _ h)
  | mp b k h => exact .mp b k (he.sp _ _ h)
  | nilm => exact .nilm
  | itr b k h => exact .itr b k (he.sp _ _ h)
  | ptr b n off blk sz h => exact .ptr b n off blk sz (he.mu _ _ _ h)
  | iptr cells off blk o vals hi hc _ ih =>
    exact .iptr cells off blk o vals (he.imm _ hi) (fun i h => (World.cell?_of_block (w := w) (he.keep blk hi)).trans (hc i h)) ih
  | eslnil => exact .eslnil
  | esl b o => exact .esl b o
  | slnil sz => exact .slnil sz
  | slempty sz b o c => exact .slempty sz b o c
  | sl sz elems blk o cap vals hi hlen hsz hc _ ih =>
    exact .sl sz elems blk o cap vals (he.imm _ hi) hlen hsz (fun i h => (World.cell?_of_block (w := w) (he.keep blk hi)).trans (hc i h)) ih
  | msl b n sz off len blk bsz cap h hl hc hn => exact .msl b n sz off len blk bsz cap (he.mu _ _ _ h) hl hc hn
  | msl0 b sz v h => exact .msl0 b sz v h
  | func f caps cv hl _ ih => exact .func f caps cv hl ih
  | agg cs vs hl _ ih => exact .agg cs vs hl ih
  | tup cs vs hl _ ih => exact .tup cs vs hl ih

structure St where
  T : Nat → AV
  H : Nat → Option (List AV)
  nx : Nat

def isCells : Obj → Bool
  | .cells .. => true
  | _ => false

structure EnvOk (E : Env) (w : World) : Prop where
  lt : ∀ b, E.imm b → b < w.heap.size
  below : Below E.base E.w0 w
  dm : ∀ b, E.dm b → ∃ ds, w.heap[b]? = some (.deferred ds)
  spi : ∀ b b' k, E.sp b = some k → E.sp b' = some k → b = b'
  spb : ∀ b k, E.sp b = some k → E.base ≤ k ∧ ¬ E.imm k ∧ ∃ o, w.heap[k]? = some o ∧ isCells o = false ∧ ∀ ds, o ≠ .deferred ds
  spm : ∀ b k, E.sp b = some k → ∀ n, E.mu b n = none
  lp : ∀ b r T, E.lp b = some (r, T) → ∃ k st p, E.sp b = some k ∧ w.heap[k]? = some (.loop { r with state := st, pending := p }) ∧ ∀ t, Rel E w (T t) (r.tmps.getD t Go.undef)

/-- map entries -/
structure MapOk (E : Env) (w : World) (ks vs : List AV) (es : Array MapEntry) (clock : Nat) : Prop where
  len : es.size = ks.length
  len' : vs.length = ks.length
  key : ∀ (i : Nat) (x : AV) (e : MapEntry), ks[i]? = some x → es[i]? = some e → Rel E w x e.key
  val : ∀ (i : Nat) (x : AV) (e : MapEntry), vs[i]? = some x → es[i]? = some e → Rel E w x e.val
  born : ∀ (i : Nat) (e : MapEntry), es[i]? = some e → e.born = i
  clk : clock = es.size

/-- a special box's block -/
def SpOk (E : Env) (w : World) (b k : Nat) : AV → Prop
  | .omap ks vs => ∃ es clock, w.heap[k]? = some (.map es clock) ∧ MapOk E w ks vs es clock
  | .oloop r T => w.heap[k]? = some (.loop r) ∧ E.lp b = some ({ r with state := .ready, pending := none }, T)
  | .oiter m n0 seen => ∃ km last, w.heap[k]? = some (.mapIter (some km) n0 seen.toArray last) ∧ E.sp m = some km ∧ (seen ≠ [] → 0 < last)
  | _ => False

/-- A live box: its block, and what it holds. -/
structure BoxOk (E : Env) (w : World) (b : Nat) (cs : List AV) (blk sz : Nat) : Prop where
  mu : E.mu b cs.length = some (blk, sz)
  base : E.base ≤ blk
  imm : ¬ E.imm blk
  cells : ∃ (vals : Array Value) (ty : TypeId), w.heap[blk]? = some (.cells vals ty (0, 0)) ∧ vals.size = sz ∧ cs.length ≤ sz ∧
    ∀ (i : Nat) (x : AV), cs[i]? = some x → ∃ v : Value, vals[i]? = some v ∧ v.oneCell' = true ∧ Rel E w x v

structure HeapOk (E : Env) (H : Nat → Option (List AV)) (nx : Nat) (w : World) : Prop where
  box : ∀ b cs, H b = some cs → E.mu b cs.length = none ∨ ∃ blk sz, BoxOk E w b cs blk sz
  dom : ∀ b cs, H b = some cs → b < nx
  apart : ∀ b b' cs cs' blk sz blk' sz', H b = some cs → H b' = some cs' → b ≠ b' → E.mu b cs.length = some (blk, sz) → E.mu b' cs'.length = some (blk', sz') → blk ≠ blk'
  size : E.base ≤ w.heap.size
  top : ∀ b cs m x, H b = some cs → E.mu b m = some x → m ≤ cs.length
  spec : ∀ b x, H b = some [x] → x.special = true → ∃ k, E.sp b = some k ∧ SpOk E w b k x
  nsp : ∀ b, H b = some [] → E.sp b = none

/-- a number that nothing has -/
def FreeAt (E : Env) (b : Nat) : Prop := (∀ n, E.mu b n = none) ∧ E.sp b = none ∧ E.lp b = none
/-- numbers from nx on are free -/
def Fresh (E : Env) (nx : Nat) : Prop := ∀ b, nx ≤ b → FreeAt E b

theorem Fresh.of {E E' : Env} {nx nx' : Nat} (h : Fresh E nx) (hn : nx ≤ nx') (hm : ∀ b n, nx' ≤ b → E'.mu b n = E.mu b n) (hs : E'.sp = E.sp) (hl : E'.lp = E.lp) : Fresh E' nx' := fun b hb =>
  ⟨fun n => by rw [hm b n hb]; exact (h b (Nat.le_trans hn hb)).1 n, by rw [hs]; exact (h b (Nat.le_trans hn hb)).2.1, by rw [hl]; exact (h b (Nat.le_trans hn hb)).2.2⟩
theorem Fresh.le {E : Env} {nx nx' : Nat} (h : Fresh E nx) (hn : nx ≤ nx') : Fresh E nx' := fun b hb => h b (Nat.le_trans hn hb)

/-- how many temporaries; where this call's blocks begin; the loop whose round this is -/
structure Cfg where
  n : Nat
  floor : Nat := 0
  rd : Option Nat := none

/-- marks of loops over functions among the deferred calls -/
def Marks (E : Env) (N : Cfg) (w : World) (ds : List Deferred) : Prop :=
  ds.Pairwise (· ≠ ·) ∧ ∀ d ∈ ds, ∃ D, d = { target := .collected D, args := #[] } ∧ E.base ≤ D ∧ N.floor ≤ D ∧ E.dm D ∧ w.heap[D]? = some (.deferred (some []))

theorem Marks.ext {E E' : Env} {N : Cfg} {w w' : World} {ds : List Deferred} (h : Marks E N w ds) (he : Ext E w E' w') : Marks E' N w' ds :=
  ⟨h.1, fun d hd => let ⟨D, h1, h2, h2', h3, h4⟩ := h.2 d hd; ⟨D, h1, by rw [he.base]; exact h2, h2', (he.dm _ h3).1, by rw [(he.dm _ h3).2]; exact h4⟩⟩

structure Sim (E : Env) (N : Cfg) (st : St) (a : Act) (w : World) : Prop where
  env : EnvOk E w
  heap : HeapOk E st.H st.nx w
  fresh : Fresh E st.nx
  round : ∀ l, N.rd = some l → ∃ b x, E.lp b = some x ∧ E.sp b = some l
  floor : N.floor ≤ w.heap.size
  size : a.tmps.size = N.n
  tmps : ∀ t, Rel E w (st.T t) (a.tmps.getD t Go.undef)
  defers : Marks E N w a.defers

end Go.Abs
