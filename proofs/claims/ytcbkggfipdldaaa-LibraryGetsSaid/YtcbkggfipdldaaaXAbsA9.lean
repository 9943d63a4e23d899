/- Contracts. -/
import Derived.Test.YtcbkggfipdldaaaXAbsA8
set_option linter.unusedVariables false
namespace Go.Abs
open Go.RowKit

def cok (P : Program) (g : FuncId) : Bool := match P.funcs[g]? with
  | some fn => fn.body.isSome && !(fn.name == "runtime.NumGoroutine")
  | none => false

theorem run_callFunc {P : Program} {g : FuncId} (h : cok P g = true) (args : Array Value) (w : World) : (callFunc g args).run P w = .ok (.enter g args) w := by
  unfold cok at h
  split at h
  · rename_i fn hf
    simp only [Bool.and_eq_true, Bool.not_eq_true'] at h
    obtain ⟨h1, h2⟩ := h
    have h3 : fn.body.isNone = false := by cases hb : fn.body <;> simp [hb] at h1 ⊢
    simp only [callFunc, Sem.run_bind, run_program, Result.andThen_ok, hf, h2, h3, Bool.false_eq_true, if_false]
    rfl
  · cases h

/-- An environment in which nothing can be written. -/
def E0 (imm : Nat → Prop) : Env := ⟨0, default, imm, fun _ _ => none, fun _ => none, fun _ => none, fun _ => False⟩

theorem Rel.mono {E E' : Env} {w : World} (hi : ∀ b, E.imm b → E'.imm b) (hm : ∀ b n x, E.mu b n = some x → E'.mu b n = some x) (hs : ∀ b x, E.sp b = some x → E'.sp b = some x) {a : AV} {v : Value} (h : Rel E w a v) : Rel E' w a v := by
  induction h with
  | undef v => exact .undef v
  | bool b => exact .bool b
  | int k n => exact .int k n
  | str s => exact .str s
  | nilp => exact .nilp
  | nilf => exact .nilf
  | yld b l h => exact .yld b l (hs _ _ h)
  | mp b k h => exact .mp b k (hs _ _ h)
  | nilm => exact .nilm
  | itr b k h => exact .itr b k (hs _ _ h)
  | ptr b n off blk sz h => exact .ptr b n off blk sz (hm _ _ _ h)
  | iptr cells off blk o vals h1 hc _ ih => exact .iptr cells off blk o vals (hi _ h1) hc ih
  | eslnil => exact .eslnil
  | esl b o => exact .esl b o
  | slnil sz => exact .slnil sz
  | slempty sz b o c => exact .slempty sz b o c
  | sl sz elems blk o cap vals h1 hlen hsz hc _ ih => exact .sl sz elems blk o cap vals (hi _ h1) hlen hsz hc ih
  | msl b n sz off len blk bsz cap h hl hc hn => exact .msl b n sz off len blk bsz cap (hm _ _ _ h) hl hc hn
  | msl0 b sz v h => exact .msl0 b sz v h
  | func f caps cv hl _ ih => exact .func f caps cv hl ih
  | agg cs vs hl _ ih => exact .agg cs vs hl ih
  | tup cs vs hl _ ih => exact .tup cs vs hl ih

/-- What a function gives for arguments that are data. -/
def Pure (P : Program) (f : FuncId) (args : List AV) (r : AV) : Prop :=
  cok P f = true ∧ ∀ (imm : Nat → Prop) (w : World) (vs : List Value), (∀ b, imm b → b < w.heap.size) → RelL (E0 imm) w args vs →
    Calls P f vs.toArray w fun e w' => ∃ v imm', e = .returned v ∧ Below w.heap.size w w' ∧ (∀ b, imm b → imm' b) ∧ (∀ b, imm' b → imm b ∨ w.heap.size ≤ b) ∧ (∀ b, imm' b → b < w'.heap.size) ∧ Rel (E0 imm') w' r v

/-- What a call does, with the boxes that lie. -/
def Fn (P : Program) (f : FuncId) (args : List AV) (H : Nat → Option (List AV)) (nx : Nat) (R : AV → (Nat → Option (List AV)) → Nat → Prop) : Prop :=
  cok P f = true ∧ ∀ (E : Env) (w : World) (vs : List Value), EnvOk E w → HeapOk E H nx w → Fresh E nx → RelL E w args vs →
    Calls P f vs.toArray w fun e w' => ∃ v E' r H' nx', e = .returned v ∧ Ext E w E' w' ∧ EnvOk E' w' ∧ HeapOk E' H' nx' w' ∧ Fresh E' nx' ∧ Rel E' w' r v ∧ R r H' nx'

theorem Fn.mono {P : Program} {f : FuncId} {args : List AV} {H : Nat → Option (List AV)} {nx : Nat} {R R' : AV → (Nat → Option (List AV)) → Nat → Prop} (h : Fn P f args H nx R) (hR : ∀ r H' nx', R r H' nx' → R' r H' nx') : Fn P f args H nx R' :=
  ⟨h.1, fun E w vs h1 h2 h3 h4 => (h.2 E w vs h1 h2 h3 h4).mono fun e w' ⟨v, E', r, H', nx', k1, k2, k3, k4, k5, k6, k7⟩ => ⟨v, E', r, H', nx', k1, k2, k3, k4, k5, k6, hR _ _ _ k7⟩⟩

@[congr] theorem Fn_congr {P : Program} {f : FuncId} {args args' : List AV} {H H' : Nat → Option (List AV)} {nx nx' : Nat} {R : AV → (Nat → Option (List AV)) → Nat → Prop} (ha : args = args') (hH : H = H') (hn : nx = nx') : Fn P f args H nx R = Fn P f args' H' nx' R := by
  subst ha hH hn; rfl

/-! ### data as it stands in boxes -/
inductive Snap (H : Nat → Option (List AV)) : AV → AV → Prop
  | bool (b : Bool) : Snap H (.bool b) (.bool b)
  | int (k : IntKind) (n : Int) : Snap H (.int k n) (.int k n)
  | str (s : ByteArray) : Snap H (.str s) (.str s)
  | nilp : Snap H .nilp .nilp
  | nilf : Snap H .nilf .nilf
  | nilm : Snap H .nilm .nilm
  | esl : Snap H .esl .esl
  | eslsl (sz : Nat) : Snap H .esl (.sl sz [])
  | sl (sz : Nat) (l l' : List AV) (hl : l.length = l'.length) (hc : ∀ (i : Nat) (x y : AV), l[i]? = some x → l'[i]? = some y → y.cells.length = x.cells.length)
      (h : ∀ (i j : Nat) (x y a b : AV), l[i]? = some x → l'[i]? = some y → x.cells[j]? = some a → y.cells[j]? = some b → Snap H a b) : Snap H (.sl sz l) (.sl sz l')
  | slnil (sz sz' : Nat) : Snap H (.sl sz []) (.sl sz' [])
  | msl (b n sz off len : Nat) (cs : List AV) (l' : List AV) (hb : H b = some cs) (hn : cs.length = n) (hfit : off + len * sz ≤ n) (hl : l'.length = len) (hc : ∀ y ∈ l', y.cells.length = sz)
      (h : ∀ (i j : Nat) (y a c : AV), l'[i]? = some y → y.cells[j]? = some c → cs[off + i * sz + j]? = some a → Snap H a c) : Snap H (.msl b n sz off len) (.sl sz l')
  | mslnil (b n sz off sz' : Nat) : Snap H (.msl b n sz off 0) (.sl sz' [])
  | ptr (b n off : Nat) (cs cs' : List AV) (hb : H b = some cs) (hn : cs.length = n) (hl : cs'.length = n) (h : ∀ (i : Nat) (a c : AV), cs[i]? = some a → cs'[i]? = some c → Snap H a c) : Snap H (.ptr b n off) (.iptr cs' off)
  | iptr (cs cs' : List AV) (off : Nat) (hl : cs'.length = cs.length) (h : ∀ (i : Nat) (a c : AV), cs[i]? = some a → cs'[i]? = some c → Snap H a c) : Snap H (.iptr cs off) (.iptr cs' off)
  | func (f : FuncId) (cs cs' : List AV) (hl : cs'.length = cs.length) (h : ∀ (i : Nat) (a c : AV), cs[i]? = some a → cs'[i]? = some c → Snap H a c) : Snap H (.func f cs) (.func f cs')
  | agg (cs cs' : List AV) (hl : cs'.length = cs.length) (h : ∀ (i : Nat) (a c : AV), cs[i]? = some a → cs'[i]? = some c → Snap H a c) : Snap H (.agg cs) (.agg cs')
  | tup (cs cs' : List AV) (hl : cs'.length = cs.length) (h : ∀ (i : Nat) (a c : AV), cs[i]? = some a → cs'[i]? = some c → Snap H a c) : Snap H (.tup cs) (.tup cs')

/-- the blocks in which boxes lie -/
def liveB (E : Env) (H : Nat → Option (List AV)) (blk : Nat) : Prop := ∃ b cs sz, H b = some cs ∧ E.mu b cs.length = some (blk, sz)

theorem Snap.sound {E : Env} {H : Nat → Option (List AV)} {nx : Nat} {w : World} (hh : HeapOk E H nx w) {x y : AV} (h : Snap H x y) : ∀ {v : Value}, Rel E w x v → Rel (E0 fun b => E.imm b ∨ liveB E H b) w y v := by
  induction h with
  | bool b => intro v hv; cases hv; exact .bool _
  | int k n => intro v hv; cases hv; exact .int _ _
  | str s => intro v hv; cases hv; exact .str _
  | nilp => intro v hv; cases hv; exact .nilp
  | nilf => intro v hv; cases hv; exact .nilf
  | nilm => intro v hv; cases hv; exact .nilm
  | esl => intro v hv; cases hv with
    | eslnil => exact .eslnil
    | esl b o => exact .esl _ _
  | eslsl sz => intro v hv; cases hv with
    | eslnil => exact .slnil _
    | esl b o => exact .slempty _ _ _ _
  | slnil sz sz' => intro v hv; cases hv with
    | slnil => exact .slnil _
    | slempty => exact .slempty _ _ _ _
    | sl _ _ blk o cap vals h1 h2 h3 h4 h5 => exact .slempty _ _ _ _
  | mslnil b n sz off sz' => intro v hv; cases hv with
    | msl => exact .slempty _ _ _ _
    | msl0 _ _ _ h => rcases h with rfl | ⟨_, _, rfl⟩
                      · exact .slnil _
                      · exact .slempty _ _ _ _
  | sl sz l l' hl hc h ih =>
    intro v hv
    cases hv with
    | slnil => have : l' = [] := List.length_eq_zero_iff.1 hl.symm
               subst this; exact .slnil _
    | slempty => have : l' = [] := List.length_eq_zero_iff.1 hl.symm
                 subst this; exact .slempty _ _ _ _
    | sl _ _ blk o cap vals h1 h2 h3 h4 h5 =>
      have hcl : ∀ y ∈ l', y.cells.length = sz := by
        intro y hy
        obtain ⟨i, hi⟩ := List.getElem?_of_mem hy
        have hlt : i < l.length := by have := (List.getElem?_eq_some_iff.1 hi).1; omega
        rw [hc i l[i] y (by simp [hlt]) hi]
        exact h3 _ (List.getElem_mem hlt)
      have := Rel.sl (E := E0 fun b => E.imm b ∨ liveB E H b) (w := w) sz l' blk o cap vals (.inl h1) (by omega) hcl (fun i hi => h4 i (by rw [hl]; exact hi)) (fun i j y c hy hc' => by
        have hlt : i < l.length := by have := (List.getElem?_eq_some_iff.1 hy).1; omega
        have hjl : j < l[i].cells.length := by
          have e1 := (List.getElem?_eq_some_iff.1 hc').1
          rw [hc i l[i] y (by simp [hlt]) hy] at e1; exact e1
        exact ih i j l[i] y l[i].cells[j] c (by simp [hlt]) hy (by simp [hjl]) hc' (h5 i j l[i] _ (by simp [hlt]) (by simp [hjl])))
      rw [← hl] at this
      exact this
  | msl b n sz off len cs l' hb hn hfit hl hc h ih =>
    intro v hv
    generalize hnn : n = nn at hv
    cases hv with
    | msl0 => 
      have : l' = [] := List.length_eq_zero_iff.1 hl
      subst this
      rename_i hv
      rcases hv with rfl | ⟨_, _, rfl⟩
      · exact .slnil _
      · exact .slempty _ _ _ _
    | msl _ _ _ _ _ blk bsz cap hm hlc hcp hnc =>
      subst hnn
      rcases hh.box b cs hb with hn0 | ⟨blk', sz'', hbx⟩
      · rw [hn, hm] at hn0; cases hn0
      have e := hbx.mu
      rw [hn, hm] at e; cases e
      obtain ⟨vals, ty, k1, k2, k3, k4⟩ := hbx.cells
      have hcell : ∀ i, off + i < cs.length → w.cell? ⟨blk, off + i, none⟩ = some (vals.getD (off + i) Go.undef) := by
        intro i hi
        refine cell?_of_heap k1 ?_
        have : off + i < vals.size := by omega
        simp [this]
      have := Rel.sl (E := E0 fun b => E.imm b ∨ liveB E H b) (w := w) sz l' blk off cap (fun i => vals.getD (off + i) Go.undef) (.inr ⟨b, cs, bsz, hb, by rw [hn]; exact hm⟩) (by omega) hc
        (fun i hi => hcell i (by rw [hl] at hi; omega)) (fun i j y c hy hc' => by
        have hil : i < len := by have := (List.getElem?_eq_some_iff.1 hy).1; omega
        have hjs : j < sz := by have e1 := (List.getElem?_eq_some_iff.1 hc').1; rw [hc y (List.mem_of_getElem? hy)] at e1; exact e1
        have hlt : off + i * sz + j < cs.length := by
          have : (i + 1) * sz ≤ len * sz := Nat.mul_le_mul_right _ hil
          rw [Nat.add_mul] at this; omega
        obtain ⟨v', hv', _, hr⟩ := k4 (off + i * sz + j) cs[off + i * sz + j] (by simp [hlt])
        have := ih i j y _ c hy hc' (by simp [hlt]) hr
        have e2 : vals.getD (off + (i * sz + j)) Go.undef = v' := by
          rw [← Nat.add_assoc]
          simp [hv']
        rw [e2]; exact this)
      rw [hl] at this
      exact this
  | ptr b n off cs cs' hb hn hl h ih =>
    intro v hv
    cases hv with
    | ptr _ _ _ blk sz hm =>
      rcases hh.box b cs hb with hn0 | ⟨blk', sz'', hbx⟩
      · rw [hn, hm] at hn0; cases hn0
      have e := hbx.mu
      rw [hn, hm] at e; cases e
      obtain ⟨vals, ty, k1, k2, k3, k4⟩ := hbx.cells
      have := Rel.iptr (E := E0 fun b => E.imm b ∨ liveB E H b) (w := w) cs' off blk 0 (fun i => vals.getD i Go.undef) (.inr ⟨b, cs, sz, hb, by rw [hn]; exact hm⟩)
        (fun i hi => by
          rw [Nat.zero_add]
          refine cell?_of_heap k1 ?_
          have : i < vals.size := by omega
          simp [this]) (fun i c hc => by
          have hlt : i < cs.length := by have := (List.getElem?_eq_some_iff.1 hc).1; omega
          obtain ⟨v', hv', _, hr⟩ := k4 i cs[i] (by simp [hlt])
          have := ih i _ c (by simp [hlt]) hc hr
          have e2 : vals.getD i Go.undef = v' := by simp [hv']
          rw [e2]; exact this)
      rw [Nat.zero_add] at this
      exact this
  | iptr cs cs' off hl h ih =>
    intro v hv
    cases hv with
    | iptr _ _ blk o vals h1 h2 h3 =>
      exact .iptr cs' off blk o vals (.inl h1) (fun i hi => h2 i (by omega)) (fun i c hc => by
        have hlt : i < cs.length := by have := (List.getElem?_eq_some_iff.1 hc).1; omega
        exact ih i cs[i] c (by simp [hlt]) hc (h3 i _ (by simp [hlt])))
  | func f cs cs' hl h ih =>
    intro v hv
    cases hv with
    | func _ _ cv h1 h2 =>
      exact .func f cs' cv (by omega) (fun i c y hc hy => by
        have hlt : i < cs.length := by have := (List.getElem?_eq_some_iff.1 hc).1; omega
        exact ih i cs[i] c (by simp [hlt]) hc (h2 i _ y (by simp [hlt]) hy))
  | agg cs cs' hl h ih =>
    intro v hv
    cases hv with
    | agg _ cv h1 h2 =>
      exact .agg cs' cv (by omega) (fun i c y hc hy => by
        have hlt : i < cs.length := by have := (List.getElem?_eq_some_iff.1 hc).1; omega
        exact ih i cs[i] c (by simp [hlt]) hc (h2 i _ y (by simp [hlt]) hy))
  | tup cs cs' hl h ih =>
    intro v hv
    cases hv with
    | tup _ cv h1 h2 =>
      exact .tup cs' cv (by omega) (fun i c y hc hy => by
        have hlt : i < cs.length := by have := (List.getElem?_eq_some_iff.1 hc).1; omega
        exact ih i cs[i] c (by simp [hlt]) hc (h2 i _ y (by simp [hlt]) hy))

def noBoxes : Nat → Option (List AV) := fun _ => none

def SnapL (H : Nat → Option (List AV)) (xs ys : List AV) : Prop := ys.length = xs.length ∧ ∀ (i : Nat) (x y : AV), xs[i]? = some x → ys[i]? = some y → Snap H x y

theorem SnapL.nil {H : Nat → Option (List AV)} : SnapL H [] [] := ⟨rfl, by simp⟩
theorem SnapL.cons {H : Nat → Option (List AV)} {x y : AV} {xs ys : List AV} (h : Snap H x y) (hs : SnapL H xs ys) : SnapL H (x :: xs) (y :: ys) := by
  refine ⟨by simp [hs.1], fun i a b ha hb => ?_⟩
  cases i with
  | zero => simp at ha hb; subst ha hb; exact h
  | succ i => exact hs.2 i a b (by simpa using ha) (by simpa using hb)

theorem SnapL.sound {E : Env} {H : Nat → Option (List AV)} {nx : Nat} {w : World} (hh : HeapOk E H nx w) {xs ys : List AV} (h : SnapL H xs ys) {vs : List Value} (hv : RelL E w xs vs) : RelL (E0 fun b => E.imm b ∨ liveB E H b) w ys vs := by
  refine ⟨by rw [hv.1, h.1], fun i y v hy hvi => ?_⟩
  have hlt : i < xs.length := by have := (List.getElem?_eq_some_iff.1 hy).1; rw [h.1] at this; exact this
  exact (h.2 i xs[i] y (by simp [hlt]) hy).sound hh (hv.2 i _ v (by simp [hlt]) hvi)

theorem HeapOk.noBox {E : Env} {w : World} (hs : E.base ≤ w.heap.size) : HeapOk E noBoxes 0 w :=
  ⟨fun _ _ h => (by cases h), fun _ _ h => (by cases h), fun _ _ _ _ _ _ _ _ h => (by cases h), hs, fun _ _ _ _ h => (by cases h), fun _ _ h => (by cases h), fun _ h => (by cases h)⟩

theorem SnapL.sound0 {E : Env} {w : World} (hs : E.base ≤ w.heap.size) {xs ys : List AV} (h : SnapL noBoxes xs ys) {vs : List Value} (hv : RelL E w xs vs) : RelL (E0 E.imm) w ys vs := by
  have := h.sound (HeapOk.noBox (E := E) (w := w) hs) hv
  refine ⟨this.1, fun i x y hx hy => Rel.mono (E := E0 fun b => E.imm b ∨ liveB E noBoxes b) (E' := E0 E.imm) ?_ (fun _ _ _ h => h) (fun _ _ h => h) (this.2 i x y hx hy)⟩
  intro b hb
  rcases hb with hb | ⟨_, _, _, hn, _⟩
  · exact hb
  · exact (by cases hn)

def AV.sca1 : AV → Bool
  | .bool _ | .int _ _ | .str _ | .nilp | .nilf | .nilm | .esl | .sl _ [] => true
  | _ => false
def AV.sca : AV → Bool
  | .agg cs => cs.all AV.sca1
  | .tup cs => cs.all AV.sca1
  | x => x.sca1

theorem Rel.sca1 {E E' : Env} {w w' : World} {x : AV} {v : Value} (h : Rel E w x v) (hs : x.sca1 = true) : Rel E' w' x v := by
  cases h with
  | bool b => exact .bool _
  | int k n => exact .int _ _
  | str s => exact .str _
  | nilp => exact .nilp
  | nilf => exact .nilf
  | eslnil => exact .eslnil
  | esl b o => exact .esl _ _
  | slnil sz => exact .slnil _
  | slempty => exact .slempty _ _ _ _
  | sl sz elems blk o cap vals h1 h2 h3 h4 h5 =>
    cases elems with
    | nil => exact .slempty _ _ _ _
    | cons a l => simp [AV.sca1] at hs
  | undef => simp [AV.sca1] at hs
  | yld => simp [AV.sca1] at hs
  | mp => simp [AV.sca1] at hs
  | itr => simp [AV.sca1] at hs
  | nilm => exact .nilm
  | ptr => simp [AV.sca1] at hs
  | iptr => simp [AV.sca1] at hs
  | msl => simp [AV.sca1] at hs
  | msl0 => simp [AV.sca1] at hs
  | func => simp [AV.sca1] at hs
  | agg => simp [AV.sca1] at hs
  | tup => simp [AV.sca1] at hs

theorem Rel.sca {E E' : Env} {w w' : World} {x : AV} {v : Value} (h : Rel E w x v) (hs : x.sca = true) : Rel E' w' x v := by
  cases h with
  | agg cs vs hl hr =>
    exact .agg cs vs hl (fun i a y ha hy => (hr i a y ha hy).sca1 (List.all_eq_true.1 hs a (List.mem_of_getElem? ha)))
  | tup cs vs hl hr =>
    exact .tup cs vs hl (fun i a y ha hy => (hr i a y ha hy).sca1 (List.all_eq_true.1 hs a (List.mem_of_getElem? ha)))
  | bool b => exact .bool _
  | int k n => exact .int _ _
  | str s => exact .str _
  | nilp => exact .nilp
  | nilf => exact .nilf
  | eslnil => exact .eslnil
  | esl b o => exact .esl _ _
  | slnil sz => exact .slnil _
  | slempty => exact .slempty _ _ _ _
  | sl sz elems blk o cap vals h1 h2 h3 h4 h5 => exact (Rel.sl (E := E) (w := w) sz elems blk o cap vals h1 h2 h3 h4 h5).sca1 hs
  | undef => simp [AV.sca, AV.sca1] at hs
  | yld => simp [AV.sca, AV.sca1] at hs
  | mp => simp [AV.sca, AV.sca1] at hs
  | itr => simp [AV.sca, AV.sca1] at hs
  | nilm => exact .nilm
  | ptr => simp [AV.sca, AV.sca1] at hs
  | iptr => simp [AV.sca, AV.sca1] at hs
  | msl => simp [AV.sca, AV.sca1] at hs
  | msl0 => simp [AV.sca, AV.sca1] at hs
  | func => simp [AV.sca, AV.sca1] at hs

/-- The arguments are data, or are data as they stand and the result is plain. -/
def SnapArgs (H : Nat → Option (List AV)) (args args' : List AV) (r : AV) : Prop := SnapL noBoxes args args' ∨ SnapL H args args' ∧ r.sca = true

theorem Below.still {w w' : World} (h : Below w.heap.size w w') : Still w w' := fun k o ho _ => by
  rw [h.block k (Array.getElem?_eq_some_iff.1 ho).1]; exact ho

/-- what a pure call leaves: the same boxes -/
theorem Pure.calls {P : Program} {f : FuncId} {args args' : List AV} {r : AV} (hp : Pure P f args' r) {H : Nat → Option (List AV)} {nx : Nat} (hs : SnapArgs H args args' r)
    {E : Env} {w : World} {vs : List Value} (hE : EnvOk E w) (hh : HeapOk E H nx w) (hv : RelL E w args vs) :
    Calls P f vs.toArray w fun e w' => ∃ v E', e = .returned v ∧ Below w.heap.size w w' ∧ Ext E w E' w' ∧ EnvOk E' w' ∧ E'.mu = E.mu ∧ (∀ b, E'.imm b → E.imm b ∨ w.heap.size ≤ b) ∧ E'.sp = E.sp ∧ E'.lp = E.lp ∧ Rel E' w' r v := by
  have fin : ∀ (imm' : Nat → Prop) (w' : World), Below w.heap.size w w' → (∀ b, E.imm b → imm' b) → (∀ b, imm' b → E.imm b ∨ w.heap.size ≤ b) → (∀ b, imm' b → b < w'.heap.size) →
      Ext E w { E with imm := imm' } w' ∧ EnvOk { E with imm := imm' } w' := by
    intro imm' w' hb h1 h2 h3
    have he : Ext E w { E with imm := imm' } w' := ⟨rfl, rfl, h1, fun b hb' => (h2 b hb').imp id (fun h => Nat.le_trans hh.size h), fun _ _ _ h => h, fun _ _ h => h, fun _ _ h => h, fun b h => ⟨h, hb.block b (hE.dlt h)⟩, hb.size, fun b hb' => hb.block b (hE.lt b hb')⟩
    refine ⟨he, hE.step he (fun b h => .inr (h3 b h)) (fun k hk => (h2 k hk).imp id (fun hge b hb' => ?_)) (hb.mono hh.size) (Below.still hb) rfl rfl rfl (fun _ _ _ _ => rfl)⟩
    have := hE.splt hb'; omega
  rcases hs with hs | ⟨hs, hr⟩
  · have := hp.2 E.imm w vs hE.lt (hs.sound0 hh.size hv)
    refine this.mono ?_
    rintro e w' ⟨v, imm', rfl, hb, h1, h2, h3, h4⟩
    obtain ⟨k1, k2⟩ := fin imm' w' hb h1 h2 h3
    exact ⟨v, _, rfl, hb, k1, k2, rfl, h2, rfl, rfl, Rel.mono (E := E0 imm') (E' := { E with imm := imm' }) (fun _ h => h) (fun _ _ _ h => (by cases h)) (fun _ _ h => (by cases h)) h4⟩
  · have := hp.2 (fun b => E.imm b ∨ liveB E H b) w vs (fun b hb => hb.elim (hE.lt b) (fun ⟨b', cs, sz, h1, h2⟩ => (hh.blk_lt h1 h2).1)) (hs.sound hh hv)
    refine this.mono ?_
    rintro e w' ⟨v, imm', rfl, hb, h1, h2, h3, h4⟩
    obtain ⟨k1, k2⟩ := fin E.imm w' hb (fun _ h => h) (fun _ h => .inl h) (fun b hb' => Nat.lt_of_lt_of_le (hE.lt b hb') hb.size)
    exact ⟨v, E, rfl, hb, k1, k2, rfl, fun _ h => .inl h, rfl, rfl, h4.sca hr⟩

theorem HeapOk.below {E E' : Env} {H : Nat → Option (List AV)} {nx : Nat} {w w' : World} (h : HeapOk E H nx w) (he : Ext E w E' w') (hb : Below w.heap.size w w') (hmu : E'.mu = E.mu) (hi : ∀ b, E'.imm b → E.imm b ∨ w.heap.size ≤ b) (hsp : E'.sp = E.sp) : HeapOk E' H nx w' :=
  h.step he hi (Nat.le_refl _) (fun _ _ _ _ => by rw [hmu]) (fun b cs blk sz h1 h2 => hb.block _ (h.blk_lt h1 h2).1) (Below.still hb) hsp

theorem Fn.of_pure {P : Program} {f : FuncId} {args args' : List AV} {r : AV} (hp : Pure P f args' r) {H : Nat → Option (List AV)} {nx : Nat} (hs : SnapArgs H args args' r) {R : AV → (Nat → Option (List AV)) → Nat → Prop} (hR : R r H nx) : Fn P f args H nx R := by
  refine ⟨hp.1, fun E w vs hE hh hfr hv => (hp.calls hs hE hh hv).mono ?_⟩
  rintro e w' ⟨v, E', rfl, hb, he, hE', hmu, hi, hsp, hlp, hr⟩
  exact ⟨v, E', r, H, nx, rfl, he, hE', hh.below he hb hmu hi hsp, hfr.of (Nat.le_refl _) (fun b n _ => by rw [hmu]) hsp hlp, hr, hR⟩

/-! ### calls that leave the boxes as they are -/
/-- what a call gives that leaves all boxes -/
def CallOk (P : Program) (f : FuncId) (args : List AV) (H : Nat → Option (List AV)) (r : AV) : Prop :=
  cok P f = true ∧ ∀ (E : Env) (nx : Nat) (w : World) (vs : List Value), EnvOk E w → HeapOk E H nx w → RelL E w args vs →
    Calls P f vs.toArray w fun e w' => ∃ v E', e = .returned v ∧ Below w.heap.size w w' ∧ Ext E w E' w' ∧ EnvOk E' w' ∧ E'.mu = E.mu ∧ (∀ b, E'.imm b → E.imm b ∨ w.heap.size ≤ b) ∧ E'.sp = E.sp ∧ E'.lp = E.lp ∧ Rel E' w' r v

theorem Pure.callOk {P : Program} {f : FuncId} {args args' : List AV} {r : AV} (hp : Pure P f args' r) {H : Nat → Option (List AV)} (hs : SnapArgs H args args' r) : CallOk P f args H r :=
  ⟨hp.1, fun E nx w vs hE hh hv => hp.calls hs hE hh hv⟩

theorem Fn.of_callOk {P : Program} {f : FuncId} {args : List AV} {r : AV} {H : Nat → Option (List AV)} {nx : Nat} (hp : CallOk P f args H r) {R : AV → (Nat → Option (List AV)) → Nat → Prop} (hR : R r H nx) : Fn P f args H nx R := by
  refine ⟨hp.1, fun E w vs hE hh hfr hv => (hp.2 E nx w vs hE hh hv).mono ?_⟩
  rintro e w' ⟨v, E', rfl, hb, he, hE', hmu, hi, hsp, hlp, hr⟩
  exact ⟨v, E', r, H, nx, rfl, he, hE', hh.below he hb hmu hi hsp, hfr.of (Nat.le_refl _) (fun b n _ => by rw [hmu]) hsp hlp, hr, hR⟩

/-- data in boxes of one's own -/
inductive SnapF (H : Nat → Option (List AV)) : AV → AV → Prop
  | bool (b : Bool) : SnapF H (.bool b) (.bool b)
  | int (k : IntKind) (n : Int) : SnapF H (.int k n) (.int k n)
  | str (s : ByteArray) : SnapF H (.str s) (.str s)
  | nilp : SnapF H .nilp .nilp
  | nilf : SnapF H .nilf .nilf
  | nilm : SnapF H .nilm .nilm
  | esl : SnapF H .esl .esl
  | eslsl (sz : Nat) : SnapF H .esl (.sl sz [])
  | slnil (sz sz' : Nat) : SnapF H (.sl sz []) (.sl sz' [])
  | msl (b n sz off len : Nat) (cs : List AV) (l' : List AV) (hb : H b = some cs) (hn : cs.length = n) (hfit : off + len * sz ≤ n) (hl : l'.length = len) (hc : ∀ y ∈ l', y.cells.length = sz)
      (h : ∀ (i j : Nat) (y a c : AV), l'[i]? = some y → y.cells[j]? = some c → cs[off + i * sz + j]? = some a → SnapF H a c) : SnapF H (.msl b n sz off len) (.sl sz l')
  | mslnil (b n sz off sz' : Nat) : SnapF H (.msl b n sz off 0) (.sl sz' [])
  | ptr (b n off : Nat) (cs cs' : List AV) (hb : H b = some cs) (hn : cs.length = n) (hl : cs'.length = n) (h : ∀ (i : Nat) (a c : AV), cs[i]? = some a → cs'[i]? = some c → SnapF H a c) : SnapF H (.ptr b n off) (.iptr cs' off)
  | func (f : FuncId) (cs cs' : List AV) (hl : cs'.length = cs.length) (h : ∀ (i : Nat) (a c : AV), cs[i]? = some a → cs'[i]? = some c → SnapF H a c) : SnapF H (.func f cs) (.func f cs')
  | agg (cs cs' : List AV) (hl : cs'.length = cs.length) (h : ∀ (i : Nat) (a c : AV), cs[i]? = some a → cs'[i]? = some c → SnapF H a c) : SnapF H (.agg cs) (.agg cs')
  | tup (cs cs' : List AV) (hl : cs'.length = cs.length) (h : ∀ (i : Nat) (a c : AV), cs[i]? = some a → cs'[i]? = some c → SnapF H a c) : SnapF H (.tup cs) (.tup cs')

theorem SnapF.sound {E : Env} {H : Nat → Option (List AV)} {nx : Nat} {w : World} (hh : HeapOk E H nx w) {x y : AV} (h : SnapF H x y) : ∀ {v : Value}, Rel E w x v → Rel (E0 fun b => liveB E H b) w y v := by
  induction h with
  | bool b => intro v hv; cases hv; exact .bool _
  | int k n => intro v hv; cases hv; exact .int _ _
  | str s => intro v hv; cases hv; exact .str _
  | nilp => intro v hv; cases hv; exact .nilp
  | nilf => intro v hv; cases hv; exact .nilf
  | nilm => intro v hv; cases hv; exact .nilm
  | esl => intro v hv; cases hv with
    | eslnil => exact .eslnil
    | esl b o => exact .esl _ _
  | eslsl sz => intro v hv; cases hv with
    | eslnil => exact .slnil _
    | esl b o => exact .slempty _ _ _ _
  | slnil sz sz' => intro v hv; cases hv with
    | slnil => exact .slnil _
    | slempty => exact .slempty _ _ _ _
    | sl _ _ blk o cap vals h1 h2 h3 h4 h5 => exact .slempty _ _ _ _
  | mslnil b n sz off sz' => intro v hv; cases hv with
    | msl => exact .slempty _ _ _ _
    | msl0 _ _ _ h => rcases h with rfl | ⟨_, _, rfl⟩
                      · exact .slnil _
                      · exact .slempty _ _ _ _
  | msl b n sz off len cs l' hb hn hfit hl hc h ih =>
    intro v hv
    generalize hnn : n = nn at hv
    cases hv with
    | msl0 =>
      have : l' = [] := List.length_eq_zero_iff.1 hl
      subst this
      rename_i hv
      rcases hv with rfl | ⟨_, _, rfl⟩
      · exact .slnil _
      · exact .slempty _ _ _ _
    | msl _ _ _ _ _ blk bsz cap hm hlc hcp hnc =>
      subst hnn
      rcases hh.box b cs hb with hn0 | ⟨blk', sz'', hbx⟩
      · rw [hn, hm] at hn0; cases hn0
      have e := hbx.mu
      rw [hn, hm] at e; cases e
      obtain ⟨vals, ty, k1, k2, k3, k4⟩ := hbx.cells
      have hcell : ∀ i, off + i < cs.length → w.cell? ⟨blk, off + i, none⟩ = some (vals.getD (off + i) Go.undef) := by
        intro i hi
        refine cell?_of_heap k1 ?_
        have : off + i < vals.size := by omega
        simp [this]
      have := Rel.sl (E := E0 fun b => liveB E H b) (w := w) sz l' blk off cap (fun i => vals.getD (off + i) Go.undef) ⟨b, cs, bsz, hb, by rw [hn]; exact hm⟩ (by omega) hc
        (fun i hi => hcell i (by rw [hl] at hi; omega)) (fun i j y c hy hc' => by
        have hil : i < len := by have := (List.getElem?_eq_some_iff.1 hy).1; omega
        have hjs : j < sz := by have e1 := (List.getElem?_eq_some_iff.1 hc').1; rw [hc y (List.mem_of_getElem? hy)] at e1; exact e1
        have hlt : off + i * sz + j < cs.length := by
          have : (i + 1) * sz ≤ len * sz := Nat.mul_le_mul_right _ hil
          rw [Nat.add_mul] at this; omega
        obtain ⟨v', hv', _, hr⟩ := k4 (off + i * sz + j) cs[off + i * sz + j] (by simp [hlt])
        have := ih i j y _ c hy hc' (by simp [hlt]) hr
        have e2 : vals.getD (off + (i * sz + j)) Go.undef = v' := by
          rw [← Nat.add_assoc]
          simp [hv']
        rw [e2]; exact this)
      rw [hl] at this
      exact this
  | ptr b n off cs cs' hb hn hl h ih =>
    intro v hv
    cases hv with
    | ptr _ _ _ blk sz hm =>
      rcases hh.box b cs hb with hn0 | ⟨blk', sz'', hbx⟩
      · rw [hn, hm] at hn0; cases hn0
      have e := hbx.mu
      rw [hn, hm] at e; cases e
      obtain ⟨vals, ty, k1, k2, k3, k4⟩ := hbx.cells
      have := Rel.iptr (E := E0 fun b => liveB E H b) (w := w) cs' off blk 0 (fun i => vals.getD i Go.undef) ⟨b, cs, sz, hb, by rw [hn]; exact hm⟩
        (fun i hi => by
          rw [Nat.zero_add]
          refine cell?_of_heap k1 ?_
          have : i < vals.size := by omega
          simp [this]) (fun i c hc => by
          have hlt : i < cs.length := by have := (List.getElem?_eq_some_iff.1 hc).1; omega
          obtain ⟨v', hv', _, hr⟩ := k4 i cs[i] (by simp [hlt])
          have := ih i _ c (by simp [hlt]) hc hr
          have e2 : vals.getD i Go.undef = v' := by simp [hv']
          rw [e2]; exact this)
      rw [Nat.zero_add] at this
      exact this
  | func f cs cs' hl h ih =>
    intro v hv
    cases hv with
    | func _ _ cv h1 h2 =>
      exact .func f cs' cv (by omega) (fun i c y hc hy => by
        have hlt : i < cs.length := by have := (List.getElem?_eq_some_iff.1 hc).1; omega
        exact ih i cs[i] c (by simp [hlt]) hc (h2 i _ y (by simp [hlt]) hy))
  | agg cs cs' hl h ih =>
    intro v hv
    cases hv with
    | agg _ cv h1 h2 =>
      exact .agg cs' cv (by omega) (fun i c y hc hy => by
        have hlt : i < cs.length := by have := (List.getElem?_eq_some_iff.1 hc).1; omega
        exact ih i cs[i] c (by simp [hlt]) hc (h2 i _ y (by simp [hlt]) hy))
  | tup cs cs' hl h ih =>
    intro v hv
    cases hv with
    | tup _ cv h1 h2 =>
      exact .tup cs' cv (by omega) (fun i c y hc hy => by
        have hlt : i < cs.length := by have := (List.getElem?_eq_some_iff.1 hc).1; omega
        exact ih i cs[i] c (by simp [hlt]) hc (h2 i _ y (by simp [hlt]) hy))

/-- What a function gives that lies in blocks of its own, and borrows its arguments. -/
def PureF (P : Program) (f : FuncId) (args : List AV) (r : AV) : Prop :=
  cok P f = true ∧ ∀ (imm : Nat → Prop) (w : World) (vs : List Value), (∀ b, imm b → b < w.heap.size) → RelL (E0 imm) w args vs →
    Calls P f vs.toArray w fun e w' => ∃ v imm', e = .returned v ∧ Below w.heap.size w w' ∧ (∀ b, imm' b → w.heap.size ≤ b) ∧ (∀ b, imm' b → b < w'.heap.size) ∧ Rel (E0 imm') w' r v

theorem PureF.callOk {P : Program} {f : FuncId} {args args' : List AV} {r : AV} (hp : PureF P f args' r) {H : Nat → Option (List AV)} (hs : SnapL H args args') : CallOk P f args H r := by
  refine ⟨hp.1, fun E nx w vs hE hh hv => ?_⟩
  refine (hp.2 (fun b => E.imm b ∨ liveB E H b) w vs (fun b hb => hb.elim (hE.lt b) (fun ⟨b', cs, sz, h1, h2⟩ => (hh.blk_lt h1 h2).1)) (hs.sound hh hv)).mono ?_
  rintro e w' ⟨v, imm', rfl, hb, h1, h2, h3⟩
  have he : Ext E w { E with imm := fun b => E.imm b ∨ imm' b } w' := ⟨rfl, rfl, fun _ h => .inl h, fun b hb' => hb'.imp id (fun h => Nat.le_trans hh.size (h1 b h)), fun _ _ _ h => h, fun _ _ h => h, fun _ _ h => h, fun b h => ⟨h, hb.block b (hE.dlt h)⟩, hb.size, fun b hb' => hb.block b (hE.lt b hb')⟩
  refine ⟨v, { E with imm := fun b => E.imm b ∨ imm' b }, rfl, hb, he, hE.step he (fun b h => h.imp id (h2 b)) (fun k hk => hk.imp id (fun hge b hb' => ?_)) (hb.mono hh.size) (Below.still hb) rfl rfl rfl (fun _ _ _ _ => rfl), rfl, fun b h => h.imp id (h1 b), rfl, rfl, ?_⟩
  · have := hE.splt hb'; have := h1 k hge; omega
  · exact Rel.mono (E := E0 imm') (E' := { E with imm := fun b => E.imm b ∨ imm' b }) (fun _ h => .inr h) (fun _ _ _ h => (by cases h)) (fun _ _ h => (by cases h)) h3

end Go.Abs
