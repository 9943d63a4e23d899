/- What the operations that only read give, on abstract values. -/
import Derived.Test.YtcbkggfipdldaaaXAbsA1
import Derived.Laws.Cells
import Derived.Laws.World
import Derived.Laws.Sem
import Derived.WalkKit
namespace Go.Abs
open Go.RowKit

/-- Cells known in a world: from ⟨blk, o⟩ on, xs. -/
structure RowAt (E : Env) (w : World) (blk o : Nat) (xs : List AV) (vals : List Value) : Prop where
  len : vals.length = xs.length
  cell : ∀ (i : Nat) (y : Value), vals[i]? = some y → w.cell? ⟨blk, o + i, none⟩ = some y
  rel : ∀ (i : Nat) (x : AV) (y : Value), xs[i]? = some x → vals[i]? = some y → Rel E w x y

theorem map_range_get {β : Type} {f : Nat → β} {k i : Nat} {y : β} (h : ((List.range k).map f)[i]? = some y) : i < k ∧ f i = y := by
  by_cases hi : i < k
  · refine ⟨hi, ?_⟩
    simpa [hi] using h
  · rw [List.getElem?_eq_none (by simpa using hi)] at h
    cases h

def rd1 (H : Nat → Option (List AV)) : AV → Option AV
  | .ptr b n off => match H b with
    | some cs => if cs.length = n then cs[off]? else none
    | none => none
  | .iptr cells off => cells[off]?
  | _ => none

def rd (H : Nat → Option (List AV)) (k : Nat) : AV → Option (List AV)
  | .ptr b n off => match H b with
    | some cs => if cs.length = n ∧ off + k ≤ n then some ((cs.drop off).take k) else none
    | none => none
  | .iptr cells off => if off + k ≤ cells.length then some ((cells.drop off).take k) else none
  | _ => none

theorem cell?_of_heap {w : World} {blk i : Nat} {vals : Array Value} {ty : TypeId} {fz : Nat × Nat} {v : Value} (h : w.heap[blk]? = some (.cells vals ty fz)) (hv : vals[i]? = some v) :
    w.cell? ⟨blk, i, none⟩ = some v := by
  simp [World.cell?, h, hv]

theorem rd_sound {E : Env} {H : Nat → Option (List AV)} {nx : Nat} {w : World} (hh : HeapOk E H nx w) {p : AV} {v : Value} (hr : Rel E w p v) {k : Nat} {xs : List AV} (hx : rd H k p = some xs) (hk : 0 < k) :
    ∃ blk o vals, v = .pointer (some ⟨blk, o, none⟩) ∧ xs.length = k ∧ RowAt E w blk o xs vals := by
  cases hr with
  | ptr b n off blk sz hm =>
    simp only [rd] at hx
    cases hb : H b with
    | none => simp [hb] at hx
    | some cs =>
      simp only [hb] at hx
      split at hx
      case isFalse => cases hx
      case isTrue h =>
        obtain ⟨hn, ho⟩ := h
        cases hx
        obtain ⟨blk', sz', hbox⟩ := (hh.box b cs hb).resolve_left (fun h => by rw [hn, hm] at h; cases h)
        have e := hbox.mu
        rw [hn, hm] at e
        cases e
        obtain ⟨vals, ty, hheap, hvs, hle, hcells⟩ := hbox.cells
        refine ⟨blk, off, (vals.toList.drop off).take k, rfl, by simp; omega, ⟨?_, ?_, ?_⟩⟩
        · simp; omega
        · intro i y hy
          rw [List.getElem?_take] at hy
          split at hy
          case isFalse => cases hy
          case isTrue hi =>
            rw [List.getElem?_drop] at hy
            exact cell?_of_heap hheap (by simpa using hy)
        · intro i x y hx hy
          rw [List.getElem?_take] at hx hy
          split at hx
          case isFalse => cases hx
          case isTrue hi =>
            rw [if_pos hi] at hy
            rw [List.getElem?_drop] at hx hy
            obtain ⟨v', hv', _, hrel⟩ := hcells _ _ hx
            simp at hy
            rw [hv'] at hy
            cases hy
            exact hrel
  | iptr cells off blk o vals hi hc hrel =>
    simp only [rd] at hx
    split at hx
    case isFalse => cases hx
    case isTrue h =>
      cases hx
      refine ⟨blk, o + off, (List.range k).map (fun i => vals (off + i)), rfl, by simp; omega, ⟨by simp; omega, ?_, ?_⟩⟩
      · intro i y hy
        obtain ⟨hi', rfl⟩ := map_range_get hy
        have := hc (off + i) (by omega)
        rw [show o + off + i = o + (off + i) by omega]
        exact this
      · intro i x y hx hy
        obtain ⟨hi', rfl⟩ := map_range_get hy
        rw [List.getElem?_take, if_pos hi', List.getElem?_drop] at hx
        exact hrel _ _ hx
  | _ => simp [rd] at hx

theorem rd1_sound {E : Env} {H : Nat → Option (List AV)} {nx : Nat} {w : World} (hh : HeapOk E H nx w) {p : AV} {v : Value} (hr : Rel E w p v) {x : AV} (hx : rd1 H p = some x) :
    ∃ blk o y, v = .pointer (some ⟨blk, o, none⟩) ∧ w.cell? ⟨blk, o, none⟩ = some y ∧ Rel E w x y := by
  cases hr with
  | ptr b n off blk sz hm =>
    simp only [rd1] at hx
    cases hb : H b with
    | none => simp [hb] at hx
    | some cs =>
      simp only [hb] at hx
      split at hx
      case isFalse => cases hx
      case isTrue hn =>
        obtain ⟨blk', sz', hbox⟩ := (hh.box b cs hb).resolve_left (fun h => by rw [hn, hm] at h; cases h)
        have e := hbox.mu
        rw [hn, hm] at e
        cases e
        obtain ⟨vals, ty, hheap, hvs, hle, hcells⟩ := hbox.cells
        obtain ⟨v', hv', _, hrel⟩ := hcells _ _ hx
        exact ⟨blk, off, v', rfl, cell?_of_heap hheap hv', hrel⟩
  | iptr cells off blk o vals hi hc hrel =>
    simp only [rd1] at hx
    have hlt : off < cells.length := (List.getElem?_eq_some_iff.1 hx).1
    exact ⟨blk, o + off, vals off, rfl, hc _ hlt, hrel _ _ hx⟩
  | _ => simp [rd1] at hx

/-! ### types -/
def tagg (P : Program) (t : TypeId) : Bool := match P.underlying t with | some (.struct _) | some (.array _ _) => true | _ => false
def tok (P : Program) (t : TypeId) : Bool := (P.underlying t).isSome
def foff (P : Program) (t f : Nat) : Option Nat := match P.underlying t with
  | some (.struct fs) => match fs[f]? with
    | some fd => if P.cellsOf fd.type = 0 || (P.info? fd.type).isNone then none else some fd.offset
    | none => none
  | _ => none
/-- the element type of a slice type -/
def telem (P : Program) (t : TypeId) : Option TypeId := match P.underlying t with | some (.slice e) => some e | _ => none
/-- length and element of an array type -/
def tarr (P : Program) (t : TypeId) : Option (Nat × TypeId) := match P.underlying t with | some (.array n e) => some (n, e) | _ => none
def tint (P : Program) (t : TypeId) : Option IntKind := match P.underlying t with | some (.int k) => some k | _ => none
def tbool (P : Program) (t : TypeId) : Bool := match P.underlying t with | some .bool => true | _ => false

theorem info_of_tok {P : Program} {t : TypeId} {d : TypeDesc} (h : P.underlying t = some d) : ∃ i, P.info? t = some i := by
  unfold Program.underlying at h
  cases hi : P.info? t with
  | none => simp [hi] at h
  | some i => exact ⟨i, rfl⟩

theorem run_isAgg {P : Program} {t : TypeId} (h : tok P t = true) (w : World) : (isAgg t).run P w = .ok (tagg P t) w := by
  unfold tok at h
  cases hd : P.underlying t with
  | none => simp [hd] at h
  | some d =>
    unfold isAgg
    simp only [Sem.run_bind, run_underlying hd, Result.andThen_ok, tagg, hd]
    cases d <;> rfl

theorem run_sizeOf' {P : Program} {t : TypeId} (h : tok P t = true) (w : World) : (sizeOf t).run P w = .ok (P.cellsOf t) w := by
  unfold tok at h
  cases hd : P.underlying t with
  | none => simp [hd] at h
  | some d =>
    obtain ⟨i, hi⟩ := info_of_tok hd
    simp [sizeOf, typeInfo, hi, Program.cellsOf]

theorem addr_add (blk o n : Nat) : (⟨blk, o, none⟩ : Addr).add n = ⟨blk, o + n, none⟩ := by
  unfold Addr.add
  split
  · subst_vars; rfl
  · rfl

def aload (P : Program) (H : Nat → Option (List AV)) (t : TypeId) (p : AV) : Option AV :=
  if tok P t then
    if tagg P t then (if 0 < P.cellsOf t then (rd H (P.cellsOf t) p).map .agg else none) else rd1 H p
  else none

theorem aload_sound {P : Program} {E : Env} {H : Nat → Option (List AV)} {nx : Nat} {w : World} (hh : HeapOk E H nx w) {p : AV} {v : Value} (hr : Rel E w p v) {t : TypeId} {x : AV} (hx : aload P H t p = some x) :
    ∃ y, (Instr.loadAt t v).run P w = .ok y w ∧ Rel E w x y := by
  unfold aload at hx
  split at hx
  case isFalse => cases hx
  case isTrue ht =>
    split at hx
    case isTrue hagg =>
      split at hx
      case isFalse => cases hx
      case isTrue hpos =>
        cases hrd : rd H (P.cellsOf t) p with
        | none => simp [hrd] at hx
        | some xs =>
          simp [hrd] at hx
          subst hx
          obtain ⟨blk, o, vals, rfl, hlen, hrow⟩ := rd_sound hh hr hrd hpos
          refine ⟨.agg vals.toArray, ?_, .agg xs vals hrow.len hrow.rel⟩
          have hl : vals.length = P.cellsOf t := hrow.len.trans hlen
          simp only [Instr.loadAt, Instr.sureAddr, loadVar, Sem.run_bind, Sem.run_pure, Result.andThen_ok, run_isAgg ht, hagg, if_true, run_sizeOf' ht, ← hl]
          rw [run_loadCells_list (P := P) (w := w) ⟨blk, o, none⟩ vals (fun j v hv => by rw [addr_add]; exact hrow.cell _ _ hv)]
          rfl
    case isFalse hagg =>
      obtain ⟨blk, o, y, rfl, hc, hrel⟩ := rd1_sound hh hr hx
      refine ⟨y, ?_, hrel⟩
      simp [Instr.loadAt, Instr.sureAddr, loadVar, run_isAgg ht, hagg, hc]

end Go.Abs
