/- The operations that make or write memory. -/
import Derived.Test.YtcbkggfipdldaaaXAbsA5
import Derived.Laws.Append
set_option linter.unusedVariables false
namespace Go.Abs
open Go.RowKit

/-- what an operation with an effect leaves -/
def EffOk (P : Program) (E : Env) (w : World) (s : Sem Value) (r : AV) (H' : Nat → Option (List AV)) (nx' : Nat) : Prop :=
  ∃ v w' E', s.run P w = .ok v w' ∧ Ext E w E' w' ∧ EnvOk E' w' ∧ HeapOk E' H' nx' w' ∧ Rel E' w' r v ∧ Fresh E' nx'

/-- what an operation leaves that makes a block -/
def ARun (P : Program) (E : Env) (w : World) (s : Sem Value) (r : AV) (H : Nat → Option (List AV)) (nx : Nat) (H' : Nat → Option (List AV)) (nx' : Nat) : Prop :=
  (nx' = nx ∧ H' = H ∧ ∃ v o, s.run P w = .ok v (w.alloc o) ∧ ∀ E w, Rel E w r v) ∨
  ∃ (cells : List AV) (vals : Array Value) (ty : TypeId) (v : Value), H' = hupd H nx cells ∧ nx' = nx + 1 ∧ s.run P w = .ok v (w.alloc (.cells vals ty)) ∧ cells.length ≤ vals.size ∧
    (∀ (i : Nat) (x : AV), cells[i]? = some x → ∃ v : Value, vals[i]? = some v ∧ v.oneCell' = true ∧ Rel E w x v) ∧
    ∀ (E'' : Env) (w'' : World), E''.mu nx cells.length = some (w.heap.size, vals.size) → Rel E'' w'' r v

theorem ARun.effOk {P : Program} {E : Env} {w : World} {s : Sem Value} {r : AV} {H : Nat → Option (List AV)} {nx : Nat} {H' : Nat → Option (List AV)} {nx' : Nat} (h : ARun P E w s r H nx H' nx')
    (hE : EnvOk E w) (hh : HeapOk E H nx w) (hfr : Fresh E nx) : EffOk P E w s r H' nx' := by
  rcases h with ⟨rfl, rfl, v, o, h1, h2⟩ | ⟨cells, vals, ty, v, rfl, rfl, h1, h2, h3, h4⟩
  · exact ⟨v, _, E, h1, Ext.alloc E w o hE, hE.alloc hh.size o, hh.alloc hE o, h2 _ _, hfr⟩
  · obtain ⟨E', he, hE', hh', hmu, _, hmo, hms, hml⟩ := hh.newBox hE (hfr nx (Nat.le_refl _)) cells vals ty h2 h3
    exact ⟨v, _, E', h1, he, hE', hh', h4 E' _ hmu, hfr.of (by omega) (fun b n hb => hmo b n (by omega)) hms hml⟩

/-! ### a new variable -/
def abox (x : AV) (H : Nat → Option (List AV)) (nx : Nat) : Option (AV × (Nat → Option (List AV)) × Nat) :=
  if x.flat then some (.ptr nx x.cells.length 0, hupd H nx x.cells, nx + 1) else none

theorem abox_run {P : Program} {E : Env} {H : Nat → Option (List AV)} {nx : Nat} {w : World} {t : TypeId} {x : AV} {v : Value} (hx : Rel E w x v)
    {r : AV} {H' : Nat → Option (List AV)} {nx' : Nat} (h : abox x H nx = some (r, H', nx')) : ARun P E w (Instr.box t v) r H nx H' nx' := by
  unfold abox at h
  split at h
  case isFalse => cases h
  case isTrue hf =>
    cases h
    obtain ⟨hl, hr, h1⟩ := hx.cells hf
    refine .inr ⟨x.cells, v.cells, t, .pointer (some ⟨w.heap.size, 0, none⟩), rfl, rfl, by simp [Instr.box, newVar, newRow], by simpa using Nat.le_of_eq hl.symm, fun i a ha => ?_, fun E'' w'' hmu => .ptr _ _ _ _ _ hmu⟩
    have hlt : i < v.cells.toList.length := by have := (List.getElem?_eq_some_iff.1 ha).1; omega
    exact ⟨v.cells.toList[i], by simp [Array.getElem?_eq_getElem (show i < v.cells.size by simpa using hlt)], h1 _ (List.getElem_mem hlt), hr i a _ ha (List.getElem?_eq_getElem hlt)⟩

def azero (P : Program) (t : TypeId) : Option AV := match P.info? t with
  | some i => match i.zero with
    | some z => some (ofV z)
    | none => none
  | none => none

theorem azero_sound {P : Program} {t : TypeId} {z : AV} (h : azero P t = some z) : ∃ v, (∀ w, (zeroValue t).run P w = .ok v w) ∧ ∀ E w, Rel E w z v := by
  unfold azero at h
  split at h
  · rename_i i hi
    split at h
    · rename_i v hz
      cases h
      exact ⟨v, fun w => by simp [zeroValue, typeInfo, hi, hz], fun E w => ofV_rel E w v⟩
    · cases h
  · cases h

def aalloc (P : Program) (t : TypeId) (H : Nat → Option (List AV)) (nx : Nat) : Option (AV × (Nat → Option (List AV)) × Nat) :=
  match azero P t with
  | some z => abox z H nx
  | none => none

theorem aalloc_run {P : Program} {E : Env} {H : Nat → Option (List AV)} {nx : Nat} {w : World} {t : TypeId}
    {r : AV} {H' : Nat → Option (List AV)} {nx' : Nat} (h : aalloc P t H nx = some (r, H', nx')) : ARun P E w (Instr.alloc t true (.tuple #[])) r H nx H' nx' := by
  unfold aalloc at h
  split at h
  · rename_i z hz
    obtain ⟨v, hv, hr⟩ := azero_sound hz
    have he : (Instr.alloc t true (.tuple #[])).run P w = (Instr.box t v).run P w := by
      simp only [Instr.alloc, Instr.box, Sem.run_bind, hv, Result.andThen_ok]
    have := abox_run (P := P) (t := t) (hr E w) h
    unfold ARun at this ⊢
    rw [he]
    exact this
  · cases h

/-! ### a store -/
def astore (P : Program) (t : TypeId) (p x : AV) (H : Nat → Option (List AV)) : Option (Nat → Option (List AV)) :=
  match p with
  | .ptr b n off => match H b with
    | some cs => if cs.length = n ∧ tok P t = true ∧ x.flat = true ∧ x.cells.length = P.cellsOf t ∧ off + P.cellsOf t ≤ n ∧ 0 < P.cellsOf t then some (hupd H b (lput cs off x.cells)) else none
    | none => none
  | _ => none

/-- writing cells into a live box -/
theorem write_sound {P : Program} {E : Env} {H : Nat → Option (List AV)} {nx : Nat} {w : World} (hE : EnvOk E w) (hh : HeapOk E H nx w) {b : Nat} {cs : List AV} {blk sz off : Nat} (hb : H b = some cs)
    (hm : E.mu b cs.length = some (blk, sz)) {new : List AV} {nv : List Value} (hfit : off + new.length ≤ cs.length) (hnl : nv.length = new.length)
    (hn : ∀ (i : Nat) (x : AV) (y : Value), new[i]? = some x → nv[i]? = some y → Rel E w x y) (h1 : ∀ y ∈ nv, y.oneCell' = true) :
    ∃ w' E', (storeCells ⟨blk, off, none⟩ nv).run P w = .ok () w' ∧ Ext E w E' w' ∧ EnvOk E' w' ∧ HeapOk E' (hupd H b (lput cs off new)) nx w' ∧ (∀ b' n, b' ≠ b → E'.mu b' n = E.mu b' n) ∧ E'.sp = E.sp ∧ E'.lp = E.lp := by
  rcases hh.box b cs hb with hn0 | ⟨blk', sz', hx⟩
  · rw [hn0] at hm; cases hm
  · rw [hx.mu] at hm; cases hm
    obtain ⟨vals, ty, k1, k2, k3, k4⟩ := hx.cells
    have hrun := run_storeCells_at P blk off ty nv 0 vals w k1 (by omega) h1
    simp only [Nat.add_zero] at hrun
    have hlen := lput_length (cs := cs) (new := new) (off := off) hfit
    obtain ⟨E', he, hE', hh', _, _, hmo, hms, hml⟩ := hh.write hE hb hx (cs' := lput cs off new) (vals.toList.take off ++ nv ++ vals.toList.drop (off + nv.length)).toArray
      (by simp; omega) (by omega) (by omega) (.inl hlen) (fun i x hxi => by
        have := lput_rel (E := E) (w := w) (vals := vals.toList) (nv := nv) hfit (by simpa using (by omega : cs.length ≤ vals.size)) hnl (fun i x hx' => by
          obtain ⟨v, hv, ho, hr⟩ := k4 i x hx'
          exact ⟨v, by simpa using hv, ho, hr⟩) hn h1 i x hxi
        obtain ⟨v, hv, ho, hr⟩ := this
        exact ⟨v, by simpa using hv, ho, hr⟩)
    exact ⟨_, E', hrun, he, hE', hh', hmo, hms, hml⟩

theorem astore_sound {P : Program} {E : Env} {H : Nat → Option (List AV)} {nx : Nat} {w : World} (hE : EnvOk E w) (hh : HeapOk E H nx w) (hfr : Fresh E nx) {t : TypeId} {p x : AV} {vp vx : Value} (hp : Rel E w p vp) (hx : Rel E w x vx)
    {H' : Nat → Option (List AV)} (h : astore P t p x H = some H') : ∃ w' E', (Instr.storeAt t vp vx).run P w = .ok () w' ∧ Ext E w E' w' ∧ EnvOk E' w' ∧ HeapOk E' H' nx w' ∧ Fresh E' nx := by
  unfold astore at h
  split at h
  · rename_i b n off
    split at h
    · rename_i cs hb
      split at h
      case isFalse => cases h
      case isTrue hc =>
        obtain ⟨rfl, ht, hf, hsz, hfit, hpos⟩ := hc
        cases h
        cases hp with
        | ptr _ _ _ blk bsz hm =>
        obtain ⟨hl, hr, h1⟩ := hx.cells hf
        obtain ⟨w', E', h2, h3, h4, h5, h6, hms, hml⟩ := write_sound (P := P) hE hh (off := off) (nv := vx.cells.toList) hb hm (by omega) hl hr h1
        refine ⟨w', E', ?_, h3, h4, h5, hfr.of (Nat.le_refl _) (fun b' n hb' => h6 b' n (by have := hh.dom _ _ hb; omega)) hms hml⟩
        have hs : vx.cells.size = P.cellsOf t := by have : vx.cells.toList.length = vx.cells.size := by simp
                                                    omega
        simp [Instr.storeAt, Instr.sureAddr, storeVar, run_sizeOf' ht, hs, h2]
    · cases h
  · cases h

/-! ### sources of appends and copies -/
def asrc (sz : Nat) (H : Nat → Option (List AV)) (x : AV) : Option (Nat × List AV) :=
  match x with
  | .esl => some (0, [])
  | .sl sz' elems => if sz' = sz ∨ elems = [] then some (elems.length, elems.flatMap AV.cells) else none
  | .msl b n sz' off len => if len = 0 then some (0, []) else
    match H b with
    | some cs => if cs.length = n ∧ sz' = sz ∧ off + len * sz ≤ n then some (len, (cs.drop off).take (len * sz)) else none
    | none => none
  | _ => none

theorem flatMap_cells_get {sz : Nat} : ∀ (elems : List AV), (∀ x ∈ elems, x.cells.length = sz) → (elems.flatMap AV.cells).length = elems.length * sz ∧
    ∀ (k : Nat) (y : AV), (elems.flatMap AV.cells)[k]? = some y → ∃ i j x, k = i * sz + j ∧ j < sz ∧ elems[i]? = some x ∧ x.cells[j]? = some y
  | [], _ => ⟨by simp, by simp⟩
  | x :: l, h => by
    obtain ⟨h1, h2⟩ := flatMap_cells_get l (fun y hy => h y (by simp [hy]))
    have hx : x.cells.length = sz := h x (by simp)
    refine ⟨by simp [h1, hx, Nat.add_mul]; omega, ?_⟩
    intro k y hk
    rw [List.flatMap_cons] at hk
    by_cases hlt : k < sz
    · rw [List.getElem?_append_left (by omega)] at hk
      exact ⟨0, k, x, by simp, hlt, by simp, hk⟩
    · rw [List.getElem?_append_right (by omega), hx] at hk
      obtain ⟨i, j, x', e, hj, hi, hc⟩ := h2 _ _ hk
      exact ⟨i + 1, j, x', by rw [Nat.add_mul]; omega, hj, by simpa using hi, hc⟩

theorem asrc_sound {P : Program} {E : Env} {H : Nat → Option (List AV)} {nx : Nat} {w : World} (hh : HeapOk E H nx w) {x : AV} {v : Value} (hx : Rel E w x v) {sz n : Nat} {xs : List AV} (h : asrc sz H x = some (n, xs)) :
    (Builtin.lenOf v).run P w = .ok n w ∧ xs.length = n * sz ∧
    ∃ vals : List Value, (Builtin.firstCells sz n v).run P w = .ok vals.toArray w ∧ vals.length = xs.length ∧ ∀ (i : Nat) (a : AV) (y : Value), xs[i]? = some a → vals[i]? = some y → Rel E w a y := by
  unfold asrc at h
  split at h
  · cases h
    cases hx with
    | eslnil => exact ⟨rfl, by simp, [], by simp [Builtin.firstCells], rfl, by simp⟩
    | esl blk o => exact ⟨rfl, by simp, [], by simp [Builtin.firstCells, loadCells, loadCellsFrom], rfl, by simp⟩
  · rename_i sz' elems
    split at h
    case isFalse => cases h
    case isTrue hc =>
      cases h
      cases hx with
      | slnil => exact ⟨rfl, by simp, [], by simp [Builtin.firstCells], rfl, by simp⟩
      | slempty => exact ⟨rfl, by simp, [], by simp [Builtin.firstCells, loadCells, loadCellsFrom], rfl, by simp⟩
      | sl _ _ blk o cap vals him hlen hsz hcell hr =>
        by_cases hnil : elems = []
        · subst hnil
          exact ⟨rfl, by simp, [], by simp [Builtin.firstCells, loadCells, loadCellsFrom], rfl, by simp⟩
        · obtain rfl : sz' = sz := hc.resolve_right hnil
          obtain ⟨f1, f2⟩ := flatMap_cells_get elems hsz
          refine ⟨rfl, f1, (List.range (elems.length * sz')).map vals, ?_, by simp [f1], ?_⟩
          · simp only [Builtin.firstCells]
            exact run_loadCells (P := P) w ⟨blk, o, none⟩ _ vals (fun j hj => by rw [addr_add]; exact hcell j hj)
          · intro i a y ha hy
            obtain ⟨hi, rfl⟩ := map_range_get hy
            obtain ⟨p, j, x, rfl, hj, hp, hc'⟩ := f2 _ _ ha
            exact hr _ _ _ _ hp hc'
  · rename_i b n' sz' off len
    split at h
    case isTrue h0 =>
      cases h
      subst h0
      cases hx with
      | msl => exact ⟨rfl, by simp, [], by simp [Builtin.firstCells, loadCells, loadCellsFrom], rfl, by simp⟩
      | msl0 _ _ _ hv => rcases hv with rfl | ⟨_, _, rfl⟩ <;> exact ⟨rfl, by simp, [], by simp [Builtin.firstCells, loadCells, loadCellsFrom], rfl, by simp⟩
    case isFalse h0 =>
      split at h
      · rename_i cs hb
        split at h
        case isFalse => cases h
        case isTrue hc =>
          obtain ⟨rfl, rfl, hfit⟩ := hc
          cases h
          generalize hnn : cs.length = nn at hx
          cases hx with
          | msl0 => exact absurd rfl h0
          | msl _ _ _ _ _ blk bsz cap hm hl hcp hn =>
            subst hnn
            rcases hh.box b cs hb with hn0 | ⟨blk', sz'', hbx⟩
            · rw [hn0] at hm; cases hm
            · rw [hbx.mu] at hm; cases hm
              obtain ⟨vals, ty, k1, k2, k3, k4⟩ := hbx.cells
              refine ⟨rfl, by simp; omega, (vals.toList.drop off).take (n * sz'), ?_, by simp; omega, ?_⟩
              · simp only [Builtin.firstCells]
                have hlen : ((vals.toList.drop off).take (n * sz')).length = n * sz' := by simp; omega
                have := run_loadCells_list (P := P) w ⟨blk, off, none⟩ ((vals.toList.drop off).take (n * sz')) (fun j v hv => by
                  rw [addr_add]
                  rw [List.getElem?_take] at hv
                  split at hv
                  · rw [List.getElem?_drop] at hv
                    exact cell?_of_heap k1 (by simpa using hv)
                  · cases hv)
                rw [hlen] at this
                exact this
              · intro i a y ha hy
                rw [List.getElem?_take] at ha hy
                split at ha
                case isFalse => cases ha
                case isTrue hi =>
                  rw [if_pos hi] at hy
                  rw [List.getElem?_drop] at ha hy
                  obtain ⟨v', hv', _, hrel⟩ := k4 _ _ ha
                  simp at hy
                  rw [hv'] at hy; cases hy
                  exact hrel
      · cases h
  · cases h

/-! ### append -/
/-- the zero value of an element: as many cells as the element has, each known -/
def zok (P : Program) (e : TypeId) : Bool := match azero P e with
  | some z => z.flat && z.cells.length == P.cellsOf e
  | none => false

def tbytes (P : Program) (e : TypeId) : Nat := ((P.info? e).map (·.bytes)).getD 0

def aappend (P : Program) (tS tX : TypeId) (s x : AV) (H : Nat → Option (List AV)) (nx : Nat) : Option (AV × (Nat → Option (List AV)) × Nat) :=
  match telem P tS with
  | none => none
  | some e =>
    if tok P e = true ∧ tok P tX = true ∧ tint P tX = none ∧ 0 < P.cellsOf e ∧ zok P e = true then
      match asrc (P.cellsOf e) H x with
      | none => none
      | some (k, new) =>
        if new.all AV.one = true then
          match s with
          | .esl => if k * tbytes P e ≤ 140737488355328 ∧ k ≤ 9223372036854775807 then some (.msl nx (k * P.cellsOf e) (P.cellsOf e) 0 k, hupd H nx new, nx + 1) else none
          | .msl b n sz off len => match H b with
            | some cs =>
              if cs.length = n ∧ sz = P.cellsOf e then
                if off = 0 ∧ n = len * sz ∧ (len + k) * tbytes P e ≤ 140737488355328 ∧ len + k ≤ 9223372036854775807 then some (.msl b ((len + k) * sz) sz 0 (len + k), hupd H b (cs ++ new), nx)
                else if off + (len + k) * sz ≤ n ∧ 0 < n then some (.msl b n sz off (len + k), hupd H b (lput cs (off + len * sz) new), nx)
                else none
              else none
            | none => none
          | _ => none
        else none
    else none

def isInt : TypeDesc → Bool | .int _ => true | _ => false

theorem int_of_tint {P : Program} {t : TypeId} (ht : tok P t = true) (h : tint P t = none) : ∃ d, P.underlying t = some d ∧ isInt d = false := by
  unfold tok at ht
  unfold tint at h
  cases hd : P.underlying t with
  | none => simp [hd] at ht
  | some d => exact ⟨d, rfl, by cases d <;> simp [hd, isInt] at h ⊢⟩

theorem zok_sound {P : Program} {e : TypeId} (h : zok P e = true) : ∃ v : Value, (∀ w, (zeroValue e).run P w = .ok v w) ∧ v.cells.size = P.cellsOf e := by
  unfold zok at h
  split at h
  · rename_i z hz
    obtain ⟨v, hv, hr⟩ := azero_sound hz
    simp only [Bool.and_eq_true, beq_iff_eq] at h
    have E0 : Env := ⟨0, default, fun _ => False, fun _ _ => none, fun _ => none, fun _ => none, fun _ => False⟩
    obtain ⟨hl, _, _⟩ := (hr E0 default).cells h.1
    exact ⟨v, hv, by have : v.cells.toList.length = v.cells.size := by simp
                     omega⟩
  · cases h

theorem run_append_copy {P : Program} {w : World} {tS tX ty e : TypeId} {base : Option Addr} {sLen sCap k : Nat} {vx : Value} {old new : List Value} (hu : P.underlying tS = some (.slice e)) (he : tok P e = true)
    (hX : tok P tX = true) (hXi : tint P tX = none) (hz : zok P e = true) (hk : (Builtin.lenOf vx).run P w = .ok k w)
    (hold : (Builtin.firstCells (P.cellsOf e) sLen (.slice base sLen sCap)).run P w.drew = .ok old.toArray w.drew) (hnew : (Builtin.firstCells (P.cellsOf e) k vx).run P w.drew = .ok new.toArray w.drew)
    (hcap : sCap < sLen + k) (hb : (sLen + k) * tbytes P e ≤ 140737488355328) (hm : sLen + k ≤ 9223372036854775807) :
    ∃ newCap rest, sLen + k ≤ newCap ∧ rest.length = (newCap - (sLen + k)) * P.cellsOf e ∧
      (Builtin.append_ #[tS, tX] ty #[.slice base sLen sCap, vx]).run P w = .ok (.slice (some ⟨w.heap.size, 0, none⟩) (sLen + k) newCap) (w.drew.alloc (.cells (old ++ new ++ rest).toArray e)) := by
  obtain ⟨d, hd, hdi⟩ := int_of_tint hX hXi
  obtain ⟨z, hzr, hzs⟩ := zok_sound hz
  obtain ⟨i, hi⟩ : ∃ i, P.info? e = some i := by
    unfold tok at he
    cases hx : P.underlying e with
    | none => simp [hx] at he
    | some d => exact info_of_tok hx
  have hbytes : tbytes P e = i.bytes := by simp [tbytes, hi]
  rw [hbytes] at hb
  have hnext := growslice_fits hcap hb
  let newCap := (sLen + k) + w.tape w.drawn (.appendCap (sLen + k) sCap e) % (2 ^ 63 - (sLen + k))
  refine ⟨newCap, (Builtin.zeroCells z.cells (newCap - (sLen + k))).toList, by omega, by simp [Builtin.zeroCells, hzs], ?_⟩
  have hi64 : IntKind.i64.max = 9223372036854775807 := by decide
  have hneed : ¬ ((sLen + k : Nat) : Int) > IntKind.i64.max := by rw [hi64]; omega
  have hforced : (Question.appendCap (sLen + k) sCap e).forced = false := rfl
  have hch : (choose (.appendCap (sLen + k) sCap e)).run P w = .ok newCap w.drew := by
    rw [run_choose, hforced]; rfl
  have hle : ¬ (sLen + k ≤ sCap) := by omega
  have hbig : ¬ (Builtin.nextslicecap (sLen + k) sCap * i.bytes > 2 ^ 48) := by
    have : (2 : Nat) ^ 48 = 281474976710656 := by decide
    omega
  have harr : old.toArray ++ new.toArray ++ Builtin.zeroCells z.cells (newCap - (sLen + k)) = (old ++ new ++ (Builtin.zeroCells z.cells (newCap - (sLen + k))).toList).toArray := by
    apply Array.ext'
    simp
  unfold Builtin.append_
  simp only [List.getElem?_toArray, List.getElem?_cons_zero, List.getElem?_cons_succ, Sem.run_bind, run_underlying hu, Result.andThen_ok, run_sizeOf' he, run_underlying hd]
  cases d <;> first | (simp [isInt] at hdi; done) | skip
  all_goals
    simp only [Sem.run_pure, Result.andThen_ok, Bool.false_eq_true, if_false, hk, hle, hneed, false_and, typeInfo, Sem.run_bind, run_program, hi, hbig, hch, run_askRoom, hold, Bool.not_false, if_true, hnew, hzr, newRow, run_newObj]
    rw [harr]
    rfl

theorem run_append_fits {P : Program} {w w' : World} {tS tX ty e : TypeId} {a : Addr} {sLen sCap k : Nat} {vx : Value} {new : List Value} (hu : P.underlying tS = some (.slice e)) (he : tok P e = true)
    (hX : tok P tX = true) (hXi : tint P tX = none) (hk : (Builtin.lenOf vx).run P w = .ok k w)
    (hnew : (Builtin.firstCells (P.cellsOf e) k vx).run P w = .ok new.toArray w) (hst : (storeCells (a.add (sLen * P.cellsOf e)) new).run P w = .ok () w')
    (hcap : sLen + k ≤ sCap) :
    (Builtin.append_ #[tS, tX] ty #[.slice (some a) sLen sCap, vx]).run P w = .ok (.slice (some a) (sLen + k) sCap) w' := by
  obtain ⟨d, hd, hdi⟩ := int_of_tint hX hXi
  unfold Builtin.append_
  simp only [List.getElem?_toArray, List.getElem?_cons_zero, List.getElem?_cons_succ, Sem.run_bind, run_underlying hu, Result.andThen_ok, run_sizeOf' he, run_underlying hd]
  cases d <;> first | (simp [isInt] at hdi; done) | skip
  all_goals
    simp only [Sem.run_pure, Result.andThen_ok, Bool.false_eq_true, if_false, hk, hcap, if_true, Sem.run_bind, Bool.not_false, hnew, hst]

theorem run_append_nil {P : Program} {w : World} {tS tX ty e : TypeId} {sCap sLen : Nat} {vx : Value} (hu : P.underlying tS = some (.slice e)) (he : tok P e = true)
    (hX : tok P tX = true) (hXi : tint P tX = none) (hk : (Builtin.lenOf vx).run P w = .ok 0 w)
    (hnew : (Builtin.firstCells (P.cellsOf e) 0 vx).run P w = .ok #[] w) (hcap : sLen ≤ sCap) (base : Option Addr) :
    (Builtin.append_ #[tS, tX] ty #[.slice base sLen sCap, vx]).run P w = .ok (.slice base sLen sCap) w := by
  obtain ⟨d, hd, hdi⟩ := int_of_tint hX hXi
  unfold Builtin.append_
  simp only [List.getElem?_toArray, List.getElem?_cons_zero, List.getElem?_cons_succ, Sem.run_bind, run_underlying hu, Result.andThen_ok, run_sizeOf' he, run_underlying hd]
  cases d <;> first | (simp [isInt] at hdi; done) | skip
  all_goals
    simp only [Sem.run_pure, Result.andThen_ok, Bool.false_eq_true, if_false, hk, Nat.add_zero, hcap, if_true, Sem.run_bind, Bool.not_false, hnew]
    cases base <;> simp [storeCells]

theorem firstCells_nil {P : Program} {w : World} {sz : Nat} {v : Value} {vals : List Value} (h : (Builtin.firstCells sz 0 v).run P w = .ok vals.toArray w) (hl : vals.length = 0) : (Builtin.firstCells sz 0 v).run P w = .ok #[] w := by
  have : vals = [] := List.length_eq_zero_iff.1 hl
  subst this
  exact h

theorem hupd_self {H : Nat → Option (List AV)} {b : Nat} {cs : List AV} (h : H b = some cs) : hupd H b cs = H := by
  funext x
  unfold hupd
  split
  · subst_vars; exact h.symm
  · rfl

theorem app_rel {E : Env} {w : World} {cs new : List AV} {vals nv : List Value} (hvl : cs.length ≤ vals.length) (hnl : nv.length = new.length)
    (hr : ∀ (i : Nat) (x : AV), cs[i]? = some x → ∃ v : Value, vals[i]? = some v ∧ v.oneCell' = true ∧ Rel E w x v)
    (hn : ∀ (i : Nat) (x : AV) (y : Value), new[i]? = some x → nv[i]? = some y → Rel E w x y) (h1 : ∀ y ∈ nv, y.oneCell' = true)
    (i : Nat) (x : AV) (hx : (cs ++ new)[i]? = some x) : ∃ v : Value, (vals.take cs.length ++ nv ++ vals.drop (cs.length + nv.length))[i]? = some v ∧ v.oneCell' = true ∧ Rel E w x v := by
  rw [List.append_assoc]
  by_cases hi : i < cs.length
  · rw [List.getElem?_append_left hi] at hx
    rw [List.getElem?_append_left (by simp; omega), List.getElem?_take, if_pos hi]
    exact hr i x hx
  · rw [List.getElem?_append_right (by omega)] at hx
    have e2 : (List.take cs.length vals).length = cs.length := by simp; omega
    rw [List.getElem?_append_right (by omega), e2]
    have hlt : i - cs.length < nv.length := by have := (List.getElem?_eq_some_iff.1 hx).1; omega
    rw [List.getElem?_append_left hlt]
    exact ⟨nv[i - cs.length], by simp [hlt], h1 _ (List.getElem_mem hlt), hn _ _ _ hx (by simp [hlt])⟩

theorem aappend_sound {P : Program} {E : Env} {H : Nat → Option (List AV)} {nx : Nat} {w : World} (hE : EnvOk E w) (hh : HeapOk E H nx w) (hfr : Fresh E nx) {tS tX ty : TypeId} {s x : AV} {vs vx : Value} (hs : Rel E w s vs) (hx : Rel E w x vx)
    {r : AV} {H' : Nat → Option (List AV)} {nx' : Nat} (h : aappend P tS tX s x H nx = some (r, H', nx')) : EffOk P E w (Builtin.append_ #[tS, tX] ty #[vs, vx]) r H' nx' := by
  unfold aappend at h
  split at h
  · cases h
  rename_i e hte
  have hu := telem_eq hte
  split at h
  case isFalse => cases h
  case isTrue hc =>
  obtain ⟨he, hX, hXi, hpos, hz⟩ := hc
  split at h
  · cases h
  rename_i k new hsrc
  obtain ⟨hk, hnl, vals, hnew, hvl, hvr⟩ := asrc_sound (P := P) hh hx hsrc
  -- the same behind a draw
  have hd : HeapOk E H nx w.drew := hh.same rfl
  have hEd : EnvOk E w.drew := hE.drew
  have hextd : Ext E w E w.drew := Ext.same rfl
  split at h
  case isFalse => cases h
  case isTrue hall =>
  have hone : ∀ y ∈ vals, y.oneCell' = true := by
    intro y hy
    obtain ⟨i, hi⟩ := List.getElem?_of_mem hy
    have hlt : i < new.length := by have := (List.getElem?_eq_some_iff.1 hi).1; omega
    exact (hvr i new[i] y (by simp [hlt]) hi).one (List.all_eq_true.1 hall _ (List.getElem_mem hlt))
  obtain ⟨_, _, valsd, hnewd, hvld, hvrd⟩ := asrc_sound (P := P) hd (hx.ext hextd) hsrc
  have honed : ∀ y ∈ valsd, y.oneCell' = true := by
    intro y hy
    obtain ⟨i, hi⟩ := List.getElem?_of_mem hy
    have hlt : i < new.length := by have := (List.getElem?_eq_some_iff.1 hi).1; omega
    exact (hvrd i new[i] y (by simp [hlt]) hi).one (List.all_eq_true.1 hall _ (List.getElem_mem hlt))
  -- a new box for what had no room
  have fresh : ∀ base : Option Addr, (base = none ∨ ∃ blk o, base = some ⟨blk, o, none⟩) → k * tbytes P e ≤ 140737488355328 → k ≤ 9223372036854775807 → 0 < k →
      ∃ newCap rest, k ≤ newCap ∧ rest.length = (newCap - k) * P.cellsOf e ∧
      (Builtin.append_ #[tS, tX] ty #[.slice base 0 0, vx]).run P w = .ok (.slice (some ⟨w.heap.size, 0, none⟩) k newCap) (w.drew.alloc (.cells (valsd ++ rest).toArray e)) := by
    intro base hbase hb1 hb2 hk0
    have := run_append_copy (P := P) (w := w) (ty := ty) (base := base) (sLen := 0) (sCap := 0) (old := []) hu he hX hXi hz hk (by
      rcases hbase with rfl | ⟨blk, o, rfl⟩ <;> simp [Builtin.firstCells, loadCells, loadCellsFrom]) hnewd (by omega) (by simpa using hb1) (by omega)
    obtain ⟨newCap, rest, h1, h2, h3⟩ := this
    simp only [Nat.zero_add, List.nil_append] at h1 h2 h3
    exact ⟨newCap, rest, h1, h2, h3⟩
  have relcells : ∀ (rest : List Value) (i : Nat) (a : AV), new[i]? = some a → ∃ v : Value, (valsd ++ rest).toArray[i]? = some v ∧ v.oneCell' = true ∧ Rel E w.drew a v := by
    intro rest i a ha
    have hlt : i < valsd.length := by have := (List.getElem?_eq_some_iff.1 ha).1; omega
    refine ⟨valsd[i], by simp [List.getElem?_append_left hlt, hlt], honed _ (List.getElem_mem hlt), hvrd i a _ ha (by simp [hlt])⟩
  split at h
  · -- nothing before
    split at h
    case isFalse => cases h
    case isTrue hb =>
    cases h
    have key : ∀ base : Option Addr, (base = none ∨ ∃ blk o, base = some ⟨blk, o, none⟩) → vs = .slice base 0 0 → EffOk P E w (Builtin.append_ #[tS, tX] ty #[vs, vx]) (.msl nx (k * P.cellsOf e) (P.cellsOf e) 0 k) (hupd H nx new) (nx + 1) := by
      intro base hbase hvs
      subst hvs
      by_cases hk0 : k = 0
      · subst hk0
        have hnil : new = [] := List.length_eq_zero_iff.1 (by omega)
        subst hnil
        refine ⟨_, w, E, run_append_nil hu he hX hXi hk (firstCells_nil hnew (by simpa using hvl)) (Nat.le_refl _) base, Ext.refl _ _, hE, hh.virtual (hfr nx (Nat.le_refl _)), ?_, hfr.le (by omega)⟩
        rw [Nat.zero_mul]
        refine .msl0 _ _ _ ?_
        rcases hbase with rfl | ⟨blk, o, rfl⟩
        · exact .inl rfl
        · exact .inr ⟨blk, o, rfl⟩
      · obtain ⟨newCap, rest, h1, h2, h3⟩ := fresh base hbase hb.1 hb.2 (by omega)
        obtain ⟨E', he', hE', hh', hmu, _, hmo, hms, hml⟩ := hd.newBox hEd (hfr nx (Nat.le_refl _)) new (valsd ++ rest).toArray e (by simp; omega) (relcells rest)
        refine ⟨_, _, E', h3, (hextd.trans he'), hE', hh', ?_, hfr.of (by omega) (fun b n hb => hmo b n (by omega)) hms hml⟩
        have hsz : (valsd ++ rest).toArray.size = newCap * P.cellsOf e := by
          simp only [List.size_toArray, List.length_append, hvld, hnl, h2]
          rw [← Nat.add_mul]; congr 1; omega
        rw [hnl, hsz] at hmu
        exact .msl _ _ _ _ _ _ _ _ hmu h1 (by omega) (by rw [Nat.zero_add]; exact Nat.mul_le_mul_right _ h1)
    cases hs with
    | eslnil => exact key none (.inl rfl) rfl
    | esl blk o => exact key (some ⟨blk, o, none⟩) (.inr ⟨blk, o, rfl⟩) rfl
  · rename_i b n sz off len
    split at h
    case h_2 => cases h
    rename_i cs hb
    split at h
    case isFalse => cases h
    case isTrue hcs =>
    obtain ⟨rfl, rfl⟩ := hcs
    split at h
    case isTrue hfront =>
      obtain ⟨rfl, hn, hb1, hb2⟩ := hfront
      cases h
      have hlen' : (cs ++ new).length = (len + k) * P.cellsOf e := by rw [List.length_append, hn, hnl, Nat.add_mul]
      have hnsp : E.sp b = none := by
        cases hq : E.sp b with
        | none => rfl
        | some q =>
          exfalso
          have hsm := hE.spm b q hq
          clear hn hlen' hb1 hb2
          generalize hnn : cs.length = nn at hs
          cases hs with
          | msl _ _ _ _ _ blk bsz cap h _ _ _ => rw [hsm] at h; cases h
          | msl0 =>
            have := hh.nsp b (by rw [hb, List.length_eq_zero_iff.1 hnn])
            rw [this] at hq; cases hq
      -- a copy into a new block
      have moved : ∀ (base : Option Addr) (sCap : Nat), vs = .slice base len sCap → len ≤ sCap → sCap < len + k → (∃ oldv : List Value, (Builtin.firstCells (P.cellsOf e) len (.slice base len sCap)).run P w.drew = .ok oldv.toArray w.drew ∧
          oldv.length = cs.length ∧ ∀ (i : Nat) (a : AV), cs[i]? = some a → ∃ v : Value, oldv[i]? = some v ∧ v.oneCell' = true ∧ Rel E w.drew a v) →
          EffOk P E w (Builtin.append_ #[tS, tX] ty #[vs, vx]) (.msl b ((len + k) * P.cellsOf e) (P.cellsOf e) 0 (len + k)) (hupd H b (cs ++ new)) nx := by
        intro base sCap hvs hlc hcap ⟨oldv, ho1, ho2, ho3⟩
        subst hvs
        by_cases hk0 : k = 0
        · omega
        · obtain ⟨newCap, rest, h1, h2, h3⟩ := run_append_copy (P := P) (w := w) (ty := ty) hu he hX hXi hz hk ho1 hnewd hcap hb1 hb2
          have hkp : 0 < k * P.cellsOf e := Nat.mul_pos (by omega) hpos
          obtain ⟨E', he', hE', hh', hmu, _, hmo, hms, hml⟩ := hd.move hEd hb (cs' := cs ++ new) (oldv ++ valsd ++ rest).toArray e (by simp; omega) (by simp; omega) hnsp (fun i a ha => by
            rw [List.append_assoc]
            by_cases hi : i < cs.length
            · rw [List.getElem?_append_left hi] at ha
              obtain ⟨v, hv, h5, h6⟩ := ho3 i a ha
              refine ⟨v, ?_, h5, h6⟩
              have : i < oldv.length := by omega
              simpa [List.getElem?_append_left this] using hv
            · rw [List.getElem?_append_right (by omega)] at ha
              obtain ⟨v, hv, h5, h6⟩ := relcells rest _ a ha
              refine ⟨v, ?_, h5, h6⟩
              simp only [List.getElem?_toArray] at hv ⊢
              rw [List.getElem?_append_right (by omega), ho2]
              exact hv)
          refine ⟨_, _, E', h3, hextd.trans he', hE', hh', ?_, hfr.of (Nat.le_refl _) (fun b' n hb' => hmo b' n (by have := hh.dom _ _ hb; omega)) hms hml⟩
          have hsz : (oldv ++ valsd ++ rest).toArray.size = newCap * P.cellsOf e := by
            simp only [List.size_toArray, List.length_append, hvld, hnl, h2, ho2, hn]
            rw [← Nat.add_mul, ← Nat.add_mul]; congr 1; omega
          rw [hlen', hsz] at hmu
          exact .msl _ _ _ _ _ _ _ _ hmu h1 (by omega) (by rw [Nat.zero_add]; exact Nat.mul_le_mul_right _ h1)
      generalize hnn : cs.length = nn at hs
      cases hs with
      | msl0 _ _ _ hv =>
        have hcs : cs = [] := List.length_eq_zero_iff.1 hnn
        subst hcs
        have key : ∀ base : Option Addr, (base = none ∨ ∃ blk o, base = some ⟨blk, o, none⟩) → vs = .slice base 0 0 → EffOk P E w (Builtin.append_ #[tS, tX] ty #[vs, vx]) (.msl b ((0 + k) * P.cellsOf e) (P.cellsOf e) 0 (0 + k)) (hupd H b ([] ++ new)) nx := by
          intro base hbase hvs
          by_cases hk0 : k = 0
          · subst hk0
            have hnil : new = [] := List.length_eq_zero_iff.1 (by omega)
            subst hnil
            subst hvs
            refine ⟨_, w, E, run_append_nil hu he hX hXi hk (firstCells_nil hnew (by simpa using hvl)) (Nat.le_refl _) base, Ext.refl _ _, hE, by rw [List.append_nil, hupd_self hb]; exact hh, ?_, hfr⟩
            rw [Nat.zero_add, Nat.zero_mul]
            refine .msl0 _ _ _ ?_
            rcases hbase with rfl | ⟨blk, o, rfl⟩
            · exact .inl rfl
            · exact .inr ⟨blk, o, rfl⟩
          · refine moved base 0 hvs (Nat.le_refl _) (by omega) ⟨[], ?_, rfl, by simp⟩
            rcases hbase with rfl | ⟨blk, o, rfl⟩ <;> simp [Builtin.firstCells, loadCells, loadCellsFrom]
        rcases hv with rfl | ⟨blk, o, rfl⟩
        · exact key none (.inl rfl) rfl
        · exact key (some ⟨blk, o, none⟩) (.inr ⟨blk, o, rfl⟩) rfl
      | msl _ _ _ _ _ blk bsz cap hm hl hcp hnc =>
        subst hnn
        rcases hh.box b cs hb with hn0 | ⟨blk', bsz', hbx⟩
        · rw [hn0] at hm; cases hm
        rw [hbx.mu] at hm; cases hm
        obtain ⟨v0, ty0, k1, k2, k3, k4⟩ := hbx.cells
        by_cases hcap : len + k ≤ cap
        · -- in place
          have hfit : (len + k) * P.cellsOf e ≤ bsz := by
            have := Nat.mul_le_mul_right (P.cellsOf e) hcap
            omega
          have hcsl : len * P.cellsOf e + vals.length ≤ v0.size := by rw [Nat.add_mul] at hfit; omega
          have hrun := run_storeCells_at P blk (len * P.cellsOf e) ty0 vals 0 v0 w k1 (by omega) hone
          simp only [Nat.add_zero] at hrun
          obtain ⟨E', he', hE', hh', hmu', _, hmo, hms, hml⟩ := hh.write hE hb hbx (cs' := cs ++ new) (v0.toList.take (len * P.cellsOf e) ++ vals ++ v0.toList.drop (len * P.cellsOf e + vals.length)).toArray
            (by simp; omega) (by omega) (by simp) (by
              by_cases hk0 : k = 0
              · left; rw [hlen', hn, hk0]; rfl
              · right; left
                have hkp : 0 < k * P.cellsOf e := Nat.mul_pos (by omega) hpos
                cases hq : E.mu b (cs ++ new).length with
                | none => rfl
                | some q =>
                  have := hh.top b cs _ q hb hq
                  rw [List.length_append] at this
                  omega) (fun i a ha => by
            have := app_rel (E := E) (w := w) (vals := v0.toList) (nv := vals) (by simpa using (by omega : cs.length ≤ v0.size)) hvl (fun i x hx' => by
              obtain ⟨v, hv, ho, hr⟩ := k4 i x hx'
              exact ⟨v, by simpa using hv, ho, hr⟩) hvr hone i a ha
            rw [hn] at this
            obtain ⟨v, hv, ho, hr⟩ := this
            exact ⟨v, by simpa using hv, ho, hr⟩)
          refine ⟨_, _, E', run_append_fits hu he hX hXi hk hnew (by rw [addr_add, Nat.zero_add]; exact hrun) hcap, he', hE', hh', ?_, hfr.of (Nat.le_refl _) (fun b' n hb' => hmo b' n (by have := hh.dom _ _ hb; omega)) hms hml⟩
          rw [hlen'] at hmu'
          exact .msl _ _ _ _ _ _ _ _ hmu' hcap (by omega) (by rw [Nat.zero_add]; exact Nat.mul_le_mul_right _ hcap)
        · refine moved (some ⟨blk, 0, none⟩) cap rfl hl (by omega) ⟨v0.toList.take (len * P.cellsOf e), ?_, by simp; omega, ?_⟩
          · simp only [Builtin.firstCells]
            have hlen2 : (v0.toList.take (len * P.cellsOf e)).length = len * P.cellsOf e := by simp; omega
            have := run_loadCells_list (P := P) w.drew ⟨blk, 0, none⟩ (v0.toList.take (len * P.cellsOf e)) (fun j v hv => by
              rw [addr_add, Nat.zero_add]
              rw [List.getElem?_take] at hv
              split at hv
              · exact cell?_of_heap (w := w.drew) k1 (by simpa using hv)
              · cases hv)
            rw [hlen2] at this
            exact this
          · intro i a ha
            obtain ⟨v, hv, ho, hr⟩ := k4 i a ha
            have hlt : i < len * P.cellsOf e := by have := (List.getElem?_eq_some_iff.1 ha).1; omega
            exact ⟨v, by rw [List.getElem?_take, if_pos hlt]; simpa using hv, ho, hr.ext hextd⟩
    case isFalse hfront =>
      split at h
      case isFalse => cases h
      case isTrue hin =>
      cases h
      generalize hnn : cs.length = nn at hs
      cases hs with
      | msl0 => omega
      | msl _ _ _ _ _ blk bsz cap hm hl hcp hnc =>
        subst hnn
        have hcap : len + k ≤ cap := by
          have h1 : (len + k) * P.cellsOf e ≤ cap * P.cellsOf e := by omega
          exact Nat.le_of_mul_le_mul_right h1 hpos
        obtain ⟨w', E', h1, h2, h3, h4, h5, hms, hml⟩ := write_sound (P := P) hE hh (off := off + len * P.cellsOf e) hb hm (new := new) (nv := vals) (by rw [Nat.add_mul] at hin; omega) hvl hvr hone
        refine ⟨_, w', E', run_append_fits hu he hX hXi hk hnew (by rw [addr_add]; exact h1) hcap, h2, h3, h4, ?_, hfr.of (Nat.le_refl _) (fun b' n hb' => h5 b' n (by have := hh.dom _ _ hb; omega)) hms hml⟩
        exact .msl _ _ _ _ _ _ _ _ (h2.mu _ _ _ hm) hcap hcp hnc
  · cases h

end Go.Abs
