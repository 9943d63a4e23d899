/- Literals, make, copy. -/
import Derived.Test.YtcbkggfipdldaaaXAbsA6
import Derived.Laws.MakeOwn
set_option linter.unusedVariables false
namespace Go.Abs
open Go.RowKit

/-! ### struct, array and slice literals -/
def afill (place : Nat → Option (Nat × Nat)) (cells : List AV) : List (Nat × AV) → Option (List AV)
  | [] => some cells
  | (i, x) :: rest => match place i with
    | some (off, size) => if x.flat = true ∧ x.cells.length = size ∧ off + size ≤ cells.length then afill place (lput cells off x.cells) rest else none
    | none => none

/-- pointwise -/
def RelL (E : Env) (w : World) (xs : List AV) (vs : List Value) : Prop := vs.length = xs.length ∧ ∀ (i : Nat) (x : AV) (y : Value), xs[i]? = some x → vs[i]? = some y → Rel E w x y

theorem RelL.ext {E E' : Env} {w w' : World} (he : Ext E w E' w') {xs : List AV} {vs : List Value} (h : RelL E w xs vs) : RelL E' w' xs vs :=
  ⟨h.1, fun i x y hx hy => (h.2 i x y hx hy).ext he⟩

theorem foldl_set (off : Nat) : ∀ (l : List Value) (k : Nat) (cs : Array Value), off + k + l.length ≤ cs.size →
    ((l.zipIdx k).foldl (fun (cs : Array Value) (p : Value × Nat) => cs.setIfInBounds (off + p.2) p.1) cs).toList = cs.toList.take (off + k) ++ l ++ cs.toList.drop (off + k + l.length)
  | [], k, cs, h => by simp
  | v :: l, k, cs, h => by
    simp only [List.zipIdx_cons, List.foldl_cons]
    simp only [List.length_cons] at h
    rw [foldl_set off l (k + 1) (cs.setIfInBounds (off + k) v) (by simp; omega)]
    have := list_seg_step cs.toList (off + k) v l (by simp; omega)
    simpa [Array.toList_setIfInBounds, Nat.add_assoc] using this

theorem zipIdx_foldl (cells : Array Value) (off : Nat) (v : Array Value) (h : off + v.size ≤ cells.size) :
    (v.zipIdx.foldl (fun cs (c, j) => cs.setIfInBounds (off + j) c) cells).toList = cells.toList.take off ++ v.toList ++ cells.toList.drop (off + v.size) := by
  have := foldl_set off v.toList 0 cells (by simpa using h)
  simp only [Nat.add_zero, Array.length_toList] at this
  rw [← this, ← Array.foldl_toList, Array.toList_zipIdx]

theorem afill_sound {E : Env} {w : World} {place : Nat → Option (Nat × Nat)} : ∀ (parts : List (Nat × AV)) (vparts : List (Nat × Value)) (cells : List AV) (vc : Array Value) (r : List AV),
    vparts.length = parts.length → (∀ (i : Nat) (p : Nat × AV) (q : Nat × Value), parts[i]? = some p → vparts[i]? = some q → q.1 = p.1 ∧ Rel E w p.2 q.2) → RelL E w cells vc.toList → (∀ y ∈ vc, y.oneCell' = true) →
    afill place cells parts = some r → ∃ vr, Instr.fill place vc vparts = some vr ∧ RelL E w r vr.toList ∧ (∀ y ∈ vr, y.oneCell' = true)
  | [], vparts, cells, vc, r, hl, _, hc, h1, h => by
    cases vparts with
    | nil => cases h; exact ⟨vc, rfl, hc, h1⟩
    | cons => simp at hl
  | (i, x) :: rest, vparts, cells, vc, r, hl, hp, hc, h1, h => by
    cases vparts with
    | nil => simp at hl
    | cons q vrest =>
      obtain ⟨i', v⟩ := q
      obtain ⟨hii, hrel⟩ := hp 0 (i, x) (i', v) rfl rfl
      simp only at hii hrel
      subst hii
      simp only [afill] at h
      cases hpl : place i' with
      | none => simp [hpl] at h
      | some os =>
        obtain ⟨off, size⟩ := os
        simp only [hpl] at h
        split at h
        case isFalse => cases h
        case isTrue hcnd =>
          obtain ⟨hf, hsz, hfit⟩ := hcnd
          obtain ⟨k1, k2, k3⟩ := hrel.cells hf
          have hvs : v.cells.size = size := by have : v.cells.toList.length = v.cells.size := by simp
                                               omega
          have hcl : vc.size = cells.length := by have := hc.1; simpa using this
          have hz := zipIdx_foldl vc off v.cells (by omega)
          have hrr := lput_rel (E := E) (w := w) (cs := cells) (new := x.cells) (vals := vc.toList) (nv := v.cells.toList) (off := off) (by omega) (by simp; omega) k1 (fun i a ha => by
            have hlt : i < vc.toList.length := by have := (List.getElem?_eq_some_iff.1 ha).1; simp; omega
            refine ⟨vc.toList[i], by simp, h1 _ (by simp), hc.2 i a _ ha (List.getElem?_eq_getElem hlt)⟩) k2 k3
          have hnew : RelL E w (lput cells off x.cells) (v.cells.zipIdx.foldl (fun cs (c, j) => cs.setIfInBounds (off + j) c) vc).toList := by
            refine ⟨?_, fun j a y ha hy => ?_⟩
            · rw [hz, lput_length (by omega)]; simp; omega
            · obtain ⟨y', hy', _, hr⟩ := hrr j a ha
              rw [hz] at hy
              simp only [Array.length_toList] at hy'
              rw [hy'] at hy; cases hy
              exact hr
          have hone : ∀ y ∈ v.cells.zipIdx.foldl (fun cs (c, j) => cs.setIfInBounds (off + j) c) vc, y.oneCell' = true := by
            intro y hy
            rw [← Array.mem_toList_iff, hz] at hy
            simp only [List.mem_append] at hy
            rcases hy with (hy | hy) | hy
            · exact h1 y (by have := List.mem_of_mem_take hy; simpa using this)
            · exact k3 y hy
            · exact h1 y (by have := List.mem_of_mem_drop hy; simpa using this)
          obtain ⟨vr, e1, e2, e3⟩ := afill_sound rest vrest _ _ r (by simpa using hl) (fun j p q hp' hq' => hp (j + 1) p q (by simpa using hp') (by simpa using hq')) hnew hone h
          refine ⟨vr, ?_, e2, e3⟩
          have hge : ¬ (v.cells.size ≠ size ∨ off + v.cells.size > vc.size) := by omega
          simp only [Instr.fill, hpl]
          simp only [Bool.or_eq_true, decide_eq_true_eq, hge, if_false]
          exact e1

/-- offset and size of each field -/
def tplaces (P : Program) (t : TypeId) : Option (List (Nat × Nat)) := match P.underlying t with
  | some (.struct fs) => if fs.all fun f => tok P f.type then some (fs.toList.map fun f => (f.offset, P.cellsOf f.type)) else none
  | _ => none

def abuild (P : Program) (t : TypeId) (parts : List (Nat × AV)) : Option AV :=
  match azero P t with
  | some z =>
    if z.flat = true then
      match tplaces P t with
      | some pl => (afill (fun i => pl[i]?) z.cells parts).map .agg
      | none => match tarr P t with
        | some (_, e) => if tok P e = true then (afill (fun i => some (i * P.cellsOf e, P.cellsOf e)) z.cells parts).map .agg else none
        | none => none
    else none
  | none => none

theorem run_mapM_places {P : Program} {w : World} (fs : List Field) (h : ∀ f ∈ fs, tok P f.type = true) :
    (fs.mapM (fun f => do pure (f.offset, ← sizeOf f.type) : Field → Sem (Nat × Nat))).run P w = .ok (fs.map fun f => (f.offset, P.cellsOf f.type)) w := by
  induction fs with
  | nil => rfl
  | cons f fs ih =>
    rw [List.mapM_cons]
    simp only [Sem.run_bind, run_sizeOf' (h f (by simp)), Result.andThen_ok, Sem.run_pure, ih (fun g hg => h g (by simp [hg])), List.map_cons]

theorem abuild_sound {P : Program} {E : Env} {w : World} {t : TypeId} {parts : List (Nat × AV)} {vparts : List (Nat × Value)} (hl : vparts.length = parts.length)
    (hp : ∀ (i : Nat) (p : Nat × AV) (q : Nat × Value), parts[i]? = some p → vparts[i]? = some q → q.1 = p.1 ∧ Rel E w p.2 q.2) {r : AV} (h : abuild P t parts = some r) :
    ∃ v, (Instr.build t vparts.toArray).run P w = .ok v w ∧ Rel E w r v := by
  unfold abuild at h
  split at h
  case h_2 => cases h
  rename_i z hz
  obtain ⟨vz, hvz, hrz⟩ := azero_sound hz
  split at h
  case isFalse => cases h
  case isTrue hf =>
  obtain ⟨k1, k2, k3⟩ := (hrz E w).cells hf
  split at h
  · rename_i pl hpl
    unfold tplaces at hpl
    split at hpl
    case h_2 => cases hpl
    rename_i fs hu
    split at hpl
    case isFalse => cases hpl
    case isTrue hall =>
    cases hpl
    cases hfl : afill (fun i => (fs.toList.map fun f => (f.offset, P.cellsOf f.type))[i]?) z.cells parts with
    | none => rw [hfl] at h; cases h
    | some cells =>
      rw [hfl] at h
      cases h
      obtain ⟨vr, e1, e2, e3⟩ := afill_sound parts vparts z.cells vz.cells cells hl hp ⟨k1, k2⟩ (fun y hy => k3 y (by simpa using hy)) hfl
      refine ⟨.agg vr, ?_, by have := Rel.agg cells vr.toList e2.1 e2.2; simpa using this⟩
      have hm := run_mapM_places (P := P) (w := w) fs.toList (fun f hf' => by
        rw [Array.all_eq_true_iff_forall_mem] at hall
        exact hall f (by simpa using hf'))
      have hmA : (fs.mapM (fun f => do pure (f.offset, ← sizeOf f.type) : Field → Sem (Nat × Nat))).run P w = .ok (fs.toList.map fun f => (f.offset, P.cellsOf f.type)).toArray w := by
        have : fs = fs.toList.toArray := by simp
        rw [this, List.mapM_toArray]
        simp only [Sem.run_map, hm, Result.andThen_ok]
      have hfill : Instr.fill (fun x => (fs.toList.map fun f => (f.offset, P.cellsOf f.type)).toArray[x]?) vz.cells vparts = some vr := by
        simp only [List.getElem?_toArray]; exact e1
      simp only [Instr.build, Sem.run_bind, hvz, Result.andThen_ok, run_underlying hu, hmA, hfill]
      rfl
  · split at h
    case h_2 => cases h
    rename_i n e he
    split at h
    case isFalse => cases h
    case isTrue hte =>
    cases hfl : afill (fun i => some (i * P.cellsOf e, P.cellsOf e)) z.cells parts with
    | none => rw [hfl] at h; cases h
    | some cells =>
      rw [hfl] at h
      cases h
      obtain ⟨vr, e1, e2, e3⟩ := afill_sound parts vparts z.cells vz.cells cells hl hp ⟨k1, k2⟩ (fun y hy => k3 y (by simpa using hy)) hfl
      refine ⟨.agg vr, ?_, by have := Rel.agg cells vr.toList e2.1 e2.2; simpa using this⟩
      simp only [Instr.build, Sem.run_bind, hvz, Result.andThen_ok, run_underlying (tarr_eq he), run_sizeOf' hte, e1]
      rfl

/-! ### make and slice literals -/
/-- k elements' zero cells -/
def zcells (z : AV) (k : Nat) : List AV := (List.replicate k z.cells).flatten

def amake (P : Program) (t : TypeId) (l c : AV) (H : Nat → Option (List AV)) (nx : Nat) : Option (AV × (Nat → Option (List AV)) × Nat) :=
  match telem P t, l, c with
  | some e, .int _ n, .int _ m =>
    match azero P e with
    | some z => if tok P e = true ∧ z.flat = true ∧ z.cells.length = P.cellsOf e ∧ 0 < P.cellsOf e ∧ 0 ≤ n ∧ n ≤ m ∧ m ≤ 9223372036854775807 ∧ tbytes P e * m ≤ 281474976710656 then
        some (.msl nx (n.toNat * P.cellsOf e) (P.cellsOf e) 0 n.toNat, hupd H nx (zcells z n.toNat), nx + 1) else none
    | none => none
  | _, _, _ => none

theorem flatten_replicate_get {z : List AV} : ∀ (k i : Nat), i < k * z.length → ((List.replicate k z).flatten)[i]? = z[i % z.length]?
  | 0, i, h => by simp at h
  | k + 1, i, h => by
    rw [List.replicate_succ, List.flatten_cons]
    by_cases hi : i < z.length
    · rw [List.getElem?_append_left hi, Nat.mod_eq_of_lt hi]
    · rw [List.getElem?_append_right (by omega), flatten_replicate_get k (i - z.length) (by rw [Nat.add_mul] at h; omega)]
      congr 1
      exact (Nat.mod_eq_sub_mod (by omega)).symm

theorem amake_run {P : Program} {E : Env} {H : Nat → Option (List AV)} {nx : Nat} {w : World} {t : TypeId} {l c : AV} {vl vc : Value} (hl : Rel E w l vl) (hc : Rel E w c vc)
    {r : AV} {H' : Nat → Option (List AV)} {nx' : Nat} (h : amake P t l c H nx = some (r, H', nx')) : ARun P E w (Instr.makeSlice t vl vc) r H nx H' nx' := by
  unfold amake at h
  split at h
  case h_2 => cases h
  rename_i e kn n km m hte
  have hu := telem_eq hte
  split at h
  case h_2 => cases h
  rename_i z hz
  split at h
  case isFalse => cases h
  case isTrue hcnd =>
  obtain ⟨he, hf, hzl, hpos, h0, h1, h2, h3⟩ := hcnd
  cases h
  cases hl; cases hc
  obtain ⟨i, vz, hi, hiz, hrz⟩ : ∃ i vz, P.info? e = some i ∧ i.zero = some vz ∧ ∀ E w, Rel E w z vz := by
    unfold azero at hz
    split at hz
    · rename_i i hi
      split at hz
      · rename_i v hv
        cases hz
        exact ⟨i, v, hi, hv, fun E w => ofV_rel E w v⟩
      · cases hz
    · cases hz
  obtain ⟨k1, k2, k3⟩ := (hrz E w).cells hf
  have hvs : vz.cells.size = P.cellsOf e := by have : vz.cells.toList.length = vz.cells.size := by simp
                                               omega
  have hbytes : tbytes P e = i.bytes := by simp [tbytes, hi]
  have hsz : P.cellsOf e = i.size := by simp [Program.cellsOf, hi]
  rw [hbytes] at h3
  have hrun := run_make (P := P) w t e i vz hu hi hiz kn km n m h0 h1 h3 h2
  rw [← hsz] at hrun
  have hzc : (zcells z n.toNat).length = n.toNat * P.cellsOf e := by simp [zcells, hzl]
  have hvsz : (madeCells vz.cells (m.toNat * P.cellsOf e)).size = m.toNat * P.cellsOf e := size_madeCells _ _
  have hnm : n.toNat * P.cellsOf e ≤ m.toNat * P.cellsOf e := Nat.mul_le_mul_right _ (by omega)
  have hget : ∀ j, j < n.toNat * P.cellsOf e → ∀ x, (zcells z n.toNat)[j]? = some x → ∃ v : Value, (madeCells vz.cells (m.toNat * P.cellsOf e))[j]? = some v ∧ v.oneCell' = true ∧ Rel E w x v := by
    intro j hj x hx
    have hjm : j < m.toNat * P.cellsOf e := by omega
    unfold zcells at hx
    rw [flatten_replicate_get _ _ (by rw [hzl]; exact hj), hzl] at hx
    have hlt : j % P.cellsOf e < vz.cells.size := by rw [hvs]; exact Nat.mod_lt _ hpos
    refine ⟨vz.cells[j % P.cellsOf e], ?_, k3 _ (by simp), k2 _ _ _ hx (by simp [hlt])⟩
    unfold madeCells
    rw [Array.getElem?_map, Array.getElem?_range, if_pos hjm]
    simp only [Option.map_some, hvs]
    rw [getElem!_pos]
  refine .inr ⟨zcells z n.toNat, madeCells vz.cells (m.toNat * P.cellsOf e), e, _, rfl, rfl, hrun, by omega, (fun j x hx => by
    have : j < (zcells z n.toNat).length := (List.getElem?_eq_some_iff.1 hx).1
    exact hget j (by omega) x hx), fun E'' w'' hmu => ?_⟩
  rw [hzc, hvsz] at hmu
  exact .msl _ _ _ _ _ _ _ _ hmu (show n.toNat ≤ m.toNat by omega) (by omega) (by omega)

/-! ### a slice literal -/
def abuildS (P : Program) (t : TypeId) (len : Nat) (parts : List (Nat × AV)) (H : Nat → Option (List AV)) (nx : Nat) : Option (AV × (Nat → Option (List AV)) × Nat) :=
  match telem P t with
  | none => none
  | some e =>
    if tok P e = true ∧ 0 < P.cellsOf e ∧ len * P.cellsOf e ≤ 16777216 then
      if len = 0 then (if parts = [] then some (.esl, H, nx) else none) else
      match azero P e with
      | some z => if z.flat = true ∧ z.cells.length = P.cellsOf e then
          match afill (fun i => some (i * P.cellsOf e, P.cellsOf e)) (zcells z len) parts with
          | some cells => some (.msl nx cells.length (P.cellsOf e) 0 len, hupd H nx cells, nx + 1)
          | none => none
        else none
      | none => none
    else none

theorem afill_length {place : Nat → Option (Nat × Nat)} : ∀ (parts : List (Nat × AV)) (cells r : List AV), afill place cells parts = some r → r.length = cells.length
  | [], cells, r, h => by cases h; rfl
  | (i, x) :: rest, cells, r, h => by
    simp only [afill] at h
    cases hpl : place i with
    | none => simp [hpl] at h
    | some os =>
      obtain ⟨off, size⟩ := os
      simp only [hpl] at h
      split at h
      · rename_i hc
        rw [afill_length rest _ _ h, lput_length (by omega)]
      · cases h

theorem abuildS_run {P : Program} {E : Env} {H : Nat → Option (List AV)} {nx : Nat} {w : World} {t : TypeId} {len : Nat} {parts : List (Nat × AV)} {vparts : List (Nat × Value)} (hl : vparts.length = parts.length)
    (hp : ∀ (i : Nat) (p : Nat × AV) (q : Nat × Value), parts[i]? = some p → vparts[i]? = some q → q.1 = p.1 ∧ Rel E w p.2 q.2)
    {r : AV} {H' : Nat → Option (List AV)} {nx' : Nat} (h : abuildS P t len parts H nx = some (r, H', nx')) : ARun P E w (Instr.buildSlice t len vparts.toArray) r H nx H' nx' := by
  unfold abuildS at h
  split at h
  · cases h
  rename_i e hte
  have hu := telem_eq hte
  split at h
  case isFalse => cases h
  case isTrue hc =>
  obtain ⟨he, hpos, hsz⟩ := hc
  have e24 : (2 : Nat) ^ 24 = 16777216 := by decide
  have hbig : ¬ (len * P.cellsOf e > 2 ^ 24) := by omega
  split at h
  case isTrue h0 =>
    subst h0
    split at h
    case isFalse => cases h
    case isTrue hpn =>
    subst hpn
    cases h
    have hv : vparts = [] := List.length_eq_zero_iff.1 hl
    subst hv
    refine .inl ⟨rfl, rfl, .slice (some ⟨w.heap.size, 0, none⟩) 0 0, .cells #[] e, ?_, fun _ _ => .esl _ _⟩
    simp [Instr.buildSlice, run_underlying hu, run_sizeOf' he, Instr.fill, newRow, Array.range_zero']
  case isFalse h0 =>
    split at h
    case h_2 => cases h
    rename_i z hz
    obtain ⟨vz, hvz, hrz⟩ := azero_sound hz
    split at h
    case isFalse => cases h
    case isTrue hcnd =>
    obtain ⟨hf, hzl⟩ := hcnd
    split at h
    case h_2 => cases h
    rename_i cells hfl
    cases h
    obtain ⟨k1, k2, k3⟩ := (hrz E w).cells hf
    have hvs : vz.cells.size = P.cellsOf e := by have : vz.cells.toList.length = vz.cells.size := by simp
                                                 omega
    have hzc : (zcells z len).length = len * P.cellsOf e := by simp [zcells, hzl]
    have hrel0 : RelL E w (zcells z len) (madeCells vz.cells (len * P.cellsOf e)).toList := by
      refine ⟨by simp [hzc, madeCells], fun j x y hx hy => ?_⟩
      have hj : j < len * P.cellsOf e := by rw [← hzc]; exact (List.getElem?_eq_some_iff.1 hx).1
      unfold zcells at hx
      rw [flatten_replicate_get _ _ (by rw [hzl]; exact hj), hzl] at hx
      have hlt : j % P.cellsOf e < vz.cells.size := by rw [hvs]; exact Nat.mod_lt _ hpos
      unfold madeCells at hy
      rw [Array.getElem?_toList, Array.getElem?_map, Array.getElem?_range, if_pos hj] at hy
      simp only [Option.map_some, hvs] at hy
      rw [getElem!_pos vz.cells _ hlt] at hy
      cases hy
      exact k2 _ _ _ hx (by simp [hlt])
    have hone0 : ∀ y ∈ madeCells vz.cells (len * P.cellsOf e), y.oneCell' = true := by
      intro y hy
      unfold madeCells at hy
      rw [Array.mem_map] at hy
      obtain ⟨j, hj, rfl⟩ := hy
      have hlt : j % vz.cells.size < vz.cells.size := Nat.mod_lt _ (by omega)
      rw [getElem!_pos vz.cells _ hlt]
      exact k3 _ (by simp)
    obtain ⟨vr, e1, e2, e3⟩ := afill_sound parts vparts (zcells z len) (madeCells vz.cells (len * P.cellsOf e)) cells hl hp hrel0 hone0 hfl
    have hcl := afill_length parts _ _ hfl
    have hvr : vr.size = cells.length := by have := e2.1; simpa using this
    refine .inr ⟨cells, vr, e, .slice (some ⟨w.heap.size, 0, none⟩) len len, rfl, rfl, ?_, by omega, (fun j x hx => by
      have hlt : j < vr.toList.length := by have := (List.getElem?_eq_some_iff.1 hx).1; simp; omega
      refine ⟨vr.toList[j], by simp, e3 _ (by simp), e2.2 j x _ hx (List.getElem?_eq_getElem hlt)⟩), fun E'' w'' hmu => by
      rw [hvr] at hmu
      exact .msl _ _ _ _ _ _ _ _ hmu (Nat.le_refl _) (by omega) (by omega)⟩
    have hne : ¬ (len * P.cellsOf e = 0) := by have := Nat.mul_pos (Nat.pos_of_ne_zero h0) hpos; omega
    unfold madeCells at e1
    simp [Instr.buildSlice, run_underlying hu, run_sizeOf' he, hbig, hne, hvz, e1, newRow]

end Go.Abs
