/- Rows that grow. -/
import Derived.Test.YtcbkggfipdldaaaXAbsC7
set_option linter.unusedVariables false
namespace Go.Abs

/-- a row that is grown by append: nil, or a box of its own that it fills -/
inductive Row (H : Hp) (sz : Nat) : AV → List AV → Prop
  | nil : Row H sz .esl []
  | box (b len : Nat) (cs : List AV) (hb : H b = some cs) (hl : cs.length = len * sz) : Row H sz (.msl b (len * sz) sz 0 len) cs

def rowB : AV → Option Nat
  | .msl b _ _ _ _ => some b
  | _ => none

theorem rowB_msl {b n sz off len : Nat} : rowB (.msl b n sz off len) = some b := rfl
theorem rowB_esl : rowB .esl = none := rfl

theorem Row.len {H : Hp} {sz : Nat} {s : AV} {cs : List AV} (h : Row H sz s cs) : ∃ n : Nat, alenS s = some (.int .i64 n) ∧ cs.length = n * sz := by
  cases h with
  | nil => exact ⟨0, rfl, by simp⟩
  | box b len cs hb hl => exact ⟨len, rfl, hl⟩

theorem Row.lenS {H : Hp} {sz n : Nat} {s : AV} {cs : List AV} (h : Row H sz s cs) (hl : cs.length = n * sz) (hz : 0 < sz) : alenS s = some (.int .i64 n) := by
  obtain ⟨m, h1, h2⟩ := h.len
  have : m = n := Nat.eq_of_mul_eq_mul_right hz (by omega)
  subst this; exact h1

/-- the row's box is where it was -/
theorem Row.same {H H' : Hp} {sz : Nat} {s : AV} {cs : List AV} (h : Row H sz s cs) (hs : ∀ b, rowB s = some b → H' b = H b) : Row H' sz s cs := by
  cases h with
  | nil => exact .nil
  | box b len cs hb hl => exact .box b len cs ((hs b rfl).trans hb) hl

theorem Row.one {H : Hp} {sz : Nat} {s : AV} {cs : List AV} (h : Row H sz s cs) : s.one = true ∧ s.cells = [s] := by
  cases h <;> exact ⟨rfl, rfl⟩

theorem hupd_ne {H : Hp} {b x : Nat} {cs : List AV} (h : x ≠ b) : hupd H b cs x = H x := if_neg h
theorem hdel_ne {H : Hp} {b x : Nat} (h : x ≠ b) : hdel H b x = H x := if_neg h

variable {P : Program} {T : Tm} {H : Hp} {nx : Nat}

/-- append -/
theorem e_row {dm : DM} {K : SP} {l : List Op2} {d : Option Nat} {sz bytes k : Nat} {s x : Opd} {sv xv : AV} {cs new : List AV} (hd : dm2 dm T (.app sz bytes s x) = true) (hs : ov T s = sv) (hrow : Row H sz sv cs) (hx : ov T x = xv) (hsrc : asrc sz H xv = some (k, new)) (ho : AV.ones new = true) (hk : new.length = k * sz)
    (hz : 0 < sz) (h1 : (cs.length + k) * bytes ≤ 140737488355328) (h2 : cs.length + k ≤ 9223372036854775807)
    (next : ∀ (sv' : AV) (H' : Hp) (nx' : Nat), Row H' sz sv' (cs ++ new) → nx ≤ nx' → nx' ≤ nx + 1 → (∀ i, i < nx → rowB sv ≠ some i → H' i = H i) → (∀ b, rowB sv' = some b → rowB sv = some b ∨ b = nx ∧ nx' = nx + 1) → aops2 P dm l (updo T d sv') H' nx' K) :
    aops2 P dm (⟨d, none, .app sz bytes s x⟩ :: l) T H nx K := by
  cases hrow with
  | nil =>
    refine e_app0 hd hs hx hsrc ho (by simpa using h1) (by simpa using h2) ?_
    exact next _ _ _ (.box nx k new hupd_self' hk) (Nat.le_succ _) (Nat.le_refl _) (fun i hi _ => hupd_ne (by omega)) (fun b hb => by cases hb; exact .inr ⟨rfl, rfl⟩)
  | box b len cs hb hl =>
    have hle : len ≤ cs.length := by rw [hl]; exact Nat.le_mul_of_pos_right _ hz
    have hb1 : (len + k) * bytes ≤ 140737488355328 := Nat.le_trans (Nat.mul_le_mul_right _ (by omega)) h1
    refine e_app hd hs hb hx hsrc ho hl rfl hb1 (by omega) ?_
    exact next _ _ _ (.box b (len + k) (cs ++ new) hupd_self' (by rw [List.length_append, hl, hk, Nat.add_mul])) (Nat.le_refl _) (Nat.le_succ _) (fun i hi hne => hupd_ne (fun e => hne (by rw [e]; rfl))) (fun b' hb' => by cases hb'; exact .inl rfl)

/-- a row that has become data -/
theorem Row.snap {H : Hp} {sz : Nat} {s : AV} {elems : List AV} (h : Row H sz s (elems.flatMap AV.cells)) (hc : ∀ y ∈ elems, y.cells.length = sz) (hz : 0 < sz) (hd : ∀ y ∈ elems, ∀ c ∈ y.cells, Dat c) : Snap H s (.sl sz elems) := by
  obtain ⟨f1, f2⟩ := flatMap_cells_get elems hc
  generalize he : elems.flatMap AV.cells = cs at h
  cases h with
  | nil =>
    have : elems.length * sz = 0 := by rw [← f1, he]; rfl
    have : elems = [] := List.length_eq_zero_iff.1 (by
      rcases Nat.mul_eq_zero.1 this with h | h
      · exact h
      · omega)
    subst this; exact .eslsl sz
  | box b len cs hb hl =>
    have hlen : elems.length = len := Nat.eq_of_mul_eq_mul_right hz (by rw [← f1, he, hl])
    refine .msl b (len * sz) sz 0 len cs elems hb hl (by omega) hlen hc (fun i j y a c hy hc' ha => ?_)
    have hj : j < sz := by rw [← hc y (List.mem_of_getElem? hy)]; exact (List.getElem?_eq_some_iff.1 hc').1
    -- the cell of the row
    have key : ∀ (l : List AV) (i j : Nat) (y c : AV), (∀ z ∈ l, z.cells.length = sz) → l[i]? = some y → y.cells[j]? = some c → j < sz → (l.flatMap AV.cells)[i * sz + j]? = some c := by
      intro l
      induction l with
      | nil => intro i j y c _ h; simp at h
      | cons x l ih =>
        intro i j y c hl hy hc hj
        rw [List.flatMap_cons]
        cases i with
        | zero =>
          simp at hy; subst hy
          rw [Nat.zero_mul, Nat.zero_add, List.getElem?_append_left (by rw [hl x (by simp)]; exact hj)]; exact hc
        | succ i =>
          rw [List.getElem?_append_right (by rw [hl x (by simp), Nat.add_mul]; omega), hl x (by simp)]
          have := ih i j y c (fun z hz => hl z (by simp [hz])) (by simpa using hy) hc hj
          rw [← this]; congr 1; rw [Nat.add_mul]; omega
    have := key elems i j y c hc hy hc' hj
    rw [he, ← Nat.zero_add (i * sz)] at this
    rw [this] at ha; cases ha
    exact hd y (List.mem_of_getElem? hy) a (List.mem_of_getElem? hc') H

theorem cells_map_one {α : Type} {f : α → AV} (h : ∀ x, (f x).cells = [f x]) (l : List α) : (l.map f).flatMap AV.cells = l.map f := by
  induction l with
  | nil => rfl
  | cons a l ih => rw [List.map_cons, List.flatMap_cons, ih, h]; rfl

theorem Row.snapV {H : Hp} {s : AV} {l : List (List Int)} (h : Row H 1 s (l.map encV)) : Snap H s (encVV l) := by
  refine Row.snap (elems := l.map encV) (by rw [cells_map_one (fun _ => rfl)]; exact h) (fun y hy => ?_) Nat.one_pos (fun y hy c hc => ?_)
  · simp at hy; obtain ⟨n, _, rfl⟩ := hy; rfl
  · simp at hy; obtain ⟨n, _, rfl⟩ := hy
    simp only [cells_encV, List.mem_singleton] at hc; subst hc; exact encV_dat n
theorem Row.snapI {H : Hp} {s : AV} {l : List Int} (h : Row H 1 s (l.map (AV.int .i64))) : Snap H s (encV l) := by
  refine Row.snap (elems := l.map (AV.int .i64)) (by rw [cells_map_one (fun _ => rfl)]; exact h) (fun y hy => ?_) Nat.one_pos (fun y hy c hc => ?_)
  · simp at hy; obtain ⟨n, _, rfl⟩ := hy; rfl
  · simp at hy; obtain ⟨n, _, rfl⟩ := hy
    simp only [cells_int, List.mem_singleton] at hc; subst hc; exact .int

/-- a cut between two parts -/
theorem w_seqC {K : CP} {x y : C2} (M : SP) (h1 : awp2 P x T H nx fun e T H nx => athen e (M T H nx) (K e T H nx)) (h2 : ∀ T H nx, M T H nx → awp2 P y T H nx K) : awp2 P (.seq x y) T H nx K := by
  refine w_seq (awp2_mono x h1 (fun e T H nx h => ?_))
  cases e with
  | normal => exact h2 T H nx h
  | exit i => exact h
  | ret => exact h

end Go.Abs
