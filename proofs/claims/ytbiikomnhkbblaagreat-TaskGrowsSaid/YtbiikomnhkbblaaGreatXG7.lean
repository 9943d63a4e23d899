/- Texts of this claim, one after the other: T21, T22, T23, T24, T25, T26, T27, T28, T29, T30. -/
import Derived.Test.YtbiikomnhkbblaaGreatXG6

set_option linter.unusedSimpArgs false
set_option linter.unusedVariables false

/- T21: contracts of functions and plain laws; for all inputs that the theorems name. -/
namespace Go.Proofs.YtbiikomnhkbblaaGreat
open Go Go.Abs

/-! ### Allowed -/
def allowT (t : TaskV) (i f : Int) : List (List Int) := if placeE t i f = 0 then allowV (pickC t i) f else []
theorem placeE_0 {t : TaskV} {i f : Int} (h : placeE t i f = 0) : checkE t = 0 ∧ 0 ≤ i ∧ i < t.cases.length ∧ 0 ≤ f := by
  unfold placeE at h
  by_cases c : checkE t = 0
  · rw [if_neg (fun k => k c)] at h
    by_cases c1 : i < 0 ∨ (t.cases.length : Int) ≤ i
    · rw [if_pos c1] at h; exact absurd h (by decide)
    · rw [if_neg c1] at h
      by_cases c2 : f < 0 ∨ ((2 ^ t.n.toNat : Nat) : Int) ≤ f
      · rw [if_pos c2] at h; exact absurd h (by decide)
      · exact ⟨c, by omega, by omega, by omega⟩
  · rw [if_pos c] at h; exact absurd h c
theorem snapNil {H : Hp} (e : Int) : Snap H (.tup [.esl, .int .i64 e]) (.tup [encVV [], .int .i64 e]) := snap_tup (snapL_cons (.eslsl 1) (snapL_cons (.int _ _) snapL_nil))
attribute [local irreducible] awp2 aops2 ains aloop athen bbind obind gbind acond res1 Go.Abs.Fn PCall Go.Abs.Pure SnapArgs SnapL Yl

theorem allowedT_c (t : TaskV) (i f : Int) (hs : ∀ c ∈ t.cases, ShC c) (hsc : Sh t.cases) (hq : ∀ c ∈ t.cases, c.out.length ≤ 100000 ∧ c.calm.length ≤ 100000) : Pure Tryz.prog 16 [encT t, .int .i64 i, .int .i64 f] (.tup [encVV (allowT t i f), .int .i64 (placeE t i f)]) := by
  refine Pure.of_c2 follows is16 (Nat.le_of_ble_eq_true rfl) ?_
  simp only [b16, cO, cG, cN, cM, cD, cF, cB, cFal, cTru]
  have hsc' : t.cases.length ≤ 17592186044416 := hsc
  have hc := place_c t i f hs hsc
  have d2 := encT_dat t
  by_cases he : placeE t i f = 0
  rotate_left
  · have e : allowT t i f = [] := by unfold allowT; rw [if_neg he]
    rw [e]
    generalize placeE t i f = C at *
    unfold encT at hc d2
    rw [show encT t = .agg [.int .i64 t.n, .int .i64 t.ins, .int .i64 t.outs, encCs t.cases] from rfl]
    (have zz := aI @encCs_one (aI @encCs_cells @alenS_encCs); repeat' (first | apply w_seq | apply w_ops0 | apply w_ret | apply a_n | apply a_r | apply o_nil | refine vZ ?_ | refine cZ ?_ (hp := hc) | refine bxZ ?_ | (refine cdZ ?_ ?_ <;> (intro _hg; (try simp only [ZB] at _hg); try first | exact absurd trivial _hg | (exfalso; omega))) | refine e_ends rfl ?_ | refine r2Z ?_ | fail)) <;> (try clear zz)
    exact snapNil _
  obtain ⟨e0, e1, e2, e3⟩ := placeE_0 he
  obtain ⟨k, rfl⟩ : ∃ k : Nat, i = k := ⟨i.toNat, by omega⟩
  have hk : k < t.cases.length := by omega
  have hm := mem_getD hk
  have e : allowT t k f = allowV (t.cases.getD k default) f := by unfold allowT; rw [if_pos he]; rfl
  rw [e]
  rw [he] at hc ⊢
  have ix := aixS_encCs hk
  have hq1 := hq _ hm
  obtain ⟨s1, s2, s3, s4, s5⟩ := hs _ hm
  generalize t.cases.getD k default = c at *
  have ha := allowed_c c f
  have hcp : Pure Tryz.prog 52 [encVV (allowV c f)] (encVV (allowV c f)) := copied_c _ (by unfold allowV; split <;> omega) (by
    unfold allowV
    split
    · exact s5
    · exact s3)
  have ha2 : Pure Tryz.prog 53 [.agg [encV c.inp, encVV c.out, encVV c.calm], .int .i64 f] (encVV (allowV c f)) := ha
  obtain ⟨inp, out, calm⟩ := c
  have d3 : Dat (.agg [encV inp, encVV out, encVV calm]) := encC_dat ⟨inp, out, calm⟩
  dsimp only at *
  unfold encT at hc d2
  rw [show encT t = .agg [.int .i64 t.n, .int .i64 t.ins, .int .i64 t.outs, encCs t.cases] from rfl]
  (have zz := aI @encCs_one (aI @encCs_cells (aI @alenS_encCs @ix)); repeat' (first | apply w_seq | apply w_ops0 | apply w_skip | apply w_ret | apply a_n | apply o_nil | refine vZ ?_ | refine cZ ?_ (hp := by first | exact hc | exact ha2 | exact hcp) | refine bxZ ?_ | (refine cdZ ?_ ?_ <;> (intro _hg; (try simp only [ZB] at _hg); try first | exact absurd trivial _hg | (exfalso; omega))) | refine e_ends rfl ?_ | refine r2Z ?_ | fail)) <;> (try clear zz)
  exact snap_tup (snapL_cons (Dat.snap (encVV_dat _)) (snapL_cons (.int _ _) snapL_nil))
/-! ### Permitted -/
theorem and1_nat {a : Nat} : and1 (a : Int) = ((a % 2 : Nat) : Int) := by
  have h : (BitVec.ofInt 64 (a : Int) &&& BitVec.ofInt 64 1).toNat = a % 2 := by
    rw [BitVec.toNat_and]
    have e : (BitVec.ofInt 64 1).toNat = 2 ^ 1 - 1 := rfl
    rw [e, Nat.and_two_pow_sub_one_eq_mod]
    simp [BitVec.toNat_ofInt]
  unfold and1
  rw [h, wrap64 (by omega) (by omega)]
end Go.Proofs.YtbiikomnhkbblaaGreat

/- T22: contracts of functions and plain laws; for all inputs that the theorems name. -/
namespace Go.Proofs.YtbiikomnhkbblaaGreat
open Go Go.Abs
open Nat (reduceEqDiff reduceAdd reduceLeDiff)

/-! ### Permitted -/
theorem vectorE_0 {v : List Int} {n most : Int} (h : vectorE v n most = 0) : (v.length : Int) = n ∧ ∀ x ∈ v, 0 ≤ x ∧ x < most := by
  unfold vectorE at h
  by_cases c : (v.length : Int) ≠ n
  · rw [if_pos c] at h; exact absurd h (by decide)
  · rw [if_neg c] at h
    refine ⟨by omega, fun x hx => ?_⟩
    by_cases c2 : v.any (fun x => decide (x < 0 ∨ most ≤ x)) = true
    · rw [if_pos c2] at h; exact absurd h (by decide)
    · rw [Bool.not_eq_true, List.any_eq_false] at c2
      have := c2 x hx
      simp only [decide_eq_true_eq] at this
      omega
theorem case_vecs {t : TaskV} {k : Nat} (h : checkE t = 0) (hk : k < t.cases.length) :
    (1 ≤ (t.cases.getD k default).out.length) ∧ (∀ v ∈ (t.cases.getD k default).out, (v.length : Int) = t.n ∧ ∀ x ∈ v, 0 ≤ x ∧ x < t.outs) ∧ (∀ v ∈ (t.cases.getD k default).calm, v ∈ (t.cases.getD k default).out) := by
  have h0 := ((check_parts h).2.2 k hk).2
  generalize t.cases.getD k default = c at *
  unfold vectorsE at h0
  split at h0
  · exact absurd h0 (by decide)
  split at h0
  · exact absurd h0 ‹_›
  rename_i g1 g2
  have o0 := firstI_all (Decidable.of_not_not g2)
  have c0 := firstI_all h0
  refine ⟨by omega, fun v hv => ?_, fun v hv => ?_⟩
  · obtain ⟨j, hj, rfl⟩ := List.getElem_of_mem hv
    have := o0 j hj
    unfold outE at this
    split at this
    · exact absurd this ‹_›
    · rename_i g3
      have e := vectorE_0 (Decidable.of_not_not g3)
      simpa [List.getD, hj] using e
  · obtain ⟨j, hj, rfl⟩ := List.getElem_of_mem hv
    have := c0 j hj
    unfold calmE at this
    split at this
    · rename_i g3; simpa [List.getD, hj] using g3
    · exact absurd this (by decide)
theorem allow_vecs {t : TaskV} {k : Nat} {f : Int} (h : checkE t = 0) (hk : k < t.cases.length) : (1 ≤ (allowV (t.cases.getD k default) f).length) ∧ ∀ v ∈ allowV (t.cases.getD k default) f, (v.length : Int) = t.n ∧ ∀ x ∈ v, 0 ≤ x ∧ x < t.outs := by
  obtain ⟨h1, h2, h3⟩ := case_vecs h hk
  unfold allowV
  split
  · rename_i g; exact ⟨by omega, fun v hv => h2 v (h3 v hv)⟩
  · exact ⟨h1, h2⟩
def permT (t : TaskV) (i f : Int) (outs : List Int) : Bool × Int := if placeE t i f ≠ 0 then (false, placeE t i f) else if (outs.length : Int) ≠ t.n then (false, 15) else if outs.any (fun x => decide (x < -1 ∨ t.outs ≤ x)) then (false, 2) else ((allowV (pickC t i) f).any (fun v => agreesB v outs f), 0)
attribute [local irreducible] awp2 aops2 ains aloop athen bbind obind gbind acond res1 Go.Abs.Fn PCall Go.Abs.Pure SnapArgs SnapL Yl

theorem permitted_c (t : TaskV) (i f : Int) (outs : List Int) (hs : ∀ c ∈ t.cases, ShC c) (hsc : Sh t.cases) (ho : Sh outs) : Pure Tryz.prog 18 [encT t, .int .i64 i, .int .i64 f, encV outs] (.tup [.bool (permT t i f outs).1, .int .i64 (permT t i f outs).2]) := by
  refine Pure.of_c2 follows is18 (Nat.le_of_ble_eq_true rfl) ?_
  simp only [b18, cO, cG, cN, cM, cD, cF, cB, cFal, cTru]
  have hsc' : t.cases.length ≤ 17592186044416 := hsc
  have ho' : outs.length ≤ 17592186044416 := ho
  have hc := place_c t i f hs hsc
  have d2 := encT_dat t
  have dT : Dat (encCs t.cases) := encCs_dat _
  by_cases he : placeE t i f = 0
  rotate_left
  · have e : permT t i f outs = (false, placeE t i f) := by unfold permT; rw [if_pos he]
    rw [e]
    generalize placeE t i f = C at *
    unfold encT at hc d2
    rw [show encT t = .agg [.int .i64 t.n, .int .i64 t.ins, .int .i64 t.outs, encCs t.cases] from rfl]
    (have zz := aI @encCs_one (aI @encCs_cells @alenS_encCs); repeat' (first | apply w_seq | apply w_ops0 | apply w_ret | apply a_n | apply a_r | apply o_nil | refine vZ ?_ | refine cZ ?_ (hp := hc) | refine bxZ ?_ | (refine cdZ ?_ ?_ <;> (intro _hg; (try simp only [ZB] at _hg); try first | exact absurd trivial _hg | (exfalso; omega))) | refine e_ends rfl ?_ | refine r2Z ?_ | fail)) <;> (try clear zz)
    exact snap_tup (snapL_cons (.bool _) (snapL_cons (.int _ _) snapL_nil))
  obtain ⟨e0, e1, e2, e3⟩ := placeE_0 he
  obtain ⟨k, rfl⟩ : ∃ k : Nat, i = k := ⟨i.toNat, by omega⟩
  have hk : k < t.cases.length := by omega
  have hm := mem_getD hk
  have e : permT t k f outs = if (outs.length : Int) ≠ t.n then (false, 15) else if outs.any (fun x => decide (x < -1 ∨ t.outs ≤ x)) then (false, 2) else ((allowV (t.cases.getD k default) f).any (fun v => agreesB v outs f), 0) := by unfold permT; rw [if_neg (fun h => h he)]; rfl
  rw [e]
  rw [he] at hc
  have ix := aixS_encCs hk
  have hav := (allow_vecs (f := f) e0 hk).2
  obtain ⟨s1, s2, s3, s4, s5⟩ := hs _ hm
  by_cases hn : (outs.length : Int) ≠ t.n
  · rw [if_pos hn]
    unfold encT at hc d2
    rw [show encT t = .agg [.int .i64 t.n, .int .i64 t.ins, .int .i64 t.outs, encCs t.cases] from rfl]
    (have zz := aI @encCs_one (aI @encCs_cells @alenS_encCs); repeat' (first | apply w_seq | apply w_ops0 | apply w_skip | apply w_ret | apply a_n | apply a_r | apply o_nil | refine vZ ?_ | refine cZ ?_ (hp := hc) | refine bxZ ?_ | (refine cdZ ?_ ?_ <;> (intro _hg; (try simp only [ZB] at _hg); try first | exact absurd trivial _hg | (exfalso; omega))) | refine e_ends rfl ?_ | refine r2Z ?_ | fail)) <;> (try clear zz)
    exact snap_tup (snapL_cons (.bool _) (snapL_cons (.int _ _) snapL_nil))
  rw [if_neg hn]
  have hA := containsF_c outs (fun x => decide (x < -1 ∨ t.outs ≤ x)) 57 [.iptr [.int .i64 t.n, .int .i64 t.ins, .int .i64 t.outs, encCs t.cases] 0] (fun x hx => by
    simp only [List.mem_singleton] at hx; subst hx
    exact .iptr (DatL.cons .int (DatL.cons .int (DatL.cons .int (DatL.cons dT DatL.nil))))) (fun x _ => permitted1_c x t) ho
  generalize t.cases.getD k default = c at *
  have sA : Sh (allowV c f) ∧ ∀ v ∈ allowV c f, Sh v := by
    unfold allowV
    split
    · exact ⟨s4, s5⟩
    · exact ⟨s2, s3⟩
  have hB := containsFV_c (allowV c f) (fun v => agreesB v outs f) 58 [.iptr [encV outs] 0, .iptr [.int .i64 f] 0] (fun x hx => by
    simp only [List.mem_cons, List.not_mem_nil, or_false] at hx
    rcases hx with rfl | rfl
    · exact .iptr (DatL.cons (encV_dat _) DatL.nil)
    · exact .iptr (DatL.cons .int DatL.nil)) (fun v hv => permitted2_c v outs f (sA.2 v hv) ho (by have := (hav v hv).1; omega)) sA.1
  have ha2 : Pure Tryz.prog 53 [.agg [encV c.inp, encVV c.out, encVV c.calm], .int .i64 f] (encVV (allowV c f)) := allowed_c c f
  have d3 : Dat (.agg [encV c.inp, encVV c.out, encVV c.calm]) := encC_dat c
  have hn : (outs.length : Int) = t.n := Decidable.of_not_not hn
  clear hav hm hs
  unfold encT at hc d2
  rw [show encT t = .agg [.int .i64 t.n, .int .i64 t.ins, .int .i64 t.outs, encCs t.cases] from rfl]
  (have zz := aI @encCs_one (aI @encCs_cells (aI @alenS_encCs @ix)); repeat' (first | apply w_seq | apply w_ops0 | apply w_skip | apply a_n | apply o_nil | refine vZ ?_ | refine cZ ?_ (hp := by first | exact hc | exact ha2) | refine bxZ ?_ | (refine cdZ ?_ ?_ <;> (intro _hg; (try simp only [ZB] at _hg); try first | exact absurd trivial _hg | (exfalso; omega))) | fail)) <;> (try clear zz)
  refine o_callP (by ((try simp only [simB0, ZA, reduceEqDiff, ↓reduceIte, reduceAdd, reduceLeDiff]); (try with_reducible rfl))) (by ((try simp only [simB0, ZA, reduceEqDiff, ↓reduceIte, reduceAdd, reduceLeDiff]); (try with_reducible rfl))) hA (snap_plain (by (repeat' (first | exact snapL_nil | exact Dat.snap Dat.int | exact Dat.snap Dat.bool | exact Dat.snap Dat.str | exact Dat.snap Dat.esl | exact Dat.snap Dat.nilf | exact Dat.snap (encV_dat _) | exact Dat.snap (encVV_dat _) | exact Dat.snap dT | apply snapL_cons | apply snap_func | apply snap_iptr | (apply snap_ptr; (focus ((try simp only [simB0, ZA, reduceEqDiff, ↓reduceIte, reduceAdd, reduceLeDiff]); with_reducible rfl)); (focus rfl))))) rfl) ?_
  cases hb : outs.any (fun x => decide (x < -1 ∨ t.outs ≤ x))
  · (have zz := aI @encCs_one (aI @encCs_cells (aI @alenS_encCs (aI @ix @Bool.false_eq_true))); repeat' (first | apply w_seq | apply w_mixS1 | apply w_skip | apply a_n | apply o_nil | refine vZ ?_ | refine cZ ?_ (hp := by first | exact hc | exact ha2) | refine cFZ ?_ | fail)) <;> (try clear zz)
    refine o_callP (by ((try simp only [simB0, ZA, reduceEqDiff, ↓reduceIte, reduceAdd, reduceLeDiff]); (try with_reducible rfl))) (by ((try simp only [simB0, ZA, reduceEqDiff, ↓reduceIte, reduceAdd, reduceLeDiff]); (try with_reducible rfl))) hB (snap_plain (by (repeat' (first | exact snapL_nil | exact Dat.snap Dat.int | exact Dat.snap Dat.bool | exact Dat.snap Dat.str | exact Dat.snap Dat.esl | exact Dat.snap Dat.nilf | exact Dat.snap (encV_dat _) | exact Dat.snap (encVV_dat _) | apply snapL_cons | apply snap_func | apply snap_iptr | (apply snap_ptr; (focus ((try simp only [simB0, ZA, reduceEqDiff, ↓reduceIte, reduceAdd, reduceLeDiff]); with_reducible rfl)); (focus rfl))))) rfl) ?_
    (have zz := and_self; repeat' (first | apply w_ret | apply a_n | apply o_nil | refine vZ ?_ | refine e_ends rfl ?_ | refine r2Z ?_ | fail)) <;> (try clear zz)
    exact snap_tup (snapL_cons (.bool _) (snapL_cons (.int _ _) snapL_nil))
  · (have zz := aI @encCs_one (aI @encCs_cells (aI @alenS_encCs @ix)); repeat' (first | apply w_seq | apply w_ops0 | apply w_ret | apply a_n | apply a_r | apply o_nil | refine vZ ?_ | refine cTZ ?_ | refine e_ends rfl ?_ | refine r2Z ?_ | fail)) <;> (try clear zz)
    exact snap_tup (snapL_cons (.bool _) (snapL_cons (.int _ _) snapL_nil))

end Go.Proofs.YtbiikomnhkbblaaGreat

/- T23: contracts of functions and plain laws; for all inputs that the theorems name. -/
namespace Go.Proofs.YtbiikomnhkbblaaGreat
open Go Go.Abs
open Nat (reduceEqDiff reduceAdd reduceLeDiff)
attribute [local irreducible] awp2 aops2 ains aloop athen bbind obind gbind acond res1 Go.Abs.Fn PCall Go.Abs.Pure SnapArgs SnapL Yl

def heads (l : List Int) : Nat → Nat
  | 0 => 0
  | k + 1 => heads l k + if k = 0 ∨ l.getD k default ≠ l.getD (k - 1) default then 1 else 0
theorem heads_le (l : List Int) (k : Nat) : heads l k ≤ k := by
  induction k with
  | zero => exact Nat.le_refl _
  | succ k ih => unfold heads; split <;> omega
theorem heads_same {l : List Int} {k : Nat} (hk : k ≠ 0) (h : l.getD k default = l.getD (k - 1) default) : heads l (k + 1) = heads l k := by
  rw [heads, if_neg (by rintro (h' | h'); exact hk h'; exact h' h)]; rfl
theorem heads_diff {l : List Int} {k : Nat} (h : l.getD k default ≠ l.getD (k - 1) default) : heads l (k + 1) = heads l k + 1 := by
  rw [heads, if_pos (.inr h)]
def dd (l : List Int) : Nat → List Int
  | 0 => []
  | k + 1 => dd l k ++ if k = 0 ∨ l.getD k default ≠ l.getD (k - 1) default then [l.getD k default] else []
theorem dd_len (l : List Int) (k : Nat) : (dd l k).length = heads l k := by
  induction k with
  | zero => rfl
  | succ k ih => rw [dd, heads, List.length_append, ih]; split <;> rfl
theorem dd_same {l : List Int} {k : Nat} (hk : k ≠ 0) (h : l.getD k default = l.getD (k - 1) default) : dd l (k + 1) = dd l k := by
  rw [dd, if_neg (by rintro (h' | h'); exact hk h'; exact h' h), List.append_nil]
theorem dd_diff {l : List Int} {k : Nat} (h : l.getD k default ≠ l.getD (k - 1) default) : dd l (k + 1) = dd l k ++ [l.getD k default] := by
  rw [dd, if_pos (.inr h)]
theorem set_take {L : List Int} {h : Nat} {x : Int} (hh : h < L.length) : (L.set h x).take (h + 1) = L.take h ++ [x] := by
  rw [take_succ' (by simpa using hh), List.take_set_of_le (Nat.le_refl h)]
  simp [List.getD, hh]
theorem asls_rest {B n len k : Nat} (h : k < len) (hn : n ≠ 0) : asls 1 (.msl B n 1 0 len) (some (.int .i64 k)) none none = some (.msl B n 1 k (len - k)) := by
  simp only [asls, abound, Int.natCast_nonneg, if_true, Int.toNat_natCast]
  rw [if_pos ⟨trivial, by omega, Nat.le_refl _, hn⟩, if_pos (.inr h), Nat.zero_add, Nat.mul_one]
theorem asls_part {B n len k : Nat} (h : k ≤ len) (hn : n ≠ 0) : asls 1 (.msl B n 1 0 len) none (some (.int .i64 k)) none = some (.msl B n 1 0 k) := by
  simp only [asls, abound, Int.natCast_nonneg, if_true, Int.toNat_natCast]
  rw [if_pos ⟨trivial, by omega, h, hn⟩, if_pos (.inl trivial), Nat.zero_mul, Nat.sub_zero]

theorem compact_c (l : List Int) (hl : Sh l) (h0 : l ≠ []) (H : Hp) (B nx : Nat) (hH : H B = some (l.map (AV.int .i64))) (hB : B < nx) :
    Abs.Fn Tryz.prog 39 [.msl B l.length 1 0 l.length] H nx fun r H' nx' => r = .msl B l.length 1 0 (heads l l.length) ∧ (∃ C, H' = hupd H B C ∧ C.length = l.length ∧ C.take (heads l l.length) = (dd l l.length).map (AV.int .i64)) ∧ nx' = nx := by
  refine Abs.Fn.of_c2 follows is39 (Nat.le_of_ble_eq_true rfl) ?_
  simp only [b39, cO, cG, cN, cM, cD, cF, cB, cFal, cTru]
  have hpos := List.length_pos_iff.2 h0
  have hid : H = hupd H B (l.map (AV.int .i64)) := by
    funext b
    by_cases e : b = B
    · subst e; rw [hupd_self']; exact hH
    · rw [hupd_ne e]
  (have zz := and_self; repeat' (first | apply w_seq | apply w_ops0 | apply w_block | apply w_skip | apply w_ret | apply a_n | apply a_r | apply o_nil | refine vZ ?_ | (refine cdZ ?_ ?_ <;> (intro _hg; (try simp only [ZB] at _hg); try first | exact absurd trivial _hg | (exfalso; omega))) | refine e_ends rfl ?_ | refine r1Z ?_ | apply w_loop | fail)) <;> (try clear zz)
  · have e1 : l.length = 1 := by omega
    have e2 : dd l l.length = l := by
      match l, e1 with
      | [a], _ => rfl
    refine ⟨?_, ⟨_, hid, by simp, ?_⟩, rfl⟩
    · rw [show heads l l.length = l.length by rw [e1]; rfl]
    · rw [e2, show heads l l.length = l.length by rw [e1]; rfl, List.take_of_length_le (by simp)]
  refine loopI (X := Nat) (fun k => [(0, .msl B l.length 1 0 l.length), (3, .int .i64 k)]) (fun k H' nx' => H' = H ∧ nx' = nx ∧ 1 ≤ k ∧ k ≤ l.length ∧ heads l k = k ∧ dd l k = l.take k) (fun k => l.length - k) 1 ⟨rfl, rfl, Nat.le_refl _, hpos, rfl, by match l, h0 with | a :: r, _ => rfl⟩ (by simp (disch := omega) only [agr, ZG, reduceEqDiff, ↓reduceIte]) ?_
  rintro k H' nx' ⟨rfl, rfl, k1, k2, k3, k4⟩
  by_cases hk : k < l.length
  · have tk : (k : Int) - 1 = (k - 1 : Nat) := by omega
    by_cases he : l.getD k default = l.getD (k - 1) default
    · have hs := asls_rest (B := B) hk (Nat.ne_of_gt hpos)
      (have zz := aI @tk (aI @hH (aI @Int.toNat_natCast (aI @he (aI @hs @decide_true)))); repeat' (first | apply w_seq | apply w_ops0 | apply w_ops1 | apply w_block | apply w_skip | apply a_n | apply o_nil | refine vZ ?_ | refine cTZ ?_ | (refine cdZ ?_ ?_ <;> (intro _hg; (try simp only [ZB] at _hg); try first | exact absurd trivial _hg | (exfalso; omega))) | apply w_loop | fail)) <;> (try clear zz)
      refine loopI (X := Nat × List Int) (fun x => [(0, .msl B l.length 1 0 l.length), (3, .int .i64 (heads l (k + x.1) : Nat)), (4, .msl B l.length 1 k (l.length - k)), (5, .int .i64 x.1)]) (fun x H2 nx2 => x.2.length = l.length ∧ 1 ≤ x.1 ∧ k + x.1 ≤ l.length ∧ heads l (k + x.1) + 1 ≤ k + x.1 ∧ H2 = hupd H' B (x.2.map (AV.int .i64)) ∧ nx2 = nx' ∧ (∀ p, k + x.1 ≤ p + 1 → x.2.getD p default = l.getD p default) ∧ x.2.take (heads l (k + x.1)) = dd l (k + x.1)) (fun x => l.length - x.1) (1, l)
        ⟨rfl, Nat.le_refl _, hk, by dsimp only; rw [heads_same (by omega) he]; omega, hid, rfl, fun _ _ => rfl, by dsimp only; rw [heads_same (by omega) he, dd_same (by omega) he, k3, k4]⟩ (by simp (disch := omega) only [agr, ZG, reduceEqDiff, ↓reduceIte, heads_same (show k ≠ 0 by omega) he, k3]) ?_
      rintro ⟨j, L⟩ H2 nx2 ⟨a1, a2, a3, a4, rfl, rfl, a5, a6⟩
      dsimp only at a1 a2 a3 a4 a5 a6 ⊢
      by_cases hj : k + j < l.length
      · have tj : (j : Int) - 1 = (j - 1 : Nat) := by omega
        have r1 := a5 (k + j) (by omega)
        have r2 := a5 (k + (j - 1)) (by omega)
        by_cases hd : l.getD (k + j) default = l.getD (k + (j - 1)) default
        · have hq : heads l (k + (j + 1)) = heads l (k + j) := heads_same (l := l) (k := k + j) (by omega) (by rw [hd, show k + j - 1 = k + (j - 1) by omega])
          (have zz := aI @tj (aI @Int.toNat_natCast (aI @r1 (aI @r2 (aI @hd (aI @decide_true (aI @not_true_eq_false @decide_false)))))); repeat' (first | apply w_seq | apply w_ops0 | apply w_ops1 | apply w_block | apply w_skip | apply a_n | apply o_nil | refine vZ ?_ | (refine cdZ ?_ ?_ <;> (intro _hg; (try simp only [ZB] at _hg); try first | exact absurd trivial _hg | (exfalso; omega))) | fail)) <;> (try clear zz)
          refine ⟨(j + 1, L), by dsimp only; omega, ⟨a1, by dsimp only; omega, by dsimp only; omega, ?_, rfl, rfl, fun p hp => a5 p (by dsimp only at hp; omega), by dsimp only; rw [hq, show k + (j + 1) = k + j + 1 from rfl, dd_same (by omega) (by rw [hd, show k + j - 1 = k + (j - 1) by omega])]; exact a6⟩, by simp (disch := omega) only [agr, ZG, reduceEqDiff, ↓reduceIte, hq]⟩
          dsimp only
          rw [hq]
          omega
        · have hq : heads l (k + (j + 1)) = heads l (k + j) + 1 := heads_diff (l := l) (k := k + j) (by rw [show k + j - 1 = k + (j - 1) by omega]; exact hd)
          have hlm := lput_mapG (f := AV.int .i64) (l := L) (k := heads l (k + j)) (x := l.getD (k + j) default) (by omega)
          (have zz := aI @tj (aI @Int.toNat_natCast (aI @r1 @r2)); repeat' (first | apply w_seq | apply w_ops0 | apply w_ops1 | apply w_block | apply w_skip | apply a_n | apply o_nil | refine vZ ?_ | refine stZ ?_ | (refine cdZ ?_ ?_ <;> (intro _hg; (try simp only [ZB] at _hg); try first | exact absurd trivial _hg | (exfalso; omega))) | fail)) <;> (try clear zz)
          refine ⟨(j + 1, L.set (heads l (k + j)) (l.getD (k + j) default)), by dsimp only; omega, ⟨by simp [a1], by dsimp only; omega, by dsimp only; omega, ?_, ?_, rfl, fun p hp => ?_, by dsimp only; rw [hq, set_take (by omega), a6, show k + (j + 1) = k + j + 1 from rfl, dd_diff (by rw [show k + j - 1 = k + (j - 1) by omega]; exact hd)]⟩, by simp (disch := omega) only [agr, ZG, reduceEqDiff, ↓reduceIte, hq]⟩
          · dsimp only
            rw [hq]
            omega
          · dsimp only
            rw [hupd_two, hlm]
          · dsimp only at hp ⊢
            rw [List.getD_eq_getElem?_getD, List.getElem?_set_ne (by omega), ← List.getD_eq_getElem?_getD]
            exact a5 p (by omega)
      · have hn : k + j = l.length := by omega
        have hl1 := asls_rest (B := B) (n := l.length) (show heads l (k + j) < l.length by omega) (Nat.ne_of_gt hpos)
        have hl2 := asls_part (B := B) (n := l.length) (show heads l (k + j) ≤ l.length by omega) (Nat.ne_of_gt hpos)
        (have zz := aI @hl1 @hl2; repeat' (first | apply w_seq | apply w_ops0 | apply w_exit | apply a_n | apply a_x | apply o_nil | refine vZ ?_ | (refine cdZ ?_ ?_ <;> (intro _hg; (try simp only [ZB] at _hg); try first | exact absurd trivial _hg | (exfalso; omega))) | fail)) <;> (try clear zz)
        refine o_clr (H' := hupd (hupd H' B (L.map (AV.int .i64))) B (lput (L.map (AV.int .i64)) (heads l (k + j)) (zcells (.int .i64 0) (l.length - heads l (k + j))))) ?_ ?_
        · ((try simp only [simB0, ZA, reduceEqDiff, ↓reduceIte, reduceAdd, reduceLeDiff]); (try with_reducible rfl))
          simp only [aclear]
          rw [if_neg (by omega), hupd_self']
          dsimp only
          rw [if_pos ⟨by simp [a1], trivial, rfl, rfl, by omega⟩]
          rfl
        · (have zz := @hl2; repeat' (first | apply w_seq | apply w_ops0 | apply w_ret | apply a_n | apply a_r | apply o_nil | refine vZ ?_ | refine e_ends rfl ?_ | refine r1Z ?_ | fail)) <;> (try clear zz)
          refine ⟨by rw [hn], ⟨_, hupd_two _ _ _ _, ?_, ?_⟩, rfl⟩
          · have hz : (zcells (AV.int .i64 0) (l.length - heads l (k + j))).length = l.length - heads l (k + j) := by simp [zcells, show (AV.int IntKind.i64 0).cells.length = 1 from rfl]
            simp [lput, hz]
            omega
          · rw [← hn, ← a6, List.map_take]
            simp only [lput]
            rw [List.append_assoc, List.take_append_of_le_length (by simp; omega), List.take_of_length_le (by simp; omega)]
    · (have zz := aI @tk (aI @hH @Int.toNat_natCast); repeat' (first | apply w_seq | apply w_ops0 | apply w_ops1 | apply w_block | apply w_skip | apply a_n | apply o_nil | refine vZ ?_ | (refine cdZ ?_ ?_ <;> (intro _hg; (try simp only [ZB] at _hg); try first | exact absurd trivial _hg | (exfalso; omega))) | fail)) <;> (try clear zz)
      exact ⟨k + 1, by omega, ⟨rfl, rfl, by omega, by omega, by rw [heads_diff he, k3], by rw [dd_diff he, k4, take_succ' hk]⟩, by simp (disch := omega) only [agr, ZG, reduceEqDiff, ↓reduceIte]⟩
  · (have zz := and_self; repeat' (first | apply w_seq | apply w_ops0 | apply w_exit | apply w_ret | apply a_n | apply a_x | apply o_nil | refine vZ ?_ | (refine cdZ ?_ ?_ <;> (intro _hg; (try simp only [ZB] at _hg); try first | exact absurd trivial _hg | (exfalso; omega))) | refine e_ends rfl ?_ | refine r1Z ?_ | fail)) <;> (try clear zz)
    have e : l.length = k := by omega
    refine ⟨by rw [e, k3], ⟨_, hid, by simp, ?_⟩, rfl⟩
    rw [e, k3, k4, ← List.map_take]
end Go.Proofs.YtbiikomnhkbblaaGreat

/- T24: contracts of functions and plain laws; for all inputs that the theorems name. -/
namespace Go.Proofs.YtbiikomnhkbblaaGreat
open Go Go.Abs
open Nat (reduceEqDiff reduceAdd reduceLeDiff)

/-! ### the reference's Values -/
def inV (l : List (List Int)) (p v : Nat) : Bool := l.any fun w => decide (w.getD p default = (v : Int))
def vals (l : List (List Int)) (p o : Nat) : List Int := ((List.range o).filter (inV l p)).map Int.ofNat
theorem vals_len (l : List (List Int)) (p o : Nat) : (vals l p o).length ≤ o := by
  unfold vals
  rw [List.length_map]
  exact Nat.le_trans (List.length_filter_le _ _) (by simp)
attribute [local irreducible] awp2 aops2 ains aloop athen bbind obind gbind acond res1 Go.Abs.Fn PCall Go.Abs.Pure SnapArgs SnapL Yl

end Go.Proofs.YtbiikomnhkbblaaGreat

/- T25: contracts of functions and plain laws; for all inputs that the theorems name. -/
namespace Go.Proofs.YtbiikomnhkbblaaGreat
open Go Go.Abs

/-! ### the plain law of domains -/
theorem dd_mem {l : List Int} : ∀ {k : Nat}, k ≤ l.length → ∀ x, x ∈ dd l k ↔ ∃ j, j < k ∧ l.getD j default = x
  | 0, _, x => by simp [dd]
  | k + 1, hk, x => by
    have ih := dd_mem (l := l) (k := k) (by omega) x
    rw [dd, List.mem_append, ih]
    constructor
    · rintro (⟨j, h1, h2⟩ | h)
      · exact ⟨j, by omega, h2⟩
      · split at h
        · rw [List.mem_singleton] at h; exact ⟨k, by omega, h.symm⟩
        · simp at h
    · rintro ⟨j, h1, h2⟩
      by_cases e : j = k
      · subst e
        by_cases c : j = 0 ∨ l.getD j default ≠ l.getD (j - 1) default
        · right; rw [if_pos c, List.mem_singleton]; exact h2.symm
        · left
          have c1 : j ≠ 0 := fun h => c (.inl h)
          have c2 : l.getD j default = l.getD (j - 1) default := Decidable.of_not_not fun h => c (.inr h)
          exact ⟨j - 1, by omega, by rw [← c2]; exact h2⟩
      · left; exact ⟨j, by omega, h2⟩
theorem dd_asc {l : List Int} (hs : ∀ i j, i < j → j < l.length → l.getD i default ≤ l.getD j default) : ∀ {k : Nat}, k ≤ l.length → (dd l k).Pairwise (· < ·)
  | 0, _ => List.Pairwise.nil
  | k + 1, hk => by
    have ih := dd_asc hs (k := k) (by omega)
    rw [dd, List.pairwise_append]
    refine ⟨ih, by split <;> simp, fun x hx y hy => ?_⟩
    split at hy
    · rename_i c
      rw [List.mem_singleton] at hy
      subst hy
      obtain ⟨j, h1, rfl⟩ := (dd_mem (by omega) x).1 hx
      rcases c with c | c
      · omega
      · have a1 : l.getD j default ≤ l.getD (k - 1) default := by
          by_cases e : j = k - 1
          · rw [e]; exact Int.le_refl _
          · exact hs j (k - 1) (by omega) (by omega)
        have a2 := hs (k - 1) k (by omega) (by omega)
        omega
    · simp at hy
theorem vals_asc (l : List (List Int)) (p o : Nat) : (vals l p o).Pairwise (· < ·) := by
  unfold vals
  rw [List.pairwise_map]
  exact (List.Pairwise.filter _ List.pairwise_lt_range).imp (fun h => Int.ofNat_lt.2 h)
theorem asc_unique {a b : List Int} (ha : a.Pairwise (· < ·)) (hb : b.Pairwise (· < ·)) (h : ∀ x, x ∈ a ↔ x ∈ b) : a = b := by
  have na : a.Nodup := ha.imp (fun h => by omega)
  have nb : b.Nodup := hb.imp (fun h => by omega)
  have hp : a.Perm b := (List.perm_ext_iff_of_nodup na nb).2 h
  exact List.Perm.eq_of_pairwise (fun x y _ _ h1 h2 => by omega) ha hb hp
theorem vals_dd {l : List (List Int)} {p o : Nat} {M : List Int} (hM : M.Perm (l.map fun w => w.getD p default)) (hs : M.Pairwise (· ≤ ·)) (hr : ∀ w ∈ l, 0 ≤ w.getD p default ∧ w.getD p default < o) : dd M M.length = vals l p o := by
  refine asc_unique (dd_asc (fun i j h1 h2 => ?_) (Nat.le_refl _)) (vals_asc l p o) (fun x => ?_)
  · have := List.pairwise_iff_getElem.1 hs i j (by omega) h2 h1
    simpa [List.getD, h2, show i < M.length by omega] using this
  · rw [dd_mem (Nat.le_refl _)]
    have e : (∃ j, j < M.length ∧ M.getD j default = x) ↔ x ∈ M := by
      constructor
      · rintro ⟨j, h1, rfl⟩; exact mem_getD h1
      · intro h
        obtain ⟨j, hj, rfl⟩ := List.getElem_of_mem h
        exact ⟨j, hj, by simp [List.getD, hj]⟩
    rw [e, hM.mem_iff, List.mem_map]
    unfold vals
    rw [List.mem_map]
    constructor
    · rintro ⟨w, hw, rfl⟩
      have := hr w hw
      refine ⟨(w.getD p default).toNat, ?_, by show ((w.getD p default).toNat : Int) = _; omega⟩
      rw [List.mem_filter, List.mem_range]
      refine ⟨by omega, ?_⟩
      unfold inV
      rw [List.any_eq_true]
      exact ⟨w, hw, decide_eq_true (by omega)⟩
    · rintro ⟨v, hv, rfl⟩
      rw [List.mem_filter, List.mem_range] at hv
      have h2 := hv.2
      unfold inV at h2
      rw [List.any_eq_true] at h2
      obtain ⟨w, hw, h3⟩ := h2
      exact ⟨w, hw, of_decide_eq_true h3⟩
def domT (t : TaskV) (i f p : Int) : List Int × Int := if placeE t i f ≠ 0 then ([], placeE t i f) else if p < 0 ∨ t.n ≤ p then ([], 2) else (vals (allowV (pickC t i) f) p.toNat t.outs.toNat, 0)
theorem snapNilV {H : Hp} (e : Int) : Snap H (.tup [.esl, .int .i64 e]) (.tup [encV [], .int .i64 e]) := snap_tup (snapL_cons (.eslsl 1) (snapL_cons (.int _ _) snapL_nil))
attribute [local irreducible] awp2 aops2 ains aloop athen bbind obind gbind acond res1 Go.Abs.Fn PCall Go.Abs.Pure SnapArgs SnapL Yl

end Go.Proofs.YtbiikomnhkbblaaGreat

/- T26: contracts of functions and plain laws; for all inputs that the theorems name. -/
namespace Go.Proofs.YtbiikomnhkbblaaGreat
open Go Go.Abs
open Nat (reduceEqDiff reduceAdd reduceLeDiff)
attribute [local irreducible] awp2 aops2 ains aloop athen bbind obind gbind acond res1 Go.Abs.Fn PCall Go.Abs.Pure SnapArgs SnapL Yl

theorem domain_c (t : TaskV) (i f p : Int) (hs : ∀ c ∈ t.cases, ShC c) (hsc : Sh t.cases) (hq : ∀ c ∈ t.cases, c.out.length ≤ 100000 ∧ c.calm.length ≤ 100000) : Pure Tryz.prog 21 [encT t, .int .i64 i, .int .i64 f, .int .i64 p] (.tup [encV (domT t i f p).1, .int .i64 (domT t i f p).2]) := by
  refine Pure.of_c2 follows is21 (Nat.le_of_ble_eq_true rfl) ?_
  simp only [b21, cO, cG, cN, cM, cD, cF, cB, cFal, cTru]
  have hsc' : t.cases.length ≤ 17592186044416 := hsc
  have hc := place_c t i f hs hsc
  have d2 := encT_dat t
  by_cases he : placeE t i f = 0
  rotate_left
  · have e : domT t i f p = ([], placeE t i f) := by unfold domT; rw [if_pos he]
    rw [e]
    generalize placeE t i f = C at *
    unfold encT at hc d2
    rw [show encT t = .agg [.int .i64 t.n, .int .i64 t.ins, .int .i64 t.outs, encCs t.cases] from rfl]
    (have zz := aI @encCs_one (aI @encCs_cells @alenS_encCs); repeat' (first | apply w_seq | apply w_ops0 | apply w_ret | apply a_n | apply a_r | apply o_nil | refine vZ ?_ | refine cZ ?_ (hp := hc) | refine bxZ ?_ | (refine cdZ ?_ ?_ <;> (intro _hg; (try simp only [ZB] at _hg); try first | exact absurd trivial _hg | (exfalso; omega))) | refine e_ends rfl ?_ | refine r2Z ?_ | fail)) <;> (try clear zz)
    exact snapNilV _
  obtain ⟨e0, e1, e2, e3⟩ := placeE_0 he
  obtain ⟨k, rfl⟩ : ∃ k : Nat, i = k := ⟨i.toNat, by omega⟩
  have hk : k < t.cases.length := by omega
  have hm := mem_getD hk
  have ht := (check_parts e0).1
  have e : domT t k f p = if p < 0 ∨ t.n ≤ p then ([], 2) else (vals (allowV (t.cases.getD k default) f) p.toNat t.outs.toNat, 0) := by unfold domT; rw [if_neg (fun h => h he)]; rfl
  rw [e]
  rw [he] at hc
  have ix := aixS_encCs hk
  obtain ⟨hal, hav⟩ := allow_vecs (f := f) e0 hk
  have hq1 := hq _ hm
  obtain ⟨s1, s2, s3, s4, s5⟩ := hs _ hm
  by_cases hp : p < 0 ∨ t.n ≤ p
  · rw [if_pos hp]
    unfold encT at hc d2
    rw [show encT t = .agg [.int .i64 t.n, .int .i64 t.ins, .int .i64 t.outs, encCs t.cases] from rfl]
    (have zz := aI @encCs_one (aI @encCs_cells @alenS_encCs); repeat' (first | apply w_seq | apply w_ops0 | apply w_skip | apply w_ret | apply a_n | apply a_r | apply o_nil | refine vZ ?_ | refine cZ ?_ (hp := hc) | refine bxZ ?_ | refine gTZ ?_ | refine gFZ ?_ | refine cTZ ?_ | ((first | refine gBZ ?_ ?_ | refine cdZ ?_ ?_) <;> (intro _hg; (try simp only [ZB] at _hg); try first | exact absurd trivial _hg | (exfalso; omega))) | refine e_ends rfl ?_ | refine r2Z ?_ | fail)) <;> (try clear zz)
    all_goals exact snapNilV _
  rw [if_neg hp]
  obtain ⟨q, rfl⟩ : ∃ q : Nat, p = q := ⟨p.toNat, by omega⟩
  obtain ⟨o, hoo⟩ : ∃ o : Nat, t.outs = o := ⟨t.outs.toNat, by omega⟩
  rw [hoo, Int.toNat_natCast, Int.toNat_natCast]
  generalize t.cases.getD k default = c at *
  have sA : (allowV c f).length ≤ 100000 ∧ ∀ v ∈ allowV c f, Sh v := by
    unfold allowV
    split
    · exact ⟨hq1.2, s5⟩
    · exact ⟨hq1.1, s3⟩
  have hr : ∀ w ∈ allowV c f, q < w.length ∧ 0 ≤ w.getD q default ∧ w.getD q default < o := fun w hw => by
    have h := hav w hw
    have hl : q < w.length := by omega
    have := h.2 _ (mem_getD hl)
    exact ⟨hl, by omega, by omega⟩
  have ha2 : Pure Tryz.prog 53 [.agg [encV c.inp, encVV c.out, encVV c.calm], .int .i64 f] (encVV (allowV c f)) := allowed_c c f
  have d3 : Dat (.agg [encV c.inp, encVV c.out, encVV c.calm]) := encC_dat c
  clear hav hm hs hq hq1
  generalize allowV c f = l at *
  obtain ⟨sl1, sl2⟩ := sA
  unfold encT at hc d2
  rw [show encT t = .agg [.int .i64 t.n, .int .i64 t.ins, .int .i64 t.outs, encCs t.cases] from rfl]
  (have zz := aI @encCs_one (aI @encCs_cells (aI @alenS_encCs @ix)); repeat' (first | apply w_seq | apply w_ops0 | apply w_block | apply w_skip | apply a_n | apply o_nil | refine vZ ?_ | refine cZ ?_ (hp := by first | exact hc | exact ha2) | refine bxZ ?_ | refine gTZ ?_ | ((first | refine gBZ ?_ ?_ | refine cdZ ?_ ?_) <;> (intro _hg; (try simp only [ZB] at _hg); try first | exact absurd trivial _hg | (exfalso; omega))) | apply w_loop | fail)) <;> (try clear zz)
  refine loopI (X := AV × Nat) (fun x => [(3, .int .i64 q), (11, x.1), (35, encVV l), (36, .int .i64 l.length), (37, .int .i64 x.2)]) (fun x H nx => x.2 ≤ l.length ∧ Row H 1 x.1 (((l.take x.2).map fun w => w.getD q default).map (AV.int .i64)) ∧ ∀ b, rowB x.1 = some b → b < nx) (fun x => l.length - x.2) (.esl, 0) ⟨Nat.zero_le _, Row.nil, fun b hb => (by cases hb)⟩ (by simp (disch := omega) only [agr, ZG, reduceEqDiff, ↓reduceIte]) ?_
  rintro ⟨s, j⟩ H nx ⟨h1, h2, h3⟩
  dsimp only at h1 h2 h3 ⊢
  by_cases hj : j < l.length
  · have hw := mem_getD hj
    have hw1 := (hr _ hw).1
    have hw2 : (l.getD j default).length ≤ 17592186044416 := sl2 _ hw
    (have zz := @Int.toNat_natCast; repeat' (first | apply w_seq | apply w_ops0 | apply w_block | apply w_skip | apply a_n | apply o_nil | refine vZ ?_ | refine blZ ?_ | (refine cdZ ?_ ?_ <;> (intro _hg; (try simp only [ZB] at _hg); try first | exact absurd trivial _hg | (exfalso; omega))) | fail)) <;> (try clear zz)
    refine e_row rfl (by ((try simp only [simB0, ZA, reduceEqDiff, ↓reduceIte, reduceAdd, reduceLeDiff]); (try with_reducible rfl))) (h2.same fun b hb => ?_) (by ((try simp only [simB0, ZA, reduceEqDiff, ↓reduceIte, reduceAdd, reduceLeDiff]); (try with_reducible rfl))) asrc_one rfl rfl Nat.one_pos (by simp; omega) (by simp; omega) ?_
    · have := h3 b hb
      rw [hupd_ne (by omega)]
    rintro s2 E e hrow hle1 hle2 hsame hb2
    (have zz := and_self; repeat' (first | apply w_ops0 | apply a_n | apply o_nil | refine vZ ?_ | fail)) <;> (try clear zz)
    refine ⟨(s2, j + 1), by dsimp only; omega, ⟨by dsimp only; omega, ?_, fun b hb => ?_⟩, by simp (disch := omega) only [agr, ZG, reduceEqDiff, ↓reduceIte]⟩
    · dsimp only
      rw [take_succ' hj, List.map_append, List.map_append]
      exact hrow
    · rcases hb2 b hb with h | h
      · have := h3 b h; omega
      · omega
  · rw [List.take_of_length_le (by omega)] at h2
    generalize hL : (l.map fun w => w.getD q default) = L at h2
    have hLl : L.length = l.length := by rw [← hL, List.length_map]
    cases h2' : L with
    | nil => rw [h2'] at hLl; simp at hLl; omega
    | cons z zs =>
    have hrow : ∃ B, s = .msl B L.length 1 0 L.length ∧ H B = some (L.map (AV.int .i64)) ∧ B < nx := by
      generalize hcs : L.map (AV.int .i64) = cs at h2
      cases h2 with
      | nil => rw [h2'] at hcs; simp at hcs
      | box B len cs hb hl =>
        have e : len = L.length := by rw [← hcs, List.length_map] at hl; omega
        subst e
        exact ⟨B, by rw [Nat.mul_one], hb, h3 B rfl⟩
    clear h2'
    obtain ⟨B, rfl, hB, hBn⟩ := hrow
    (have zz := and_self; repeat' (first | apply w_seq | apply w_ops0 | apply w_exit | apply a_n | apply a_x | apply o_nil | refine vZ ?_ | (refine cdZ ?_ ?_ <;> (intro _hg; (try simp only [ZB] at _hg); try first | exact absurd trivial _hg | (exfalso; omega))) | fail)) <;> (try clear zz)
    refine o_callE (by ((try simp only [simB0, ZA, reduceEqDiff, ↓reduceIte, reduceAdd, reduceLeDiff]); (try with_reducible rfl))) (by ((try simp only [simB0, ZA, reduceEqDiff, ↓reduceIte, reduceAdd, reduceLeDiff]); (try with_reducible rfl))) (sortI_c hB hBn rfl (by omega) (by omega)) ?_
    rintro _ H1 n1 ⟨M, hps, hpM, hsM⟩
    have hMl : M.length = L.length := hpM.length_eq
    rw [← hMl]
    (have zz := and_self; repeat' (first | apply w_seq | apply w_ops0 | apply a_n | apply o_nil | refine vZ ?_ | fail)) <;> (try clear zz)
    refine o_callE (by ((try simp only [simB0, ZA, reduceEqDiff, ↓reduceIte, reduceAdd, reduceLeDiff]); (try with_reducible rfl))) (by ((try simp only [simB0, ZA, reduceEqDiff, ↓reduceIte, reduceAdd, reduceLeDiff]); (try with_reducible rfl))) (compact_c M (by show _ ≤ _; omega) (fun h => by rw [h] at hMl; simp at hMl; omega) H1 B n1 hps.at_ (by have := hps.le; omega)) ?_
    rintro _ _ _ ⟨rfl, ⟨C, rfl, hC1, hC2⟩, rfl⟩
    (have zz := and_self; repeat' (first | apply w_ret | apply a_n | apply o_nil | refine vZ ?_ | refine e_ends rfl ?_ | refine r2Z ?_ | fail)) <;> (try clear zz)
    have hv := vals_dd (l := l) (p := q) (o := o) (M := M) (by rw [hL]; exact hpM) hsM (fun w hw => ⟨(hr w hw).2.1, (hr w hw).2.2⟩)
    rw [← hv]
    refine snap_tup (snapL_cons ?_ (snapL_cons (.int _ _) snapL_nil))
    have hdl := dd_len M M.length
    have hle := heads_le M M.length
    refine snap_msl hupd_self' hC1 (by omega) (by rw [List.length_map]; exact hdl) (fun y hy => ?_) (fun i a c h4 h5 => ?_)
    · obtain ⟨n, _, rfl⟩ := List.mem_map.1 hy; rfl
    · rw [Nat.zero_add] at h4
      rw [← hC2, List.getElem?_take] at h5
      split at h5
      · rw [h4] at h5
        obtain rfl := Option.some.inj h5
        have hmem : a ∈ (dd M M.length).map (AV.int .i64) := by
          rw [← hC2]
          exact List.mem_of_getElem? (i := i) (by rw [List.getElem?_take, if_pos ‹_›]; exact h4)
        obtain ⟨n, _, rfl⟩ := List.mem_map.1 hmem
        exact .int _ _
      · cases h5
end Go.Proofs.YtbiikomnhkbblaaGreat

/- T27: contracts of functions and plain laws; for all inputs that the theorems name. -/
namespace Go.Proofs.YtbiikomnhkbblaaGreat
open Go Go.Abs

structure PlaceV where
  index : Int
  faulty : Int
  proc : Int
  outs : List Int
def encP (x : PlaceV) : AV := .agg [.int .i64 x.index, .int .i64 x.faulty, .int .i64 x.proc, encV x.outs]
theorem few_q {t : TaskV} (hf : fewT t = true) : t.cases.length ≤ 30 ∧ ∀ c ∈ t.cases, c.out.length ≤ 100000 ∧ c.calm.length ≤ 100000 := by
  unfold fewT at hf
  rw [Bool.and_eq_true, decide_eq_true_iff, List.all_eq_true] at hf
  refine ⟨hf.1, fun c hc => ?_⟩
  have := hf.2 c hc
  unfold fewC fewVs at this
  simp only [Bool.and_eq_true, decide_eq_true_iff] at this
  omega
attribute [local irreducible] awp2 aops2 ains aloop athen bbind obind gbind acond res1 Go.Abs.Fn PCall Go.Abs.Pure SnapArgs SnapL Yl

end Go.Proofs.YtbiikomnhkbblaaGreat

/- T28: contracts of functions and plain laws; for all inputs that the theorems name. -/
namespace Go.Proofs.YtbiikomnhkbblaaGreat
open Go Go.Abs Go.RowKit

/-! ### the arguments of the laws, opened -/
section
variable {H : Type} {enc : TypeId × Value → H} {W : World}
theorem oPlace : Opens enc Tryz.prog W 37 encP (fun x => Sh x.outs) :=
  (opens_struct Tryz.underlying37 (by kernel_rfl) (opensF_cons (off := 0) (off' := 1) rfl (by kernel_rfl) oi (opensF_cons (off := 1) (off' := 2) rfl (by kernel_rfl) oi (opensF_cons (off := 2) (off' := 3) rfl (by kernel_rfl) oi (opensF_cons (off := 3) (off' := 4) rfl (by kernel_rfl) oL1 opensF_nil))))).map
    (fun a => (⟨a.1, a.2.1, a.2.2.1, a.2.2.2.1⟩ : PlaceV)) (by
      rintro ⟨n, i, o, c, u⟩ ⟨_, _, _, h, _⟩
      exact h) (fun _ _ => rfl)
end
end Go.Proofs.YtbiikomnhkbblaaGreat

/- T29: contracts of functions and plain laws; for all inputs that the theorems name. -/
namespace Go.Proofs.YtbiikomnhkbblaaGreat
open Go Go.Abs
open Nat (reduceEqDiff reduceAdd reduceLeDiff)

/-! ### sets of processes as bits -/
theorem shr_bits {m p : Nat} (hp : p ≤ 60) : shrN (m : Int) p = ((m / 2 ^ p : Nat) : Int) := by
  unfold shrN
  rw [Nat.min_eq_left (by omega), Int.fdiv_eq_ediv_of_nonneg _ (Int.le_of_lt (Int.pow_pos (by omega)))]
  simp
theorem and1_bits {m p : Nat} (hp : p ≤ 60) : and1 (shrN (m : Int) p) = if m.testBit p then 1 else 0 := by
  rw [shr_bits hp, and1_nat]
  have h := Nat.testBit_eq_decide_div_mod_eq (x := m) (i := p)
  by_cases c : m / 2 ^ p % 2 = 1
  · rw [h, decide_eq_true c, if_pos rfl, c]; rfl
  · rw [h, decide_eq_false c, if_neg (by decide)]
    have : m / 2 ^ p % 2 = 0 := by omega
    rw [this]; rfl
theorem and1_zero {m p : Nat} (hp : p ≤ 60) : decide (and1 (shrN (m : Int) p) = 0) = !m.testBit p := by
  rw [and1_bits hp]; cases m.testBit p <;> rfl
theorem or_nat {tb tf : Bool} {a b : Nat} (ha : a < 2 ^ 62) (hb : b < 2 ^ 62) : abin2 .or tb tf (.int .i64 (a : Int)) (.int .i64 (b : Int)) = some (.int .i64 ((a ||| b : Nat) : Int)) := by
  have h : (BitVec.ofInt 64 (a : Int) ||| BitVec.ofInt 64 (b : Int)).toNat = a ||| b := by
    rw [BitVec.toNat_or, BitVec.toNat_ofInt, BitVec.toNat_ofInt]
    congr 1 <;> omega
  have hlt : a ||| b < 2 ^ 62 := Nat.or_lt_two_pow ha hb
  show some (AV.int .i64 (IntKind.wrap .i64 ((BitVec.ofInt 64 (a : Int) ||| BitVec.ofInt 64 (b : Int)).toNat : Int))) = _
  rw [h, wrap64 (by omega) (by omega)]
theorem agreesB_iff {v outs : List Int} {m : Nat} (hv : v.length ≤ 60) : agreesB v outs (m : Int) = true ↔ ∀ p, p < v.length → m.testBit p = false → outs.getD p default = v.getD p default := by
  unfold agreesB
  rw [List.all_eq_true]
  constructor
  · intro h p hp hb
    have := h p (List.mem_range.2 hp)
    rw [and1_zero (by omega), hb] at this
    simpa using this
  · intro h p hp
    have hp := List.mem_range.1 hp
    rw [and1_zero (by omega)]
    cases hb : m.testBit p
    · simp only [Bool.not_false, Bool.true_and, Bool.not_eq_true', decide_eq_false_iff_not, ne_eq, Decidable.not_not]
      exact h p hp hb
    · rfl

/-! ### what is right -/
def rightB (t : TaskV) (x : PlaceV) : Bool := fewT t && (decide (checkE t = 0) && (decide (0 ≤ x.index ∧ x.index < t.cases.length ∧ 0 ≤ x.faulty ∧ x.faulty < ((2 ^ t.n.toNat : Nat) : Int) ∧ (x.outs.length : Int) = t.n) && !(x.outs.any fun v => decide (v < -1 ∨ t.outs ≤ v))))
theorem rightB_iff {t : TaskV} {x : PlaceV} : rightB t x = true ↔ fewT t = true ∧ checkE t = 0 ∧ (0 ≤ x.index ∧ x.index < t.cases.length ∧ 0 ≤ x.faulty ∧ x.faulty < ((2 ^ t.n.toNat : Nat) : Int) ∧ (x.outs.length : Int) = t.n) ∧ (x.outs.any fun v => decide (v < -1 ∨ t.outs ≤ v)) = false := by
  unfold rightB
  simp only [Bool.and_eq_true, decide_eq_true_eq, Bool.not_eq_true']
attribute [local irreducible] awp2 aops2 ains aloop athen bbind obind gbind acond res1 Go.Abs.Fn PCall Go.Abs.Pure SnapArgs SnapL Yl
theorem right1_c (v : Int) (t : TaskV) : Pure Tryz.prog 72 [.int .i64 v, .iptr [.int .i64 t.n, .int .i64 t.ins, .int .i64 t.outs, encCs t.cases] 0] (.bool (decide (v < -1 ∨ t.outs ≤ v))) := by
  refine Pure.of_c2 follows is72 (Nat.le_of_ble_eq_true rfl) ?_
  simp only [b72, cO, cG, cN, cM, cD, cF, cB, cFal, cTru]
  (have zz := aI @encCs_one @encCs_cells; repeat' (first | apply w_seq | apply w_ops0 | apply w_ret | apply a_n | apply o_nil | refine vZ ?_ | refine gTZ ?_ | refine gFZ ?_ | (refine gBZ ?_ ?_ <;> (intro _hg; (try simp only [ZB] at _hg); try first | exact absurd trivial _hg | (exfalso; omega))) | refine e_ends rfl ?_ | refine r1Z ?_ | fail)) <;> (try clear zz)
  all_goals (refine snap_bool ?_)
  · exact decide_eq_decide.2 (by omega)
  · rw [decide_eq_true (by omega)]
theorem right_c (t : TaskV) (x : PlaceV) (hs : ∀ c ∈ t.cases, ShC c) (hsc : Sh t.cases) (ho : Sh x.outs) : Pure Tryz.prog 33 [encT t, encP x] (.bool (rightB t x)) := by
  obtain ⟨i, f, p, outs⟩ := x
  refine Pure.of_c2 follows is33 (Nat.le_of_ble_eq_true rfl) ?_
  simp only [b33, cO, cG, cN, cM, cD, cF, cB, cFal, cTru]
  have ho' : outs.length ≤ 17592186044416 := ho
  have hsc' : t.cases.length ≤ 17592186044416 := hsc
  have hfw := fewR t hs hsc
  have hck := checkR t hs hsc
  have d2 := encT_dat t
  have dT : Dat (encCs t.cases) := encCs_dat _
  unfold encP
  dsimp only
  unfold encT at *
  cases hf : fewT t
  · have e : rightB t ⟨i, f, p, outs⟩ = false := by unfold rightB; rw [hf]; rfl
    rw [hf] at hfw
    rw [e]
    (have zz := aI @encCs_one @encCs_cells; repeat' (first | apply w_seq | apply w_ops0 | apply w_mixS1 | apply w_ret | apply a_n | apply o_nil | refine vZ ?_ | refine cZ ?_ (hp := hfw) | refine bxZ ?_ | refine gFZ ?_ | refine e_ends rfl ?_ | refine r1Z ?_ | fail)) <;> (try clear zz)
    exact snap_bool rfl
  rw [hf] at hfw
  by_cases hc : checkE t = 0
  rotate_left
  · have e : rightB t ⟨i, f, p, outs⟩ = false := by unfold rightB; rw [decide_eq_false hc, Bool.false_and, Bool.and_false]
    have z : decide (checkE t = 0) = false := decide_eq_false hc
    rw [e]
    generalize checkE t = C at *
    (have zz := aI @encCs_one (aI @encCs_cells @z); repeat' (first | apply w_seq | apply w_ops0 | apply w_mixS1 | apply w_ret | apply a_n | apply o_nil | refine vZ ?_ | refine cZ ?_ (hp := by first | exact hfw | exact hck) | refine bxZ ?_ | refine gTZ ?_ | refine gFZ ?_ | refine e_ends rfl ?_ | refine r1Z ?_ | fail)) <;> (try clear zz)
    exact snap_bool rfl
  have e : rightB t ⟨i, f, p, outs⟩ = (decide (0 ≤ i ∧ i < t.cases.length ∧ 0 ≤ f ∧ f < ((2 ^ t.n.toNat : Nat) : Int) ∧ (outs.length : Int) = t.n) && !(outs.any fun v => decide (v < -1 ∨ t.outs ≤ v))) := by unfold rightB; rw [hf, decide_eq_true hc]; rfl
  rw [e]
  rw [hc] at hck
  obtain ⟨n1, n5⟩ := checkE_n hc
  have sh := shl1 false false t.n (by omega) n5
  have hA := containsF_c outs (fun x => decide (x < -1 ∨ t.outs ≤ x)) 72 [.iptr [.int .i64 t.n, .int .i64 t.ins, .int .i64 t.outs, encCs t.cases] 0] (fun x hx => by
    simp only [List.mem_singleton] at hx; subst hx
    exact .iptr (DatL.cons .int (DatL.cons .int (DatL.cons .int (DatL.cons dT DatL.nil))))) (fun x _ => right1_c x t) ho
  generalize ((2 ^ t.n.toNat : Nat) : Int) = W at *
  by_cases hI : 0 ≤ i ∧ i < t.cases.length ∧ 0 ≤ f ∧ f < W ∧ (outs.length : Int) = t.n
  rotate_left
  · rw [decide_eq_false hI, Bool.false_and]
    (have zz := aI @encCs_one (aI @encCs_cells (aI @alenS_encCs @sh)); repeat' (first | apply w_seq | apply w_ops0 | apply w_mixS1 | apply w_ret | apply a_n | apply o_nil | refine vZ ?_ | refine cZ ?_ (hp := by first | exact hfw | exact hck) | refine bxZ ?_ | refine gTZ ?_ | refine gFZ ?_ | (refine gBZ ?_ ?_ <;> (intro _hg; (try simp only [ZB] at _hg); try first | exact absurd trivial _hg | (exfalso; omega))) | refine e_ends rfl ?_ | refine r1Z ?_ | fail)) <;> (try clear zz)
    all_goals exact snap_bool rfl
  rw [decide_eq_true hI, Bool.true_and]
  obtain ⟨i1, i2, i3, i4, i5⟩ := hI
  have z1 : decide (0 ≤ i) = true := decide_eq_true i1
  have z2 : decide (i < t.cases.length) = true := decide_eq_true i2
  have z3 : decide (0 ≤ f) = true := decide_eq_true i3
  have z4 : decide (f < W) = true := decide_eq_true i4
  have z5 : decide ((outs.length : Int) = t.n) = true := decide_eq_true i5
  (have zz := aI @encCs_one (aI @encCs_cells (aI @alenS_encCs (aI @sh (aI @z1 (aI @z2 (aI @z3 (aI @z4 @z5))))))); repeat' (first | apply w_seq | apply w_ops0 | apply w_mixS1 | apply a_n | apply o_nil | refine vZ ?_ | refine cZ ?_ (hp := by first | exact hfw | exact hck) | refine bxZ ?_ | refine gTZ ?_ | (refine gBZ ?_ ?_ <;> (intro _hg; (try simp only [ZB] at _hg); try first | exact absurd trivial _hg | (exfalso; omega))) | fail)) <;> (try clear zz)
  refine o_callP (by ((try simp only [simB0, ZA, reduceEqDiff, ↓reduceIte, reduceAdd, reduceLeDiff]); (try with_reducible rfl))) (by ((try simp only [simB0, ZA, reduceEqDiff, ↓reduceIte, reduceAdd, reduceLeDiff]); (try with_reducible rfl))) hA (snap_plain (by (repeat' (first | exact snapL_nil | exact Dat.snap Dat.int | exact Dat.snap Dat.bool | exact Dat.snap Dat.str | exact Dat.snap Dat.esl | exact Dat.snap Dat.nilf | exact Dat.snap (encV_dat _) | exact Dat.snap (encVV_dat _) | exact Dat.snap dT | apply snapL_cons | apply snap_func | apply snap_iptr | (apply snap_ptr; (focus ((try simp only [simB0, ZA, reduceEqDiff, ↓reduceIte, reduceAdd, reduceLeDiff]); with_reducible rfl)); (focus rfl))))) rfl) ?_
  (have zz := and_self; repeat' (first | apply w_ret | apply a_n | apply o_nil | refine vZ ?_ | refine gTZ ?_ | refine e_ends rfl ?_ | refine r1Z ?_ | fail)) <;> (try clear zz)
  exact snap_bool rfl

theorem right_parts {t : TaskV} {x : PlaceV} (h : rightB t x = true) : fewT t = true ∧ checkE t = 0 ∧ ∃ k m n : Nat, x.index = k ∧ k < t.cases.length ∧ x.faulty = m ∧ m < 2 ^ n ∧ t.n = n ∧ 1 ≤ n ∧ n ≤ 5 ∧ x.outs.length = n ∧ (x.outs.any fun v => decide (v < -1 ∨ t.outs ≤ v)) = false := by
  obtain ⟨h1, h2, ⟨h3, h4, h5, h6, h7⟩, h8⟩ := rightB_iff.1 h
  obtain ⟨n1, n5⟩ := checkE_n h2
  refine ⟨h1, h2, x.index.toNat, x.faulty.toNat, t.n.toNat, by omega, by omega, by omega, by omega, by omega, by omega, by omega, by omega, h8⟩
theorem placeE_ok {t : TaskV} {k m n : Nat} (h : checkE t = 0) (hk : k < t.cases.length) (hn : t.n = n) (hm : m < 2 ^ n) : placeE t k m = 0 := by
  unfold placeE
  rw [if_neg (fun c => c h), if_neg (by omega), if_neg]
  rw [hn, Int.toNat_natCast]
  omega
theorem permT_ok {t : TaskV} {k m n : Nat} {outs : List Int} (h : checkE t = 0) (hk : k < t.cases.length) (hn : t.n = n) (hm : m < 2 ^ n) (ho : outs.length = n) (hv : (outs.any fun v => decide (v < -1 ∨ t.outs ≤ v)) = false) : permT t k m outs = ((allowV (t.cases.getD k default) m).any (fun v => agreesB v outs m), 0) := by
  unfold permT
  rw [if_neg (fun c => c (placeE_ok h hk hn hm)), if_neg (fun c => c (by omega)), hv, if_neg (by decide)]
  rfl
theorem domT_ok {t : TaskV} {k m n p : Nat} (h : checkE t = 0) (hk : k < t.cases.length) (hn : t.n = n) (hm : m < 2 ^ n) (hp : p < n) : domT t k m p = (vals (allowV (t.cases.getD k default) m) p t.outs.toNat, 0) := by
  unfold domT
  rw [if_neg (fun c => c (placeE_ok h hk hn hm)), if_neg (by omega)]
  rfl
theorem vals_mem {l : List (List Int)} {p o : Nat} {v : Int} : v ∈ vals l p o ↔ (0 ≤ v ∧ v < o) ∧ ∃ w ∈ l, w.getD p default = v := by
  unfold vals
  rw [List.mem_map]
  constructor
  · rintro ⟨a, ha, rfl⟩
    rw [List.mem_filter] at ha
    obtain ⟨h1, h2⟩ := ha
    have := List.mem_range.1 h1
    unfold inV at h2
    rw [List.any_eq_true] at h2
    obtain ⟨w, hw, e⟩ := h2
    exact ⟨by simp only [Int.ofNat_eq_natCast]; omega, w, hw, of_decide_eq_true e⟩
  · rintro ⟨⟨h1, h2⟩, w, hw, e⟩
    refine ⟨v.toNat, List.mem_filter.2 ⟨List.mem_range.2 (by omega), ?_⟩, by simp only [Int.ofNat_eq_natCast]; omega⟩
    unfold inV
    rw [List.any_eq_true]
    exact ⟨w, hw, decide_eq_true (by omega)⟩
theorem any_grow {t : TaskV} {k m n p : Nat} {outs : List Int} (h : checkE t = 0) (hk : k < t.cases.length) (hn : t.n = n) (hn5 : n ≤ 5) (hp : (allowV (t.cases.getD k default) m).any (fun v => agreesB v outs m) = true) : (allowV (t.cases.getD k default) ((m ||| 2 ^ p : Nat) : Int)).any (fun v => agreesB v outs ((m ||| 2 ^ p : Nat) : Int)) = true := by
  obtain ⟨h1, h2, h3⟩ := case_vecs h hk
  rw [List.any_eq_true] at hp ⊢
  obtain ⟨v, hv, ha⟩ := hp
  have hvo : v ∈ (t.cases.getD k default).out := by
    unfold allowV at hv
    split at hv
    · exact h3 v hv
    · exact hv
  have hne : m ||| 2 ^ p ≠ 0 := fun e => by
    have : (m ||| 2 ^ p).testBit p = true := by rw [Nat.testBit_or, Nat.testBit_two_pow_self, Bool.or_true]
    rw [e] at this
    simp at this
  have hvl := (h2 v hvo).1
  refine ⟨v, ?_, ?_⟩
  · unfold allowV
    rw [if_neg (by omega)]
    exact hvo
  · rw [agreesB_iff (by omega)] at ha ⊢
    intro q hq hb
    rw [Nat.testBit_or, Bool.or_eq_false_iff] at hb
    exact ha q hq hb.1

set_option maxHeartbeats 1000000 in
theorem law_grows (t : TaskV) (x : PlaceV) (hs : ∀ c ∈ t.cases, ShC c) (hsc : Sh t.cases) (ho : Sh x.outs) : Pure Tryz.prog 7 [encT t, encP x] (.bool true) := by
  have hr := right_c t x hs hsc ho
  obtain ⟨i, f, pr, outs⟩ := x
  refine Pure.of_c2 follows is7 (Nat.le_of_ble_eq_true rfl) ?_
  simp only [b7, cO, cG, cN, cM, cD, cF, cB, cFal, cTru]
  have haw := awake_c
  have d2 := encT_dat t
  have dT : Dat (encCs t.cases) := encCs_dat _
  have dP : Dat (encP ⟨i, f, pr, outs⟩) := Dat.agg (DatL.cons .int (DatL.cons .int (DatL.cons .int (DatL.cons (encV_dat _) DatL.nil))))
  have ho' : outs.length ≤ 17592186044416 := ho
  unfold encP at *
  dsimp only at *
  cases hR : rightB t ⟨i, f, pr, outs⟩
  · rw [hR] at hr
    unfold encT at *
    (have zz := aI @encCs_one @encCs_cells; repeat' (first | apply w_seq | apply w_ops0 | apply w_ret | apply a_n | apply a_r | apply o_nil | refine vZ ?_ | refine cZ ?_ (hp := by first | exact haw | exact hr) | refine bxZ ?_ | refine cTZ ?_ | refine e_ends rfl ?_ | refine r1Z ?_ | fail)) <;> (try clear zz)
    exact snap_bool rfl
  rw [hR] at hr
  obtain ⟨hf, hc, k, m, n, e1, hk, e2, hm, hn, n1, n5, hol, hov⟩ := right_parts hR
  dsimp only at e1 e2 hol hov
  subst e1; subst e2
  have hp := permitted_c t k m outs hs hsc ho
  rw [permT_ok hc hk hn hm hol hov] at hp
  cases hA : (allowV (t.cases.getD k default) m).any (fun v => agreesB v outs m)
  · rw [hA] at hp
    unfold encT at *
    (have zz := aI @encCs_one @encCs_cells; repeat' (first | apply w_seq | apply w_ops0 | apply w_skip | apply w_ret | apply a_n | apply a_r | apply o_nil | refine vZ ?_ | refine cZ ?_ (hp := by first | exact haw | exact hr | exact hp) | refine bxZ ?_ | refine cTZ ?_ | refine cFZ ?_ | (refine cdZ ?_ ?_ <;> (intro _hg; (try simp only [ZB] at _hg); try first | exact absurd trivial _hg | (exfalso; omega))) | refine e_ends rfl ?_ | refine r1Z ?_ | fail)) <;> (try clear zz)
    exact snap_bool rfl
  rw [hA] at hp
  have hq := (few_q hf).2
  have hdom := fun (p : Nat) (hpn : p < n) => by
    have := domain_c t k m p hs hsc hq
    rwa [domT_ok hc hk hn hm hpn] at this
  have hmore := fun (p : Nat) (hpn : p < n) => by
    have := permitted_c t k ((m ||| 2 ^ p : Nat) : Int) outs hs hsc ho
    rwa [permT_ok hc hk hn (Nat.or_lt_two_pow hm (Nat.pow_lt_pow_right (by omega) hpn)) hol hov, any_grow hc hk hn n5 hA] at this
  have hct := fun (p : Nat) => contains_c (vals (allowV (t.cases.getD k default) m) p t.outs.toNat) (outs.getD p default) (by
    have := vals_len (allowV (t.cases.getD k default) m) p t.outs.toNat
    have := (check_parts hc).1
    show _ ≤ _
    omega)
  have hin : ∀ p, p < n → m.testBit p = false → outs.getD p default ∈ vals (allowV (t.cases.getD k default) m) p t.outs.toNat := fun p hpn hb => by
    rw [List.any_eq_true] at hA
    obtain ⟨v, hv, ha⟩ := hA
    obtain ⟨g1, g2⟩ := (allow_vecs (f := m) hc hk).2 v hv
    rw [vals_mem]
    have e := (agreesB_iff (by omega)).1 ha p (by omega) hb
    have := g2 _ (mem_getD (l := v) (k := p) (by omega))
    exact ⟨by omega, v, hv, e.symm⟩
  have hpow : ∀ p, p < n → 2 ^ p < 2 ^ 62 := fun p hpn => Nat.pow_lt_pow_right (by omega) (by omega)
  have hm62 : m < 2 ^ 62 := Nat.lt_of_lt_of_le hm (Nat.pow_le_pow_right (by omega) (by omega))
  have hor := fun p (hpn : p < n) => or_nat (tb := false) (tf := false) hm62 (hpow p hpn)
  have hshl : ∀ p : Nat, p < n → abin2 .shl false false (.int .i64 1) (.int .i64 (p : Int)) = some (.int .i64 ((2 ^ p : Nat) : Int)) := fun p hpn => by
    have h := shl_nat (k := .i64) (k' := .i64) (a := 1) (b := p) (tb := false) (tf := false) (by show p ≤ 64; omega) (by have := hpow p hpn; show 1 * 2 ^ p < 2 ^ 63; omega)
    rw [Nat.one_mul] at h
    exact h
  generalize allowV (t.cases.getD k default) m = L at *
  unfold encT at *
  (have zz := aI @encCs_one @encCs_cells; repeat' (first | apply w_seq | apply w_ops0 | apply w_block | apply w_skip | apply a_n | apply o_nil | refine vZ ?_ | refine cZ ?_ (hp := by first | exact hr | exact hp) | refine bxZ ?_ | refine cFZ ?_ | (refine cdZ ?_ ?_ <;> (intro _hg; (try simp only [ZB] at _hg); try first | exact absurd trivial _hg | (exfalso; omega))) | apply w_loop | fail)) <;> (try clear zz)
  refine loopI (X := Nat) (fun p => [(2, .ptr 0 4 0), (3, .ptr 1 4 0), (34, .int .i64 n), (35, .int .i64 (p : Nat))]) (fun p H nx => p ≤ n ∧ H = hupd (hupd noBoxes 0 [.int .i64 t.n, .int .i64 t.ins, .int .i64 t.outs, encCs t.cases]) 1 [.int .i64 k, .int .i64 m, .int .i64 pr, encV outs] ∧ nx = 2) (fun p => n - p) 0 ⟨Nat.zero_le _, rfl, rfl⟩ (by simp (disch := omega) only [agr, ZG, reduceEqDiff, ↓reduceIte, hn, List.length_cons, List.length_nil, Nat.zero_add, reduceAdd]) ?_
  rintro p _ _ ⟨h1, rfl, rfl⟩
  by_cases hpn : p < n
  rotate_left
  · (have zz := and_self; repeat' (first | apply w_seq | apply w_ops0 | apply w_exit | apply w_ret | apply a_n | apply a_x | apply o_nil | refine vZ ?_ | refine cZ ?_ (hp := haw) | (refine cdZ ?_ ?_ <;> (intro _hg; (try simp only [ZB] at _hg); try first | exact absurd trivial _hg | (exfalso; omega))) | refine e_ends rfl ?_ | refine r1Z ?_ | fail)) <;> (try clear zz)
    exact snap_bool rfl
  have q1 := hdom p hpn
  have q2 := hmore p hpn
  have q3 := hct p
  have q4 := hor p hpn
  have q5 := hshl p hpn
  have q6 := and1_bits (m := m) (p := p) (by omega)
  generalize hV : vals L p t.outs.toNat = V at *
  cases hb : m.testBit p
  · rw [hb, if_neg (by decide)] at q6
    rw [decide_eq_true (hV ▸ hin p hpn hb)] at q3
    (have zz := aI @shr_eq (aI @and_eq1 (aI @q6 (aI @q4 (aI @q5 (aI @encCs_one @encCs_cells))))); repeat' (first | apply w_seq | apply w_ops0 | apply w_mixS1 | apply w_block | apply w_skip | apply a_n | apply o_nil | refine vZ ?_ | refine cZ ?_ (hp := by first | exact q1 | exact q2 | exact q3) | refine gTZ ?_ | refine cFZ ?_ | ((first | refine gBZ ?_ ?_ | refine cdZ ?_ ?_) <;> (intro _hg; (try simp only [ZB] at _hg); try first | exact absurd trivial _hg | (exfalso; omega))) | fail)) <;> (try clear zz)
    exact ⟨p + 1, by omega, ⟨by omega, rfl, rfl⟩, by simp (disch := omega) only [agr, ZG, reduceEqDiff, ↓reduceIte]⟩
  · rw [hb, if_pos rfl] at q6
    (have zz := aI @shr_eq (aI @and_eq1 (aI @q6 (aI @q4 (aI @q5 (aI @encCs_one @encCs_cells))))); repeat' (first | apply w_seq | apply w_ops0 | apply w_mixS1 | apply w_block | apply w_skip | apply a_n | apply o_nil | refine vZ ?_ | refine cZ ?_ (hp := by first | exact q1 | exact q2 | exact q3) | refine gTZ ?_ | refine gFZ ?_ | refine cFZ ?_ | ((first | refine gBZ ?_ ?_ | refine cdZ ?_ ?_) <;> (intro _hg; (try simp only [ZB] at _hg); try first | exact absurd trivial _hg | (exfalso; omega))) | fail)) <;> (try clear zz)
    exact ⟨p + 1, by omega, ⟨by omega, rfl, rfl⟩, by simp (disch := omega) only [agr, ZG, reduceEqDiff, ↓reduceIte]⟩
end Go.Proofs.YtbiikomnhkbblaaGreat

/- T30: contracts of functions and plain laws; for all inputs that the theorems name. -/
namespace Go.Proofs.YtbiikomnhkbblaaGreat
open Go Go.Abs
open Nat (reduceEqDiff reduceAdd reduceLeDiff)

/-! ### decisions of which some are others -/
def mx (v outs : List Int) (m k : Nat) : List Int := (List.range v.length).map fun p => if p < k ∧ m.testBit p = true then outs.getD p default else v.getD p default
theorem mx_len {v outs : List Int} {m k : Nat} : (mx v outs m k).length = v.length := by simp [mx]
theorem mx_getD {v outs : List Int} {m k p : Nat} (hp : p < v.length) : (mx v outs m k).getD p default = if p < k ∧ m.testBit p = true then outs.getD p default else v.getD p default := by
  simp [mx, List.getD, hp]
theorem mx_zero {v outs : List Int} {m : Nat} : mx v outs m 0 = v := by
  refine List.ext_getElem (by simp [mx]) fun i h1 h2 => ?_
  simp [mx, List.getD, h2]
theorem mx_set {v outs : List Int} {m k : Nat} (hb : m.testBit k = true) : (mx v outs m k).set k (outs.getD k default) = mx v outs m (k + 1) := by
  refine List.ext_getElem (by simp [mx]) fun i h1 h2 => ?_
  rw [List.getElem_set]
  simp only [mx, List.getElem_map, List.getElem_range]
  by_cases e : k = i
  · subst e
    rw [if_pos rfl, if_pos ⟨Nat.lt_succ_self _, hb⟩]
  · rw [if_neg e]
    by_cases c : i < k ∧ m.testBit i = true
    · rw [if_pos c, if_pos ⟨by omega, c.2⟩]
    · rw [if_neg c, if_neg (fun h => c ⟨by omega, h.2⟩)]
theorem mx_same {v outs : List Int} {m k : Nat} (hb : m.testBit k = false) : mx v outs m (k + 1) = mx v outs m k := by
  refine List.ext_getElem (by simp [mx]) fun i h1 h2 => ?_
  simp only [mx, List.getElem_map, List.getElem_range]
  by_cases e : k = i
  · subst e
    rw [if_neg (fun h => by rw [hb] at h; exact absurd h.2 (by decide)), if_neg (fun h => by omega)]
  · by_cases c : i < k ∧ m.testBit i = true
    · rw [if_pos c, if_pos ⟨by omega, c.2⟩]
    · rw [if_neg c, if_neg (fun h => c ⟨by omega, h.2⟩)]
theorem mx_agrees {v outs : List Int} {m : Nat} (hv : v.length ≤ 60) : agreesB v (mx v outs m v.length) (m : Int) = true := by
  rw [agreesB_iff hv]
  intro p hp hb
  rw [mx_getD hp, if_neg (fun h => by rw [hb] at h; exact absurd h.2 (by decide))]
theorem mx_any {v outs : List Int} {m n : Nat} {o : Int} (hv : ∀ x ∈ v, 0 ≤ x ∧ x < o) (ho : (outs.any fun x => decide (x < -1 ∨ o ≤ x)) = false) (hl : outs.length = v.length) : ((mx v outs m n).any fun x => decide (x < -1 ∨ o ≤ x)) = false := by
  rw [List.any_eq_false] at ho ⊢
  intro x hx
  obtain ⟨i, hi, rfl⟩ := List.getElem_of_mem hx
  have hi' : i < v.length := by rw [mx_len] at hi; exact hi
  simp only [mx, List.getElem_map, List.getElem_range]
  split
  · exact ho _ (mem_getD (by omega))
  · have := hv _ (mem_getD hi')
    simp only [decide_eq_true_eq]
    omega
theorem heads_asc {l : List Int} (h : l.Pairwise (· < ·)) : ∀ k, k ≤ l.length → heads l k = k
  | 0, _ => rfl
  | 1, _ => rfl
  | k + 2, hk => by
    have hlt : l.getD k default < l.getD (k + 1) default := by
      have := List.pairwise_iff_getElem.1 h k (k + 1) (by omega) (by omega) (by omega)
      simpa [List.getD, show k < l.length by omega, show k + 1 < l.length by omega] using this
    rw [heads_diff (by rw [show k + 1 - 1 = k by omega]; omega), heads_asc h (k + 1) (by omega)]
attribute [local irreducible] awp2 aops2 ains aloop athen bbind obind gbind acond res1 Go.Abs.Fn PCall Go.Abs.Pure SnapArgs SnapL Yl

theorem cloneM_c (l : List Int) (hl : Sh l) (h0 : l ≠ []) (H : Hp) (nx : Nat) : Abs.Fn Tryz.prog 37 [encV l] H nx fun r H' nx' => r = .msl nx l.length 1 0 l.length ∧ H' = hupd H nx (l.map (AV.int .i64)) ∧ nx' = nx + 1 := by
  have hl' : l.length ≤ 17592186044416 := hl
  have hpos := List.length_pos_iff.2 h0
  refine Abs.Fn.of_c2 follows is37 (Nat.le_of_ble_eq_true rfl) ?_
  simp only [b37, cO, cG, cN, cM, cD, cF, cB, cFal, cTru]
  (have zz := and_self; repeat' (first | apply w_seq | apply w_ops0 | apply a_n | apply o_nil | refine vZ ?_ | fail)) <;> (try clear zz)
  refine o_snil (k := l.length) (by ((try simp only [simB0, ZA, reduceEqDiff, ↓reduceIte, reduceAdd, reduceLeDiff]); (try with_reducible rfl)); exact alenN_encV) (fun h => ?_) (fun h => by omega) (fun h => by omega)
  (have zz := and_self; repeat' (first | apply w_seq | apply w_ops0 | apply w_skip | apply w_ret | apply a_n | apply o_nil | refine vZ ?_ | refine b0Z ?_ | refine a0Z ?_ | refine cFZ ?_ | refine e_ends rfl ?_ | refine r1Z ?_ | fail)) <;> (try clear zz)
  exact ⟨rfl, rfl, rfl⟩
theorem isSorted_c (l : List Int) (hl : Sh l) (h : l.Pairwise (· < ·)) : Pure Tryz.prog 38 [encV l] (.bool true) := by
  have hl' : l.length ≤ 17592186044416 := hl
  refine Pure.of_c2 follows is38 (Nat.le_of_ble_eq_true rfl) ?_
  simp only [b38, cO, cG, cN, cM, cD, cF, cB, cFal, cTru]
  (have zz := and_self; repeat' (first | apply w_seq | apply w_ops0 | apply w_block | apply a_n | apply o_nil | refine vZ ?_ | apply w_loop | fail)) <;> (try clear zz)
  refine loop0 (X := Nat) (fun k => [(0, encV l), (3, .int .i64 ((l.length : Int) - 1 - k))]) (fun k => k ≤ l.length) (fun k => l.length - k) 0 (Nat.zero_le _) (by simp (disch := omega) only [agr, ZG, reduceEqDiff, ↓reduceIte, Int.sub_zero]) ?_
  rintro k hk
  by_cases hk2 : k + 1 < l.length
  · obtain ⟨j, hj⟩ : ∃ j : Nat, (l.length : Int) - 1 - k = (j + 1 : Nat) := ⟨l.length - k - 2, by omega⟩
    have e1 : ((j + 1 : Nat) : Int) - 1 = (j : Nat) := by omega
    have hlt : l.getD j default < l.getD (j + 1) default := by
      have := List.pairwise_iff_getElem.1 h j (j + 1) (by omega) (by omega) (by omega)
      simpa [List.getD, show j < l.length by omega, show j + 1 < l.length by omega] using this
    have hc := less_c (l.getD (j + 1) default) (l.getD j default)
    rw [decide_eq_false (by omega)] at hc
    rw [hj]
    (have zz := aI @e1 @Int.toNat_natCast; repeat' (first | apply w_seq | apply w_ops0 | apply w_mixS1 | apply w_block | apply w_skip | apply a_n | apply o_nil | refine vZ ?_ | refine cZ ?_ (hp := hc) | refine cFZ ?_ | (refine cdZ ?_ ?_ <;> (intro _hg; (try simp only [ZB] at _hg); try first | exact absurd trivial _hg | (exfalso; omega))) | fail)) <;> (try clear zz)
    refine ⟨k + 1, by omega, by omega, ?_, rfl, rfl⟩
    rw [show (l.length : Int) - 1 - ((k + 1 : Nat) : Int) = (j : Nat) by omega]
    simp (disch := omega) only [agr, ZG, reduceEqDiff, ↓reduceIte]
  · (have zz := and_self; repeat' (first | apply w_seq | apply w_ops0 | apply w_exit | apply w_ret | apply a_n | apply a_x | apply o_nil | refine vZ ?_ | (refine cdZ ?_ ?_ <;> (intro _hg; (try simp only [ZB] at _hg); try first | exact absurd trivial _hg | (exfalso; omega))) | refine e_ends rfl ?_ | refine r1Z ?_ | fail)) <;> (try clear zz)
    exact snap_bool rfl
theorem covers1_c (w : List Int) (p v : Nat) (hp : p < w.length) (hw : Sh w) : Pure Tryz.prog 41 [encV w, .iptr [.int .i64 p] 0, .iptr [.int .i64 v] 0] (.bool (decide (w.getD p default = v))) := by
  have hw' : w.length ≤ 17592186044416 := hw
  refine Pure.of_c2 follows is41 (Nat.le_of_ble_eq_true rfl) ?_
  simp only [b41, cO, cG, cN, cM, cD, cF, cB, cFal, cTru]
  (have zz := @Int.toNat_natCast; repeat' (first | apply w_seq | apply w_ops0 | apply w_ops1 | apply w_ret | apply a_n | apply o_nil | refine vZ ?_ | refine e_ends rfl ?_ | refine r1Z ?_ | fail)) <;> (try clear zz)
  exact snap_bool rfl

set_option maxHeartbeats 2000000 in
theorem law_covers (t : TaskV) (x : PlaceV) (hs : ∀ c ∈ t.cases, ShC c) (hsc : Sh t.cases) (ho : Sh x.outs) : Pure Tryz.prog 9 [encT t, encP x] (.bool true) := by
  have hr := right_c t x hs hsc ho
  obtain ⟨i, f, pr, outs⟩ := x
  refine Pure.of_c2 follows is9 (Nat.le_of_ble_eq_true rfl) ?_
  simp only [b9, cO, cG, cN, cM, cD, cF, cB, cFal, cTru]
  have haw := awake_c
  have d2 := encT_dat t
  have dT : Dat (encCs t.cases) := encCs_dat _
  have dP : Dat (encP ⟨i, f, pr, outs⟩) := Dat.agg (DatL.cons .int (DatL.cons .int (DatL.cons .int (DatL.cons (encV_dat _) DatL.nil))))
  have ho' : outs.length ≤ 17592186044416 := ho
  unfold encP at *
  dsimp only at *
  cases hR : rightB t ⟨i, f, pr, outs⟩
  · rw [hR] at hr
    unfold encT at *
    (have zz := aI @encCs_one @encCs_cells; repeat' (first | apply w_seq | apply w_ops0 | apply w_ret | apply a_n | apply a_r | apply o_nil | refine vZ ?_ | refine cZ ?_ (hp := by first | exact haw | exact hr) | refine bxZ ?_ | refine cTZ ?_ | refine e_ends rfl ?_ | refine r1Z ?_ | fail)) <;> (try clear zz)
    exact snap_bool rfl
  rw [hR] at hr
  obtain ⟨hf, hc, k, m, n, e1, hk, e2, hm, hn, n1, n5, hol, hov⟩ := right_parts hR
  dsimp only at e1 e2 hol hov
  subst e1; subst e2
  have hq := (few_q hf).2
  have hall := allowedT_c t k m hs hsc hq
  have ea : allowT t k m = allowV (t.cases.getD k default) m := by unfold allowT; rw [if_pos (placeE_ok hc hk hn hm)]; rfl
  rw [ea, placeE_ok hc hk hn hm] at hall
  have hperm := fun (w : List Int) (hw : w.length = n) (hwv : (w.any fun v => decide (v < -1 ∨ t.outs ≤ v)) = false) (hwa : (allowV (t.cases.getD k default) m).any (fun v => agreesB v w m) = true) => by
    have hp := permitted_c t k m w hs hsc (show w.length ≤ _ by omega)
    rwa [permT_ok hc hk hn hm hw hwv, hwa] at hp
  have hdom := fun (p : Nat) (hpn : p < n) => by
    have := domain_c t k m p hs hsc hq
    rwa [domT_ok hc hk hn hm hpn] at this
  obtain ⟨hL1, hLv⟩ := allow_vecs (f := (m : Int)) hc hk
  have ho8 := (check_parts hc).1
  obtain ⟨o, hoo⟩ : ∃ o : Nat, t.outs = o := ⟨t.outs.toNat, by omega⟩
  have hLs : (allowV (t.cases.getD k default) m).length ≤ 100000 := by
    have := hq _ (mem_getD hk)
    unfold allowV
    split <;> omega
  generalize allowV (t.cases.getD k default) m = L at *
  rw [hoo, Int.toNat_natCast] at hdom
  unfold encT at *
  generalize hA : [.int .i64 t.n, .int .i64 t.ins, .int .i64 t.outs, encCs t.cases] = A at *
  generalize hB : [AV.int .i64 k, AV.int .i64 m, AV.int .i64 pr, encV outs] = B at *
  refine w_seqC (fun T H nx => T 2 = .ptr 0 4 0 ∧ T 3 = .ptr 1 4 0 ∧ H = hupd (hupd noBoxes 0 A) 1 B ∧ nx = 2) ?_ ?_
  · subst hA; subst hB
    (have zz := aI @encCs_one @encCs_cells; repeat' (first | apply w_ops0 | apply a_n | apply o_nil | refine vZ ?_ | refine bxZ ?_ | fail)) <;> (try clear zz)
    exact ⟨rfl, rfl, rfl, rfl⟩
  rintro T H nx ⟨t2, t3, rfl, rfl⟩
  refine w_seqC (fun T H nx => T 2 = .ptr 0 4 0 ∧ T 3 = .ptr 1 4 0 ∧ H = hupd (hupd noBoxes 0 A) 1 B ∧ nx = 2) ?_ ?_
  · subst hA; subst hB
    (have zz := aI @t2 @t3; repeat' (first | apply w_seq | apply w_ops0 | apply w_skip | apply a_n | apply o_nil | refine vZ ?_ | refine cZ ?_ (hp := hr) | refine cFZ ?_ | fail)) <;> (try clear zz)
    exact ⟨by ((try simp only [simB0, ZA, reduceEqDiff, ↓reduceIte, reduceAdd, reduceLeDiff, t2]); (try with_reducible rfl)), by ((try simp only [simB0, ZA, reduceEqDiff, ↓reduceIte, reduceAdd, reduceLeDiff, t3]); (try with_reducible rfl)), rfl, rfl⟩
  clear t2 t3
  rintro T H nx ⟨t2, t3, rfl, rfl⟩
  refine w_seqC (fun T H nx => T 2 = .ptr 0 4 0 ∧ T 3 = .ptr 1 4 0 ∧ T 5 = encVV L ∧ T 6 = .int .i64 0 ∧ H = hupd (hupd noBoxes 0 A) 1 B ∧ nx = 2) ?_ ?_
  · subst hA; subst hB
    (have zz := aI @t2 @t3; repeat' (first | apply w_ops0 | apply a_n | apply o_nil | refine vZ ?_ | refine cZ ?_ (hp := hall) | fail)) <;> (try clear zz)
    exact ⟨by ((try simp only [simB0, ZA, reduceEqDiff, ↓reduceIte, reduceAdd, reduceLeDiff, t2]); (try with_reducible rfl)), by ((try simp only [simB0, ZA, reduceEqDiff, ↓reduceIte, reduceAdd, reduceLeDiff, t3]); (try with_reducible rfl)), by ((try simp only [simB0, ZA, reduceEqDiff, ↓reduceIte, reduceAdd, reduceLeDiff]); (try with_reducible rfl)), by ((try simp only [simB0, ZA, reduceEqDiff, ↓reduceIte, reduceAdd, reduceLeDiff]); (try with_reducible rfl)), rfl, rfl⟩
  clear t2 t3
  rintro T H nx ⟨t2, t3, t5, t6, rfl, rfl⟩
  refine w_seqC (fun T H nx => T 2 = .ptr 0 4 0 ∧ T 3 = .ptr 1 4 0 ∧ T 5 = encVV L ∧ H = hupd (hupd noBoxes 0 A) 1 B ∧ nx = 2) ?_ ?_
  · have z : decide ((L.length : Int) = 0) = false := decide_eq_false (by omega)
    (have zz := aI @t5 (aI @t6 @z); repeat' (first | apply w_seq | apply w_ops0 | apply w_skip | apply a_n | apply o_nil | refine vZ ?_ | refine gTZ ?_ | (refine gBZ ?_ ?_ <;> (intro _hg; (try simp only [ZB] at _hg); try first | exact absurd trivial _hg | (exfalso; omega))) | refine cFZ ?_ | fail)) <;> (try clear zz)
    exact ⟨by ((try simp only [simB0, ZA, reduceEqDiff, ↓reduceIte, reduceAdd, reduceLeDiff, t2]); (try with_reducible rfl)), by ((try simp only [simB0, ZA, reduceEqDiff, ↓reduceIte, reduceAdd, reduceLeDiff, t3]); (try with_reducible rfl)), by ((try simp only [simB0, ZA, reduceEqDiff, ↓reduceIte, reduceAdd, reduceLeDiff, t5]); (try with_reducible rfl)), rfl, rfl⟩
  clear t2 t3 t5 t6
  rintro T H nx ⟨t2, t3, t5, rfl, rfl⟩
  refine w_seqC (fun T H nx => T 2 = .ptr 0 4 0 ∧ T 3 = .ptr 1 4 0 ∧ T 5 = encVV L ∧ H 0 = some A ∧ H 1 = some B ∧ 2 ≤ nx) ?_ ?_
  · (have zz := @t5; repeat' (first | apply w_seq | apply w_ops0 | apply w_block | apply a_n | apply o_nil | refine vZ ?_ | apply w_loop | fail)) <;> (try clear zz)
    refine loopI (X := Nat) (fun j => [(2, .ptr 0 4 0), (3, .ptr 1 4 0), (5, encVV L), (38, encVV L), (39, .int .i64 L.length), (40, .int .i64 j)]) (fun j H nx => j ≤ L.length ∧ H 0 = some A ∧ H 1 = some B ∧ 2 ≤ nx) (fun j => L.length - j) 0 ⟨Nat.zero_le _, rfl, rfl, Nat.le_refl _⟩ (by simp (disch := omega) only [agr, ZG, reduceEqDiff, ↓reduceIte, t2, t3, t5]) ?_
    rintro j H nx ⟨hj, g0, g1, hnx⟩
    by_cases hj2 : j < L.length
    rotate_left
    · (have zz := and_self; repeat' (first | apply w_seq | apply w_ops0 | apply w_exit | apply a_n | apply a_x | apply o_nil | refine vZ ?_ | (refine cdZ ?_ ?_ <;> (intro _hg; (try simp only [ZB] at _hg); try first | exact absurd trivial _hg | (exfalso; omega))) | fail)) <;> (try clear zz)
      exact ⟨rfl, rfl, rfl, g0, g1, hnx⟩
    have hvm := mem_getD hj2
    obtain ⟨v1, v2⟩ := hLv _ hvm
    generalize hv : L.getD j default = v at *
    have hvl : v.length = n := by omega
    have hcl := cloneM_c v (by show _ ≤ _; omega) (fun h => by rw [h] at hvl; simp at hvl; omega) H nx
    have hmo : ((mx v outs m n).any fun x => decide (x < -1 ∨ t.outs ≤ x)) = false := mx_any v2 hov (by omega)
    have hpm := hperm (mx v outs m n) (by rw [mx_len]; omega) hmo (by
      rw [List.any_eq_true]
      exact ⟨v, hvm, by rw [← hvl]; exact mx_agrees (by omega)⟩)
    have hzn : decide ((v.length : Int) = t.n) = true := decide_eq_true (by omega)
    subst hA; subst hB
    (have zz := aI @g0 (aI @g1 (aI @hzn @hv)); repeat' (first | apply w_seq | apply w_ops0 | apply w_block | apply w_skip | apply a_n | apply o_nil | refine vY ?_ | (refine cdY ?_ ?_ <;> (intro _hg; (try simp only [ZB] at _hg); try first | exact absurd trivial _hg | (exfalso; omega))) | fail)) <;> (try clear zz)
    refine o_callE (by ((try simp only [simB0, ZA, reduceEqDiff, ↓reduceIte, reduceAdd, reduceLeDiff]); (try with_reducible rfl))) (by ((try simp (disch := omega) only [simB2, ZA, reduceEqDiff, ↓reduceIte, reduceAdd, reduceLeDiff, hv]); (try with_reducible rfl))) hcl ?_
    rintro _ _ _ ⟨rfl, rfl, rfl⟩
    (have zz := aI @g0 (aI @g1 @hzn); repeat' (first | apply w_seq | apply w_ops0 | apply w_block | apply a_n | apply o_nil | refine vY ?_ | apply w_loop | fail)) <;> (try clear zz)
    refine loopI (X := Nat) (fun q => [(2, .ptr 0 4 0), (3, .ptr 1 4 0), (5, encVV L), (38, encVV L), (39, .int .i64 L.length), (40, .int .i64 j), (9, .msl nx v.length 1 0 v.length), (52, .int .i64 v.length), (53, .int .i64 q)]) (fun q H' nx' => q ≤ n ∧ H' = hupd H nx ((mx v outs m q).map (AV.int .i64)) ∧ nx' = nx + 1) (fun q => n - q) 0 ⟨Nat.zero_le _, by rw [mx_zero], rfl⟩ (by simp (disch := omega) only [agr, ZG, reduceEqDiff, ↓reduceIte]) ?_
    rintro q _ _ ⟨hq1, rfl, rfl⟩
    by_cases hqn : q < n
    · have q6 := and1_bits (m := m) (p := q) (by omega)
      cases hb : m.testBit q
      · rw [hb, if_neg (by decide)] at q6
        (have zz := aI @g0 (aI @g1 (aI @shr_eq (aI @and_eq1 @q6))); repeat' (first | apply w_seq | apply w_ops0 | apply w_block | apply w_skip | apply a_n | apply o_nil | refine vY ?_ | (refine cdY ?_ ?_ <;> (intro _hg; (try simp only [ZB] at _hg); try first | exact absurd trivial _hg | (exfalso; omega))) | fail)) <;> (try clear zz)
        exact ⟨q + 1, by omega, ⟨by omega, by rw [mx_same hb], rfl⟩, by simp (disch := omega) only [agr, ZG, reduceEqDiff, ↓reduceIte]⟩
      · rw [hb, if_pos rfl] at q6
        have hlm := lput_mapG (f := AV.int .i64) (l := mx v outs m q) (k := q) (x := outs.getD q default) (by rw [mx_len]; omega)
        have hml : (mx v outs m q).length = v.length := mx_len
        (have zz := aI @g0 (aI @g1 (aI @shr_eq (aI @and_eq1 (aI @q6 @Int.toNat_natCast)))); repeat' (first | apply w_seq | apply w_ops0 | apply w_block | apply w_skip | apply a_n | apply o_nil | refine vY ?_ | refine stY ?_ | (refine cdY ?_ ?_ <;> (intro _hg; (try simp only [ZB] at _hg); try first | exact absurd trivial _hg | (exfalso; omega))) | fail)) <;> (try clear zz)
        exact ⟨q + 1, by omega, ⟨by omega, by rw [hupd_two, hlm, mx_set hb], rfl⟩, by simp (disch := omega) only [agr, ZG, reduceEqDiff, ↓reduceIte]⟩
    · obtain rfl : q = n := by omega
      (have zz := aI @g0 (aI @g1 @hzn); repeat' (first | apply w_seq | apply w_ops0 | apply w_exit | apply a_n | apply a_x | apply o_nil | refine vY ?_ | (refine cdY ?_ ?_ <;> (intro _hg; (try simp only [ZB] at _hg); try first | exact absurd trivial _hg | (exfalso; omega))) | fail)) <;> (try clear zz)
      refine o_callP (by ((try simp only [simB0, ZA, reduceEqDiff, ↓reduceIte, reduceAdd, reduceLeDiff]); (try with_reducible rfl))) (by ((try simp only [simB0, ZA, reduceEqDiff, ↓reduceIte, reduceAdd, reduceLeDiff]); (try with_reducible rfl))) hpm (snap_plain ?_ rfl) ?_
      · refine snapL_cons (d2.snap) (snapL_cons (.int _ _) (snapL_cons (.int _ _) (snapL_cons ?_ snapL_nil)))
        exact snap_row hupd_self' rfl (by rw [mx_len])
      (have zz := aI @g0 @g1; repeat' (first | apply w_seq | apply w_ops0 | apply w_skip | apply a_n | apply o_nil | refine vY ?_ | refine gTY ?_ | (refine gBY ?_ ?_ <;> (intro _hg; (try simp only [ZB] at _hg); try first | exact absurd trivial _hg | (exfalso; omega))) | refine cFY ?_ | fail)) <;> (try clear zz)
      exact ⟨j + 1, by omega, ⟨by omega, by rw [hupd_ne (by omega)]; exact g0, by rw [hupd_ne (by omega)]; exact g1, by omega⟩, by simp (disch := omega) only [agr, ZG, reduceEqDiff, ↓reduceIte]⟩
  clear t2 t3 t5
  rintro T H nx ⟨t2, t3, t5, g0, g1, hnx⟩
  have hcont := fun (p : Nat) (v : Nat) => contains_c (vals L p o) v (by
    have := vals_len L p o
    show _ ≤ _
    omega)
  have hcf := fun (p : Nat) (hpn : p < n) (v : Nat) => containsFV_c L (fun w => decide (w.getD p default = v)) 41 [.iptr [.int .i64 p] 0, .iptr [.int .i64 v] 0] (fun x hx => by
    simp only [List.mem_cons, List.not_mem_nil, or_false] at hx
    rcases hx with rfl | rfl
    · exact .iptr (DatL.cons .int DatL.nil)
    · exact .iptr (DatL.cons .int DatL.nil)) (fun w hw => covers1_c w p v (by have := (hLv w hw).1; omega) (by show w.length ≤ _; have := (hLv w hw).1; omega)) (by show L.length ≤ _; omega)
  have heq : ∀ (p : Nat) (v : Nat), v < o → (L.any fun w => decide (w.getD p default = v)) = decide ((v : Int) ∈ vals L p o) := fun p v hv => by
    rw [Bool.eq_iff_iff, List.any_eq_true, decide_eq_true_iff, vals_mem]
    constructor
    · rintro ⟨w, hw, e⟩
      exact ⟨by omega, w, hw, of_decide_eq_true e⟩
    · rintro ⟨_, w, hw, e⟩
      exact ⟨w, hw, decide_eq_true e⟩
  refine w_seqC (fun _ _ _ => True) ?_ ?_
  rotate_left
  · rintro T H nx -
    (have zz := and_self; repeat' (first | apply w_seq | apply w_ops0 | apply w_ret | apply a_n | apply o_nil | refine vZ ?_ | refine cZ ?_ (hp := haw) | refine e_ends rfl ?_ | refine r1Z ?_ | fail)) <;> (try clear zz)
    all_goals exact .bool _
  have hN : A[0]? = some (.int .i64 n) := by subst hA; rw [hn]; rfl
  have hAl : A.length = 4 := by subst hA; rfl
  (have zz := aI @t2 (aI @t3 (aI @t5 (aI @g0 (aI @hN @hAl)))); repeat' (first | apply w_seq | apply w_ops0 | apply w_block | apply a_n | apply o_nil | refine vY ?_ | apply w_loop | fail)) <;> (try clear zz)
  refine loopI (X := Nat) (fun p => [(2, .ptr 0 4 0), (3, .ptr 1 4 0), (5, encVV L), (89, .int .i64 n), (90, .int .i64 p)]) (fun p H nx => p ≤ n ∧ H 0 = some A ∧ H 1 = some B ∧ 2 ≤ nx) (fun p => n - p) 0 ⟨Nat.zero_le _, g0, g1, hnx⟩ (by simp (disch := omega) only [agr, ZG, reduceEqDiff, ↓reduceIte, t2, t3, t5]) ?_
  clear t2 t3 t5 g0 g1 hnx
  rintro p H nx ⟨hp, g0, g1, hnx⟩
  by_cases hpn : p < n
  rotate_left
  · (have zz := and_self; repeat' (first | apply w_seq | apply w_ops0 | apply w_exit | apply a_n | apply a_x | apply o_nil | refine vZ ?_ | (refine cdZ ?_ ?_ <;> (intro _hg; (try simp only [ZB] at _hg); try first | exact absurd trivial _hg | (exfalso; omega))) | fail)) <;> (try clear zz)
    all_goals trivial
  have q1 := hdom p hpn
  have hVl := vals_len L p o
  have hVa := vals_asc L p o
  have hV1 : 1 ≤ (vals L p o).length := by
    obtain ⟨w, hw⟩ := List.exists_mem_of_length_pos (l := L) (by omega)
    have h := hLv w hw
    have := h.2 _ (mem_getD (l := w) (k := p) (by omega))
    exact List.length_pos_iff.2 (List.ne_nil_of_mem (vals_mem.2 ⟨by omega, w, hw, rfl⟩))
  have hcont := hcont p
  have hcf := hcf p hpn
  have heq := heq p
  generalize hV : vals L p o = V at *
  have hVs : Sh V := by show V.length ≤ _; omega
  have hVn : V ≠ [] := fun h => by rw [h] at hV1; simp at hV1
  have hso := isSorted_c V hVs hVa
  have hhe := heads_asc hVa V.length (Nat.le_refl _)
  have z1 : decide ((V.length : Int) = 0) = false := decide_eq_false (by omega)
  subst hA; subst hB
  (have zz := aI @g0 (aI @g1 @z1); repeat' (first | apply w_seq | apply w_ops0 | apply w_block | apply w_skip | apply a_n | apply o_nil | refine vY ?_ | refine cY ?_ (hp := by first | exact q1 | exact hso) | refine alY ?_ | refine stY ?_ | refine gTY ?_ | ((first | refine gBY ?_ ?_ | refine cdY ?_ ?_) <;> (intro _hg; (try simp only [ZB] at _hg); try first | exact absurd trivial _hg | (exfalso; omega))) | fail)) <;> (try clear zz)
  refine o_callE (by ((try simp only [simB0, ZA, reduceEqDiff, ↓reduceIte, reduceAdd, reduceLeDiff]); (try with_reducible rfl))) (by ((try simp only [simB0, ZA, reduceEqDiff, ↓reduceIte, reduceAdd, reduceLeDiff]); (try with_reducible rfl))) (cloneM_c V hVs hVn _ _) ?_
  rintro _ _ _ ⟨rfl, rfl, rfl⟩
  (have zz := aI @g0 @g1; repeat' (first | refine gTY ?_ | fail)) <;> (try clear zz)
  refine o_callE (by ((try simp only [simB0, ZA, reduceEqDiff, ↓reduceIte, reduceAdd, reduceLeDiff]); (try with_reducible rfl))) (by ((try simp only [simB0, ZA, reduceEqDiff, ↓reduceIte, reduceAdd, reduceLeDiff]); (try with_reducible rfl))) (compact_c V hVs hVn _ (nx + 1) _ hupd_self' (by omega)) ?_
  rintro _ _ _ ⟨rfl, ⟨C, rfl, -, -⟩, rfl⟩
  rw [hhe]
  (have zz := aI @g0 @g1; repeat' (first | apply w_seq | apply w_ops0 | apply w_block | apply w_skip | apply a_n | apply o_nil | refine vY ?_ | refine gTY ?_ | (refine cdY ?_ ?_ <;> (intro _hg; (try simp only [ZB] at _hg); try first | exact absurd trivial _hg | (exfalso; omega))) | apply w_loop | fail)) <;> (try clear zz)
  refine loopI (X := Nat) (fun v => [(2, .ptr 0 4 0), (3, .ptr 1 4 0), (5, encVV L), (13, .ptr nx 1 0), (14, encV V), (89, .int .i64 n), (90, .int .i64 p), (125, .int .i64 o), (126, .int .i64 v)]) (fun v H' nx' => v ≤ o ∧ H' 0 = H 0 ∧ H' 1 = H 1 ∧ H' nx = some [.int .i64 p] ∧ nx < nx') (fun v => o - v) 0 ⟨Nat.zero_le _, by rw [hupd_ne (by omega), hupd_ne (by omega), hupd_ne (by omega), hupd_ne (by omega)], by rw [hupd_ne (by omega), hupd_ne (by omega), hupd_ne (by omega), hupd_ne (by omega)], by rw [hupd_ne (by omega), hupd_ne (by omega), hupd_self']; rfl, by omega⟩ (by simp (disch := omega) only [agr, ZG, reduceEqDiff, ↓reduceIte, hoo, List.length_cons, List.length_nil, Nat.zero_add, reduceAdd]) ?_
  rintro v H' nx' ⟨hv, k0, k1, k2, hnx'⟩
  by_cases hvo : v < o
  rotate_left
  · (have zz := and_self; repeat' (first | apply w_seq | apply w_ops0 | apply w_exit | apply a_n | apply a_x | apply o_nil | refine vZ ?_ | (refine cdZ ?_ ?_ <;> (intro _hg; (try simp only [ZB] at _hg); try first | exact absurd trivial _hg | (exfalso; omega))) | fail)) <;> (try clear zz)
    exact ⟨p + 1, by omega, ⟨by omega, k0.trans g0, k1.trans g1, by omega⟩, by simp (disch := omega) only [agr, ZG, reduceEqDiff, ↓reduceIte]⟩
  have r1 := hcont v
  have r2 := hcf v
  rw [heq v hvo] at r2
  (have zz := @k2; repeat' (first | apply w_seq | apply w_ops0 | apply w_block | apply w_skip | apply a_n | apply o_nil | refine vY ?_ | refine cY ?_ (hp := r1) | refine alY ?_ | refine stY ?_ | (refine cdY ?_ ?_ <;> (intro _hg; (try simp only [ZB] at _hg); try first | exact absurd trivial _hg | (exfalso; omega))) | fail)) <;> (try clear zz)
  refine o_callP (by ((try simp only [simB0, ZA, reduceEqDiff, ↓reduceIte, reduceAdd, reduceLeDiff]); (try with_reducible rfl))) (by ((try simp only [simB0, ZA, reduceEqDiff, ↓reduceIte, reduceAdd, reduceLeDiff]); (try with_reducible rfl))) r2 (snap_plain (snapL_cons (encVV_dat _ _) (snapL_cons (snap_func (snapL_cons (snap_ptr (by rw [hupd_ne (by omega), hupd_ne (by omega)]; exact k2) rfl (snapL_cons (.int _ _) snapL_nil)) (snapL_cons (snap_ptr (by rw [hupd_self']; rfl) rfl (snapL_cons (.int _ _) snapL_nil)) snapL_nil))) snapL_nil)) rfl) ?_
  have z4 : (decide ((v : Int) ∈ V) == decide ((v : Int) ∈ V)) = true := by simp
  (have zz := @z4; repeat' (first | apply w_ops0 | apply w_skip | apply a_n | apply o_nil | refine vZ ?_ | refine cFZ ?_ | fail)) <;> (try clear zz)
  exact ⟨v + 1, by omega, ⟨by omega, by rw [hupd_ne (by omega), hupd_ne (by omega)]; exact k0, by rw [hupd_ne (by omega), hupd_ne (by omega)]; exact k1, by rw [hupd_ne (by omega), hupd_ne (by omega)]; exact k2, by omega⟩, by simp (disch := omega) only [agr, ZG, reduceEqDiff, ↓reduceIte]⟩
end Go.Proofs.YtbiikomnhkbblaaGreat
