/- Texts of this claim, one after the other: T20, T21, T22, T23, T24, T25, T26, T27, T28. -/
import Derived.Test.YtbiikomnhkbblaaGreatXG6

set_option linter.unusedSimpArgs false
set_option linter.unusedVariables false

/- T20: contracts of functions and plain laws; for all inputs that the theorems name. -/
namespace Go.Proofs.YtbiikomnhkbblaaGreat
open Go Go.Abs
open Nat (reduceEqDiff reduceAdd reduceLeDiff)

/-! ### places -/
def placeE (t : TaskV) (i f : Int) : Int := if checkE t ≠ 0 then checkE t else if i < 0 ∨ (t.cases.length : Int) ≤ i then 6 else if f < 0 ∨ ((2 ^ t.n.toNat : Nat) : Int) ≤ f then 2 else 0
theorem checkE_n {t : TaskV} (h : checkE t = 0) : 1 ≤ t.n ∧ t.n ≤ 5 := by
  unfold checkE at h
  by_cases c : t.n < 1 ∨ 5 < t.n ∨ t.ins < 1 ∨ 8 < t.ins ∨ t.outs < 1 ∨ 8 < t.outs
  · rw [if_pos c] at h; exact absurd h (by decide)
  · omega
attribute [local irreducible] awp2 aops2 ains aloop athen bbind obind gbind acond res1 Go.Abs.Fn PCall Go.Abs.Pure SnapArgs SnapL Yl

theorem power_c (n : Nat) (hn : n ≤ 60) : Pure Tryz.prog 98 [.int .i64 n] (.int .i64 ((2 ^ n : Nat) : Int)) := by
  refine Pure.of_c2 follows is98 (Nat.le_of_ble_eq_true rfl) ?_
  simp only [b98, cO, cG, cN, cM, cD, cF, cB, cFal, cTru]
  (have zz := and_self; repeat' (first | apply w_seq | apply w_ops0 | apply w_block | apply a_n | apply o_nil | refine vZ ?_ | apply w_loop | fail)) <;> (try clear zz)
  refine loopI (X := Nat) (fun k => [(0, .int .i64 n), (3, .int .i64 ((2 ^ k : Nat) : Int)), (4, .int .i64 (k : Nat))]) (fun k H' nx' => k ≤ n) (fun k => n - k) 0 (Nat.zero_le _) (by simp (disch := omega) only [agr, ZG, reduceEqDiff, ↓reduceIte, Nat.pow_zero]) ?_
  intro k H nx hk
  by_cases e : k = n
  · subst e
    (have zz := and_self; repeat' (first | apply w_seq | apply w_ops0 | apply w_exit | apply w_ret | apply a_n | apply a_x | apply o_nil | refine vZ ?_ | (refine cdZ ?_ ?_ <;> (intro _hg; (try simp only [ZB] at _hg); try first | exact absurd trivial _hg | (exfalso; omega))) | refine e_ends rfl ?_ | refine r1Z ?_ | fail)) <;> (try clear zz)
    exact snap_int rfl
  · have h2 : 2 ^ k ≤ 2 ^ 60 := Nat.pow_le_pow_right (by omega) (by omega)
    have hs : 2 ^ (k + 1) = 2 ^ k * 2 := Nat.pow_succ ..
    rw [show (2 : Nat) ^ 60 = 1152921504606846976 from rfl] at h2
    obtain ⟨w, hw⟩ : ∃ w, 2 ^ k = w := ⟨_, rfl⟩
    obtain ⟨w2, hw2⟩ : ∃ w, 2 ^ (k + 1) = w := ⟨_, rfl⟩
    rw [hw] at h2 hs ⊢
    rw [hw2] at hs
    have h3 : ((w : Nat) : Int) * 2 = (w2 : Int) := by omega
    have h5 : IntKind.wrap .i64 ((w2 : Nat) : Int) = (w2 : Int) := wrap64 (by omega) (by omega)
    (have zz := aI @h3 @h5; repeat' (first | apply w_seq | apply w_ops0 | apply w_block | apply w_skip | apply a_n | apply o_nil | refine vZ ?_ | (refine cdZ ?_ ?_ <;> (intro _hg; (try simp only [ZB] at _hg); try first | exact absurd trivial _hg | (exfalso; omega))) | fail)) <;> (try clear zz)
    exact ⟨k + 1, by omega, by omega, by rw [hw2]; simp (disch := omega) only [agr, ZG, reduceEqDiff, ↓reduceIte]⟩
theorem full_c (n : Nat) (hn : n ≤ 60) : Pure Tryz.prog 82 [.int .i64 n] (.int .i64 (((2 ^ n : Nat) : Int) - 1)) := by
  have hp := power_c n hn
  have h2 : 2 ^ n ≤ 2 ^ 60 := Nat.pow_le_pow_right (by omega) (by omega)
  have h3 : 0 < 2 ^ n := Nat.pow_pos (by omega)
  generalize 2 ^ n = w at *
  refine Pure.of_c2 follows is82 (Nat.le_of_ble_eq_true rfl) ?_
  simp only [b82, cO, cG, cN, cM, cD, cF, cB, cFal, cTru]
  (have zz := and_self; repeat' (first | apply w_seq | apply w_ops0 | apply w_ret | apply a_n | apply o_nil | refine vZ ?_ | refine cZ ?_ (hp := hp) | refine e_ends rfl ?_ | refine r1Z ?_ | fail)) <;> (try clear zz)
  exact snap_int rfl

theorem place_c (t : TaskV) (i f : Int) (hs : ∀ c ∈ t.cases, ShC c) (hsc : Sh t.cases) : Pure Tryz.prog 51 [encT t, .int .i64 i, .int .i64 f] (.int .i64 (placeE t i f)) := by
  refine Pure.of_c2 follows is51 (Nat.le_of_ble_eq_true rfl) ?_
  simp only [b51, cO, cG, cN, cM, cD, cF, cB, cFal, cTru]
  have hsc' : t.cases.length ≤ 17592186044416 := hsc
  have hc := check_c t hs hsc
  have d2 := encT_dat t
  by_cases he : checkE t = 0
  rotate_left
  · have e : placeE t i f = checkE t := by unfold placeE; rw [if_pos he]
    rw [e]
    generalize checkE t = C at *
    unfold encT at hc d2
    rw [show encT t = .agg [.int .i64 t.n, .int .i64 t.ins, .int .i64 t.outs, encCs t.cases] from rfl]
    (have zz := aI @encCs_one (aI @encCs_cells @alenS_encCs); repeat' (first | apply w_seq | apply w_ops0 | apply w_ret | apply a_n | apply a_r | apply o_nil | refine vZ ?_ | refine cZ ?_ (hp := hc) | refine bxZ ?_ | (refine cdZ ?_ ?_ <;> (intro _hg; (try simp only [ZB] at _hg); try first | exact absurd trivial _hg | (exfalso; omega))) | refine e_ends rfl ?_ | refine r1Z ?_ | fail)) <;> (try clear zz)
    exact snap_int rfl
  obtain ⟨n1, n5⟩ := checkE_n he
  obtain ⟨nn, hnn⟩ : ∃ nn : Nat, t.n = nn := ⟨t.n.toNat, by omega⟩
  have sh : abin2 .shl false false (.int .i64 1) (.int .i64 t.n) = some (.int .i64 ((2 ^ t.n.toNat : Nat) : Int)) := by
    have h2 : 2 ^ nn ≤ 2 ^ 5 := Nat.pow_le_pow_right (by omega) (by omega)
    have h := shl_nat (k := .i64) (k' := .i64) (a := 1) (b := nn) (tb := false) (tf := false) (by show nn ≤ 64; omega) (by show 1 * 2 ^ nn < 2 ^ 63; omega)
    rw [Nat.one_mul] at h
    rw [hnn]
    exact h
  have e : placeE t i f = if i < 0 ∨ (t.cases.length : Int) ≤ i then 6 else if f < 0 ∨ ((2 ^ t.n.toNat : Nat) : Int) ≤ f then 2 else 0 := by unfold placeE; rw [if_neg (fun h => h he)]
  rw [e]
  rw [he] at hc
  generalize ((2 ^ t.n.toNat : Nat) : Int) = W at *
  unfold encT at hc d2
  rw [show encT t = .agg [.int .i64 t.n, .int .i64 t.ins, .int .i64 t.outs, encCs t.cases] from rfl]
  by_cases h1 : i < 0 ∨ (t.cases.length : Int) ≤ i
  · rw [if_pos h1]
    (have zz := aI @encCs_one (aI @encCs_cells (aI @alenS_encCs @sh)); repeat' (first | apply w_seq | apply w_ops0 | apply w_block | apply w_skip | apply w_ret | apply a_n | apply a_r | apply o_nil | refine vZ ?_ | refine cZ ?_ (hp := hc) | refine bxZ ?_ | refine gTZ ?_ | refine gFZ ?_ | refine cTZ ?_ | ((first | refine gBZ ?_ ?_ | refine cdZ ?_ ?_) <;> (intro _hg; (try simp only [ZB] at _hg); try first | exact absurd trivial _hg | (exfalso; omega))) | refine e_ends rfl ?_ | refine r1Z ?_ | fail)) <;> (try clear zz)
    all_goals exact snap_int rfl
  · rw [if_neg h1]
    by_cases h2 : f < 0 ∨ W ≤ f
    · rw [if_pos h2]
      (have zz := aI @encCs_one (aI @encCs_cells (aI @alenS_encCs @sh)); repeat' (first | apply w_seq | apply w_ops0 | apply w_block | apply w_skip | apply w_ret | apply a_n | apply a_r | apply o_nil | refine vZ ?_ | refine cZ ?_ (hp := hc) | refine bxZ ?_ | refine gTZ ?_ | refine gFZ ?_ | refine cTZ ?_ | ((first | refine gBZ ?_ ?_ | refine cdZ ?_ ?_) <;> (intro _hg; (try simp only [ZB] at _hg); try first | exact absurd trivial _hg | (exfalso; omega))) | refine e_ends rfl ?_ | refine r1Z ?_ | fail)) <;> (try clear zz)
      all_goals exact snap_int rfl
    · rw [if_neg h2]
      (have zz := aI @encCs_one (aI @encCs_cells (aI @alenS_encCs @sh)); repeat' (first | apply w_seq | apply w_ops0 | apply w_block | apply w_skip | apply w_ret | apply a_n | apply o_nil | refine vZ ?_ | refine cZ ?_ (hp := hc) | refine bxZ ?_ | refine gTZ ?_ | ((first | refine gBZ ?_ ?_ | refine cdZ ?_ ?_) <;> (intro _hg; (try simp only [ZB] at _hg); try first | exact absurd trivial _hg | (exfalso; omega))) | refine e_ends rfl ?_ | refine r1Z ?_ | fail)) <;> (try clear zz)
      all_goals exact snap_int rfl
theorem placeR (t : TaskV) (i f : Int) (hs : ∀ c ∈ t.cases, ShC c) (hsc : Sh t.cases) : Pure Tryz.prog 54 [encT t, .int .i64 i, .int .i64 f] (.int .i64 (placeE t i f)) := by
  refine Pure.of_c2 follows is54 (Nat.le_of_ble_eq_true rfl) ?_
  simp only [b54, cO, cG, cN, cM, cD, cF, cB, cFal, cTru]
  have hsc' : t.cases.length ≤ 17592186044416 := hsc
  have hc := checkR t hs hsc
  have d2 := encT_dat t
  by_cases he : checkE t = 0
  rotate_left
  · have e : placeE t i f = checkE t := by unfold placeE; rw [if_pos he]
    rw [e]
    generalize checkE t = C at *
    unfold encT at hc d2
    rw [show encT t = .agg [.int .i64 t.n, .int .i64 t.ins, .int .i64 t.outs, encCs t.cases] from rfl]
    (have zz := aI @encCs_one (aI @encCs_cells @alenS_encCs); repeat' (first | apply w_seq | apply w_ops0 | apply w_ret | apply a_n | apply a_r | apply o_nil | refine vZ ?_ | refine cZ ?_ (hp := hc) | refine bxZ ?_ | (refine cdZ ?_ ?_ <;> (intro _hg; (try simp only [ZB] at _hg); try first | exact absurd trivial _hg | (exfalso; omega))) | refine e_ends rfl ?_ | refine r1Z ?_ | fail)) <;> (try clear zz)
    exact snap_int rfl
  obtain ⟨n1, n5⟩ := checkE_n he
  obtain ⟨nn, hnn⟩ : ∃ nn : Nat, t.n = nn := ⟨t.n.toNat, by omega⟩
  have hf := full_c nn (by omega)
  have hN : nn = t.n.toNat := by omega
  rw [← hnn, hN] at hf
  have e : placeE t i f = if i < 0 ∨ (t.cases.length : Int) ≤ i then 6 else if f < 0 ∨ ((2 ^ t.n.toNat : Nat) : Int) ≤ f then 2 else 0 := by unfold placeE; rw [if_neg (fun h => h he)]
  rw [e]
  rw [he] at hc
  generalize ((2 ^ t.n.toNat : Nat) : Int) = W at *
  unfold encT at hc d2
  rw [show encT t = .agg [.int .i64 t.n, .int .i64 t.ins, .int .i64 t.outs, encCs t.cases] from rfl]
  by_cases h1 : i < 0 ∨ (t.cases.length : Int) ≤ i
  · rw [if_pos h1]
    (have zz := aI @encCs_one (aI @encCs_cells @alenS_encCs); repeat' (first | apply w_seq | apply w_ops0 | apply w_skip | apply w_ret | apply a_n | apply a_r | apply o_nil | refine vZ ?_ | refine cZ ?_ (hp := by first | exact hc | exact hf) | refine bxZ ?_ | refine gTZ ?_ | refine gFZ ?_ | refine cTZ ?_ | ((first | refine gBZ ?_ ?_ | refine cdZ ?_ ?_) <;> (intro _hg; (try simp only [ZB] at _hg); try first | exact absurd trivial _hg | (exfalso; omega))) | refine e_ends rfl ?_ | refine r1Z ?_ | fail)) <;> (try clear zz)
    all_goals exact snap_int rfl
  · rw [if_neg h1]
    by_cases h2 : f < 0 ∨ W ≤ f
    · rw [if_pos h2]
      (have zz := aI @encCs_one (aI @encCs_cells @alenS_encCs); repeat' (first | apply w_seq | apply w_ops0 | apply w_skip | apply w_ret | apply a_n | apply a_r | apply o_nil | refine vZ ?_ | refine cZ ?_ (hp := by first | exact hc | exact hf) | refine bxZ ?_ | refine gTZ ?_ | refine gFZ ?_ | refine cTZ ?_ | ((first | refine gBZ ?_ ?_ | refine cdZ ?_ ?_) <;> (intro _hg; (try simp only [ZB] at _hg); try first | exact absurd trivial _hg | (exfalso; omega))) | refine e_ends rfl ?_ | refine r1Z ?_ | fail)) <;> (try clear zz)
      all_goals exact snap_int rfl
    · rw [if_neg h2]
      (have zz := aI @encCs_one (aI @encCs_cells @alenS_encCs); repeat' (first | apply w_seq | apply w_ops0 | apply w_skip | apply w_ret | apply a_n | apply o_nil | refine vZ ?_ | refine cZ ?_ (hp := by first | exact hc | exact hf) | refine bxZ ?_ | refine gTZ ?_ | ((first | refine gBZ ?_ ?_ | refine cdZ ?_ ?_) <;> (intro _hg; (try simp only [ZB] at _hg); try first | exact absurd trivial _hg | (exfalso; omega))) | refine e_ends rfl ?_ | refine r1Z ?_ | fail)) <;> (try clear zz)
      all_goals exact snap_int rfl
end Go.Proofs.YtbiikomnhkbblaaGreat

/- T21: contracts of functions and plain laws; for all inputs that the theorems name. -/
namespace Go.Proofs.YtbiikomnhkbblaaGreat
open Go Go.Abs

/-! ### Allowed -/
def allowT (t : TaskV) (i f : Int) : List (List Int) := if placeE t i f = 0 then allowV (pickC t i) f else []
theorem placeE_0 {t : TaskV} {i f : Int} (h : placeE t i f = 0) : checkE t = 0 ∧ 0 ≤ i ∧ i < t.cases.length ∧ 0 ≤ f := by
  unfold placeE at h
  by_cases c : checkE t = 0
  · rw [if_neg (fun k => k c)] at h
    by_cases c1 : i < 0 ∨ (t.cases.length : Int) ≤ i
    · rw [if_pos c1] at h; exact absurd h (by decide)
    · rw [if_neg c1] at h
      by_cases c2 : f < 0 ∨ ((2 ^ t.n.toNat : Nat) : Int) ≤ f
      · rw [if_pos c2] at h; exact absurd h (by decide)
      · exact ⟨c, by omega, by omega, by omega⟩
  · rw [if_pos c] at h; exact absurd h c
theorem snapNil {H : Hp} (e : Int) : Snap H (.tup [.esl, .int .i64 e]) (.tup [encVV [], .int .i64 e]) := snap_tup (snapL_cons (.eslsl 1) (snapL_cons (.int _ _) snapL_nil))
attribute [local irreducible] awp2 aops2 ains aloop athen bbind obind gbind acond res1 Go.Abs.Fn PCall Go.Abs.Pure SnapArgs SnapL Yl

theorem allowedT_c (t : TaskV) (i f : Int) (hs : ∀ c ∈ t.cases, ShC c) (hsc : Sh t.cases) (hq : ∀ c ∈ t.cases, c.out.length ≤ 100000 ∧ c.calm.length ≤ 100000) : Pure Tryz.prog 16 [encT t, .int .i64 i, .int .i64 f] (.tup [encVV (allowT t i f), .int .i64 (placeE t i f)]) := by
  refine Pure.of_c2 follows is16 (Nat.le_of_ble_eq_true rfl) ?_
  simp only [b16, cO, cG, cN, cM, cD, cF, cB, cFal, cTru]
  have hsc' : t.cases.length ≤ 17592186044416 := hsc
  have hc := place_c t i f hs hsc
  have d2 := encT_dat t
  by_cases he : placeE t i f = 0
  rotate_left
  · have e : allowT t i f = [] := by unfold allowT; rw [if_neg he]
    rw [e]
    generalize placeE t i f = C at *
    unfold encT at hc d2
    rw [show encT t = .agg [.int .i64 t.n, .int .i64 t.ins, .int .i64 t.outs, encCs t.cases] from rfl]
    (have zz := aI @encCs_one (aI @encCs_cells @alenS_encCs); repeat' (first | apply w_seq | apply w_ops0 | apply w_ret | apply a_n | apply a_r | apply o_nil | refine vZ ?_ | refine cZ ?_ (hp := hc) | refine bxZ ?_ | (refine cdZ ?_ ?_ <;> (intro _hg; (try simp only [ZB] at _hg); try first | exact absurd trivial _hg | (exfalso; omega))) | refine e_ends rfl ?_ | refine r2Z ?_ | fail)) <;> (try clear zz)
    exact snapNil _
  obtain ⟨e0, e1, e2, e3⟩ := placeE_0 he
  obtain ⟨k, rfl⟩ : ∃ k : Nat, i = k := ⟨i.toNat, by omega⟩
  have hk : k < t.cases.length := by omega
  have hm := mem_getD hk
  have e : allowT t k f = allowV (t.cases.getD k default) f := by unfold allowT; rw [if_pos he]; rfl
  rw [e]
  rw [he] at hc ⊢
  have ix := aixS_encCs hk
  have hq1 := hq _ hm
  obtain ⟨s1, s2, s3, s4, s5⟩ := hs _ hm
  generalize t.cases.getD k default = c at *
  have ha := allowed_c c f
  have hcp : Pure Tryz.prog 52 [encVV (allowV c f)] (encVV (allowV c f)) := copied_c _ (by unfold allowV; split <;> omega) (by
    unfold allowV
    split
    · exact s5
    · exact s3)
  have ha2 : Pure Tryz.prog 53 [.agg [encV c.inp, encVV c.out, encVV c.calm], .int .i64 f] (encVV (allowV c f)) := ha
  obtain ⟨inp, out, calm⟩ := c
  have d3 : Dat (.agg [encV inp, encVV out, encVV calm]) := encC_dat ⟨inp, out, calm⟩
  dsimp only at *
  unfold encT at hc d2
  rw [show encT t = .agg [.int .i64 t.n, .int .i64 t.ins, .int .i64 t.outs, encCs t.cases] from rfl]
  (have zz := aI @encCs_one (aI @encCs_cells (aI @alenS_encCs @ix)); repeat' (first | apply w_seq | apply w_ops0 | apply w_skip | apply w_ret | apply a_n | apply o_nil | refine vZ ?_ | refine cZ ?_ (hp := by first | exact hc | exact ha2 | exact hcp) | refine bxZ ?_ | (refine cdZ ?_ ?_ <;> (intro _hg; (try simp only [ZB] at _hg); try first | exact absurd trivial _hg | (exfalso; omega))) | refine e_ends rfl ?_ | refine r2Z ?_ | fail)) <;> (try clear zz)
  exact snap_tup (snapL_cons (Dat.snap (encVV_dat _)) (snapL_cons (.int _ _) snapL_nil))
theorem vectorsR_c (c : CaseV) (faulty : Int) : Pure Tryz.prog 55 [.agg [encV c.inp, encVV c.out, encVV c.calm], .int .i64 faulty] (encVV (allowV c faulty)) := by
  refine Pure.of_c2 follows is55 (Nat.le_of_ble_eq_true rfl) ?_
  simp only [b55, cO, cG, cN, cM, cD, cF, cB, cFal, cTru]
  unfold allowV
  (have zz := and_self; repeat' (first | apply w_seq | apply w_ops0 | apply w_skip | apply w_ret | apply a_n | apply a_r | apply o_nil | refine vZ ?_ | refine bxZ ?_ | refine gTZ ?_ | refine gFZ ?_ | refine cFZ ?_ | ((first | refine gBZ ?_ ?_ | refine cdZ ?_ ?_) <;> (intro _hg; (try simp only [ZB] at _hg); try first | exact absurd trivial _hg | (exfalso; omega))) | refine e_ends rfl ?_ | refine r1Z ?_ | fail)) <;> (try clear zz)
  · rw [if_pos (by omega)]; exact encVV_dat _ _
  · rw [if_neg (by omega)]; exact encVV_dat _ _
  · rw [if_neg (by omega)]; exact encVV_dat _ _
theorem allowedR (t : TaskV) (i f : Int) (hs : ∀ c ∈ t.cases, ShC c) (hsc : Sh t.cases) : Pure Tryz.prog 17 [encT t, .int .i64 i, .int .i64 f] (.tup [encVV (allowT t i f), .int .i64 (placeE t i f)]) := by
  refine Pure.of_c2 follows is17 (Nat.le_of_ble_eq_true rfl) ?_
  simp only [b17, cO, cG, cN, cM, cD, cF, cB, cFal, cTru]
  have hsc' : t.cases.length ≤ 17592186044416 := hsc
  have hc := placeR t i f hs hsc
  have d2 := encT_dat t
  by_cases he : placeE t i f = 0
  rotate_left
  · have e : allowT t i f = [] := by unfold allowT; rw [if_neg he]
    rw [e]
    generalize placeE t i f = C at *
    unfold encT at hc d2
    rw [show encT t = .agg [.int .i64 t.n, .int .i64 t.ins, .int .i64 t.outs, encCs t.cases] from rfl]
    (have zz := aI @encCs_one (aI @encCs_cells @alenS_encCs); repeat' (first | apply w_seq | apply w_ops0 | apply w_ret | apply a_n | apply a_r | apply o_nil | refine vZ ?_ | refine cZ ?_ (hp := hc) | refine bxZ ?_ | (refine cdZ ?_ ?_ <;> (intro _hg; (try simp only [ZB] at _hg); try first | exact absurd trivial _hg | (exfalso; omega))) | refine e_ends rfl ?_ | refine r2Z ?_ | fail)) <;> (try clear zz)
    exact snapNil _
  obtain ⟨e0, e1, e2, e3⟩ := placeE_0 he
  obtain ⟨k, rfl⟩ : ∃ k : Nat, i = k := ⟨i.toNat, by omega⟩
  have hk : k < t.cases.length := by omega
  have e : allowT t k f = allowV (t.cases.getD k default) f := by unfold allowT; rw [if_pos he]; rfl
  rw [e]
  rw [he] at hc ⊢
  have ix := aixS_encCs hk
  generalize t.cases.getD k default = c at *
  have ha2 := vectorsR_c c f
  obtain ⟨inp, out, calm⟩ := c
  have d3 : Dat (.agg [encV inp, encVV out, encVV calm]) := encC_dat ⟨inp, out, calm⟩
  dsimp only at *
  unfold encT at hc d2
  rw [show encT t = .agg [.int .i64 t.n, .int .i64 t.ins, .int .i64 t.outs, encCs t.cases] from rfl]
  (have zz := aI @encCs_one (aI @encCs_cells (aI @alenS_encCs @ix)); repeat' (first | apply w_seq | apply w_ops0 | apply w_skip | apply w_ret | apply a_n | apply o_nil | refine vZ ?_ | refine cZ ?_ (hp := by first | exact hc | exact ha2) | refine bxZ ?_ | (refine cdZ ?_ ?_ <;> (intro _hg; (try simp only [ZB] at _hg); try first | exact absurd trivial _hg | (exfalso; omega))) | refine e_ends rfl ?_ | refine r2Z ?_ | fail)) <;> (try clear zz)
  exact snap_tup (snapL_cons (Dat.snap (encVV_dat _)) (snapL_cons (.int _ _) snapL_nil))

/-! ### Permitted -/
def hasF (f : Int) (p : Nat) : Bool := decide (f / ((2 ^ p : Nat) : Int) % 2 = 1)
theorem has01_c (f : Int) (p : Nat) (h0 : 0 ≤ f) (h1 : f ≤ 9223372036854775807) (hp : p ≤ 60) : Pure Tryz.prog 99 [.int .i64 f, .int .i64 p] (.bool (hasF f p)) := by
  have hw := power_c p hp
  have h3 : 0 < 2 ^ p := Nat.pow_pos (by omega)
  unfold hasF
  generalize 2 ^ p = w at *
  refine Pure.of_c2 follows is99 (Nat.le_of_ble_eq_true rfl) ?_
  simp only [b99, cO, cG, cN, cM, cD, cF, cB, cFal, cTru]
  have hq := quo_pos (tb := false) (tf := false) h0 h1 (b := (w : Int)) (by omega)
  have hr := rem_pos (k := .i64) (tb := false) (tf := false) (a := f / (w : Int)) (b := 2) (Int.ediv_nonneg h0 (by omega)) (by omega)
  (have zz := aI @hq @hr; repeat' (first | apply w_seq | apply w_ops0 | apply w_ret | apply a_n | apply o_nil | refine vZ ?_ | refine cZ ?_ (hp := hw) | refine e_ends rfl ?_ | refine r1Z ?_ | fail)) <;> (try clear zz)
  exact snap_bool rfl
theorem and1_nat {a : Nat} : and1 (a : Int) = ((a % 2 : Nat) : Int) := by
  have h : (BitVec.ofInt 64 (a : Int) &&& BitVec.ofInt 64 1).toNat = a % 2 := by
    rw [BitVec.toNat_and]
    have e : (BitVec.ofInt 64 1).toNat = 2 ^ 1 - 1 := rfl
    rw [e, Nat.and_two_pow_sub_one_eq_mod]
    simp [BitVec.toNat_ofInt]
  unfold and1
  rw [h, wrap64 (by omega) (by omega)]
theorem hasF_eq {f : Int} {p : Nat} (h0 : 0 ≤ f) (hp : p ≤ 60) : hasF f p = !decide (and1 (shrN f p) = 0) := by
  obtain ⟨m, rfl⟩ : ∃ m : Nat, f = m := ⟨f.toNat, by omega⟩
  have e : shrN (m : Int) p = ((m / 2 ^ p : Nat) : Int) := by
    unfold shrN
    rw [Nat.min_eq_left (by omega), Int.fdiv_eq_ediv_of_nonneg _ (Int.le_of_lt (Int.pow_pos (by omega)))]
    simp
  rw [e, and1_nat]
  unfold hasF
  rw [show (m : Int) / ((2 ^ p : Nat) : Int) = ((m / 2 ^ p : Nat) : Int) from rfl]
  generalize m / 2 ^ p = x
  by_cases h : x % 2 = 0
  · rw [decide_eq_false (by omega), decide_eq_true (by omega)]; rfl
  · rw [decide_eq_true (by omega), decide_eq_false (by omega)]; rfl
end Go.Proofs.YtbiikomnhkbblaaGreat

/- T22: contracts of functions and plain laws; for all inputs that the theorems name. -/
namespace Go.Proofs.YtbiikomnhkbblaaGreat
open Go Go.Abs
open Nat (reduceEqDiff reduceAdd reduceLeDiff)

/-! ### Permitted -/
theorem vectorE_0 {v : List Int} {n most : Int} (h : vectorE v n most = 0) : (v.length : Int) = n ∧ ∀ x ∈ v, 0 ≤ x ∧ x < most := by
  unfold vectorE at h
  by_cases c : (v.length : Int) ≠ n
  · rw [if_pos c] at h; exact absurd h (by decide)
  · rw [if_neg c] at h
    refine ⟨by omega, fun x hx => ?_⟩
    by_cases c2 : v.any (fun x => decide (x < 0 ∨ most ≤ x)) = true
    · rw [if_pos c2] at h; exact absurd h (by decide)
    · rw [Bool.not_eq_true, List.any_eq_false] at c2
      have := c2 x hx
      simp only [decide_eq_true_eq] at this
      omega
theorem case_vecs {t : TaskV} {k : Nat} (h : checkE t = 0) (hk : k < t.cases.length) :
    (1 ≤ (t.cases.getD k default).out.length) ∧ (∀ v ∈ (t.cases.getD k default).out, (v.length : Int) = t.n ∧ ∀ x ∈ v, 0 ≤ x ∧ x < t.outs) ∧ (∀ v ∈ (t.cases.getD k default).calm, v ∈ (t.cases.getD k default).out) := by
  have h0 := ((check_parts h).2.2 k hk).2
  generalize t.cases.getD k default = c at *
  unfold vectorsE at h0
  split at h0
  · exact absurd h0 (by decide)
  split at h0
  · exact absurd h0 ‹_›
  rename_i g1 g2
  have o0 := firstI_all (Decidable.of_not_not g2)
  have c0 := firstI_all h0
  refine ⟨by omega, fun v hv => ?_, fun v hv => ?_⟩
  · obtain ⟨j, hj, rfl⟩ := List.getElem_of_mem hv
    have := o0 j hj
    unfold outE at this
    split at this
    · exact absurd this ‹_›
    · rename_i g3
      have e := vectorE_0 (Decidable.of_not_not g3)
      simpa [List.getD, hj] using e
  · obtain ⟨j, hj, rfl⟩ := List.getElem_of_mem hv
    have := c0 j hj
    unfold calmE at this
    split at this
    · rename_i g3; simpa [List.getD, hj] using g3
    · exact absurd this (by decide)
theorem allow_vecs {t : TaskV} {k : Nat} {f : Int} (h : checkE t = 0) (hk : k < t.cases.length) : (1 ≤ (allowV (t.cases.getD k default) f).length) ∧ ∀ v ∈ allowV (t.cases.getD k default) f, (v.length : Int) = t.n ∧ ∀ x ∈ v, 0 ≤ x ∧ x < t.outs := by
  obtain ⟨h1, h2, h3⟩ := case_vecs h hk
  unfold allowV
  split
  · rename_i g; exact ⟨by omega, fun v hv => h2 v (h3 v hv)⟩
  · exact ⟨h1, h2⟩
theorem placeE_f {t : TaskV} {i f : Int} (h : placeE t i f = 0) : f ≤ 9223372036854775807 := by
  obtain ⟨c, c1, c2, c3⟩ := placeE_0 h
  obtain ⟨n1, n5⟩ := checkE_n c
  have hp : 2 ^ t.n.toNat ≤ 2 ^ 5 := Nat.pow_le_pow_right (by omega) (by omega)
  unfold placeE at h
  rw [if_neg (fun k => k c), if_neg (by omega)] at h
  by_cases c2 : f < 0 ∨ ((2 ^ t.n.toNat : Nat) : Int) ≤ f
  · rw [if_pos c2] at h; exact absurd h (by decide)
  · generalize 2 ^ t.n.toNat = w at *
    omega
def permT (t : TaskV) (i f : Int) (outs : List Int) : Bool × Int := if placeE t i f ≠ 0 then (false, placeE t i f) else if (outs.length : Int) ≠ t.n then (false, 15) else if outs.any (fun x => decide (x < -1 ∨ t.outs ≤ x)) then (false, 2) else ((allowV (pickC t i) f).any (fun v => agreesB v outs f), 0)
attribute [local irreducible] awp2 aops2 ains aloop athen bbind obind gbind acond res1 Go.Abs.Fn PCall Go.Abs.Pure SnapArgs SnapL Yl

theorem permitted_c (t : TaskV) (i f : Int) (outs : List Int) (hs : ∀ c ∈ t.cases, ShC c) (hsc : Sh t.cases) (ho : Sh outs) : Pure Tryz.prog 18 [encT t, .int .i64 i, .int .i64 f, encV outs] (.tup [.bool (permT t i f outs).1, .int .i64 (permT t i f outs).2]) := by
  refine Pure.of_c2 follows is18 (Nat.le_of_ble_eq_true rfl) ?_
  simp only [b18, cO, cG, cN, cM, cD, cF, cB, cFal, cTru]
  have hsc' : t.cases.length ≤ 17592186044416 := hsc
  have ho' : outs.length ≤ 17592186044416 := ho
  have hc := place_c t i f hs hsc
  have d2 := encT_dat t
  have dT : Dat (encCs t.cases) := encCs_dat _
  by_cases he : placeE t i f = 0
  rotate_left
  · have e : permT t i f outs = (false, placeE t i f) := by unfold permT; rw [if_pos he]
    rw [e]
    generalize placeE t i f = C at *
    unfold encT at hc d2
    rw [show encT t = .agg [.int .i64 t.n, .int .i64 t.ins, .int .i64 t.outs, encCs t.cases] from rfl]
    (have zz := aI @encCs_one (aI @encCs_cells @alenS_encCs); repeat' (first | apply w_seq | apply w_ops0 | apply w_ret | apply a_n | apply a_r | apply o_nil | refine vZ ?_ | refine cZ ?_ (hp := hc) | refine bxZ ?_ | (refine cdZ ?_ ?_ <;> (intro _hg; (try simp only [ZB] at _hg); try first | exact absurd trivial _hg | (exfalso; omega))) | refine e_ends rfl ?_ | refine r2Z ?_ | fail)) <;> (try clear zz)
    exact snap_tup (snapL_cons (.bool _) (snapL_cons (.int _ _) snapL_nil))
  obtain ⟨e0, e1, e2, e3⟩ := placeE_0 he
  obtain ⟨k, rfl⟩ : ∃ k : Nat, i = k := ⟨i.toNat, by omega⟩
  have hk : k < t.cases.length := by omega
  have hm := mem_getD hk
  have e : permT t k f outs = if (outs.length : Int) ≠ t.n then (false, 15) else if outs.any (fun x => decide (x < -1 ∨ t.outs ≤ x)) then (false, 2) else ((allowV (t.cases.getD k default) f).any (fun v => agreesB v outs f), 0) := by unfold permT; rw [if_neg (fun h => h he)]; rfl
  rw [e]
  rw [he] at hc
  have ix := aixS_encCs hk
  have hav := (allow_vecs (f := f) e0 hk).2
  obtain ⟨s1, s2, s3, s4, s5⟩ := hs _ hm
  by_cases hn : (outs.length : Int) ≠ t.n
  · rw [if_pos hn]
    unfold encT at hc d2
    rw [show encT t = .agg [.int .i64 t.n, .int .i64 t.ins, .int .i64 t.outs, encCs t.cases] from rfl]
    (have zz := aI @encCs_one (aI @encCs_cells @alenS_encCs); repeat' (first | apply w_seq | apply w_ops0 | apply w_skip | apply w_ret | apply a_n | apply a_r | apply o_nil | refine vZ ?_ | refine cZ ?_ (hp := hc) | refine bxZ ?_ | (refine cdZ ?_ ?_ <;> (intro _hg; (try simp only [ZB] at _hg); try first | exact absurd trivial _hg | (exfalso; omega))) | refine e_ends rfl ?_ | refine r2Z ?_ | fail)) <;> (try clear zz)
    exact snap_tup (snapL_cons (.bool _) (snapL_cons (.int _ _) snapL_nil))
  rw [if_neg hn]
  have hA := containsF_c outs (fun x => decide (x < -1 ∨ t.outs ≤ x)) 57 [.iptr [.int .i64 t.n, .int .i64 t.ins, .int .i64 t.outs, encCs t.cases] 0] (fun x hx => by
    simp only [List.mem_singleton] at hx; subst hx
    exact .iptr (DatL.cons .int (DatL.cons .int (DatL.cons .int (DatL.cons dT DatL.nil))))) (fun x _ => permitted1_c x t) ho
  generalize t.cases.getD k default = c at *
  have sA : Sh (allowV c f) ∧ ∀ v ∈ allowV c f, Sh v := by
    unfold allowV
    split
    · exact ⟨s4, s5⟩
    · exact ⟨s2, s3⟩
  have hB := containsFV_c (allowV c f) (fun v => agreesB v outs f) 58 [.iptr [encV outs] 0, .iptr [.int .i64 f] 0] (fun x hx => by
    simp only [List.mem_cons, List.not_mem_nil, or_false] at hx
    rcases hx with rfl | rfl
    · exact .iptr (DatL.cons (encV_dat _) DatL.nil)
    · exact .iptr (DatL.cons .int DatL.nil)) (fun v hv => permitted2_c v outs f (sA.2 v hv) ho (by have := (hav v hv).1; omega)) sA.1
  have ha2 : Pure Tryz.prog 53 [.agg [encV c.inp, encVV c.out, encVV c.calm], .int .i64 f] (encVV (allowV c f)) := allowed_c c f
  have d3 : Dat (.agg [encV c.inp, encVV c.out, encVV c.calm]) := encC_dat c
  have hn : (outs.length : Int) = t.n := Decidable.of_not_not hn
  clear hav hm hs
  unfold encT at hc d2
  rw [show encT t = .agg [.int .i64 t.n, .int .i64 t.ins, .int .i64 t.outs, encCs t.cases] from rfl]
  (have zz := aI @encCs_one (aI @encCs_cells (aI @alenS_encCs @ix)); repeat' (first | apply w_seq | apply w_ops0 | apply w_skip | apply a_n | apply o_nil | refine vZ ?_ | refine cZ ?_ (hp := by first | exact hc | exact ha2) | refine bxZ ?_ | (refine cdZ ?_ ?_ <;> (intro _hg; (try simp only [ZB] at _hg); try first | exact absurd trivial _hg | (exfalso; omega))) | fail)) <;> (try clear zz)
  refine o_callP (by ((try simp only [simB0, ZA, reduceEqDiff, ↓reduceIte, reduceAdd, reduceLeDiff]); (try with_reducible rfl))) (by ((try simp only [simB0, ZA, reduceEqDiff, ↓reduceIte, reduceAdd, reduceLeDiff]); (try with_reducible rfl))) hA (snap_plain (by (repeat' (first | exact snapL_nil | exact Dat.snap Dat.int | exact Dat.snap Dat.bool | exact Dat.snap Dat.str | exact Dat.snap Dat.esl | exact Dat.snap Dat.nilf | exact Dat.snap (encV_dat _) | exact Dat.snap (encVV_dat _) | exact Dat.snap dT | apply snapL_cons | apply snap_func | apply snap_iptr | (apply snap_ptr; (focus ((try simp only [simB0, ZA, reduceEqDiff, ↓reduceIte, reduceAdd, reduceLeDiff]); with_reducible rfl)); (focus rfl))))) rfl) ?_
  cases hb : outs.any (fun x => decide (x < -1 ∨ t.outs ≤ x))
  · (have zz := aI @encCs_one (aI @encCs_cells (aI @alenS_encCs (aI @ix @Bool.false_eq_true))); repeat' (first | apply w_seq | apply w_mixS1 | apply w_skip | apply a_n | apply o_nil | refine vZ ?_ | refine cZ ?_ (hp := by first | exact hc | exact ha2) | refine cFZ ?_ | fail)) <;> (try clear zz)
    refine o_callP (by ((try simp only [simB0, ZA, reduceEqDiff, ↓reduceIte, reduceAdd, reduceLeDiff]); (try with_reducible rfl))) (by ((try simp only [simB0, ZA, reduceEqDiff, ↓reduceIte, reduceAdd, reduceLeDiff]); (try with_reducible rfl))) hB (snap_plain (by (repeat' (first | exact snapL_nil | exact Dat.snap Dat.int | exact Dat.snap Dat.bool | exact Dat.snap Dat.str | exact Dat.snap Dat.esl | exact Dat.snap Dat.nilf | exact Dat.snap (encV_dat _) | exact Dat.snap (encVV_dat _) | apply snapL_cons | apply snap_func | apply snap_iptr | (apply snap_ptr; (focus ((try simp only [simB0, ZA, reduceEqDiff, ↓reduceIte, reduceAdd, reduceLeDiff]); with_reducible rfl)); (focus rfl))))) rfl) ?_
    (have zz := and_self; repeat' (first | apply w_ret | apply a_n | apply o_nil | refine vZ ?_ | refine e_ends rfl ?_ | refine r2Z ?_ | fail)) <;> (try clear zz)
    exact snap_tup (snapL_cons (.bool _) (snapL_cons (.int _ _) snapL_nil))
  · (have zz := aI @encCs_one (aI @encCs_cells (aI @alenS_encCs @ix)); repeat' (first | apply w_seq | apply w_ops0 | apply w_ret | apply a_n | apply a_r | apply o_nil | refine vZ ?_ | refine cTZ ?_ | refine e_ends rfl ?_ | refine r2Z ?_ | fail)) <;> (try clear zz)
    exact snap_tup (snapL_cons (.bool _) (snapL_cons (.int _ _) snapL_nil))

theorem agreesR_c (v outs : List Int) (f : Int) (hv : v.length ≤ 60) (ho : Sh outs) (hl : v.length ≤ outs.length) (h0 : 0 ≤ f) (h1 : f ≤ 9223372036854775807) : Pure Tryz.prog 84 [encV v, .int .i64 f, encV outs] (.bool (agreesB v outs f)) := by
  refine Pure.of_c2 follows is84 (Nat.le_of_ble_eq_true rfl) ?_
  simp only [b84, cO, cG, cN, cM, cD, cF, cB, cFal, cTru]
  have ho' : outs.length ≤ 17592186044416 := ho
  (have zz := and_self; repeat' (first | apply w_seq | apply w_ops0 | apply w_block | apply a_n | apply o_nil | refine vZ ?_ | apply w_loop | fail)) <;> (try clear zz)
  refine loop0 (X := Nat) (fun k => [(0, encV v), (1, .int .i64 f), (2, encV outs), (7, .int .i64 k)]) (fun k => k ≤ v.length ∧ ∀ i, i < k → (decide (and1 (shrN f i) = 0) && decide (outs.getD i default ≠ v.getD i default)) = false) (fun k => v.length - k) 0 ⟨Nat.zero_le _, by simp⟩ (by simp (disch := omega) only [agr, ZG, reduceEqDiff, ↓reduceIte]) ?_
  rintro k ⟨g1, g2⟩
  by_cases hk : k < v.length
  rotate_left
  · (have zz := and_self; repeat' (first | apply w_seq | apply w_ops0 | apply w_exit | apply w_ret | apply a_n | apply a_x | apply o_nil | refine vZ ?_ | (refine cdZ ?_ ?_ <;> (intro _hg; (try simp only [ZB] at _hg); try first | exact absurd trivial _hg | (exfalso; omega))) | refine e_ends rfl ?_ | refine r1Z ?_ | fail)) <;> (try clear zz)
    refine snap_bool ?_
    symm
    unfold agreesB
    rw [List.all_eq_true]
    intro i hi
    rw [g2 i (by have := List.mem_range.1 hi; omega)]
    rfl
  have hh := has01_c f k h0 h1 (by omega)
  rw [hasF_eq h0 (by omega)] at hh
  generalize hA : decide (and1 (shrN f k) = 0) = A at *
  cases A
  · (have zz := @Bool.not_false; repeat' (first | apply w_seq | apply w_ops0 | apply w_mixS1 | apply w_block | apply w_skip | apply a_n | apply o_nil | refine vZ ?_ | refine cZ ?_ (hp := hh) | refine gFZ ?_ | refine cFZ ?_ | (refine cdZ ?_ ?_ <;> (intro _hg; (try simp only [ZB] at _hg); try first | exact absurd trivial _hg | (exfalso; omega))) | fail)) <;> (try clear zz)
    refine ⟨k + 1, ⟨by omega, fun i hi => ?_⟩, by omega, by simp (disch := omega) only [agr, ZG, reduceEqDiff, ↓reduceIte], rfl, rfl⟩
    rcases Nat.lt_succ_iff_lt_or_eq.1 hi with h | rfl
    · exact g2 i h
    · rw [hA]; rfl
  · by_cases hne : outs.getD k default = v.getD k default
    · have hd : decide (outs.getD k default ≠ v.getD k default) = false := decide_eq_false (fun h => h hne)
      (have zz := aI @Bool.not_true @hd; repeat' (first | apply w_seq | apply w_ops0 | apply w_mixS1 | apply w_block | apply w_skip | apply a_n | apply o_nil | refine vZ ?_ | refine cZ ?_ (hp := hh) | refine gTZ ?_ | refine cFZ ?_ | (refine cdZ ?_ ?_ <;> (intro _hg; (try simp only [ZB] at _hg); try first | exact absurd trivial _hg | (exfalso; omega))) | fail)) <;> (try clear zz)
      refine ⟨k + 1, ⟨by omega, fun i hi => ?_⟩, by omega, by simp (disch := omega) only [agr, ZG, reduceEqDiff, ↓reduceIte], rfl, rfl⟩
      rcases Nat.lt_succ_iff_lt_or_eq.1 hi with h | rfl
      · exact g2 i h
      · rw [hA, hd]; rfl
    · have hd : decide (outs.getD k default ≠ v.getD k default) = true := decide_eq_true hne
      (have zz := aI @Bool.not_true @hd; repeat' (first | apply w_seq | apply w_ops0 | apply w_mixS1 | apply w_block | apply w_skip | apply w_ret | apply a_n | apply a_r | apply o_nil | refine vZ ?_ | refine cZ ?_ (hp := hh) | refine gTZ ?_ | refine cTZ ?_ | (refine cdZ ?_ ?_ <;> (intro _hg; (try simp only [ZB] at _hg); try first | exact absurd trivial _hg | (exfalso; omega))) | refine e_ends rfl ?_ | refine r1Z ?_ | fail)) <;> (try clear zz)
      refine snap_bool ?_
      symm
      unfold agreesB
      rw [Bool.eq_false_iff, ne_eq, List.all_eq_true]
      intro h
      have := h k (List.mem_range.2 (by omega))
      rw [hA, hd] at this
      exact absurd this (by decide)
theorem mayR_c (c : CaseV) (outs : List Int) (f : Int) (hc : Sh (allowV c f)) (hv : ∀ v ∈ allowV c f, v.length ≤ 60 ∧ v.length ≤ outs.length) (ho : Sh outs) (h0 : 0 ≤ f) (h1 : f ≤ 9223372036854775807) : Pure Tryz.prog 60 [.agg [encV c.inp, encVV c.out, encVV c.calm], .int .i64 f, encV outs] (.bool ((allowV c f).any fun v => agreesB v outs f)) := by
  refine Pure.of_c2 follows is60 (Nat.le_of_ble_eq_true rfl) ?_
  simp only [b60, cO, cG, cN, cM, cD, cF, cB, cFal, cTru]
  have ha2 := vectorsR_c c f
  have d3 : Dat (.agg [encV c.inp, encVV c.out, encVV c.calm]) := encC_dat c
  have hc' : (allowV c f).length ≤ 17592186044416 := hc
  generalize hl : allowV c f = l at *
  (have zz := and_self; repeat' (first | apply w_seq | apply w_ops0 | apply w_block | apply a_n | apply o_nil | refine vZ ?_ | refine cZ ?_ (hp := ha2) | refine bxZ ?_ | apply w_loop | fail)) <;> (try clear zz)
  refine loopA (fun k => [(1, .int .i64 f), (2, encV outs), (7, encVV l), (8, .int .i64 k)]) l.length (fun k => agreesB (l.getD k default) outs f = false) (by simp (disch := omega) only [agr, ZG, reduceEqDiff, ↓reduceIte]) ?_
  intro k hk hz
  by_cases hk2 : k < l.length
  rotate_left
  · (have zz := and_self; repeat' (first | apply w_seq | apply w_ops0 | apply w_exit | apply w_ret | apply a_n | apply a_x | apply o_nil | refine vZ ?_ | (refine cdZ ?_ ?_ <;> (intro _hg; (try simp only [ZB] at _hg); try first | exact absurd trivial _hg | (exfalso; omega))) | refine e_ends rfl ?_ | refine r1Z ?_ | fail)) <;> (try clear zz)
    refine snap_bool ?_
    symm
    rw [List.any_eq_false]
    intro v hv2
    obtain ⟨j, hj, rfl⟩ := List.getElem_of_mem hv2
    have := hz j (by omega)
    simp only [List.getD, hj, List.getElem?_eq_getElem, Option.getD_some] at this
    rw [this]; decide
  have hm := mem_getD hk2
  have hg := agreesR_c (l.getD k default) outs f (hv _ hm).1 ho (hv _ hm).2 h0 h1
  cases hb : agreesB (l.getD k default) outs f
  · rw [hb] at hg
    (have zz := and_self; repeat' (first | apply w_seq | apply w_ops0 | apply w_block | apply w_skip | apply a_n | apply o_nil | refine vZ ?_ | refine cZ ?_ (hp := hg) | refine cFZ ?_ | (refine cdZ ?_ ?_ <;> (intro _hg; (try simp only [ZB] at _hg); try first | exact absurd trivial _hg | (exfalso; omega))) | fail)) <;> (try clear zz)
    exact ⟨hk2, rfl, by simp (disch := omega) only [agr, ZG, reduceEqDiff, ↓reduceIte], rfl, rfl⟩
  · rw [hb] at hg
    (have zz := and_self; repeat' (first | apply w_seq | apply w_ops0 | apply w_block | apply w_skip | apply w_ret | apply a_n | apply a_r | apply o_nil | refine vZ ?_ | refine cZ ?_ (hp := hg) | refine cTZ ?_ | (refine cdZ ?_ ?_ <;> (intro _hg; (try simp only [ZB] at _hg); try first | exact absurd trivial _hg | (exfalso; omega))) | refine e_ends rfl ?_ | refine r1Z ?_ | fail)) <;> (try clear zz)
    refine snap_bool ?_
    symm
    rw [List.any_eq_true]
    exact ⟨_, hm, hb⟩

theorem permittedR (t : TaskV) (i f : Int) (outs : List Int) (hs : ∀ c ∈ t.cases, ShC c) (hsc : Sh t.cases) (ho : Sh outs) : Pure Tryz.prog 19 [encT t, .int .i64 i, .int .i64 f, encV outs] (.tup [.bool (permT t i f outs).1, .int .i64 (permT t i f outs).2]) := by
  refine Pure.of_c2 follows is19 (Nat.le_of_ble_eq_true rfl) ?_
  simp only [b19, cO, cG, cN, cM, cD, cF, cB, cFal, cTru]
  have hsc' : t.cases.length ≤ 17592186044416 := hsc
  have ho' : outs.length ≤ 17592186044416 := ho
  have hc := placeR t i f hs hsc
  have d2 := encT_dat t
  by_cases he : placeE t i f = 0
  rotate_left
  · have e : permT t i f outs = (false, placeE t i f) := by unfold permT; rw [if_pos he]
    rw [e]
    generalize placeE t i f = C at *
    unfold encT at hc d2
    rw [show encT t = .agg [.int .i64 t.n, .int .i64 t.ins, .int .i64 t.outs, encCs t.cases] from rfl]
    (have zz := aI @encCs_one (aI @encCs_cells @alenS_encCs); repeat' (first | apply w_seq | apply w_ops0 | apply w_ret | apply a_n | apply a_r | apply o_nil | refine vZ ?_ | refine cZ ?_ (hp := hc) | refine bxZ ?_ | (refine cdZ ?_ ?_ <;> (intro _hg; (try simp only [ZB] at _hg); try first | exact absurd trivial _hg | (exfalso; omega))) | refine e_ends rfl ?_ | refine r2Z ?_ | fail)) <;> (try clear zz)
    exact snap_tup (snapL_cons (.bool _) (snapL_cons (.int _ _) snapL_nil))
  obtain ⟨e0, e1, e2, e3⟩ := placeE_0 he
  obtain ⟨n1, n5⟩ := checkE_n e0
  obtain ⟨k, rfl⟩ : ∃ k : Nat, i = k := ⟨i.toNat, by omega⟩
  have hk : k < t.cases.length := by omega
  have hm := mem_getD hk
  have e : permT t k f outs = if (outs.length : Int) ≠ t.n then (false, 15) else if outs.any (fun x => decide (x < -1 ∨ t.outs ≤ x)) then (false, 2) else ((allowV (t.cases.getD k default) f).any (fun v => agreesB v outs f), 0) := by unfold permT; rw [if_neg (fun h => h he)]; rfl
  rw [e]
  rw [he] at hc
  have ix := aixS_encCs hk
  have hav := (allow_vecs (f := f) e0 hk).2
  obtain ⟨s1, s2, s3, s4, s5⟩ := hs _ hm
  by_cases hn : (outs.length : Int) ≠ t.n
  · rw [if_pos hn]
    unfold encT at hc d2
    rw [show encT t = .agg [.int .i64 t.n, .int .i64 t.ins, .int .i64 t.outs, encCs t.cases] from rfl]
    (have zz := aI @encCs_one (aI @encCs_cells @alenS_encCs); repeat' (first | apply w_seq | apply w_ops0 | apply w_skip | apply w_ret | apply a_n | apply a_r | apply o_nil | refine vZ ?_ | refine cZ ?_ (hp := hc) | refine bxZ ?_ | (refine cdZ ?_ ?_ <;> (intro _hg; (try simp only [ZB] at _hg); try first | exact absurd trivial _hg | (exfalso; omega))) | refine e_ends rfl ?_ | refine r2Z ?_ | fail)) <;> (try clear zz)
    exact snap_tup (snapL_cons (.bool _) (snapL_cons (.int _ _) snapL_nil))
  rw [if_neg hn]
  generalize t.cases.getD k default = c at *
  have sA : Sh (allowV c f) := by
    unfold allowV
    split
    · exact s4
    · exact s2
  have hn : (outs.length : Int) = t.n := Decidable.of_not_not hn
  have hB := mayR_c c outs f sA (fun v hv => by have := (hav v hv).1; omega) ho e3 (placeE_f he)
  have d3 : Dat (.agg [encV c.inp, encVV c.out, encVV c.calm]) := encC_dat c
  clear hav hm hs
  unfold encT at hc d2
  rw [show encT t = .agg [.int .i64 t.n, .int .i64 t.ins, .int .i64 t.outs, encCs t.cases] from rfl]
  (have zz := aI @encCs_one (aI @encCs_cells (aI @alenS_encCs @ix)); repeat' (first | apply w_seq | apply w_ops0 | apply w_block | apply w_skip | apply a_n | apply o_nil | refine vZ ?_ | refine cZ ?_ (hp := by first | exact hc | exact hB) | refine bxZ ?_ | (refine cdZ ?_ ?_ <;> (intro _hg; (try simp only [ZB] at _hg); try first | exact absurd trivial _hg | (exfalso; omega))) | apply w_loop | fail)) <;> (try clear zz)
  refine loopA (fun j => [(1, .int .i64 k), (2, .int .i64 f), (3, encV outs), (4, .ptr 0 4 0), (11, .int .i64 j)]) outs.length (fun j => decide (outs.getD j default < -1 ∨ t.outs ≤ outs.getD j default) = false) (by simp (disch := omega) only [agr, ZG, reduceEqDiff, ↓reduceIte, List.length_cons, List.length_nil, Nat.zero_add, reduceAdd, true_and]) ?_
  intro j hj hz
  by_cases hj2 : j < outs.length
  rotate_left
  · have ha : outs.any (fun x => decide (x < -1 ∨ t.outs ≤ x)) = false := by
      rw [List.any_eq_false]
      intro v hv2
      obtain ⟨q, hq, rfl⟩ := List.getElem_of_mem hv2
      have := hz q (by omega)
      simp only [List.getD, hq, List.getElem?_eq_getElem, Option.getD_some] at this
      rw [this]; decide
    rw [ha]
    (have zz := aI @encCs_one (aI @encCs_cells (aI @alenS_encCs @ix)); repeat' (first | apply w_seq | apply w_ops0 | apply w_exit | apply w_ret | apply a_n | apply a_x | apply o_nil | refine vZ ?_ | refine cZ ?_ (hp := by first | exact hc | exact hB) | (refine cdZ ?_ ?_ <;> (intro _hg; (try simp only [ZB] at _hg); try first | exact absurd trivial _hg | (exfalso; omega))) | refine e_ends rfl ?_ | refine r2Z ?_ | fail)) <;> (try clear zz)
    exact snap_tup (snapL_cons (.bool _) (snapL_cons (.int _ _) snapL_nil))
  by_cases hx : outs.getD j default < -1 ∨ t.outs ≤ outs.getD j default
  · have ha : outs.any (fun x => decide (x < -1 ∨ t.outs ≤ x)) = true := by
      rw [List.any_eq_true]
      exact ⟨_, mem_getD hj2, decide_eq_true hx⟩
    rw [ha]
    (have zz := aI @encCs_one @encCs_cells; repeat' (first | apply w_seq | apply w_ops0 | apply w_ops1 | apply w_block | apply w_skip | apply w_ret | apply a_n | apply a_r | apply o_nil | refine vZ ?_ | refine gTZ ?_ | refine gFZ ?_ | refine cTZ ?_ | ((first | refine gBZ ?_ ?_ | refine cdZ ?_ ?_) <;> (intro _hg; (try simp only [ZB] at _hg); try first | exact absurd trivial _hg | (exfalso; omega))) | refine e_ends rfl ?_ | refine r2Z ?_ | fail)) <;> (try clear zz)
    all_goals exact snap_tup (snapL_cons (.bool _) (snapL_cons (.int _ _) snapL_nil))
  · (have zz := aI @encCs_one @encCs_cells; repeat' (first | apply w_seq | apply w_ops0 | apply w_ops1 | apply w_block | apply w_skip | apply a_n | apply o_nil | refine vZ ?_ | refine gTZ ?_ | ((first | refine gBZ ?_ ?_ | refine cdZ ?_ ?_) <;> (intro _hg; (try simp only [ZB] at _hg); try first | exact absurd trivial _hg | (exfalso; omega))) | fail)) <;> (try clear zz)
    all_goals exact ⟨hj2, decide_eq_false hx, by simp (disch := omega) only [agr, ZG, reduceEqDiff, ↓reduceIte], rfl, rfl⟩
end Go.Proofs.YtbiikomnhkbblaaGreat

/- T23: contracts of functions and plain laws; for all inputs that the theorems name. -/
namespace Go.Proofs.YtbiikomnhkbblaaGreat
open Go Go.Abs
open Nat (reduceEqDiff reduceAdd reduceLeDiff)
attribute [local irreducible] awp2 aops2 ains aloop athen bbind obind gbind acond res1 Go.Abs.Fn PCall Go.Abs.Pure SnapArgs SnapL Yl

def heads (l : List Int) : Nat → Nat
  | 0 => 0
  | k + 1 => heads l k + if k = 0 ∨ l.getD k default ≠ l.getD (k - 1) default then 1 else 0
theorem heads_le (l : List Int) (k : Nat) : heads l k ≤ k := by
  induction k with
  | zero => exact Nat.le_refl _
  | succ k ih => unfold heads; split <;> omega
theorem heads_same {l : List Int} {k : Nat} (hk : k ≠ 0) (h : l.getD k default = l.getD (k - 1) default) : heads l (k + 1) = heads l k := by
  rw [heads, if_neg (by rintro (h' | h'); exact hk h'; exact h' h)]; rfl
theorem heads_diff {l : List Int} {k : Nat} (h : l.getD k default ≠ l.getD (k - 1) default) : heads l (k + 1) = heads l k + 1 := by
  rw [heads, if_pos (.inr h)]
def dd (l : List Int) : Nat → List Int
  | 0 => []
  | k + 1 => dd l k ++ if k = 0 ∨ l.getD k default ≠ l.getD (k - 1) default then [l.getD k default] else []
theorem dd_len (l : List Int) (k : Nat) : (dd l k).length = heads l k := by
  induction k with
  | zero => rfl
  | succ k ih => rw [dd, heads, List.length_append, ih]; split <;> rfl
theorem dd_same {l : List Int} {k : Nat} (hk : k ≠ 0) (h : l.getD k default = l.getD (k - 1) default) : dd l (k + 1) = dd l k := by
  rw [dd, if_neg (by rintro (h' | h'); exact hk h'; exact h' h), List.append_nil]
theorem dd_diff {l : List Int} {k : Nat} (h : l.getD k default ≠ l.getD (k - 1) default) : dd l (k + 1) = dd l k ++ [l.getD k default] := by
  rw [dd, if_pos (.inr h)]
theorem set_take {L : List Int} {h : Nat} {x : Int} (hh : h < L.length) : (L.set h x).take (h + 1) = L.take h ++ [x] := by
  rw [take_succ' (by simpa using hh), List.take_set_of_le (Nat.le_refl h)]
  simp [List.getD, hh]
theorem asls_rest {B n len k : Nat} (h : k < len) (hn : n ≠ 0) : asls 1 (.msl B n 1 0 len) (some (.int .i64 k)) none none = some (.msl B n 1 k (len - k)) := by
  simp only [asls, abound, Int.natCast_nonneg, if_true, Int.toNat_natCast]
  rw [if_pos ⟨trivial, by omega, Nat.le_refl _, hn⟩, if_pos (.inr h), Nat.zero_add, Nat.mul_one]
theorem asls_part {B n len k : Nat} (h : k ≤ len) (hn : n ≠ 0) : asls 1 (.msl B n 1 0 len) none (some (.int .i64 k)) none = some (.msl B n 1 0 k) := by
  simp only [asls, abound, Int.natCast_nonneg, if_true, Int.toNat_natCast]
  rw [if_pos ⟨trivial, by omega, h, hn⟩, if_pos (.inl trivial), Nat.zero_mul, Nat.sub_zero]

theorem compact_c (l : List Int) (hl : Sh l) (h0 : l ≠ []) (H : Hp) (B nx : Nat) (hH : H B = some (l.map (AV.int .i64))) (hB : B < nx) :
    Abs.Fn Tryz.prog 39 [.msl B l.length 1 0 l.length] H nx fun r H' nx' => r = .msl B l.length 1 0 (heads l l.length) ∧ (∃ C, H' = hupd H B C ∧ C.length = l.length ∧ C.take (heads l l.length) = (dd l l.length).map (AV.int .i64)) ∧ nx' = nx := by
  refine Abs.Fn.of_c2 follows is39 (Nat.le_of_ble_eq_true rfl) ?_
  simp only [b39, cO, cG, cN, cM, cD, cF, cB, cFal, cTru]
  have hpos := List.length_pos_iff.2 h0
  have hid : H = hupd H B (l.map (AV.int .i64)) := by
    funext b
    by_cases e : b = B
    · subst e; rw [hupd_self']; exact hH
    · rw [hupd_ne e]
  (have zz := and_self; repeat' (first | apply w_seq | apply w_ops0 | apply w_block | apply w_skip | apply w_ret | apply a_n | apply a_r | apply o_nil | refine vZ ?_ | (refine cdZ ?_ ?_ <;> (intro _hg; (try simp only [ZB] at _hg); try first | exact absurd trivial _hg | (exfalso; omega))) | refine e_ends rfl ?_ | refine r1Z ?_ | apply w_loop | fail)) <;> (try clear zz)
  · have e1 : l.length = 1 := by omega
    have e2 : dd l l.length = l := by
      match l, e1 with
      | [a], _ => rfl
    refine ⟨?_, ⟨_, hid, by simp, ?_⟩, rfl⟩
    · rw [show heads l l.length = l.length by rw [e1]; rfl]
    · rw [e2, show heads l l.length = l.length by rw [e1]; rfl, List.take_of_length_le (by simp)]
  refine loopI (X := Nat) (fun k => [(0, .msl B l.length 1 0 l.length), (3, .int .i64 k)]) (fun k H' nx' => H' = H ∧ nx' = nx ∧ 1 ≤ k ∧ k ≤ l.length ∧ heads l k = k ∧ dd l k = l.take k) (fun k => l.length - k) 1 ⟨rfl, rfl, Nat.le_refl _, hpos, rfl, by match l, h0 with | a :: r, _ => rfl⟩ (by simp (disch := omega) only [agr, ZG, reduceEqDiff, ↓reduceIte]) ?_
  rintro k H' nx' ⟨rfl, rfl, k1, k2, k3, k4⟩
  by_cases hk : k < l.length
  · have tk : (k : Int) - 1 = (k - 1 : Nat) := by omega
    by_cases he : l.getD k default = l.getD (k - 1) default
    · have hs := asls_rest (B := B) hk (Nat.ne_of_gt hpos)
      (have zz := aI @tk (aI @hH (aI @Int.toNat_natCast (aI @he (aI @hs @decide_true)))); repeat' (first | apply w_seq | apply w_ops0 | apply w_ops1 | apply w_block | apply w_skip | apply a_n | apply o_nil | refine vZ ?_ | refine cTZ ?_ | (refine cdZ ?_ ?_ <;> (intro _hg; (try simp only [ZB] at _hg); try first | exact absurd trivial _hg | (exfalso; omega))) | apply w_loop | fail)) <;> (try clear zz)
      refine loopI (X := Nat × List Int) (fun x => [(0, .msl B l.length 1 0 l.length), (3, .int .i64 (heads l (k + x.1) : Nat)), (4, .msl B l.length 1 k (l.length - k)), (5, .int .i64 x.1)]) (fun x H2 nx2 => x.2.length = l.length ∧ 1 ≤ x.1 ∧ k + x.1 ≤ l.length ∧ heads l (k + x.1) + 1 ≤ k + x.1 ∧ H2 = hupd H' B (x.2.map (AV.int .i64)) ∧ nx2 = nx' ∧ (∀ p, k + x.1 ≤ p + 1 → x.2.getD p default = l.getD p default) ∧ x.2.take (heads l (k + x.1)) = dd l (k + x.1)) (fun x => l.length - x.1) (1, l)
        ⟨rfl, Nat.le_refl _, hk, by dsimp only; rw [heads_same (by omega) he]; omega, hid, rfl, fun _ _ => rfl, by dsimp only; rw [heads_same (by omega) he, dd_same (by omega) he, k3, k4]⟩ (by simp (disch := omega) only [agr, ZG, reduceEqDiff, ↓reduceIte, heads_same (show k ≠ 0 by omega) he, k3]) ?_
      rintro ⟨j, L⟩ H2 nx2 ⟨a1, a2, a3, a4, rfl, rfl, a5, a6⟩
      dsimp only at a1 a2 a3 a4 a5 a6 ⊢
      by_cases hj : k + j < l.length
      · have tj : (j : Int) - 1 = (j - 1 : Nat) := by omega
        have r1 := a5 (k + j) (by omega)
        have r2 := a5 (k + (j - 1)) (by omega)
        by_cases hd : l.getD (k + j) default = l.getD (k + (j - 1)) default
        · have hq : heads l (k + (j + 1)) = heads l (k + j) := heads_same (l := l) (k := k + j) (by omega) (by rw [hd, show k + j - 1 = k + (j - 1) by omega])
          (have zz := aI @tj (aI @Int.toNat_natCast (aI @r1 (aI @r2 (aI @hd (aI @decide_true (aI @not_true_eq_false @decide_false)))))); repeat' (first | apply w_seq | apply w_ops0 | apply w_ops1 | apply w_block | apply w_skip | apply a_n | apply o_nil | refine vZ ?_ | (refine cdZ ?_ ?_ <;> (intro _hg; (try simp only [ZB] at _hg); try first | exact absurd trivial _hg | (exfalso; omega))) | fail)) <;> (try clear zz)
          refine ⟨(j + 1, L), by dsimp only; omega, ⟨a1, by dsimp only; omega, by dsimp only; omega, ?_, rfl, rfl, fun p hp => a5 p (by dsimp only at hp; omega), by dsimp only; rw [hq, show k + (j + 1) = k + j + 1 from rfl, dd_same (by omega) (by rw [hd, show k + j - 1 = k + (j - 1) by omega])]; exact a6⟩, by simp (disch := omega) only [agr, ZG, reduceEqDiff, ↓reduceIte, hq]⟩
          dsimp only
          rw [hq]
          omega
        · have hq : heads l (k + (j + 1)) = heads l (k + j) + 1 := heads_diff (l := l) (k := k + j) (by rw [show k + j - 1 = k + (j - 1) by omega]; exact hd)
          have hlm := lput_mapG (f := AV.int .i64) (l := L) (k := heads l (k + j)) (x := l.getD (k + j) default) (by omega)
          (have zz := aI @tj (aI @Int.toNat_natCast (aI @r1 @r2)); repeat' (first | apply w_seq | apply w_ops0 | apply w_ops1 | apply w_block | apply w_skip | apply a_n | apply o_nil | refine vZ ?_ | refine stZ ?_ | (refine cdZ ?_ ?_ <;> (intro _hg; (try simp only [ZB] at _hg); try first | exact absurd trivial _hg | (exfalso; omega))) | fail)) <;> (try clear zz)
          refine ⟨(j + 1, L.set (heads l (k + j)) (l.getD (k + j) default)), by dsimp only; omega, ⟨by simp [a1], by dsimp only; omega, by dsimp only; omega, ?_, ?_, rfl, fun p hp => ?_, by dsimp only; rw [hq, set_take (by omega), a6, show k + (j + 1) = k + j + 1 from rfl, dd_diff (by rw [show k + j - 1 = k + (j - 1) by omega]; exact hd)]⟩, by simp (disch := omega) only [agr, ZG, reduceEqDiff, ↓reduceIte, hq]⟩
          · dsimp only
            rw [hq]
            omega
          · dsimp only
            rw [hupd_two, hlm]
          · dsimp only at hp ⊢
            rw [List.getD_eq_getElem?_getD, List.getElem?_set_ne (by omega), ← List.getD_eq_getElem?_getD]
            exact a5 p (by omega)
      · have hn : k + j = l.length := by omega
        have hl1 := asls_rest (B := B) (n := l.length) (show heads l (k + j) < l.length by omega) (Nat.ne_of_gt hpos)
        have hl2 := asls_part (B := B) (n := l.length) (show heads l (k + j) ≤ l.length by omega) (Nat.ne_of_gt hpos)
        (have zz := aI @hl1 @hl2; repeat' (first | apply w_seq | apply w_ops0 | apply w_exit | apply a_n | apply a_x | apply o_nil | refine vZ ?_ | (refine cdZ ?_ ?_ <;> (intro _hg; (try simp only [ZB] at _hg); try first | exact absurd trivial _hg | (exfalso; omega))) | fail)) <;> (try clear zz)
        refine o_clr (H' := hupd (hupd H' B (L.map (AV.int .i64))) B (lput (L.map (AV.int .i64)) (heads l (k + j)) (zcells (.int .i64 0) (l.length - heads l (k + j))))) ?_ ?_
        · ((try simp only [simB0, ZA, reduceEqDiff, ↓reduceIte, reduceAdd, reduceLeDiff]); (try with_reducible rfl))
          simp only [aclear]
          rw [if_neg (by omega), hupd_self']
          dsimp only
          rw [if_pos ⟨by simp [a1], trivial, rfl, rfl, by omega⟩]
          rfl
        · (have zz := @hl2; repeat' (first | apply w_seq | apply w_ops0 | apply w_ret | apply a_n | apply a_r | apply o_nil | refine vZ ?_ | refine e_ends rfl ?_ | refine r1Z ?_ | fail)) <;> (try clear zz)
          refine ⟨by rw [hn], ⟨_, hupd_two _ _ _ _, ?_, ?_⟩, rfl⟩
          · have hz : (zcells (AV.int .i64 0) (l.length - heads l (k + j))).length = l.length - heads l (k + j) := by simp [zcells, show (AV.int IntKind.i64 0).cells.length = 1 from rfl]
            simp [lput, hz]
            omega
          · rw [← hn, ← a6, List.map_take]
            simp only [lput]
            rw [List.append_assoc, List.take_append_of_le_length (by simp; omega), List.take_of_length_le (by simp; omega)]
    · (have zz := aI @tk (aI @hH @Int.toNat_natCast); repeat' (first | apply w_seq | apply w_ops0 | apply w_ops1 | apply w_block | apply w_skip | apply a_n | apply o_nil | refine vZ ?_ | (refine cdZ ?_ ?_ <;> (intro _hg; (try simp only [ZB] at _hg); try first | exact absurd trivial _hg | (exfalso; omega))) | fail)) <;> (try clear zz)
      exact ⟨k + 1, by omega, ⟨rfl, rfl, by omega, by omega, by rw [heads_diff he, k3], by rw [dd_diff he, k4, take_succ' hk]⟩, by simp (disch := omega) only [agr, ZG, reduceEqDiff, ↓reduceIte]⟩
  · (have zz := and_self; repeat' (first | apply w_seq | apply w_ops0 | apply w_exit | apply w_ret | apply a_n | apply a_x | apply o_nil | refine vZ ?_ | (refine cdZ ?_ ?_ <;> (intro _hg; (try simp only [ZB] at _hg); try first | exact absurd trivial _hg | (exfalso; omega))) | refine e_ends rfl ?_ | refine r1Z ?_ | fail)) <;> (try clear zz)
    have e : l.length = k := by omega
    refine ⟨by rw [e, k3], ⟨_, hid, by simp, ?_⟩, rfl⟩
    rw [e, k3, k4, ← List.map_take]
end Go.Proofs.YtbiikomnhkbblaaGreat

/- T24: contracts of functions and plain laws; for all inputs that the theorems name. -/
namespace Go.Proofs.YtbiikomnhkbblaaGreat
open Go Go.Abs
open Nat (reduceEqDiff reduceAdd reduceLeDiff)

/-! ### the reference's Values -/
def inV (l : List (List Int)) (p v : Nat) : Bool := l.any fun w => decide (w.getD p default = (v : Int))
def vals (l : List (List Int)) (p o : Nat) : List Int := ((List.range o).filter (inV l p)).map Int.ofNat
theorem vals_succ (l : List (List Int)) (p o : Nat) : vals l p (o + 1) = vals l p o ++ if inV l p o then [(o : Int)] else [] := by
  unfold vals
  rw [List.range_succ, List.filter_append, List.map_append]
  congr 1
  cases h : inV l p o <;> simp [h]
theorem vals_len (l : List (List Int)) (p o : Nat) : (vals l p o).length ≤ o := by
  unfold vals
  rw [List.length_map]
  exact Nat.le_trans (List.length_filter_le _ _) (by simp)
theorem inV_take {l : List (List Int)} {p v k : Nat} (hk : k < l.length) : inV (l.take (k + 1)) p v = (inV (l.take k) p v || decide ((l.getD k default).getD p default = (v : Int))) := by
  unfold inV
  rw [take_succ' hk, List.any_append]
  simp
attribute [local irreducible] awp2 aops2 ains aloop athen bbind obind gbind acond res1 Go.Abs.Fn PCall Go.Abs.Pure SnapArgs SnapL Yl

theorem valuesR_c (l : List (List Int)) (p o : Nat) (ho : o ≤ 8) (hl : Sh l) (hw : ∀ w ∈ l, p < w.length ∧ Sh w) : Pure Tryz.prog 63 [encVV l, .int .i64 p, .int .i64 o] (encV (vals l p o)) := by
  refine Pure.of_c2 follows is63 (Nat.le_of_ble_eq_true rfl) ?_
  simp only [b63, cO, cG, cN, cM, cD, cF, cB, cFal, cTru]
  have hl' : l.length ≤ 17592186044416 := hl
  (have zz := and_self; repeat' (first | apply w_seq | apply w_ops0 | apply w_block | apply a_n | apply o_nil | refine vZ ?_ | apply w_loop | fail)) <;> (try clear zz)
  refine loopI (X := AV × Nat) (fun x => [(0, encVV l), (1, .int .i64 p), (2, .int .i64 o), (7, x.1), (8, .int .i64 x.2)]) (fun x H nx => x.2 ≤ o ∧ Row H 1 x.1 ((vals l p x.2).map (AV.int .i64)) ∧ ∀ b, rowB x.1 = some b → b < nx) (fun x => o - x.2) (.esl, 0) ⟨Nat.zero_le _, Row.nil, fun b hb => (by cases hb)⟩ (by simp (disch := omega) only [agr, ZG, reduceEqDiff, ↓reduceIte]) ?_
  rintro ⟨s, v⟩ H nx ⟨h1, h2, h3⟩
  dsimp only at h1 h2 h3 ⊢
  by_cases hv : v = o
  · subst hv
    (have zz := and_self; repeat' (first | apply w_seq | apply w_ops0 | apply w_exit | apply w_ret | apply a_n | apply a_x | apply o_nil | refine vZ ?_ | (refine cdZ ?_ ?_ <;> (intro _hg; (try simp only [ZB] at _hg); try first | exact absurd trivial _hg | (exfalso; omega))) | refine e_ends rfl ?_ | refine r1Z ?_ | fail)) <;> (try clear zz)
    exact h2.snapI
  (have zz := and_self; repeat' (first | apply w_seq | apply w_ops0 | apply w_block | apply w_skip | apply a_n | apply o_nil | refine vZ ?_ | (refine cdZ ?_ ?_ <;> (intro _hg; (try simp only [ZB] at _hg); try first | exact absurd trivial _hg | (exfalso; omega))) | apply w_loop | fail)) <;> (try clear zz)
  refine loopI (X := Nat) (fun k => [(0, encVV l), (1, .int .i64 p), (2, .int .i64 o), (7, s), (8, .int .i64 v), (9, .bool (inV (l.take k) p v)), (10, .int .i64 k)]) (fun k H' nx' => k ≤ l.length ∧ H' = H ∧ nx' = nx) (fun k => l.length - k) 0 ⟨Nat.zero_le _, rfl, rfl⟩ (by simp (disch := omega) only [agr, ZG, reduceEqDiff, ↓reduceIte, List.take_zero, inV, List.any_nil]) ?_
  rintro k _ _ ⟨k1, rfl, rfl⟩
  by_cases hk : k < l.length
  · have hm := hw _ (mem_getD hk)
    have hp := hm.1
    have hs : (l.getD k default).length ≤ 17592186044416 := hm.2
    have hT := inV_take (p := p) (v := v) hk
    cases hf : inV (l.take k) p v
    · rw [hf, Bool.false_or] at hT
      (have zz := aI @Bool.false_eq_true @Int.toNat_natCast; repeat' (first | apply w_seq | apply w_ops0 | apply w_block | apply w_skip | apply a_n | apply o_nil | refine vZ ?_ | refine gTZ ?_ | (refine cdZ ?_ ?_ <;> (intro _hg; (try simp only [ZB] at _hg); try first | exact absurd trivial _hg | (exfalso; omega))) | fail)) <;> (try clear zz)
      exact ⟨k + 1, by omega, ⟨hk, rfl, rfl⟩, by simp (disch := omega) only [agr, ZG, reduceEqDiff, ↓reduceIte, hT]⟩
    · rw [hf, Bool.true_or] at hT
      (have zz := and_self; repeat' (first | apply w_seq | apply w_ops0 | apply w_block | apply w_skip | apply a_n | apply o_nil | refine vZ ?_ | refine gFZ ?_ | (refine cdZ ?_ ?_ <;> (intro _hg; (try simp only [ZB] at _hg); try first | exact absurd trivial _hg | (exfalso; omega))) | fail)) <;> (try clear zz)
      exact ⟨k + 1, by omega, ⟨hk, rfl, rfl⟩, by simp (disch := omega) only [agr, ZG, reduceEqDiff, ↓reduceIte, hT]⟩
  · have hke : l.take k = l := List.take_of_length_le (by omega)
    have hV := vals_succ l p v
    have hL := vals_len l p v
    rw [hke]
    cases hf : inV l p v
    · rw [hf, if_neg (by decide), List.append_nil] at hV
      (have zz := @Bool.false_eq_true; repeat' (first | apply w_seq | apply w_ops0 | apply w_skip | apply w_exit | apply a_n | apply a_x | apply o_nil | refine vZ ?_ | refine cFZ ?_ | (refine cdZ ?_ ?_ <;> (intro _hg; (try simp only [ZB] at _hg); try first | exact absurd trivial _hg | (exfalso; omega))) | fail)) <;> (try clear zz)
      exact ⟨(s, v + 1), by dsimp only; omega, ⟨by dsimp only; omega, by dsimp only; rw [hV]; exact h2, h3⟩, by simp (disch := omega) only [agr, ZG, reduceEqDiff, ↓reduceIte]⟩
    · rw [hf, if_pos rfl] at hV
      (have zz := and_self; repeat' (first | apply w_seq | apply w_ops0 | apply w_exit | apply a_n | apply a_x | apply o_nil | refine vZ ?_ | refine blZ ?_ | refine cTZ ?_ | (refine cdZ ?_ ?_ <;> (intro _hg; (try simp only [ZB] at _hg); try first | exact absurd trivial _hg | (exfalso; omega))) | fail)) <;> (try clear zz)
      refine e_row rfl (by ((try simp only [simB0, ZA, reduceEqDiff, ↓reduceIte, reduceAdd, reduceLeDiff]); (try with_reducible rfl))) (h2.same fun b hb => ?_) (by ((try simp only [simB0, ZA, reduceEqDiff, ↓reduceIte, reduceAdd, reduceLeDiff]); (try with_reducible rfl))) asrc_one rfl rfl Nat.one_pos (by simp; omega) (by simp; omega) ?_
      · have := h3 b hb
        rw [hupd_ne (by omega)]
      rintro s2 E e hrow hle1 hle2 hsame hb2
      (have zz := and_self; repeat' (first | apply w_ops0 | apply a_n | apply o_nil | refine vZ ?_ | fail)) <;> (try clear zz)
      refine ⟨(s2, v + 1), by dsimp only; omega, ⟨by dsimp only; omega, ?_, fun b hb => ?_⟩, by simp (disch := omega) only [agr, ZG, reduceEqDiff, ↓reduceIte]⟩
      · dsimp only
        rw [hV, List.map_append]
        exact hrow
      · rcases hb2 b hb with h | h
        · have := h3 b h; omega
        · omega
end Go.Proofs.YtbiikomnhkbblaaGreat

/- T25: contracts of functions and plain laws; for all inputs that the theorems name. -/
namespace Go.Proofs.YtbiikomnhkbblaaGreat
open Go Go.Abs

/-! ### the plain law of domains -/
theorem dd_mem {l : List Int} : ∀ {k : Nat}, k ≤ l.length → ∀ x, x ∈ dd l k ↔ ∃ j, j < k ∧ l.getD j default = x
  | 0, _, x => by simp [dd]
  | k + 1, hk, x => by
    have ih := dd_mem (l := l) (k := k) (by omega) x
    rw [dd, List.mem_append, ih]
    constructor
    · rintro (⟨j, h1, h2⟩ | h)
      · exact ⟨j, by omega, h2⟩
      · split at h
        · rw [List.mem_singleton] at h; exact ⟨k, by omega, h.symm⟩
        · simp at h
    · rintro ⟨j, h1, h2⟩
      by_cases e : j = k
      · subst e
        by_cases c : j = 0 ∨ l.getD j default ≠ l.getD (j - 1) default
        · right; rw [if_pos c, List.mem_singleton]; exact h2.symm
        · left
          have c1 : j ≠ 0 := fun h => c (.inl h)
          have c2 : l.getD j default = l.getD (j - 1) default := Decidable.of_not_not fun h => c (.inr h)
          exact ⟨j - 1, by omega, by rw [← c2]; exact h2⟩
      · left; exact ⟨j, by omega, h2⟩
theorem dd_asc {l : List Int} (hs : ∀ i j, i < j → j < l.length → l.getD i default ≤ l.getD j default) : ∀ {k : Nat}, k ≤ l.length → (dd l k).Pairwise (· < ·)
  | 0, _ => List.Pairwise.nil
  | k + 1, hk => by
    have ih := dd_asc hs (k := k) (by omega)
    rw [dd, List.pairwise_append]
    refine ⟨ih, by split <;> simp, fun x hx y hy => ?_⟩
    split at hy
    · rename_i c
      rw [List.mem_singleton] at hy
      subst hy
      obtain ⟨j, h1, rfl⟩ := (dd_mem (by omega) x).1 hx
      rcases c with c | c
      · omega
      · have a1 : l.getD j default ≤ l.getD (k - 1) default := by
          by_cases e : j = k - 1
          · rw [e]; exact Int.le_refl _
          · exact hs j (k - 1) (by omega) (by omega)
        have a2 := hs (k - 1) k (by omega) (by omega)
        omega
    · simp at hy
theorem vals_asc (l : List (List Int)) (p o : Nat) : (vals l p o).Pairwise (· < ·) := by
  unfold vals
  rw [List.pairwise_map]
  exact (List.Pairwise.filter _ List.pairwise_lt_range).imp (fun h => Int.ofNat_lt.2 h)
theorem asc_unique {a b : List Int} (ha : a.Pairwise (· < ·)) (hb : b.Pairwise (· < ·)) (h : ∀ x, x ∈ a ↔ x ∈ b) : a = b := by
  have na : a.Nodup := ha.imp (fun h => by omega)
  have nb : b.Nodup := hb.imp (fun h => by omega)
  have hp : a.Perm b := (List.perm_ext_iff_of_nodup na nb).2 h
  exact List.Perm.eq_of_pairwise (fun x y _ _ h1 h2 => by omega) ha hb hp
theorem vals_dd {l : List (List Int)} {p o : Nat} {M : List Int} (hM : M.Perm (l.map fun w => w.getD p default)) (hs : M.Pairwise (· ≤ ·)) (hr : ∀ w ∈ l, 0 ≤ w.getD p default ∧ w.getD p default < o) : dd M M.length = vals l p o := by
  refine asc_unique (dd_asc (fun i j h1 h2 => ?_) (Nat.le_refl _)) (vals_asc l p o) (fun x => ?_)
  · have := List.pairwise_iff_getElem.1 hs i j (by omega) h2 h1
    simpa [List.getD, h2, show i < M.length by omega] using this
  · rw [dd_mem (Nat.le_refl _)]
    have e : (∃ j, j < M.length ∧ M.getD j default = x) ↔ x ∈ M := by
      constructor
      · rintro ⟨j, h1, rfl⟩; exact mem_getD h1
      · intro h
        obtain ⟨j, hj, rfl⟩ := List.getElem_of_mem h
        exact ⟨j, hj, by simp [List.getD, hj]⟩
    rw [e, hM.mem_iff, List.mem_map]
    unfold vals
    rw [List.mem_map]
    constructor
    · rintro ⟨w, hw, rfl⟩
      have := hr w hw
      refine ⟨(w.getD p default).toNat, ?_, by show ((w.getD p default).toNat : Int) = _; omega⟩
      rw [List.mem_filter, List.mem_range]
      refine ⟨by omega, ?_⟩
      unfold inV
      rw [List.any_eq_true]
      exact ⟨w, hw, decide_eq_true (by omega)⟩
    · rintro ⟨v, hv, rfl⟩
      rw [List.mem_filter, List.mem_range] at hv
      have h2 := hv.2
      unfold inV at h2
      rw [List.any_eq_true] at h2
      obtain ⟨w, hw, h3⟩ := h2
      exact ⟨w, hw, of_decide_eq_true h3⟩
def domT (t : TaskV) (i f p : Int) : List Int × Int := if placeE t i f ≠ 0 then ([], placeE t i f) else if p < 0 ∨ t.n ≤ p then ([], 2) else (vals (allowV (pickC t i) f) p.toNat t.outs.toNat, 0)
theorem snapNilV {H : Hp} (e : Int) : Snap H (.tup [.esl, .int .i64 e]) (.tup [encV [], .int .i64 e]) := snap_tup (snapL_cons (.eslsl 1) (snapL_cons (.int _ _) snapL_nil))
attribute [local irreducible] awp2 aops2 ains aloop athen bbind obind gbind acond res1 Go.Abs.Fn PCall Go.Abs.Pure SnapArgs SnapL Yl

theorem domainR (t : TaskV) (i f p : Int) (hs : ∀ c ∈ t.cases, ShC c) (hsc : Sh t.cases) : Pure Tryz.prog 22 [encT t, .int .i64 i, .int .i64 f, .int .i64 p] (.tup [encV (domT t i f p).1, .int .i64 (domT t i f p).2]) := by
  refine Pure.of_c2 follows is22 (Nat.le_of_ble_eq_true rfl) ?_
  simp only [b22, cO, cG, cN, cM, cD, cF, cB, cFal, cTru]
  have hsc' : t.cases.length ≤ 17592186044416 := hsc
  have hc := placeR t i f hs hsc
  have d2 := encT_dat t
  by_cases he : placeE t i f = 0
  rotate_left
  · have e : domT t i f p = ([], placeE t i f) := by unfold domT; rw [if_pos he]
    rw [e]
    generalize placeE t i f = C at *
    unfold encT at hc d2
    rw [show encT t = .agg [.int .i64 t.n, .int .i64 t.ins, .int .i64 t.outs, encCs t.cases] from rfl]
    (have zz := aI @encCs_one (aI @encCs_cells @alenS_encCs); repeat' (first | apply w_seq | apply w_ops0 | apply w_ret | apply a_n | apply a_r | apply o_nil | refine vZ ?_ | refine cZ ?_ (hp := hc) | refine bxZ ?_ | (refine cdZ ?_ ?_ <;> (intro _hg; (try simp only [ZB] at _hg); try first | exact absurd trivial _hg | (exfalso; omega))) | refine e_ends rfl ?_ | refine r2Z ?_ | fail)) <;> (try clear zz)
    exact snapNilV _
  obtain ⟨e0, e1, e2, e3⟩ := placeE_0 he
  obtain ⟨k, rfl⟩ : ∃ k : Nat, i = k := ⟨i.toNat, by omega⟩
  have hk : k < t.cases.length := by omega
  have hm := mem_getD hk
  have ht := (check_parts e0).1
  have e : domT t k f p = if p < 0 ∨ t.n ≤ p then ([], 2) else (vals (allowV (t.cases.getD k default) f) p.toNat t.outs.toNat, 0) := by unfold domT; rw [if_neg (fun h => h he)]; rfl
  rw [e]
  rw [he] at hc
  have ix := aixS_encCs hk
  have hav := (allow_vecs (f := f) e0 hk).2
  obtain ⟨s1, s2, s3, s4, s5⟩ := hs _ hm
  by_cases hp : p < 0 ∨ t.n ≤ p
  · rw [if_pos hp]
    unfold encT at hc d2
    rw [show encT t = .agg [.int .i64 t.n, .int .i64 t.ins, .int .i64 t.outs, encCs t.cases] from rfl]
    (have zz := aI @encCs_one (aI @encCs_cells @alenS_encCs); repeat' (first | apply w_seq | apply w_ops0 | apply w_skip | apply w_ret | apply a_n | apply a_r | apply o_nil | refine vZ ?_ | refine cZ ?_ (hp := hc) | refine bxZ ?_ | refine gTZ ?_ | refine gFZ ?_ | refine cTZ ?_ | ((first | refine gBZ ?_ ?_ | refine cdZ ?_ ?_) <;> (intro _hg; (try simp only [ZB] at _hg); try first | exact absurd trivial _hg | (exfalso; omega))) | refine e_ends rfl ?_ | refine r2Z ?_ | fail)) <;> (try clear zz)
    all_goals exact snapNilV _
  rw [if_neg hp]
  obtain ⟨q, rfl⟩ : ∃ q : Nat, p = q := ⟨p.toNat, by omega⟩
  obtain ⟨o, hoo⟩ : ∃ o : Nat, t.outs = o := ⟨t.outs.toNat, by omega⟩
  rw [hoo, Int.toNat_natCast, Int.toNat_natCast]
  generalize t.cases.getD k default = c at *
  have sA : Sh (allowV c f) ∧ ∀ v ∈ allowV c f, Sh v := by
    unfold allowV
    split
    · exact ⟨s4, s5⟩
    · exact ⟨s2, s3⟩
  have hB := valuesR_c (allowV c f) q o (by omega) sA.1 (fun w hw => ⟨by have := (hav w hw).1; omega, sA.2 w hw⟩)
  have ha2 := vectorsR_c c f
  have d3 : Dat (.agg [encV c.inp, encVV c.out, encVV c.calm]) := encC_dat c
  clear hav hm hs
  unfold encT at hc d2
  rw [show encT t = .agg [.int .i64 t.n, .int .i64 t.ins, .int .i64 t.outs, encCs t.cases] from rfl]
  rw [hoo] at hc d2 ⊢
  (have zz := aI @encCs_one (aI @encCs_cells (aI @alenS_encCs @ix)); repeat' (first | apply w_seq | apply w_ops0 | apply w_mixS1 | apply w_skip | apply w_ret | apply a_n | apply o_nil | refine vZ ?_ | refine cZ ?_ (hp := by first | exact hc | exact ha2 | exact hB) | refine bxZ ?_ | refine gTZ ?_ | ((first | refine gBZ ?_ ?_ | refine cdZ ?_ ?_) <;> (intro _hg; (try simp only [ZB] at _hg); try first | exact absurd trivial _hg | (exfalso; omega))) | refine e_ends rfl ?_ | refine r2Z ?_ | fail)) <;> (try clear zz)
  exact snap_tup (snapL_cons (Dat.snap (encV_dat _)) (snapL_cons (.int _ _) snapL_nil))
end Go.Proofs.YtbiikomnhkbblaaGreat

/- T26: contracts of functions and plain laws; for all inputs that the theorems name. -/
namespace Go.Proofs.YtbiikomnhkbblaaGreat
open Go Go.Abs
open Nat (reduceEqDiff reduceAdd reduceLeDiff)
attribute [local irreducible] awp2 aops2 ains aloop athen bbind obind gbind acond res1 Go.Abs.Fn PCall Go.Abs.Pure SnapArgs SnapL Yl

theorem domain_c (t : TaskV) (i f p : Int) (hs : ∀ c ∈ t.cases, ShC c) (hsc : Sh t.cases) (hq : ∀ c ∈ t.cases, c.out.length ≤ 100000 ∧ c.calm.length ≤ 100000) : Pure Tryz.prog 21 [encT t, .int .i64 i, .int .i64 f, .int .i64 p] (.tup [encV (domT t i f p).1, .int .i64 (domT t i f p).2]) := by
  refine Pure.of_c2 follows is21 (Nat.le_of_ble_eq_true rfl) ?_
  simp only [b21, cO, cG, cN, cM, cD, cF, cB, cFal, cTru]
  have hsc' : t.cases.length ≤ 17592186044416 := hsc
  have hc := place_c t i f hs hsc
  have d2 := encT_dat t
  by_cases he : placeE t i f = 0
  rotate_left
  · have e : domT t i f p = ([], placeE t i f) := by unfold domT; rw [if_pos he]
    rw [e]
    generalize placeE t i f = C at *
    unfold encT at hc d2
    rw [show encT t = .agg [.int .i64 t.n, .int .i64 t.ins, .int .i64 t.outs, encCs t.cases] from rfl]
    (have zz := aI @encCs_one (aI @encCs_cells @alenS_encCs); repeat' (first | apply w_seq | apply w_ops0 | apply w_ret | apply a_n | apply a_r | apply o_nil | refine vZ ?_ | refine cZ ?_ (hp := hc) | refine bxZ ?_ | (refine cdZ ?_ ?_ <;> (intro _hg; (try simp only [ZB] at _hg); try first | exact absurd trivial _hg | (exfalso; omega))) | refine e_ends rfl ?_ | refine r2Z ?_ | fail)) <;> (try clear zz)
    exact snapNilV _
  obtain ⟨e0, e1, e2, e3⟩ := placeE_0 he
  obtain ⟨k, rfl⟩ : ∃ k : Nat, i = k := ⟨i.toNat, by omega⟩
  have hk : k < t.cases.length := by omega
  have hm := mem_getD hk
  have ht := (check_parts e0).1
  have e : domT t k f p = if p < 0 ∨ t.n ≤ p then ([], 2) else (vals (allowV (t.cases.getD k default) f) p.toNat t.outs.toNat, 0) := by unfold domT; rw [if_neg (fun h => h he)]; rfl
  rw [e]
  rw [he] at hc
  have ix := aixS_encCs hk
  obtain ⟨hal, hav⟩ := allow_vecs (f := f) e0 hk
  have hq1 := hq _ hm
  obtain ⟨s1, s2, s3, s4, s5⟩ := hs _ hm
  by_cases hp : p < 0 ∨ t.n ≤ p
  · rw [if_pos hp]
    unfold encT at hc d2
    rw [show encT t = .agg [.int .i64 t.n, .int .i64 t.ins, .int .i64 t.outs, encCs t.cases] from rfl]
    (have zz := aI @encCs_one (aI @encCs_cells @alenS_encCs); repeat' (first | apply w_seq | apply w_ops0 | apply w_skip | apply w_ret | apply a_n | apply a_r | apply o_nil | refine vZ ?_ | refine cZ ?_ (hp := hc) | refine bxZ ?_ | refine gTZ ?_ | refine gFZ ?_ | refine cTZ ?_ | ((first | refine gBZ ?_ ?_ | refine cdZ ?_ ?_) <;> (intro _hg; (try simp only [ZB] at _hg); try first | exact absurd trivial _hg | (exfalso; omega))) | refine e_ends rfl ?_ | refine r2Z ?_ | fail)) <;> (try clear zz)
    all_goals exact snapNilV _
  rw [if_neg hp]
  obtain ⟨q, rfl⟩ : ∃ q : Nat, p = q := ⟨p.toNat, by omega⟩
  obtain ⟨o, hoo⟩ : ∃ o : Nat, t.outs = o := ⟨t.outs.toNat, by omega⟩
  rw [hoo, Int.toNat_natCast, Int.toNat_natCast]
  generalize t.cases.getD k default = c at *
  have sA : (allowV c f).length ≤ 100000 ∧ ∀ v ∈ allowV c f, Sh v := by
    unfold allowV
    split
    · exact ⟨hq1.2, s5⟩
    · exact ⟨hq1.1, s3⟩
  have hr : ∀ w ∈ allowV c f, q < w.length ∧ 0 ≤ w.getD q default ∧ w.getD q default < o := fun w hw => by
    have h := hav w hw
    have hl : q < w.length := by omega
    have := h.2 _ (mem_getD hl)
    exact ⟨hl, by omega, by omega⟩
  have ha2 : Pure Tryz.prog 53 [.agg [encV c.inp, encVV c.out, encVV c.calm], .int .i64 f] (encVV (allowV c f)) := allowed_c c f
  have d3 : Dat (.agg [encV c.inp, encVV c.out, encVV c.calm]) := encC_dat c
  clear hav hm hs hq hq1
  generalize allowV c f = l at *
  obtain ⟨sl1, sl2⟩ := sA
  unfold encT at hc d2
  rw [show encT t = .agg [.int .i64 t.n, .int .i64 t.ins, .int .i64 t.outs, encCs t.cases] from rfl]
  (have zz := aI @encCs_one (aI @encCs_cells (aI @alenS_encCs @ix)); repeat' (first | apply w_seq | apply w_ops0 | apply w_block | apply w_skip | apply a_n | apply o_nil | refine vZ ?_ | refine cZ ?_ (hp := by first | exact hc | exact ha2) | refine bxZ ?_ | refine gTZ ?_ | ((first | refine gBZ ?_ ?_ | refine cdZ ?_ ?_) <;> (intro _hg; (try simp only [ZB] at _hg); try first | exact absurd trivial _hg | (exfalso; omega))) | apply w_loop | fail)) <;> (try clear zz)
  refine loopI (X := AV × Nat) (fun x => [(3, .int .i64 q), (11, x.1), (35, encVV l), (36, .int .i64 l.length), (37, .int .i64 x.2)]) (fun x H nx => x.2 ≤ l.length ∧ Row H 1 x.1 (((l.take x.2).map fun w => w.getD q default).map (AV.int .i64)) ∧ ∀ b, rowB x.1 = some b → b < nx) (fun x => l.length - x.2) (.esl, 0) ⟨Nat.zero_le _, Row.nil, fun b hb => (by cases hb)⟩ (by simp (disch := omega) only [agr, ZG, reduceEqDiff, ↓reduceIte]) ?_
  rintro ⟨s, j⟩ H nx ⟨h1, h2, h3⟩
  dsimp only at h1 h2 h3 ⊢
  by_cases hj : j < l.length
  · have hw := mem_getD hj
    have hw1 := (hr _ hw).1
    have hw2 : (l.getD j default).length ≤ 17592186044416 := sl2 _ hw
    (have zz := @Int.toNat_natCast; repeat' (first | apply w_seq | apply w_ops0 | apply w_block | apply w_skip | apply a_n | apply o_nil | refine vZ ?_ | refine blZ ?_ | (refine cdZ ?_ ?_ <;> (intro _hg; (try simp only [ZB] at _hg); try first | exact absurd trivial _hg | (exfalso; omega))) | fail)) <;> (try clear zz)
    refine e_row rfl (by ((try simp only [simB0, ZA, reduceEqDiff, ↓reduceIte, reduceAdd, reduceLeDiff]); (try with_reducible rfl))) (h2.same fun b hb => ?_) (by ((try simp only [simB0, ZA, reduceEqDiff, ↓reduceIte, reduceAdd, reduceLeDiff]); (try with_reducible rfl))) asrc_one rfl rfl Nat.one_pos (by simp; omega) (by simp; omega) ?_
    · have := h3 b hb
      rw [hupd_ne (by omega)]
    rintro s2 E e hrow hle1 hle2 hsame hb2
    (have zz := and_self; repeat' (first | apply w_ops0 | apply a_n | apply o_nil | refine vZ ?_ | fail)) <;> (try clear zz)
    refine ⟨(s2, j + 1), by dsimp only; omega, ⟨by dsimp only; omega, ?_, fun b hb => ?_⟩, by simp (disch := omega) only [agr, ZG, reduceEqDiff, ↓reduceIte]⟩
    · dsimp only
      rw [take_succ' hj, List.map_append, List.map_append]
      exact hrow
    · rcases hb2 b hb with h | h
      · have := h3 b h; omega
      · omega
  · rw [List.take_of_length_le (by omega)] at h2
    generalize hL : (l.map fun w => w.getD q default) = L at h2
    have hLl : L.length = l.length := by rw [← hL, List.length_map]
    cases h2' : L with
    | nil => rw [h2'] at hLl; simp at hLl; omega
    | cons z zs =>
    have hrow : ∃ B, s = .msl B L.length 1 0 L.length ∧ H B = some (L.map (AV.int .i64)) ∧ B < nx := by
      generalize hcs : L.map (AV.int .i64) = cs at h2
      cases h2 with
      | nil => rw [h2'] at hcs; simp at hcs
      | box B len cs hb hl =>
        have e : len = L.length := by rw [← hcs, List.length_map] at hl; omega
        subst e
        exact ⟨B, by rw [Nat.mul_one], hb, h3 B rfl⟩
    clear h2'
    obtain ⟨B, rfl, hB, hBn⟩ := hrow
    (have zz := and_self; repeat' (first | apply w_seq | apply w_ops0 | apply w_exit | apply a_n | apply a_x | apply o_nil | refine vZ ?_ | (refine cdZ ?_ ?_ <;> (intro _hg; (try simp only [ZB] at _hg); try first | exact absurd trivial _hg | (exfalso; omega))) | fail)) <;> (try clear zz)
    refine o_callE (by ((try simp only [simB0, ZA, reduceEqDiff, ↓reduceIte, reduceAdd, reduceLeDiff]); (try with_reducible rfl))) (by ((try simp only [simB0, ZA, reduceEqDiff, ↓reduceIte, reduceAdd, reduceLeDiff]); (try with_reducible rfl))) (sortI_c hB hBn rfl (by omega) (by omega)) ?_
    rintro _ H1 n1 ⟨M, hps, hpM, hsM⟩
    have hMl : M.length = L.length := hpM.length_eq
    rw [← hMl]
    (have zz := and_self; repeat' (first | apply w_seq | apply w_ops0 | apply a_n | apply o_nil | refine vZ ?_ | fail)) <;> (try clear zz)
    refine o_callE (by ((try simp only [simB0, ZA, reduceEqDiff, ↓reduceIte, reduceAdd, reduceLeDiff]); (try with_reducible rfl))) (by ((try simp only [simB0, ZA, reduceEqDiff, ↓reduceIte, reduceAdd, reduceLeDiff]); (try with_reducible rfl))) (compact_c M (by show _ ≤ _; omega) (fun h => by rw [h] at hMl; simp at hMl; omega) H1 B n1 hps.at_ (by have := hps.le; omega)) ?_
    rintro _ _ _ ⟨rfl, ⟨C, rfl, hC1, hC2⟩, rfl⟩
    (have zz := and_self; repeat' (first | apply w_ret | apply a_n | apply o_nil | refine vZ ?_ | refine e_ends rfl ?_ | refine r2Z ?_ | fail)) <;> (try clear zz)
    have hv := vals_dd (l := l) (p := q) (o := o) (M := M) (by rw [hL]; exact hpM) hsM (fun w hw => ⟨(hr w hw).2.1, (hr w hw).2.2⟩)
    rw [← hv]
    refine snap_tup (snapL_cons ?_ (snapL_cons (.int _ _) snapL_nil))
    have hdl := dd_len M M.length
    have hle := heads_le M M.length
    refine snap_msl hupd_self' hC1 (by omega) (by rw [List.length_map]; exact hdl) (fun y hy => ?_) (fun i a c h4 h5 => ?_)
    · obtain ⟨n, _, rfl⟩ := List.mem_map.1 hy; rfl
    · rw [Nat.zero_add] at h4
      rw [← hC2, List.getElem?_take] at h5
      split at h5
      · rw [h4] at h5
        obtain rfl := Option.some.inj h5
        have hmem : a ∈ (dd M M.length).map (AV.int .i64) := by
          rw [← hC2]
          exact List.mem_of_getElem? (i := i) (by rw [List.getElem?_take, if_pos ‹_›]; exact h4)
        obtain ⟨n, _, rfl⟩ := List.mem_map.1 hmem
        exact .int _ _
      · cases h5
end Go.Proofs.YtbiikomnhkbblaaGreat

/- T27: contracts of functions and plain laws; for all inputs that the theorems name. -/
namespace Go.Proofs.YtbiikomnhkbblaaGreat
open Go Go.Abs

structure PlaceV where
  index : Int
  faulty : Int
  proc : Int
  outs : List Int
def encP (x : PlaceV) : AV := .agg [.int .i64 x.index, .int .i64 x.faulty, .int .i64 x.proc, encV x.outs]
theorem few_q {t : TaskV} (hf : fewT t = true) : t.cases.length ≤ 30 ∧ ∀ c ∈ t.cases, c.out.length ≤ 100000 ∧ c.calm.length ≤ 100000 := by
  unfold fewT at hf
  rw [Bool.and_eq_true, decide_eq_true_iff, List.all_eq_true] at hf
  refine ⟨hf.1, fun c hc => ?_⟩
  have := hf.2 c hc
  unfold fewC fewVs at this
  simp only [Bool.and_eq_true, decide_eq_true_iff] at this
  omega
attribute [local irreducible] awp2 aops2 ains aloop athen bbind obind gbind acond res1 Go.Abs.Fn PCall Go.Abs.Pure SnapArgs SnapL Yl

theorem law_allows (t : TaskV) (x : PlaceV) (hs : ∀ c ∈ t.cases, ShC c) (hsc : Sh t.cases) (ho : Sh x.outs) : Pure Tryz.prog 4 [encT t, encP x] (.bool true) := by
  obtain ⟨i, f, p, outs⟩ := x
  refine Pure.of_c2 follows is4 (Nat.le_of_ble_eq_true rfl) ?_
  simp only [b4, cO, cG, cN, cM, cD, cF, cB, cFal, cTru]
  have haw := awake_c
  have hfw := fewR t hs hsc
  have d2 := encT_dat t
  have ho' : outs.length ≤ 17592186044416 := ho
  have c2 := allowedR t i f hs hsc
  have c4 := permittedR t i f outs hs hsc ho
  have c6 := domainR t i f p hs hsc
  by_cases hF : fewT t = true ∧ outs.length ≤ 20
  rotate_left
  · unfold encT at *
    unfold encP
    dsimp only
    cases hf : fewT t with
    | false =>
      rw [hf] at hfw
      (have zz := aI @encCs_one @encCs_cells; repeat' (first | apply w_seq | apply w_ops0 | apply w_ret | apply a_n | apply a_r | apply o_nil | refine vZ ?_ | refine cZ ?_ (hp := by first | exact haw | exact hfw) | refine bxZ ?_ | refine gFZ ?_ | refine cTZ ?_ | refine e_ends rfl ?_ | refine r1Z ?_ | fail)) <;> (try clear zz)
      all_goals exact snap_bool rfl
    | true =>
      rw [hf] at hfw
      have dl : decide ((20 : Int) < (outs.length : Int)) = true := decide_eq_true (by have : ¬ outs.length ≤ 20 := fun h => hF ⟨hf, h⟩; omega)
      (have zz := aI @encCs_one (aI @encCs_cells @dl); repeat' (first | apply w_seq | apply w_ops0 | apply w_ret | apply a_n | apply a_r | apply o_nil | refine vZ ?_ | refine cZ ?_ (hp := by first | exact haw | exact hfw) | refine bxZ ?_ | refine gTZ ?_ | refine cTZ ?_ | refine e_ends rfl ?_ | refine r1Z ?_ | fail)) <;> (try clear zz)
      all_goals exact snap_bool rfl
  obtain ⟨hf, h20⟩ := hF
  have hq := (few_q hf).2
  have c1 := allowedT_c t i f hs hsc hq
  have c3 := permitted_c t i f outs hs hsc ho
  have c5 := domain_c t i f p hs hsc hq
  rw [hf] at hfw
  have dl : decide ((20 : Int) < (outs.length : Int)) = false := decide_eq_false (by omega)
  have hsv : Pure Tryz.prog 20 [encVV (allowT t i f), encVV (allowT t i f)] (.bool true) := by
    by_cases he : placeE t i f = 0
    · obtain ⟨e0, e1, e2, e3⟩ := placeE_0 he
      have e : allowT t i f = allowV (t.cases.getD i.toNat default) f := by unfold allowT; rw [if_pos he]; rfl
      have hm := mem_getD (l := t.cases) (k := i.toNat) (by omega)
      obtain ⟨s1, s2, s3, s4, s5⟩ := hs _ hm
      rw [e]
      unfold allowV
      split
      · exact sameVs_r _ s4 s5
      · exact sameVs_r _ s2 s3
    · have e : allowT t i f = [] := by unfold allowT; rw [if_neg he]
      rw [e]
      exact sameVs_r _ (Nat.zero_le _) (fun x hx => by simp at hx)
  have hdl : Sh (domT t i f p).1 := by
    unfold domT
    split
    · exact Nat.zero_le _
    · split
      · exact Nat.zero_le _
      · rename_i h1 h2
        obtain ⟨e0, _⟩ := placeE_0 (Decidable.of_not_not h1)
        have ht := (check_parts e0).1
        have := vals_len (allowV (pickC t i) f) p.toNat t.outs.toNat
        show (vals _ _ _).length ≤ _
        omega
  have heq := equalV_c (domT t i f p).1 (domT t i f p).1 hdl hdl
  rw [decide_eq_true rfl] at heq
  generalize allowT t i f = A at *
  generalize placeE t i f = E1 at *
  generalize permT t i f outs = X at *
  generalize domT t i f p = Y at *
  have z1 : decide (E1 = E1) = true := decide_eq_true rfl
  have z2 : decide (X.2 = X.2) = true := decide_eq_true rfl
  have z3 : decide (Y.2 = Y.2) = true := decide_eq_true rfl
  have z4 : (X.1 == X.1) = true := by simp
  have y1 : decide (E1 ≠ E1) = false := decide_eq_false (fun h => h rfl)
  have y2 : decide (X.2 ≠ X.2) = false := decide_eq_false (fun h => h rfl)
  unfold encT at *
  unfold encP
  dsimp only
  (have zz := aI @encCs_one (aI @encCs_cells (aI @dl (aI @z1 (aI @z2 (aI @z3 (aI @z4 (aI @y1 @y2))))))); repeat' (first | apply w_seq | apply w_ops0 | apply w_skip | apply w_ret | apply a_n | apply o_nil | refine vZ ?_ | refine cZ ?_ (hp := by first | exact haw | exact hfw | exact c1 | exact c2 | exact c3 | exact c4 | exact c5 | exact c6 | exact hsv | exact heq) | refine bxZ ?_ | refine gTZ ?_ | (refine gBZ ?_ ?_ <;> (intro _hg; (try simp only [ZB] at _hg); try first | exact absurd trivial _hg | (exfalso; omega))) | refine cFZ ?_ | refine e_ends rfl ?_ | refine r1Z ?_ | fail)) <;> (try clear zz)
  all_goals first | exact snap_bool rfl | trace_state
end Go.Proofs.YtbiikomnhkbblaaGreat

/- T28: contracts of functions and plain laws; for all inputs that the theorems name. -/
namespace Go.Proofs.YtbiikomnhkbblaaGreat
open Go Go.Abs Go.RowKit

/-! ### the arguments of the laws, opened -/
section
variable {H : Type} {enc : TypeId × Value → H} {W : World}
theorem oPlace : Opens enc Tryz.prog W 37 encP (fun x => Sh x.outs) :=
  (opens_struct Tryz.underlying37 (by kernel_rfl) (opensF_cons (off := 0) (off' := 1) rfl (by kernel_rfl) oi (opensF_cons (off := 1) (off' := 2) rfl (by kernel_rfl) oi (opensF_cons (off := 2) (off' := 3) rfl (by kernel_rfl) oi (opensF_cons (off := 3) (off' := 4) rfl (by kernel_rfl) oL1 opensF_nil))))).map
    (fun a => (⟨a.1, a.2.1, a.2.2.1, a.2.2.2.1⟩ : PlaceV)) (by
      rintro ⟨n, i, o, c, u⟩ ⟨_, _, _, h, _⟩
      exact h) (fun _ _ => rfl)
end
end Go.Proofs.YtbiikomnhkbblaaGreat
