/- Texts of this claim, one after the other: P3, P4, P5, P6, P7, P8, P9. -/
import Derived.Test.YtcbkggfipdldaaaXG4
import Derived.Test.YtcbkggfipdldaaaXG3

/- P3: contracts of functions and plain laws; for all inputs that the theorems name. -/
set_option linter.unusedSimpArgs false
set_option linter.unusedVariables false
namespace Go.Proofs.Ytcbkggfipdldaaa
open Go Go.Abs
attribute [local irreducible] awp2 aops2 ains aloop athen bbind obind gbind acond res1 Go.Abs.Fn PCall Go.Abs.Pure SnapArgs SnapL Yl

/-! ### the conditions of the tasks -/
theorem chosen1_c (l : List Int) (v : Int) (hl : Sh l) : Pure Try.prog 117 [.int .i64 v, .iptr [encV l] 0] (.bool (!decide (v ∈ l))) := by
  refine Pure.of_c2 follows is117 (Nat.le_of_ble_eq_true rfl) ?_
  simp only [b117]
  repeat' (first | refine w_seq ?_ | refine w_ops0 ?_ | refine w_ret ?_ | refine a_n ?_ | refine o_nil ?_ | (apply o_val rfl rfl; (focus ((try simp (disch := omega) only [simB0, simB1, SA, SV, SN, SR, SL, pick_bool, Nat.reduceEqDiff, ↓reduceIte, Nat.reduceAdd, Nat.reduceLeDiff, SO, one_encV, one_encVV, Bool.and_self, Bool.false_eq_true, reduceCtorEq, wrap64, aixS_encV, aixS_encVV, alenS_encV, alenS_encVV, Int.toNat_natCast, List.length_map, aixS_msl, getElem?_map_lt, Nat.mul_one]); first | with_reducible rfl | (apply s_ite; (focus omega); with_reducible rfl)))) | (apply o_callD; (focus ((try simp only [simB0, simB1, SA, SV, SN, SR, SL, pick_bool, Nat.reduceEqDiff, ↓reduceIte, Nat.reduceAdd, Nat.reduceLeDiff]); (try with_reducible rfl); done)); (focus ((try simp only [simB0, simB1, SA, SV, SN, SR, SL, pick_bool, Nat.reduceEqDiff, ↓reduceIte, Nat.reduceAdd, Nat.reduceLeDiff]); (try with_reducible rfl); done)); (focus (first | (exact contains_c _ _ hl))); (focus (first | (apply snap_data; repeat' (first | exact snapL_nil | apply snapL_dat | exact Dat.int | exact Dat.bool | exact Dat.str | exact Dat.esl | exact Dat.nilf | exact encV_dat _ | exact encVV_dat _)) | (apply snap_plain; (focus (repeat' (first | exact snapL_nil | apply snapL_dat | exact Dat.int | exact Dat.bool | exact Dat.str | exact encV_dat _ | exact encVV_dat _))); rfl)))) | (refine e_ends rfl ?_) | (apply r_1; (focus (simp only [rv, simB0, simB1, SA, SV, SN, SR, SL, pick_bool, Nat.reduceEqDiff, ↓reduceIte, Nat.reduceAdd, Nat.reduceLeDiff]; with_reducible rfl))))
  exact .bool _

theorem chosen_c (l m : List Int) (hl : Sh l) (hm : Sh m) : Pure Try.prog 90 [encV l, encV m] (.bool (m.all fun v => decide (v ∈ l))) := by
  refine Pure.of_c2 follows is90 (Nat.le_of_ble_eq_true rfl) ?_
  simp only [b90]
  repeat' (first | refine w_seq ?_ | refine w_ops0 ?_ | refine a_n ?_ | refine o_nil ?_ | (apply o_val rfl rfl; (focus ((try simp (disch := omega) only [simB0, simB1, SA, SV, SN, SR, SL, pick_bool, Nat.reduceEqDiff, ↓reduceIte, Nat.reduceAdd, Nat.reduceLeDiff, SO, one_encV, one_encVV, Bool.and_self, Bool.false_eq_true, reduceCtorEq, wrap64, aixS_encV, aixS_encVV, alenS_encV, alenS_encVV, Int.toNat_natCast, List.length_map, aixS_msl, getElem?_map_lt, Nat.mul_one]); first | with_reducible rfl | (apply s_ite; (focus omega); with_reducible rfl)))) | (apply e_box rfl; (focus ((try simp only [simB0, simB1, SA, SV, SN, SR, SL, pick_bool, Nat.reduceEqDiff, ↓reduceIte, Nat.reduceAdd, Nat.reduceLeDiff]); (try with_reducible rfl); done)); (focus ((try simp only [simB0, simB1, SA, SV, SN, SR, SL, pick_bool, Nat.reduceEqDiff, ↓reduceIte, Nat.reduceAdd, Nat.reduceLeDiff]); (try with_reducible rfl); done)); (focus (simp only [SO, Bool.and_self, one_encV, one_encVV]))))
  refine o_callP (by ((try simp only [simB0, simB1, SA, SV, SN, SR, SL, pick_bool, Nat.reduceEqDiff, ↓reduceIte, Nat.reduceAdd, Nat.reduceLeDiff]); (try with_reducible rfl))) (by ((try simp only [simB0, simB1, SA, SV, SN, SR, SL, pick_bool, Nat.reduceEqDiff, ↓reduceIte, Nat.reduceAdd, Nat.reduceLeDiff]); (try with_reducible rfl))) (containsF_c m (fun v => !decide (v ∈ l)) 117 [.iptr [encV l] 0] (DatL.cons (Dat.iptr (DatL.cons (encV_dat _) DatL.nil)) DatL.nil) (fun x _ => chosen1_c l x hl) hm) (snap_plain (by (repeat' (first | exact snapL_nil | exact Dat.snap Dat.int | exact Dat.snap Dat.bool | exact Dat.snap Dat.str | exact Dat.snap Dat.esl | exact Dat.snap Dat.nilf | exact Dat.snap (encV_dat _) | exact Dat.snap (encVV_dat _) | apply snapL_cons | apply snap_func | apply snap_iptr | (apply snap_ptr; (focus ((try simp only [simB0, simB1, SA, SV, SN, SR, SL, pick_bool, Nat.reduceEqDiff, ↓reduceIte, Nat.reduceAdd, Nat.reduceLeDiff]); with_reducible rfl)); (focus rfl))))) rfl) ?_
  repeat' (first | refine w_ret ?_ | refine a_n ?_ | refine o_nil ?_ | (apply o_val rfl rfl; (focus ((try simp (disch := omega) only [simB0, simB1, SA, SV, SN, SR, SL, pick_bool, Nat.reduceEqDiff, ↓reduceIte, Nat.reduceAdd, Nat.reduceLeDiff, SO, one_encV, one_encVV, Bool.and_self, Bool.false_eq_true, reduceCtorEq, wrap64, aixS_encV, aixS_encVV, alenS_encV, alenS_encVV, Int.toNat_natCast, List.length_map, aixS_msl, getElem?_map_lt, Nat.mul_one]); first | with_reducible rfl | (apply s_ite; (focus omega); with_reducible rfl)))) | (refine e_ends rfl ?_) | (apply r_1; (focus (simp only [rv, simB0, simB1, SA, SV, SN, SR, SL, pick_bool, Nat.reduceEqDiff, ↓reduceIte, Nat.reduceAdd, Nat.reduceLeDiff]; with_reducible rfl))))
  refine snap_bool ?_
  rw [List.not_any_eq_all_not]; simp

theorem agreement1_c (k : Int) (l m : List Int) (hl : Sh l) (hm : Sh m) : Pure Try.prog 89 [encV l, encV m, .iptr [.int .i64 k] 0] (.bool (decide ((kinds m).length ≤ max k 1) && m.all fun v => decide (v ∈ l))) := by
  refine Pure.of_c2 follows is89 (Nat.le_of_ble_eq_true rfl) ?_
  simp only [b89]
  repeat' (first | refine w_seq ?_ | refine w_ops0 ?_ | refine w_ops1 ?_ | refine w_ret ?_ | refine a_n ?_ | refine o_nil ?_ | (apply o_val rfl rfl; (focus ((try simp (disch := omega) only [simB0, simB1, SA, SV, SN, SR, SL, pick_bool, Nat.reduceEqDiff, ↓reduceIte, Nat.reduceAdd, Nat.reduceLeDiff, SO, one_encV, one_encVV, Bool.and_self, Bool.false_eq_true, reduceCtorEq, wrap64, aixS_encV, aixS_encVV, alenS_encV, alenS_encVV, Int.toNat_natCast, List.length_map, aixS_msl, getElem?_map_lt, Nat.mul_one]); first | with_reducible rfl | (apply s_ite; (focus omega); with_reducible rfl)))) | (apply o_callD; (focus ((try simp only [simB0, simB1, SA, SV, SN, SR, SL, pick_bool, Nat.reduceEqDiff, ↓reduceIte, Nat.reduceAdd, Nat.reduceLeDiff]); (try with_reducible rfl); done)); (focus ((try simp only [simB0, simB1, SA, SV, SN, SR, SL, pick_bool, Nat.reduceEqDiff, ↓reduceIte, Nat.reduceAdd, Nat.reduceLeDiff]); (try with_reducible rfl); done)); (focus (first | (exact different_c _ hm) | (exact chosen_c _ _ hl hm))); (focus (first | (apply snap_data; repeat' (first | exact snapL_nil | apply snapL_dat | exact Dat.int | exact Dat.bool | exact Dat.str | exact Dat.esl | exact Dat.nilf | exact encV_dat _ | exact encVV_dat _)) | (apply snap_plain; (focus (repeat' (first | exact snapL_nil | apply snapL_dat | exact Dat.int | exact Dat.bool | exact Dat.str | exact encV_dat _ | exact encVV_dat _))); rfl)))) | (apply o_gT; (focus (simp only [simB0, simB1, SA, SV, SN, SR, SL, pick_bool, Nat.reduceEqDiff, ↓reduceIte, Nat.reduceAdd, Nat.reduceLeDiff]; done))) | (apply o_gF; (focus (simp only [simB0, simB1, SA, SV, SN, SR, SL, pick_bool, Nat.reduceEqDiff, ↓reduceIte, Nat.reduceAdd, Nat.reduceLeDiff, or_true, true_or]; done))) | (apply o_gB; (focus ((try simp only [simB0, simB1, SA, SV, SN, SR, SL, pick_bool, Nat.reduceEqDiff, ↓reduceIte, Nat.reduceAdd, Nat.reduceLeDiff]); (try with_reducible rfl); done)); all_goals (intro _hg; (try simp only [Bool.not_true, Bool.not_false, Bool.not_eq_true', Bool.not_eq_false', Bool.not_not, decide_eq_true_eq, decide_eq_false_iff_not] at _hg); try (exfalso; omega))) | (refine e_ends rfl ?_) | (apply r_1; (focus (simp only [rv, simB0, simB1, SA, SV, SN, SR, SL, pick_bool, Nat.reduceEqDiff, ↓reduceIte, Nat.reduceAdd, Nat.reduceLeDiff]; with_reducible rfl))))
  all_goals (refine snap_bool ?_; simp [_hg])

theorem approx1_c (steps : Int) (l m : List Int) (hl : Sh l) (hm : Sh m) (h0 : l ≠ []) (h1 : m ≠ []) : Pure Try.prog 47 [encV l, encV m, .iptr [.int .i64 steps] 0]
    (.bool (if (kinds l).length = 1 then eqv m (IntKind.wrap .i64 (l.getD 0 default * steps)) else decide (IntKind.wrap .i64 (m.foldl max (m.getD 0 default) - m.foldl min (m.getD 0 default)) ≤ 1))) := by
  refine Pure.of_c2 follows is47 (Nat.le_of_ble_eq_true rfl) ?_
  simp only [b47]
  have := List.length_pos_iff.2 h0
  repeat' (first | refine w_seq ?_ | refine w_ops0 ?_ | refine w_ops1 ?_ | refine w_skip ?_ | refine w_ret ?_ | refine a_n ?_ | refine a_r ?_ | refine o_nil ?_ | (apply o_val rfl rfl; (focus ((try simp (disch := omega) only [simB0, simB1, SA, SV, SN, SR, SL, pick_bool, Nat.reduceEqDiff, ↓reduceIte, Nat.reduceAdd, Nat.reduceLeDiff, SO, one_encV, one_encVV, Bool.and_self, Bool.false_eq_true, reduceCtorEq, wrap64, aixS_encV, aixS_encVV, alenS_encV, alenS_encVV, Int.toNat_natCast, List.length_map, aixS_msl, getElem?_map_lt, Nat.mul_one]); first | with_reducible rfl | (apply s_ite; (focus omega); with_reducible rfl)))) | (apply o_callD; (focus ((try simp only [simB0, simB1, SA, SV, SN, SR, SL, pick_bool, Nat.reduceEqDiff, ↓reduceIte, Nat.reduceAdd, Nat.reduceLeDiff]); (try with_reducible rfl); done)); (focus ((try simp only [simB0, simB1, SA, SV, SN, SR, SL, pick_bool, Nat.reduceEqDiff, ↓reduceIte, Nat.reduceAdd, Nat.reduceLeDiff]); (try with_reducible rfl); done)); (focus (first | (exact different_c _ hl) | (exact equal_c _ _ hm) | (exact max_c _ hm h1) | (exact min_c _ hm h1))); (focus (first | (apply snap_data; repeat' (first | exact snapL_nil | apply snapL_dat | exact Dat.int | exact Dat.bool | exact Dat.str | exact Dat.esl | exact Dat.nilf | exact encV_dat _ | exact encVV_dat _)) | (apply snap_plain; (focus (repeat' (first | exact snapL_nil | apply snapL_dat | exact Dat.int | exact Dat.bool | exact Dat.str | exact encV_dat _ | exact encVV_dat _))); rfl)))) | (apply w_cond; (focus ((try simp only [simB0, simB1, SA, SV, SN, SR, SL, pick_bool, Nat.reduceEqDiff, ↓reduceIte, Nat.reduceAdd, Nat.reduceLeDiff]); (try with_reducible rfl); done)); all_goals (intro _hg; (try simp only [Bool.not_eq_true', Bool.not_eq_false', Bool.not_not, decide_eq_true_eq, decide_eq_false_iff_not] at _hg); try (exfalso; omega))) | (refine e_ends rfl ?_) | (apply r_1; (focus (simp only [rv, simB0, simB1, SA, SV, SN, SR, SL, pick_bool, Nat.reduceEqDiff, ↓reduceIte, Nat.reduceAdd, Nat.reduceLeDiff]; with_reducible rfl))))
  all_goals (refine snap_bool ?_)
  · rw [if_pos (by omega), Int.toNat_zero]
  · rw [if_neg (by omega)]

theorem renaming1_c (l : List Int) (hl : Sh l) : Pure Try.prog 76 [encV l] (.bool (decide ((kinds l).length = l.length))) := by
  refine Pure.of_c2 follows is76 (Nat.le_of_ble_eq_true rfl) ?_
  simp only [b76]
  repeat' (first | refine w_seq ?_ | refine w_ops0 ?_ | refine w_ret ?_ | refine a_n ?_ | refine o_nil ?_ | (apply o_val rfl rfl; (focus ((try simp (disch := omega) only [simB0, simB1, SA, SV, SN, SR, SL, pick_bool, Nat.reduceEqDiff, ↓reduceIte, Nat.reduceAdd, Nat.reduceLeDiff, SO, one_encV, one_encVV, Bool.and_self, Bool.false_eq_true, reduceCtorEq, wrap64, aixS_encV, aixS_encVV, alenS_encV, alenS_encVV, Int.toNat_natCast, List.length_map, aixS_msl, getElem?_map_lt, Nat.mul_one]); first | with_reducible rfl | (apply s_ite; (focus omega); with_reducible rfl)))) | (apply o_callD; (focus ((try simp only [simB0, simB1, SA, SV, SN, SR, SL, pick_bool, Nat.reduceEqDiff, ↓reduceIte, Nat.reduceAdd, Nat.reduceLeDiff]); (try with_reducible rfl); done)); (focus ((try simp only [simB0, simB1, SA, SV, SN, SR, SL, pick_bool, Nat.reduceEqDiff, ↓reduceIte, Nat.reduceAdd, Nat.reduceLeDiff]); (try with_reducible rfl); done)); (focus (first | (exact different_c _ hl))); (focus (first | (apply snap_data; repeat' (first | exact snapL_nil | apply snapL_dat | exact Dat.int | exact Dat.bool | exact Dat.str | exact Dat.esl | exact Dat.nilf | exact encV_dat _ | exact encVV_dat _)) | (apply snap_plain; (focus (repeat' (first | exact snapL_nil | apply snapL_dat | exact Dat.int | exact Dat.bool | exact Dat.str | exact encV_dat _ | exact encVV_dat _))); rfl)))) | (refine e_ends rfl ?_) | (apply r_1; (focus (simp only [rv, simB0, simB1, SA, SV, SN, SR, SL, pick_bool, Nat.reduceEqDiff, ↓reduceIte, Nat.reduceAdd, Nat.reduceLeDiff]; with_reducible rfl))))
  all_goals (refine snap_bool ?_; simp only [Int.ofNat_inj])

theorem renaming2_c (l m : List Int) (hm : Sh m) : Pure Try.prog 77 [encV l, encV m] (.bool (decide ((kinds m).length = m.length))) := by
  refine Pure.of_c2 follows is77 (Nat.le_of_ble_eq_true rfl) ?_
  simp only [b77]
  repeat' (first | refine w_seq ?_ | refine w_ops0 ?_ | refine w_ret ?_ | refine a_n ?_ | refine o_nil ?_ | (apply o_val rfl rfl; (focus ((try simp (disch := omega) only [simB0, simB1, SA, SV, SN, SR, SL, pick_bool, Nat.reduceEqDiff, ↓reduceIte, Nat.reduceAdd, Nat.reduceLeDiff, SO, one_encV, one_encVV, Bool.and_self, Bool.false_eq_true, reduceCtorEq, wrap64, aixS_encV, aixS_encVV, alenS_encV, alenS_encVV, Int.toNat_natCast, List.length_map, aixS_msl, getElem?_map_lt, Nat.mul_one]); first | with_reducible rfl | (apply s_ite; (focus omega); with_reducible rfl)))) | (apply o_callD; (focus ((try simp only [simB0, simB1, SA, SV, SN, SR, SL, pick_bool, Nat.reduceEqDiff, ↓reduceIte, Nat.reduceAdd, Nat.reduceLeDiff]); (try with_reducible rfl); done)); (focus ((try simp only [simB0, simB1, SA, SV, SN, SR, SL, pick_bool, Nat.reduceEqDiff, ↓reduceIte, Nat.reduceAdd, Nat.reduceLeDiff]); (try with_reducible rfl); done)); (focus (first | (exact different_c _ hm))); (focus (first | (apply snap_data; repeat' (first | exact snapL_nil | apply snapL_dat | exact Dat.int | exact Dat.bool | exact Dat.str | exact Dat.esl | exact Dat.nilf | exact encV_dat _ | exact encVV_dat _)) | (apply snap_plain; (focus (repeat' (first | exact snapL_nil | apply snapL_dat | exact Dat.int | exact Dat.bool | exact Dat.str | exact encV_dat _ | exact encVV_dat _))); rfl)))) | (refine e_ends rfl ?_) | (apply r_1; (focus (simp only [rv, simB0, simB1, SA, SV, SN, SR, SL, pick_bool, Nat.reduceEqDiff, ↓reduceIte, Nat.reduceAdd, Nat.reduceLeDiff]; with_reducible rfl))))
  all_goals (refine snap_bool ?_; simp only [Int.ofNat_inj])

theorem crusader11_c (v w : Int) : Pure Try.prog 56 [.int .i64 v, .iptr [.int .i64 w] 0] (.bool (decide (v = w))) := by
  refine Pure.of_c2 follows is56 (Nat.le_of_ble_eq_true rfl) ?_
  simp only [b56]
  repeat' (first | refine w_seq ?_ | refine w_ops0 ?_ | refine w_ret ?_ | refine a_n ?_ | refine o_nil ?_ | (apply o_val rfl rfl; (focus ((try simp (disch := omega) only [simB0, simB1, SA, SV, SN, SR, SL, pick_bool, Nat.reduceEqDiff, ↓reduceIte, Nat.reduceAdd, Nat.reduceLeDiff, SO, one_encV, one_encVV, Bool.and_self, Bool.false_eq_true, reduceCtorEq, wrap64, aixS_encV, aixS_encVV, alenS_encV, alenS_encVV, Int.toNat_natCast, List.length_map, aixS_msl, getElem?_map_lt, Nat.mul_one]); first | with_reducible rfl | (apply s_ite; (focus omega); with_reducible rfl)))) | (refine e_ends rfl ?_) | (apply r_1; (focus (simp only [rv, simB0, simB1, SA, SV, SN, SR, SL, pick_bool, Nat.reduceEqDiff, ↓reduceIte, Nat.reduceAdd, Nat.reduceLeDiff]; with_reducible rfl))))
  exact .bool _

theorem crusader2_c (l m : List Int) (h0 : l ≠ []) (hl : Sh l) (hm : Sh m) : Pure Try.prog 57 [encV l, encV m] (.bool (eqv m (l.getD 0 default))) := by
  refine Pure.of_c2 follows is57 (Nat.le_of_ble_eq_true rfl) ?_
  simp only [b57]
  have := List.length_pos_iff.2 h0
  repeat' (first | refine w_seq ?_ | refine w_ops0 ?_ | refine w_ret ?_ | refine a_n ?_ | refine o_nil ?_ | (apply o_val rfl rfl; (focus ((try simp (disch := omega) only [simB0, simB1, SA, SV, SN, SR, SL, pick_bool, Nat.reduceEqDiff, ↓reduceIte, Nat.reduceAdd, Nat.reduceLeDiff, SO, one_encV, one_encVV, Bool.and_self, Bool.false_eq_true, reduceCtorEq, wrap64, aixS_encV, aixS_encVV, alenS_encV, alenS_encVV, Int.toNat_natCast, List.length_map, aixS_msl, getElem?_map_lt, Nat.mul_one]); first | with_reducible rfl | (apply s_ite; (focus omega); with_reducible rfl)))) | (apply o_callD; (focus ((try simp only [simB0, simB1, SA, SV, SN, SR, SL, pick_bool, Nat.reduceEqDiff, ↓reduceIte, Nat.reduceAdd, Nat.reduceLeDiff]); (try with_reducible rfl); done)); (focus ((try simp only [simB0, simB1, SA, SV, SN, SR, SL, pick_bool, Nat.reduceEqDiff, ↓reduceIte, Nat.reduceAdd, Nat.reduceLeDiff]); (try with_reducible rfl); done)); (focus (first | (exact equal_c _ _ hm))); (focus (first | (apply snap_data; repeat' (first | exact snapL_nil | apply snapL_dat | exact Dat.int | exact Dat.bool | exact Dat.str | exact Dat.esl | exact Dat.nilf | exact encV_dat _ | exact encVV_dat _)) | (apply snap_plain; (focus (repeat' (first | exact snapL_nil | apply snapL_dat | exact Dat.int | exact Dat.bool | exact Dat.str | exact encV_dat _ | exact encVV_dat _))); rfl)))) | (refine e_ends rfl ?_) | (apply r_1; (focus (simp only [rv, simB0, simB1, SA, SV, SN, SR, SL, pick_bool, Nat.reduceEqDiff, ↓reduceIte, Nat.reduceAdd, Nat.reduceLeDiff]; with_reducible rfl))))
  rw [Int.toNat_zero]; exact .bool _

theorem commit1_c (l : List Int) (h0 : l ≠ []) (hl : Sh l) : Pure Try.prog 61 [encV l] (.int .i64 (l.foldl min (l.getD 0 default))) := by
  refine Pure.of_c2 follows is61 (Nat.le_of_ble_eq_true rfl) ?_
  simp only [b61]
  repeat' (first | refine w_seq ?_ | refine w_ops0 ?_ | refine w_ret ?_ | refine a_n ?_ | refine o_nil ?_ | (apply o_val rfl rfl; (focus ((try simp (disch := omega) only [simB0, simB1, SA, SV, SN, SR, SL, pick_bool, Nat.reduceEqDiff, ↓reduceIte, Nat.reduceAdd, Nat.reduceLeDiff, SO, one_encV, one_encVV, Bool.and_self, Bool.false_eq_true, reduceCtorEq, wrap64, aixS_encV, aixS_encVV, alenS_encV, alenS_encVV, Int.toNat_natCast, List.length_map, aixS_msl, getElem?_map_lt, Nat.mul_one]); first | with_reducible rfl | (apply s_ite; (focus omega); with_reducible rfl)))) | (apply o_callD; (focus ((try simp only [simB0, simB1, SA, SV, SN, SR, SL, pick_bool, Nat.reduceEqDiff, ↓reduceIte, Nat.reduceAdd, Nat.reduceLeDiff]); (try with_reducible rfl); done)); (focus ((try simp only [simB0, simB1, SA, SV, SN, SR, SL, pick_bool, Nat.reduceEqDiff, ↓reduceIte, Nat.reduceAdd, Nat.reduceLeDiff]); (try with_reducible rfl); done)); (focus (first | (exact min_c _ hl h0))); (focus (first | (apply snap_data; repeat' (first | exact snapL_nil | apply snapL_dat | exact Dat.int | exact Dat.bool | exact Dat.str | exact Dat.esl | exact Dat.nilf | exact encV_dat _ | exact encVV_dat _)) | (apply snap_plain; (focus (repeat' (first | exact snapL_nil | apply snapL_dat | exact Dat.int | exact Dat.bool | exact Dat.str | exact encV_dat _ | exact encVV_dat _))); rfl)))) | (refine e_ends rfl ?_) | (apply r_1; (focus (simp only [rv, simB0, simB1, SA, SV, SN, SR, SL, pick_bool, Nat.reduceEqDiff, ↓reduceIte, Nat.reduceAdd, Nat.reduceLeDiff]; with_reducible rfl))))
  exact .int _ _

theorem commit2_c (l m : List Int) (h0 : l ≠ []) (hl : Sh l) (hm : Sh m) : Pure Try.prog 62 [encV l, encV m, .iptr [.func 61 []] 0] (.bool (eqv m 0 || eqv m 1 && decide (l.foldl min (l.getD 0 default) = 1))) := by
  refine Pure.of_c2 follows is62 (Nat.le_of_ble_eq_true rfl) ?_
  simp only [b62]
  repeat' (first | refine w_seq ?_ | refine w_ops0 ?_ | refine w_ret ?_ | refine a_n ?_ | refine o_nil ?_ | (apply o_val rfl rfl; (focus ((try simp (disch := omega) only [simB0, simB1, SA, SV, SN, SR, SL, pick_bool, Nat.reduceEqDiff, ↓reduceIte, Nat.reduceAdd, Nat.reduceLeDiff, SO, one_encV, one_encVV, Bool.and_self, Bool.false_eq_true, reduceCtorEq, wrap64, aixS_encV, aixS_encVV, alenS_encV, alenS_encVV, Int.toNat_natCast, List.length_map, aixS_msl, getElem?_map_lt, Nat.mul_one]); first | with_reducible rfl | (apply s_ite; (focus omega); with_reducible rfl)))) | (apply o_callD; (focus ((try simp only [simB0, simB1, SA, SV, SN, SR, SL, pick_bool, Nat.reduceEqDiff, ↓reduceIte, Nat.reduceAdd, Nat.reduceLeDiff]); (try with_reducible rfl); done)); (focus ((try simp only [simB0, simB1, SA, SV, SN, SR, SL, pick_bool, Nat.reduceEqDiff, ↓reduceIte, Nat.reduceAdd, Nat.reduceLeDiff]); (try with_reducible rfl); done)); (focus (first | (exact equal_c _ _ hm) | (exact commit1_c _ h0 hl))); (focus (first | (apply snap_data; repeat' (first | exact snapL_nil | apply snapL_dat | exact Dat.int | exact Dat.bool | exact Dat.str | exact Dat.esl | exact Dat.nilf | exact encV_dat _ | exact encVV_dat _)) | (apply snap_plain; (focus (repeat' (first | exact snapL_nil | apply snapL_dat | exact Dat.int | exact Dat.bool | exact Dat.str | exact encV_dat _ | exact encVV_dat _))); rfl)))) | (apply o_gT; (focus (simp only [simB0, simB1, SA, SV, SN, SR, SL, pick_bool, Nat.reduceEqDiff, ↓reduceIte, Nat.reduceAdd, Nat.reduceLeDiff]; done))) | (apply o_gF; (focus (simp only [simB0, simB1, SA, SV, SN, SR, SL, pick_bool, Nat.reduceEqDiff, ↓reduceIte, Nat.reduceAdd, Nat.reduceLeDiff, or_true, true_or]; done))) | (apply o_gB; (focus ((try simp only [simB0, simB1, SA, SV, SN, SR, SL, pick_bool, Nat.reduceEqDiff, ↓reduceIte, Nat.reduceAdd, Nat.reduceLeDiff]); (try with_reducible rfl); done)); all_goals (intro _hg; (try simp only [Bool.not_true, Bool.not_false, Bool.not_eq_true', Bool.not_eq_false', Bool.not_not, decide_eq_true_eq, decide_eq_false_iff_not] at _hg); try (exfalso; omega))) | (refine e_ends rfl ?_) | (apply r_1; (focus (simp only [rv, simB0, simB1, SA, SV, SN, SR, SL, pick_bool, Nat.reduceEqDiff, ↓reduceIte, Nat.reduceAdd, Nat.reduceLeDiff]; with_reducible rfl))))
  all_goals (refine snap_bool ?_; simp [*])

theorem commit3_c (l m : List Int) (h0 : l ≠ []) (hl : Sh l) (hm : Sh m) : Pure Try.prog 63 [encV l, encV m, .iptr [.func 61 []] 0] (.bool (eqv m (l.foldl min (l.getD 0 default)))) := by
  refine Pure.of_c2 follows is63 (Nat.le_of_ble_eq_true rfl) ?_
  simp only [b63]
  repeat' (first | refine w_seq ?_ | refine w_ops0 ?_ | refine w_ret ?_ | refine a_n ?_ | refine o_nil ?_ | (apply o_val rfl rfl; (focus ((try simp (disch := omega) only [simB0, simB1, SA, SV, SN, SR, SL, pick_bool, Nat.reduceEqDiff, ↓reduceIte, Nat.reduceAdd, Nat.reduceLeDiff, SO, one_encV, one_encVV, Bool.and_self, Bool.false_eq_true, reduceCtorEq, wrap64, aixS_encV, aixS_encVV, alenS_encV, alenS_encVV, Int.toNat_natCast, List.length_map, aixS_msl, getElem?_map_lt, Nat.mul_one]); first | with_reducible rfl | (apply s_ite; (focus omega); with_reducible rfl)))) | (apply o_callD; (focus ((try simp only [simB0, simB1, SA, SV, SN, SR, SL, pick_bool, Nat.reduceEqDiff, ↓reduceIte, Nat.reduceAdd, Nat.reduceLeDiff]); (try with_reducible rfl); done)); (focus ((try simp only [simB0, simB1, SA, SV, SN, SR, SL, pick_bool, Nat.reduceEqDiff, ↓reduceIte, Nat.reduceAdd, Nat.reduceLeDiff]); (try with_reducible rfl); done)); (focus (first | (exact equal_c _ _ hm) | (exact commit1_c _ h0 hl))); (focus (first | (apply snap_data; repeat' (first | exact snapL_nil | apply snapL_dat | exact Dat.int | exact Dat.bool | exact Dat.str | exact Dat.esl | exact Dat.nilf | exact encV_dat _ | exact encVV_dat _)) | (apply snap_plain; (focus (repeat' (first | exact snapL_nil | apply snapL_dat | exact Dat.int | exact Dat.bool | exact Dat.str | exact encV_dat _ | exact encVV_dat _))); rfl)))) | (refine e_ends rfl ?_) | (apply r_1; (focus (simp only [rv, simB0, simB1, SA, SV, SN, SR, SL, pick_bool, Nat.reduceEqDiff, ↓reduceIte, Nat.reduceAdd, Nat.reduceLeDiff]; with_reducible rfl))))
  exact .bool _

theorem leader1_c (l m : List Int) (hm : Sh m) (h1 : ∀ x ∈ m, 0 ≤ x ∧ x ≤ 1000) : Pure Try.prog 78 [encV l, encV m] (.bool (decide (m.sum = 1))) := by
  refine Pure.of_c2 follows is78 (Nat.le_of_ble_eq_true rfl) ?_
  simp only [b78]
  repeat' (first | refine w_seq ?_ | refine w_ops0 ?_ | refine w_block ?_ | refine a_n ?_ | refine o_nil ?_ | (apply o_val rfl rfl; (focus ((try simp (disch := omega) only [simB0, simB1, SA, SV, SN, SR, SL, pick_bool, Nat.reduceEqDiff, ↓reduceIte, Nat.reduceAdd, Nat.reduceLeDiff, SO, one_encV, one_encVV, Bool.and_self, Bool.false_eq_true, reduceCtorEq, wrap64, aixS_encV, aixS_encVV, alenS_encV, alenS_encVV, Int.toNat_natCast, List.length_map, aixS_msl, getElem?_map_lt, Nat.mul_one]); first | with_reducible rfl | (apply s_ite; (focus omega); with_reducible rfl)))) | refine w_loop ?_)
  refine loop0 (X := Nat) (fun k => [(5, .int .i64 (m.take k).sum), (8, encV m), (9, .int .i64 m.length), (10, .int .i64 k)]) (fun k => k ≤ m.length ∧ 0 ≤ (m.take k).sum ∧ (m.take k).sum ≤ k * 1000) (fun k => m.length - k) 0 ⟨Nat.zero_le _, by simp⟩ (by simp (disch := omega) only [agr, SA, Nat.reduceEqDiff, ↓reduceIte, wrap64, Int.natCast_add, Int.natCast_one, Int.natCast_zero, and_true, and_self, List.take_zero, List.sum_nil]) ?_
  rintro k ⟨h2, h3, h4⟩
  repeat' (first | refine w_seq ?_ | refine w_ops0 ?_ | refine w_block ?_ | refine w_skip ?_ | refine w_exit ?_ | refine w_ret ?_ | refine a_n ?_ | refine a_x ?_ | refine o_nil ?_ | (apply o_val rfl rfl; (focus ((try simp (disch := omega) only [simB0, simB1, SA, SV, SN, SR, SL, pick_bool, Nat.reduceEqDiff, ↓reduceIte, Nat.reduceAdd, Nat.reduceLeDiff, SO, one_encV, one_encVV, Bool.and_self, Bool.false_eq_true, reduceCtorEq, wrap64, aixS_encV, aixS_encVV, alenS_encV, alenS_encVV, Int.toNat_natCast, List.length_map, aixS_msl, getElem?_map_lt, Nat.mul_one]); first | with_reducible rfl | (apply s_ite; (focus omega); with_reducible rfl)))) | (apply w_cond; (focus ((try simp only [simB0, simB1, SA, SV, SN, SR, SL, pick_bool, Nat.reduceEqDiff, ↓reduceIte, Nat.reduceAdd, Nat.reduceLeDiff]); (try with_reducible rfl); done)); all_goals (intro _hg; (try simp only [Bool.not_eq_true', Bool.not_eq_false', Bool.not_not, decide_eq_true_eq, decide_eq_false_iff_not] at _hg); try (exfalso; omega))) | (refine e_ends rfl ?_) | (apply r_1; (focus (simp only [rv, simB0, simB1, SA, SV, SN, SR, SL, pick_bool, Nat.reduceEqDiff, ↓reduceIte, Nat.reduceAdd, Nat.reduceLeDiff]; with_reducible rfl))))
  · have hx := h1 _ (mem_getD (show k < m.length by omega))
    have e : (m.take (k + 1)).sum = (m.take k).sum + m.getD k default := by rw [take_succ' (by omega), List.sum_append]; simp
    refine ⟨k + 1, ⟨by omega, by omega, by omega⟩, by omega, ?_, rfl, rfl⟩
    rw [e]
    simp (disch := omega) only [agr, SA, Nat.reduceEqDiff, ↓reduceIte, wrap64, Int.natCast_add, Int.natCast_one, Int.natCast_zero, and_true, and_self]
  · refine snap_bool ?_
    rw [List.take_of_length_le (by omega)]
end Go.Proofs.Ytcbkggfipdldaaa

/- P4: contracts of functions and plain laws; for all inputs that the theorems name. -/
set_option linter.unusedSimpArgs false
set_option linter.unusedVariables false
namespace Go.Proofs.Ytcbkggfipdldaaa
open Go Go.Abs
attribute [local irreducible] awp2 aops2 ains aloop athen bbind obind gbind acond res1 Go.Abs.Fn PCall Go.Abs.Pure SnapArgs SnapL Yl

/-! ### all vectors, in lexicographic order -/
def every : Nat → Nat → List (List Int)
  | 0, _ => [[]]
  | n + 1, v => (List.range v).flatMap fun (x : Nat) => (every n v).map fun r => (x : Int) :: r

/-- the next vector -/
def incF (v : Nat) : List Int → Option (List Int)
  | [] => none
  | x :: r => match incF v r with
    | some r' => some (x :: r')
    | none => if x + 1 < v then some ((x + 1) :: List.replicate r.length 0) else none

/-- a list of successors -/
def Run (v : Nat) : List (List Int) → Prop
  | [] => False
  | [x] => incF v x = none
  | x :: y :: l => incF v x = some y ∧ Run v (y :: l)

theorem every_len : ∀ (n v : Nat), ∀ x ∈ every n v, x.length = n
  | 0, v, x, h => by simp [every] at h; simp [h]
  | n + 1, v, x, h => by
    simp only [every, List.mem_flatMap, List.mem_map] at h
    obtain ⟨a, _, r, hr, rfl⟩ := h
    simp [every_len n v r hr]

theorem run_map {v : Nat} {x : Int} {n : Nat} {tail : List (List Int)} (ht : match tail with | [] => ¬ x + 1 < v | y :: _ => x + 1 < v ∧ y = (x + 1) :: List.replicate n 0) (hrt : tail = [] ∨ Run v tail) : ∀ (l : List (List Int)), Run v l → (∀ r ∈ l, r.length = n) → Run v ((l.map fun r => x :: r) ++ tail)
  | [], h, _ => h.elim
  | [r], h, hn => by
    have hr := hn r (by simp)
    have h : incF v r = none := h
    cases tail with
    | nil => simp only [List.map_cons, List.map_nil, List.append_nil, Run, incF, h]; rw [if_neg ht]
    | cons y t =>
      obtain ⟨h1, rfl⟩ := ht
      refine ⟨?_, hrt.resolve_left (by simp)⟩
      simp only [incF, h]; rw [if_pos h1, hr]
  | r :: r' :: l, h, hn => by
    refine ⟨?_, run_map ht hrt (r' :: l) h.2 (fun q hq => hn q (by simp [hq]))⟩
    simp only [incF, h.1]

theorem every_head (n v : Nat) (hv : 0 < v) : ∃ t, every n v = List.replicate n 0 :: t := by
  induction n with
  | zero => exact ⟨[], rfl⟩
  | succ n ih =>
    obtain ⟨t, ht⟩ := ih
    obtain ⟨m, rfl⟩ : ∃ m, v = m + 1 := ⟨v - 1, by omega⟩
    simp only [every, List.range_succ_eq_map, List.flatMap_cons, ht, List.map_cons, List.cons_append]
    exact ⟨_, rfl⟩

theorem run_every (n v : Nat) (hv : 0 < v) : Run v (every n v) := by
  induction n with
  | zero => show incF v [] = none; rfl
  | succ n ih =>
    -- from x on
    have key : ∀ m x, x + m = v → 0 < m → Run v ((List.range' x m).flatMap fun (x : Nat) => (every n v).map fun r => (x : Int) :: r) := by
      intro m
      induction m with
      | zero => intro x _ h; omega
      | succ m ihm =>
        intro x hx _
        rw [List.range'_succ, List.flatMap_cons]
        refine run_map (n := n) ?_ ?_ _ ih (every_len n v)
        · cases m with
          | zero => simp; omega
          | succ m =>
            obtain ⟨t, ht⟩ := every_head n v hv
            rw [List.range'_succ, List.flatMap_cons, ht]
            simp; omega
        · cases m with
          | zero => left; rfl
          | succ m => right; exact ihm (x + 1) (by omega) (by omega)
    have := key v 0 (by omega) hv
    rw [← List.range_eq_range'] at this
    exact this

theorem run_get {v : Nat} : ∀ (l : List (List Int)), Run v l → ∀ k, k < l.length → incF v (l.getD k []) = if k + 1 < l.length then some (l.getD (k + 1) []) else none
  | [], h, _, _ => h.elim
  | [x], h, k, hk => by
    have : k = 0 := by simp at hk; omega
    subst this
    have h : incF v x = none := h
    simp [h]
  | x :: y :: l, h, k, hk => by
    cases k with
    | zero => simp [h.1]
    | succ k =>
      have := run_get (y :: l) h.2 k (by simpa using hk)
      simp only [List.getD_cons_succ, this, List.length_cons]
      simp

theorem incF_last {v : Nat} (hv : 0 < v) : ∀ (m : Nat), incF v (List.replicate m ((v : Int) - 1)) = none
  | 0 => rfl
  | m + 1 => by
    rw [List.replicate_succ]
    simp only [incF, incF_last hv m]
    rw [if_neg (by omega)]

theorem incF_mid {v : Nat} (hv : 0 < v) (d : Int) (hd : d + 1 < v) (m : Nat) : ∀ pre : List Int, incF v (pre ++ d :: List.replicate m ((v : Int) - 1)) = some (pre ++ (d + 1) :: List.replicate m 0)
  | [] => by
    simp only [List.nil_append, incF, incF_last hv m]
    rw [if_pos hd]; simp
  | x :: pre => by
    simp only [List.cons_append, incF, incF_mid hv d hd m pre]

theorem every_mem : ∀ (n v : Nat), ∀ x ∈ every n v, ∀ a ∈ x, 0 ≤ a ∧ a < v
  | 0, v, x, h => by simp [every] at h; simp [h]
  | n + 1, v, x, h => by
    simp only [every, List.mem_flatMap, List.mem_map] at h
    obtain ⟨a, ha, r, hr, rfl⟩ := h
    intro b hb
    rcases List.mem_cons.1 hb with rfl | hb
    · have := List.mem_range.1 ha; omega
    · exact every_mem n v r hr b hb

theorem each_c (n v : Int) : Pure Try.prog 83 [.int .i64 n, .int .i64 v] (.func 113 [.iptr [.int .i64 n] 0, .iptr [.int .i64 v] 0]) := by
  refine Pure.of_c2 follows is83 (Nat.le_of_ble_eq_true rfl) ?_
  simp only [b83]
  repeat' (first | refine w_seq ?_ | refine w_ops0 ?_ | refine w_ret ?_ | refine a_n ?_ | refine o_nil ?_ | (apply o_val rfl rfl; (focus ((try simp (disch := omega) only [simB0, simB1, SA, SV, SN, SR, SL, pick_bool, Nat.reduceEqDiff, ↓reduceIte, Nat.reduceAdd, Nat.reduceLeDiff, SO, one_encV, one_encVV, Bool.and_self, Bool.false_eq_true, reduceCtorEq, wrap64, aixS_encV, aixS_encVV, alenS_encV, alenS_encVV, Int.toNat_natCast, List.length_map, aixS_msl, getElem?_map_lt, Nat.mul_one]); first | with_reducible rfl | (apply s_ite; (focus omega); with_reducible rfl)))) | (apply e_box rfl; (focus ((try simp only [simB0, simB1, SA, SV, SN, SR, SL, pick_bool, Nat.reduceEqDiff, ↓reduceIte, Nat.reduceAdd, Nat.reduceLeDiff]); (try with_reducible rfl); done)); (focus ((try simp only [simB0, simB1, SA, SV, SN, SR, SL, pick_bool, Nat.reduceEqDiff, ↓reduceIte, Nat.reduceAdd, Nat.reduceLeDiff]); (try with_reducible rfl); done)); (focus (simp only [SO, Bool.and_self, one_encV, one_encVV]))) | (refine e_ends rfl ?_) | (apply r_1; (focus (simp only [rv, simB0, simB1, SA, SV, SN, SR, SL, pick_bool, Nat.reduceEqDiff, ↓reduceIte, Nat.reduceAdd, Nat.reduceLeDiff]; with_reducible rfl))))
  refine snap_func ?_
  (repeat' (first | exact snapL_nil | exact Dat.snap Dat.int | exact Dat.snap Dat.bool | exact Dat.snap Dat.str | exact Dat.snap Dat.esl | exact Dat.snap Dat.nilf | exact Dat.snap (encV_dat _) | exact Dat.snap (encVV_dat _) | apply snapL_cons | apply snap_func | apply snap_iptr | (apply snap_ptr; (focus ((try simp only [simB0, simB1, SA, SV, SN, SR, SL, pick_bool, Nat.reduceEqDiff, ↓reduceIte, Nat.reduceAdd, Nat.reduceLeDiff]); with_reducible rfl)); (focus rfl))))

end Go.Proofs.Ytcbkggfipdldaaa

/- P5: contracts of functions and plain laws; for all inputs that the theorems name. -/
set_option linter.unusedSimpArgs false
set_option linter.unusedVariables false
namespace Go.Proofs.Ytcbkggfipdldaaa
open Go Go.Abs
attribute [local irreducible] awp2 aops2 ains aloop athen bbind obind gbind acond res1 Go.Abs.Fn PCall Go.Abs.Pure SnapArgs SnapL Yl

theorem zcells_int (n : Nat) : zcells (.agg [.int .i64 0]) n = (List.replicate n (0 : Int)).map (AV.int .i64) := by
  induction n with
  | zero => rfl
  | succ n ih => rw [List.replicate_succ, List.map_cons, ← ih]; simp [zcells, List.replicate_succ, AV.cells]

/-- The iterator each(n, v): what is asked of a loop over it. -/
theorem each_it {y n v : Nat} {H : Hp} {nx : Nat} (hn : 1 ≤ n ∧ n ≤ 1000) (hv : 1 ≤ v ∧ v ≤ 1000) (I : Nat → Hp → Nat → Prop) (Q : Hp → Nat → Prop)
    (stab : ∀ k H H' nx' nx'', I k H nx' → nx' ≤ nx'' → nx ≤ nx' → (∀ i, i < nx' → i ≠ nx → H' i = H i) → I k H' nx'')
    (h0 : I 0 H nx)
    (rnd : ∀ k H' nx', k < (every n v).length → I k H' nx' → nx < nx' → H' nx = some (((every n v).getD k []).map (AV.int .i64)) →
      Yl Try.prog y [.msl nx n 1 0 n] H' nx' fun r H'' nx'' => (r = .bool true ∧ I (k + 1) H'' nx'' ∧ nx < nx'' ∧ nx' ≤ nx'' ∧ H'' nx = H' nx) ∨ (r = .bool false ∧ Q H'' nx'')) :
    Abs.Fn Try.prog 113 [.yld y, .iptr [.int .i64 n] 0, .iptr [.int .i64 v] 0] H nx fun _ H' nx' => Q H' nx' ∨ I (every n v).length H' nx' := by
  refine Abs.Fn.of_c2 follows is113 (Nat.le_of_ble_eq_true rfl) ?_
  simp only [b113]
  repeat' (first | refine w_seq ?_ | refine w_ops0 ?_ | (apply o_val rfl rfl; (focus ((try simp (disch := omega) only [simB0, simB1, SA, SV, SN, SR, SL, pick_bool, Nat.reduceEqDiff, ↓reduceIte, Nat.reduceAdd, Nat.reduceLeDiff, SO, one_encV, one_encVV, Bool.and_self, Bool.false_eq_true, reduceCtorEq, wrap64, aixS_encV, aixS_encVV, alenS_encV, alenS_encVV, Int.toNat_natCast, List.length_map, aixS_msl, getElem?_map_lt, Nat.mul_one]); first | with_reducible rfl | (apply s_ite; (focus omega); with_reducible rfl)))))
  refine e_mks rfl (by ((try simp only [simB0, simB1, SA, SV, SN, SR, SL, pick_bool, Nat.reduceEqDiff, ↓reduceIte, Nat.reduceAdd, Nat.reduceLeDiff]); (try with_reducible rfl))) (by ((try simp only [simB0, simB1, SA, SV, SN, SR, SL, pick_bool, Nat.reduceEqDiff, ↓reduceIte, Nat.reduceAdd, Nat.reduceLeDiff]); (try with_reducible rfl))) (by omega) (by omega) (by omega) (by omega) ?_
  repeat' (first | refine w_block ?_ | refine a_n ?_ | refine o_nil ?_ | (apply o_val rfl rfl; (focus ((try simp (disch := omega) only [simB0, simB1, SA, SV, SN, SR, SL, pick_bool, Nat.reduceEqDiff, ↓reduceIte, Nat.reduceAdd, Nat.reduceLeDiff, SO, one_encV, one_encVV, Bool.and_self, Bool.false_eq_true, reduceCtorEq, wrap64, aixS_encV, aixS_encVV, alenS_encV, alenS_encVV, Int.toNat_natCast, List.length_map, aixS_msl, getElem?_map_lt, Nat.mul_one]); first | with_reducible rfl | (apply s_ite; (focus omega); with_reducible rfl)))) | refine w_loop ?_)
  obtain ⟨t, ht⟩ := every_head n v hv.1
  have hrun := run_every n v hv.1
  refine loopI (X := Nat) (fun k => [(0, .yld y), (1, .iptr [.int .i64 n] 0), (2, .iptr [.int .i64 v] 0), (4, .msl nx n 1 0 n)])
    (fun k H' nx' => k < (every n v).length ∧ I k H' nx' ∧ nx < nx' ∧ H' nx = some (((every n v).getD k []).map (AV.int .i64))) (fun k => (every n v).length - k) 0
    ⟨by rw [ht]; simp, stab 0 H _ nx _ h0 (Nat.le_succ _) (Nat.le_refl _) (fun i hi hne => by simp [hupd, hne]), Nat.lt_succ_self _, by rw [hupd_self', zcells_int, ht]; simp⟩ (by simp (disch := omega) only [agr, SA, Nat.reduceEqDiff, ↓reduceIte, wrap64, Int.natCast_add, Int.natCast_one, Int.natCast_zero, and_true, and_self, Int.toNat_natCast, Nat.mul_one]) ?_
  rintro k H1 nx1 ⟨hk, hI, hnx, hH⟩
  repeat' (first | refine w_seq ?_ | refine w_ops0 ?_ | refine w_block ?_ | (apply o_val rfl rfl; (focus ((try simp (disch := omega) only [simB0, simB1, SA, SV, SN, SR, SL, pick_bool, Nat.reduceEqDiff, ↓reduceIte, Nat.reduceAdd, Nat.reduceLeDiff, SO, one_encV, one_encVV, Bool.and_self, Bool.false_eq_true, reduceCtorEq, wrap64, aixS_encV, aixS_encVV, alenS_encV, alenS_encVV, Int.toNat_natCast, List.length_map, aixS_msl, getElem?_map_lt, Nat.mul_one]); first | with_reducible rfl | (apply s_ite; (focus omega); with_reducible rfl)))))
  refine o_yield (by ((try simp only [simB0, simB1, SA, SV, SN, SR, SL, pick_bool, Nat.reduceEqDiff, ↓reduceIte, Nat.reduceAdd, Nat.reduceLeDiff]); (try with_reducible rfl))) (by ((try simp only [simB0, simB1, SA, SV, SN, SR, SL, pick_bool, Nat.reduceEqDiff, ↓reduceIte, Nat.reduceAdd, Nat.reduceLeDiff]); (try with_reducible rfl))) (Yl.mono (rnd k H1 nx1 hk hI hnx hH) ?_)
  rintro r H2 nx2 (⟨rfl, hI2, hnx2, hle, hH2⟩ | ⟨rfl, hQ⟩)
  rotate_left
  · repeat' (first | refine w_ret ?_ | refine a_n ?_ | refine a_r ?_ | refine o_nil ?_ | (apply o_val rfl rfl; (focus ((try simp (disch := omega) only [simB0, simB1, SA, SV, SN, SR, SL, pick_bool, Nat.reduceEqDiff, ↓reduceIte, Nat.reduceAdd, Nat.reduceLeDiff, SO, one_encV, one_encVV, Bool.and_self, Bool.false_eq_true, reduceCtorEq, wrap64, aixS_encV, aixS_encVV, alenS_encV, alenS_encVV, Int.toNat_natCast, List.length_map, aixS_msl, getElem?_map_lt, Nat.mul_one]); first | with_reducible rfl | (apply s_ite; (focus omega); with_reducible rfl)))) | (apply w_condT; (focus (simp only [simB0, simB1, SA, SV, SN, SR, SL, pick_bool, Nat.reduceEqDiff, ↓reduceIte, Nat.reduceAdd, Nat.reduceLeDiff]; done))) | (refine e_ends rfl ?_) | refine r_0 ?_)
    exact .inl hQ
  · rw [hH] at hH2
    repeat' (first | refine w_seq ?_ | refine w_ops0 ?_ | refine w_block ?_ | refine w_skip ?_ | refine a_n ?_ | refine o_nil ?_ | (apply o_val rfl rfl; (focus ((try simp (disch := omega) only [simB0, simB1, SA, SV, SN, SR, SL, pick_bool, Nat.reduceEqDiff, ↓reduceIte, Nat.reduceAdd, Nat.reduceLeDiff, SO, one_encV, one_encVV, Bool.and_self, Bool.false_eq_true, reduceCtorEq, wrap64, aixS_encV, aixS_encVV, alenS_encV, alenS_encVV, Int.toNat_natCast, List.length_map, aixS_msl, getElem?_map_lt, Nat.mul_one]); first | with_reducible rfl | (apply s_ite; (focus omega); with_reducible rfl)))) | (apply w_condF; (focus (simp only [simB0, simB1, SA, SV, SN, SR, SL, pick_bool, Nat.reduceEqDiff, ↓reduceIte, Nat.reduceAdd, Nat.reduceLeDiff]; done))) | refine w_loop ?_)
    have hvl : ((every n v).getD k []).length = n := by
      have : (every n v).getD k [] ∈ every n v := mem_getD (l := every n v) hk
      exact every_len n v _ this
    have hvm : ∀ a ∈ (every n v).getD k [], 0 ≤ a ∧ a < v := every_mem n v _ (mem_getD (l := every n v) hk)
    have hget := run_get _ hrun k hk
    generalize hvec : (every n v).getD k [] = vec at hH2 hvl hvm hget
    refine loopI (X := Nat) (fun j => [(0, .yld y), (1, .iptr [.int .i64 n] 0), (2, .iptr [.int .i64 v] 0), (4, .msl nx n 1 0 n), (5, .int .i64 ((j : Int) - 1))])
      (fun j H' nx' => j ≤ n ∧ I (k + 1) H' nx' ∧ nx < nx' ∧ ∃ c : List Int, H' nx = some (c.map (AV.int .i64)) ∧ c.length = n ∧ c = vec.take j ++ List.replicate (n - j) 0 ∧ vec.drop j = List.replicate (n - j) ((v : Int) - 1)) (fun j => j) n
      ⟨Nat.le_refl _, hI2, hnx2, vec, hH2, hvl, by rw [List.take_of_length_le (by omega)]; simp, by rw [List.drop_eq_nil_of_le (by omega)]; simp⟩ (by simp (disch := omega) only [agr, SA, Nat.reduceEqDiff, ↓reduceIte, wrap64, Int.natCast_add, Int.natCast_one, Int.natCast_zero, and_true, and_self]) ?_
    rintro j H3 nx3 ⟨hj, hI3, hnx3, c, hH3, hc, hcd, hdr⟩
    have hcj : 0 < j → c.getD (j - 1) default = vec.getD (j - 1) default := by
      intro h0
      rw [hcd]
      simp only [List.getD]
      rw [List.getElem?_append_left (by simp; omega), List.getElem?_take, if_pos (by omega)]
    repeat' (first | refine w_seq ?_ | refine w_ops0 ?_ | refine w_ops1 ?_ | refine w_block ?_ | refine w_skip ?_ | refine w_exit ?_ | refine w_ret ?_ | refine a_n ?_ | refine a_x ?_ | refine a_r ?_ | refine o_nil ?_ | (apply o_val rfl rfl; (focus ((try simp (disch := omega) only [simB0, simB1, SA, SV, SN, SR, SL, pick_bool, Nat.reduceEqDiff, ↓reduceIte, Nat.reduceAdd, Nat.reduceLeDiff, SO, one_encV, one_encVV, Bool.and_self, Bool.false_eq_true, reduceCtorEq, wrap64, aixS_encV, aixS_encVV, alenS_encV, alenS_encVV, Int.toNat_natCast, List.length_map, aixS_msl, getElem?_map_lt, Nat.mul_one, hH3, hc]); first | with_reducible rfl | (apply s_ite; (focus omega); with_reducible rfl)))) | (apply e_st rfl; (focus ((try simp only [simB0, simB1, SA, SV, SN, SR, SL, pick_bool, Nat.reduceEqDiff, ↓reduceIte, Nat.reduceAdd, Nat.reduceLeDiff, hH3, hc]); (try with_reducible rfl); done)); (focus ((try simp only [simB0, simB1, SA, SV, SN, SR, SL, pick_bool, Nat.reduceEqDiff, ↓reduceIte, Nat.reduceAdd, Nat.reduceLeDiff, hH3, hc]); (try with_reducible rfl); done)); (focus ((try simp only [simB0, simB1, SA, SV, SN, SR, SL, pick_bool, Nat.reduceEqDiff, ↓reduceIte, Nat.reduceAdd, Nat.reduceLeDiff, hH3, hc]); (try with_reducible rfl); done)); (focus ((try simp only [simB0, simB1, SA, SV, SN, SR, SL, pick_bool, Nat.reduceEqDiff, ↓reduceIte, Nat.reduceAdd, Nat.reduceLeDiff, hH3, hc]); (try with_reducible rfl); done)); (focus (simp only [SO, Bool.and_self, one_encV, one_encVV, hH3, hc])); (focus ((try simp only [SL, Nat.reduceAdd, Nat.reduceMul, List.length_map]); first | done | omega)); (focus ((try simp only [SL, Nat.reduceAdd, Nat.reduceMul, List.length_map]); first | done | omega)); (focus ((try simp only [SL, Nat.reduceAdd, Nat.reduceMul, List.length_map]); first | done | omega))) | (apply o_gT; (focus (simp only [simB0, simB1, SA, SV, SN, SR, SL, pick_bool, Nat.reduceEqDiff, ↓reduceIte, Nat.reduceAdd, Nat.reduceLeDiff, hH3, hc]; done))) | (apply o_gF; (focus (simp only [simB0, simB1, SA, SV, SN, SR, SL, pick_bool, Nat.reduceEqDiff, ↓reduceIte, Nat.reduceAdd, Nat.reduceLeDiff, or_true, true_or, hH3, hc]; done))) | (apply o_gB; (focus ((try simp only [simB0, simB1, SA, SV, SN, SR, SL, pick_bool, Nat.reduceEqDiff, ↓reduceIte, Nat.reduceAdd, Nat.reduceLeDiff, hH3, hc]); (try with_reducible rfl); done)); all_goals (intro _hg; (try simp only [Bool.not_true, Bool.not_false, Bool.not_eq_true', Bool.not_eq_false', Bool.not_not, decide_eq_true_eq, decide_eq_false_iff_not] at _hg); try (exfalso; omega))) | (apply w_condF; (focus (simp only [simB0, simB1, SA, SV, SN, SR, SL, pick_bool, Nat.reduceEqDiff, ↓reduceIte, Nat.reduceAdd, Nat.reduceLeDiff, hH3, hc]; done))) | (apply w_cond; (focus ((try simp only [simB0, simB1, SA, SV, SN, SR, SL, pick_bool, Nat.reduceEqDiff, ↓reduceIte, Nat.reduceAdd, Nat.reduceLeDiff, hH3, hc]); (try with_reducible rfl); done)); all_goals (intro _hg; (try simp only [Bool.not_eq_true', Bool.not_eq_false', Bool.not_not, decide_eq_true_eq, decide_eq_false_iff_not] at _hg); try (exfalso; omega))) | (refine e_ends rfl ?_) | refine r_0 ?_)
    · have hj0 : 0 < j := by omega
      have ht1 : ((j : Int) - 1).toNat = j - 1 := by omega
      rw [ht1] at _hg ⊢
      refine ⟨j - 1, by omega, ⟨by omega, stab _ _ _ _ _ hI3 (Nat.le_refl _) (by omega) (fun i _ hne => by simp [hupd, hne]), hnx3, c.set (j - 1) 0, ?_, by simpa using hc, ?_, ?_⟩, by simp (disch := omega) only [agr, SA, Nat.reduceEqDiff, ↓reduceIte, wrap64, Int.natCast_add, Int.natCast_one, Int.natCast_zero, and_true, and_self, show ((j - 1 : Nat) : Int) = (j : Int) - 1 by omega]⟩
      · rw [hupd_self', lput_map (by omega)]
      · rw [hcd, show n - (j - 1) = (n - j) + 1 by omega, List.replicate_succ]
        have e : vec.take j = vec.take (j - 1) ++ [vec.getD (j - 1) default] := by
          have := take_succ' (l := vec) (k := j - 1) (by omega); rwa [show j - 1 + 1 = j by omega] at this
        rw [e, List.append_assoc, List.set_append_right _ _ (by simp; omega)]
        simp
        rw [show j - 1 - min (j - 1) vec.length = 0 by omega]; rfl
      · have := drop_cons (l := vec) (k := j - 1) (by omega)
        rw [this, show j - 1 + 1 = j by omega, hdr, show n - (j - 1) = (n - j) + 1 by omega, List.replicate_succ, ← hcj hj0, _hg]
    · rename_i _ hg1
      have hj0 : 0 < j := by omega
      have ht1 : ((j : Int) - 1).toNat = j - 1 := by omega
      rw [ht1] at hg1 ⊢
      rw [hcj hj0] at hg1 ⊢
      have hd := hvm _ (mem_getD (l := vec) (k := j - 1) (by omega))
      have hsplit : vec = vec.take (j - 1) ++ vec.getD (j - 1) default :: List.replicate (n - j) ((v : Int) - 1) := by
        rw [← hdr]
        have := drop_cons (l := vec) (k := j - 1) (by omega)
        rw [show j - 1 + 1 = j by omega] at this
        rw [← this, List.take_append_drop]
      have hnext := incF_mid (v := v) (by omega) (vec.getD (j - 1) default) (by omega) (n - j) (vec.take (j - 1))
      rw [← hsplit, hget] at hnext
      split at hnext
      case isFalse => cases hnext
      case isTrue hk1 =>
      injection hnext with hnext
      refine ⟨k + 1, by omega, ⟨hk1, stab _ _ _ _ _ hI3 (Nat.le_refl _) (by omega) (fun i _ hne => by simp [hupd, hne]), hnx3, ?_⟩, by simp (disch := omega) only [agr, SA, Nat.reduceEqDiff, ↓reduceIte, wrap64, Int.natCast_add, Int.natCast_one, Int.natCast_zero, and_true, and_self]⟩
      rw [hupd_self', wrap64 (by omega) (by omega), lput_map (by omega), hnext, hcd]
      have e : vec.take j = vec.take (j - 1) ++ [vec.getD (j - 1) default] := by
        have := take_succ' (l := vec) (k := j - 1) (by omega); rwa [show j - 1 + 1 = j by omega] at this
      rw [e, List.append_assoc, List.set_append_right _ _ (by simp; omega)]
      congr 2
      simp
      rw [show j - 1 - min (j - 1) vec.length = 0 by omega]; rfl
    · have hj0 : j = 0 := by omega
      subst hj0
      right
      rw [Nat.sub_zero, List.drop_zero] at hdr
      rw [hdr, incF_last (by omega)] at hget
      split at hget
      · cases hget
      · rw [show (every n v).length = k + 1 by omega]; exact hI3

end Go.Proofs.Ytcbkggfipdldaaa

/- P6: contracts of functions and plain laws; for all inputs that the theorems name. -/
set_option linter.unusedSimpArgs false
set_option linter.unusedVariables false
namespace Go.Proofs.Ytcbkggfipdldaaa
open Go Go.Abs
attribute [local irreducible] awp2 aops2 ains aloop athen bbind obind gbind acond res1 Go.Abs.Fn PCall Go.Abs.Pure SnapArgs SnapL Yl

def cnt (L : List (List Int)) (p : List Int → Bool) : Nat := (L.filter p).length
theorem cnt_snoc (L : List (List Int)) (p : List Int → Bool) (x : List Int) : cnt (L ++ [x]) p = cnt L p + if p x then 1 else 0 := by
  unfold cnt; rw [List.filter_append]; simp [List.filter_cons]; split <;> simp
theorem cnt_mono (L : List (List Int)) (p : List Int → Bool) (k : Nat) : cnt (L.take k) p ≤ cnt L p := by
  unfold cnt
  conv => rhs; rw [← List.take_append_drop k L, List.filter_append, List.length_append]
  omega
theorem every_count (n v : Nat) : (every n v).length = v ^ n := by
  induction n with
  | zero => rfl
  | succ n ih =>
    simp only [every, List.length_flatMap, List.length_map, ih]
    rw [List.map_const', List.sum_replicate_nat, List.length_range, Nat.pow_succ, Nat.mul_comm]

/-- a condition on vectors, nil or a function that decides it -/
structure Cond (hold : AV) (L : List (List Int)) (p : List Int → Bool) : Prop where
  out : (hold = .nilf ∧ ∀ x, p x = true) ∨ ∃ g caps, hold = .func g caps ∧ (∀ c ∈ caps, Dat c) ∧ ∀ x ∈ L, Pure Try.prog g (encV x :: caps) (.bool (p x))

theorem Cond.dat {hold : AV} {L : List (List Int)} {p : List Int → Bool} (h : Cond hold L p) : Dat hold ∧ hold.cells = [hold] ∧ hold.one = true := by
  rcases h.out with ⟨rfl, _⟩ | ⟨g, caps, rfl, h1, _⟩
  · exact ⟨.nilf, rfl, rfl⟩
  · exact ⟨Dat.func h1, rfl, rfl⟩

theorem one_eq {a b : Int} (h : a = b) : some [AV.int .i64 a] = some [AV.int .i64 b] := by rw [h]

theorem many_c (n v limit : Nat) (hn : 1 ≤ n ∧ n ≤ 1000) (hv : 1 ≤ v ∧ v ≤ 1000) (hl : limit ≤ 1000000) (hold : AV) (p : List Int → Bool) (hc : Cond hold (every n v) p) :
    Pure Try.prog 82 [.int .i64 n, .int .i64 v, hold, .int .i64 limit] (.int .i64 ((min (cnt (every n v) p) (limit + 1) : Nat) : Int)) := by
  refine Pure.of_c2 follows is82 (Nat.le_of_ble_eq_true rfl) ?_
  simp only [b82]
  obtain ⟨hd, hcell, hone⟩ := hc.dat
  repeat' (first | refine w_seq ?_ | refine w_ops0 ?_ | refine w_block ?_ | refine a_n ?_ | refine o_nil ?_ | (apply o_val rfl rfl; (focus ((try simp (disch := omega) only [simB0, simB1, SA, SV, SN, SR, SL, pick_bool, Nat.reduceEqDiff, ↓reduceIte, Nat.reduceAdd, Nat.reduceLeDiff, SO, one_encV, one_encVV, Bool.and_self, Bool.false_eq_true, reduceCtorEq, wrap64, aixS_encV, aixS_encVV, alenS_encV, alenS_encVV, Int.toNat_natCast, List.length_map, aixS_msl, getElem?_map_lt, Nat.mul_one, hcell, hone]); first | with_reducible rfl | (apply s_ite; (focus omega); with_reducible rfl)))) | (apply o_callD; (focus ((try simp only [simB0, simB1, SA, SV, SN, SR, SL, pick_bool, Nat.reduceEqDiff, ↓reduceIte, Nat.reduceAdd, Nat.reduceLeDiff, hcell, hone]); (try with_reducible rfl); done)); (focus ((try simp only [simB0, simB1, SA, SV, SN, SR, SL, pick_bool, Nat.reduceEqDiff, ↓reduceIte, Nat.reduceAdd, Nat.reduceLeDiff, hcell, hone]); (try with_reducible rfl); done)); (focus (first | (exact each_c _ _))); (focus (first | (apply snap_data; repeat' (first | exact snapL_nil | apply snapL_dat | exact Dat.int | exact Dat.bool | exact Dat.str | exact Dat.esl | exact Dat.nilf | exact encV_dat _ | exact encVV_dat _)) | (apply snap_plain; (focus (repeat' (first | exact snapL_nil | apply snapL_dat | exact Dat.int | exact Dat.bool | exact Dat.str | exact encV_dat _ | exact encVV_dat _))); rfl)))) | (apply e_alloc rfl; (focus ((try simp only [simB0, simB1, SA, SV, SN, SR, SL, pick_bool, Nat.reduceEqDiff, ↓reduceIte, Nat.reduceAdd, Nat.reduceLeDiff, hcell, hone]); (try with_reducible rfl); done)); (focus (simp only [SO, Bool.and_self, one_encV, one_encVV, hcell, hone]))) | (apply e_box rfl; (focus ((try simp only [simB0, simB1, SA, SV, SN, SR, SL, pick_bool, Nat.reduceEqDiff, ↓reduceIte, Nat.reduceAdd, Nat.reduceLeDiff, hcell, hone]); (try with_reducible rfl); done)); (focus ((try simp only [simB0, simB1, SA, SV, SN, SR, SL, pick_bool, Nat.reduceEqDiff, ↓reduceIte, Nat.reduceAdd, Nat.reduceLeDiff, hcell, hone]); (try with_reducible rfl); done)); (focus (simp only [SO, Bool.and_self, one_encV, one_encVV, hcell, hone]))) | (apply e_st rfl; (focus ((try simp only [simB0, simB1, SA, SV, SN, SR, SL, pick_bool, Nat.reduceEqDiff, ↓reduceIte, Nat.reduceAdd, Nat.reduceLeDiff, hcell, hone]); (try with_reducible rfl); done)); (focus ((try simp only [simB0, simB1, SA, SV, SN, SR, SL, pick_bool, Nat.reduceEqDiff, ↓reduceIte, Nat.reduceAdd, Nat.reduceLeDiff, hcell, hone]); (try with_reducible rfl); done)); (focus ((try simp only [simB0, simB1, SA, SV, SN, SR, SL, pick_bool, Nat.reduceEqDiff, ↓reduceIte, Nat.reduceAdd, Nat.reduceLeDiff, hcell, hone]); (try with_reducible rfl); done)); (focus ((try simp only [simB0, simB1, SA, SV, SN, SR, SL, pick_bool, Nat.reduceEqDiff, ↓reduceIte, Nat.reduceAdd, Nat.reduceLeDiff, hcell, hone]); (try with_reducible rfl); done)); (focus (simp only [SO, Bool.and_self, one_encV, one_encVV, hcell, hone])); (focus ((try simp only [SL, Nat.reduceAdd, Nat.reduceMul, List.length_map]); first | done | omega)); (focus ((try simp only [SL, Nat.reduceAdd, Nat.reduceMul, List.length_map]); first | done | omega)); (focus ((try simp only [SL, Nat.reduceAdd, Nat.reduceMul, List.length_map]); first | done | omega))))
  refine w_rangeFb 3 4 rfl rfl (by ((try simp only [simB0, simB1, SA, SV, SN, SR, SL, pick_bool, Nat.reduceEqDiff, ↓reduceIte, Nat.reduceAdd, Nat.reduceLeDiff]); (try with_reducible rfl))) (fun c0 cj hy => ?_)
  refine Abs.Fn.mono (each_it hn hv (fun k H nx => 4 ≤ nx ∧ H 0 = some [hold] ∧ H 1 = some [.int .i64 limit] ∧ H 2 = some [.int .i64 (cnt ((every n v).take k) p)] ∧ H 3 = some [c0] ∧ cnt ((every n v).take k) p ≤ limit)
    (fun H nx => H 3 = some [cj (.exit 0)] ∧ H 2 = some [.int .i64 ((limit + 1 : Nat) : Int)] ∧ limit < cnt (every n v) p) ?_ ?_ ?_) ?_
  · rintro k H H' a b ⟨h5, h0, h1, h2, h3, hle⟩ hab _ hs
    exact ⟨by omega, (hs 0 (by omega) (by omega)).trans h0, (hs 1 (by omega) (by omega)).trans h1, (hs 2 (by omega) (by omega)).trans h2, (hs 3 (by omega) (by omega)).trans h3, hle⟩
  · exact ⟨Nat.le_refl _, rfl, rfl, rfl, rfl, Nat.zero_le _⟩
  · rintro k H nx hk ⟨h5, h0, h1, h2, h3, hle⟩ hnx hH
    refine hy _ _ _ _ h3 rfl ?_
    clear hy
    have hmem : (every n v).getD k [] ∈ every n v := mem_getD (l := every n v) hk
    have hlen := every_len n v _ hmem
    have htk : (every n v).take (k + 1) = (every n v).take k ++ [(every n v).getD k []] := take_succ' hk
    have hsn := cnt_snoc ((every n v).take k) p ((every n v).getD k [])
    rw [← htk] at hsn
    have hmo := cnt_mono (every n v) p (k + 1)
    rcases hc.out with ⟨rfl, hp⟩ | ⟨g, caps, rfl, hcd, hg⟩
    · repeat' (first | refine w_ops0 ?_ | refine a_n ?_ | refine o_nil ?_ | (apply o_val rfl rfl; (focus ((try simp (disch := omega) only [simB0, simB1, SA, SV, SN, SR, SL, pick_bool, Nat.reduceEqDiff, ↓reduceIte, Nat.reduceAdd, Nat.reduceLeDiff, SO, one_encV, one_encVV, Bool.and_self, Bool.false_eq_true, reduceCtorEq, wrap64, aixS_encV, aixS_encVV, alenS_encV, alenS_encVV, Int.toNat_natCast, List.length_map, aixS_msl, getElem?_map_lt, Nat.mul_one, h0, h1, h2, h3]); first | with_reducible rfl | (apply s_ite; (focus omega); with_reducible rfl)))))
      refine ⟨h3, ?_⟩
      repeat' (first | refine w_seq ?_ | refine w_ops0 ?_ | refine w_block ?_ | refine w_skip ?_ | refine w_exit ?_ | refine a_n ?_ | refine a_x ?_ | refine o_nil ?_ | (apply o_val rfl rfl; (focus ((try simp (disch := omega) only [simB0, simB1, SA, SV, SN, SR, SL, pick_bool, Nat.reduceEqDiff, ↓reduceIte, Nat.reduceAdd, Nat.reduceLeDiff, SO, one_encV, one_encVV, Bool.and_self, Bool.false_eq_true, reduceCtorEq, wrap64, aixS_encV, aixS_encVV, alenS_encV, alenS_encVV, Int.toNat_natCast, List.length_map, aixS_msl, getElem?_map_lt, Nat.mul_one, h0, h1, h2, h3]); first | with_reducible rfl | (apply s_ite; (focus omega); with_reducible rfl)))) | (apply e_st rfl; (focus ((try simp only [simB0, simB1, SA, SV, SN, SR, SL, pick_bool, Nat.reduceEqDiff, ↓reduceIte, Nat.reduceAdd, Nat.reduceLeDiff, h0, h1, h2, h3]); (try with_reducible rfl); done)); (focus ((try simp only [simB0, simB1, SA, SV, SN, SR, SL, pick_bool, Nat.reduceEqDiff, ↓reduceIte, Nat.reduceAdd, Nat.reduceLeDiff, h0, h1, h2, h3]); (try with_reducible rfl); done)); (focus ((try simp only [simB0, simB1, SA, SV, SN, SR, SL, pick_bool, Nat.reduceEqDiff, ↓reduceIte, Nat.reduceAdd, Nat.reduceLeDiff, h0, h1, h2, h3]); (try with_reducible rfl); done)); (focus ((try simp only [simB0, simB1, SA, SV, SN, SR, SL, pick_bool, Nat.reduceEqDiff, ↓reduceIte, Nat.reduceAdd, Nat.reduceLeDiff, h0, h1, h2, h3]); (try with_reducible rfl); done)); (focus (simp only [SO, Bool.and_self, one_encV, one_encVV, h0, h1, h2, h3])); (focus ((try simp only [SL, Nat.reduceAdd, Nat.reduceMul, List.length_map]); first | done | omega)); (focus ((try simp only [SL, Nat.reduceAdd, Nat.reduceMul, List.length_map]); first | done | omega)); (focus ((try simp only [SL, Nat.reduceAdd, Nat.reduceMul, List.length_map]); first | done | omega))) | (apply o_gF; (focus (simp only [simB0, simB1, SA, SV, SN, SR, SL, pick_bool, Nat.reduceEqDiff, ↓reduceIte, Nat.reduceAdd, Nat.reduceLeDiff, or_true, true_or, h0, h1, h2, h3]; done))) | (apply w_condT; (focus (simp only [simB0, simB1, SA, SV, SN, SR, SL, pick_bool, Nat.reduceEqDiff, ↓reduceIte, Nat.reduceAdd, Nat.reduceLeDiff, h0, h1, h2, h3]; done))) | (apply w_cond; (focus ((try simp only [simB0, simB1, SA, SV, SN, SR, SL, pick_bool, Nat.reduceEqDiff, ↓reduceIte, Nat.reduceAdd, Nat.reduceLeDiff, h0, h1, h2, h3]); (try with_reducible rfl); done)); all_goals (intro _hg; (try simp only [Bool.not_eq_true', Bool.not_eq_false', Bool.not_not, decide_eq_true_eq, decide_eq_false_iff_not] at _hg); try (exfalso; omega))))
      all_goals rw [hp, if_pos rfl] at hsn
      · exact .inr ⟨rfl, rfl, one_eq (by omega), by omega⟩
      · exact .inl ⟨rfl, ⟨by omega, h0, h1, one_eq (by omega), rfl, by omega⟩, by omega, Nat.le_refl _, rfl⟩
    · repeat' (first | refine w_ops0 ?_ | refine a_n ?_ | refine o_nil ?_ | (apply o_val rfl rfl; (focus ((try simp (disch := omega) only [simB0, simB1, SA, SV, SN, SR, SL, pick_bool, Nat.reduceEqDiff, ↓reduceIte, Nat.reduceAdd, Nat.reduceLeDiff, SO, one_encV, one_encVV, Bool.and_self, Bool.false_eq_true, reduceCtorEq, wrap64, aixS_encV, aixS_encVV, alenS_encV, alenS_encVV, Int.toNat_natCast, List.length_map, aixS_msl, getElem?_map_lt, Nat.mul_one, h0, h1, h2, h3]); first | with_reducible rfl | (apply s_ite; (focus omega); with_reducible rfl)))))
      refine ⟨h3, ?_⟩
      repeat' (first | refine w_seq ?_ | refine w_ops0 ?_ | refine w_block ?_ | (apply o_val rfl rfl; (focus ((try simp (disch := omega) only [simB0, simB1, SA, SV, SN, SR, SL, pick_bool, Nat.reduceEqDiff, ↓reduceIte, Nat.reduceAdd, Nat.reduceLeDiff, SO, one_encV, one_encVV, Bool.and_self, Bool.false_eq_true, reduceCtorEq, wrap64, aixS_encV, aixS_encVV, alenS_encV, alenS_encVV, Int.toNat_natCast, List.length_map, aixS_msl, getElem?_map_lt, Nat.mul_one, h0, h1, h2, h3]); first | with_reducible rfl | (apply s_ite; (focus omega); with_reducible rfl)))) | (apply o_gT; (focus (simp only [simB0, simB1, SA, SV, SN, SR, SL, pick_bool, Nat.reduceEqDiff, ↓reduceIte, Nat.reduceAdd, Nat.reduceLeDiff, h0, h1, h2, h3]; done))))
      refine o_callP (by ((try simp only [simB0, simB1, SA, SV, SN, SR, SL, pick_bool, Nat.reduceEqDiff, ↓reduceIte, Nat.reduceAdd, Nat.reduceLeDiff, h0]); (try with_reducible rfl))) (by ((try simp only [simB0, simB1, SA, SV, SN, SR, SL, pick_bool, Nat.reduceEqDiff, ↓reduceIte, Nat.reduceAdd, Nat.reduceLeDiff]); (try with_reducible rfl))) (hg _ hmem) (snap_plain (snapL_cons (snap_row (by ((try simp only [simB0, simB1, SA, SV, SN, SR, SL, pick_bool, Nat.reduceEqDiff, ↓reduceIte, Nat.reduceAdd, Nat.reduceLeDiff, hH]); (try with_reducible rfl))) rfl hlen) (snapL_datL hcd)) rfl) ?_
      repeat' (first | refine w_seq ?_ | refine w_ops0 ?_ | refine w_skip ?_ | refine w_exit ?_ | refine a_n ?_ | refine a_x ?_ | refine o_nil ?_ | (apply o_val rfl rfl; (focus ((try simp (disch := omega) only [simB0, simB1, SA, SV, SN, SR, SL, pick_bool, Nat.reduceEqDiff, ↓reduceIte, Nat.reduceAdd, Nat.reduceLeDiff, SO, one_encV, one_encVV, Bool.and_self, Bool.false_eq_true, reduceCtorEq, wrap64, aixS_encV, aixS_encVV, alenS_encV, alenS_encVV, Int.toNat_natCast, List.length_map, aixS_msl, getElem?_map_lt, Nat.mul_one, h0, h1, h2, h3]); first | with_reducible rfl | (apply s_ite; (focus omega); with_reducible rfl)))) | (apply e_st rfl; (focus ((try simp only [simB0, simB1, SA, SV, SN, SR, SL, pick_bool, Nat.reduceEqDiff, ↓reduceIte, Nat.reduceAdd, Nat.reduceLeDiff, h0, h1, h2, h3]); (try with_reducible rfl); done)); (focus ((try simp only [simB0, simB1, SA, SV, SN, SR, SL, pick_bool, Nat.reduceEqDiff, ↓reduceIte, Nat.reduceAdd, Nat.reduceLeDiff, h0, h1, h2, h3]); (try with_reducible rfl); done)); (focus ((try simp only [simB0, simB1, SA, SV, SN, SR, SL, pick_bool, Nat.reduceEqDiff, ↓reduceIte, Nat.reduceAdd, Nat.reduceLeDiff, h0, h1, h2, h3]); (try with_reducible rfl); done)); (focus ((try simp only [simB0, simB1, SA, SV, SN, SR, SL, pick_bool, Nat.reduceEqDiff, ↓reduceIte, Nat.reduceAdd, Nat.reduceLeDiff, h0, h1, h2, h3]); (try with_reducible rfl); done)); (focus (simp only [SO, Bool.and_self, one_encV, one_encVV, h0, h1, h2, h3])); (focus ((try simp only [SL, Nat.reduceAdd, Nat.reduceMul, List.length_map]); first | done | omega)); (focus ((try simp only [SL, Nat.reduceAdd, Nat.reduceMul, List.length_map]); first | done | omega)); (focus ((try simp only [SL, Nat.reduceAdd, Nat.reduceMul, List.length_map]); first | done | omega))) | (apply w_cond; (focus ((try simp only [simB0, simB1, SA, SV, SN, SR, SL, pick_bool, Nat.reduceEqDiff, ↓reduceIte, Nat.reduceAdd, Nat.reduceLeDiff, h0, h1, h2, h3]); (try with_reducible rfl); done)); all_goals (intro _hg; (try simp only [Bool.not_eq_true', Bool.not_eq_false', Bool.not_not, decide_eq_true_eq, decide_eq_false_iff_not] at _hg); try (exfalso; omega))))
      · rename_i hg1
        rw [hg1, if_pos rfl] at hsn
        exact .inr ⟨rfl, rfl, one_eq (by omega), by omega⟩
      · rename_i hg1
        rw [hg1, if_pos rfl] at hsn
        exact .inl ⟨rfl, ⟨by omega, h0, h1, one_eq (by omega), rfl, by omega⟩, by omega, Nat.le_refl _, rfl⟩
      · rename_i hg1
        rw [hg1, if_neg (by simp)] at hsn
        exact .inl ⟨rfl, ⟨by omega, h0, h1, h2.trans (one_eq (by omega)), rfl, by omega⟩, by omega, Nat.le_refl _, rfl⟩
  · rintro r H nx (⟨h3, h2, hgt⟩ | ⟨h5, h0, h1, h2, h3, hle⟩)
    · right
      refine ⟨.exit 0, by simp, h3, ?_⟩
      repeat' (first | refine w_seq ?_ | refine w_ops0 ?_ | refine w_ret ?_ | refine a_n ?_ | refine o_nil ?_ | (apply o_val rfl rfl; (focus ((try simp (disch := omega) only [simB0, simB1, SA, SV, SN, SR, SL, pick_bool, Nat.reduceEqDiff, ↓reduceIte, Nat.reduceAdd, Nat.reduceLeDiff, SO, one_encV, one_encVV, Bool.and_self, Bool.false_eq_true, reduceCtorEq, wrap64, aixS_encV, aixS_encVV, alenS_encV, alenS_encVV, Int.toNat_natCast, List.length_map, aixS_msl, getElem?_map_lt, Nat.mul_one, h2]); first | with_reducible rfl | (apply s_ite; (focus omega); with_reducible rfl)))) | (refine e_ends rfl ?_) | (apply r_1; (focus (simp only [rv, simB0, simB1, SA, SV, SN, SR, SL, pick_bool, Nat.reduceEqDiff, ↓reduceIte, Nat.reduceAdd, Nat.reduceLeDiff, h2]; with_reducible rfl))))
      exact snap_int (by omega)
    · left
      refine ⟨h3, ?_⟩
      repeat' (first | refine w_seq ?_ | refine w_ops0 ?_ | refine w_ret ?_ | refine a_n ?_ | refine o_nil ?_ | (apply o_val rfl rfl; (focus ((try simp (disch := omega) only [simB0, simB1, SA, SV, SN, SR, SL, pick_bool, Nat.reduceEqDiff, ↓reduceIte, Nat.reduceAdd, Nat.reduceLeDiff, SO, one_encV, one_encVV, Bool.and_self, Bool.false_eq_true, reduceCtorEq, wrap64, aixS_encV, aixS_encVV, alenS_encV, alenS_encVV, Int.toNat_natCast, List.length_map, aixS_msl, getElem?_map_lt, Nat.mul_one, h2]); first | with_reducible rfl | (apply s_ite; (focus omega); with_reducible rfl)))) | (refine e_ends rfl ?_) | (apply r_1; (focus (simp only [rv, simB0, simB1, SA, SV, SN, SR, SL, pick_bool, Nat.reduceEqDiff, ↓reduceIte, Nat.reduceAdd, Nat.reduceLeDiff, h2]; with_reducible rfl))))
      rw [List.take_of_length_le (Nat.le_refl _)] at hle ⊢
      exact snap_int (by omega)

end Go.Proofs.Ytcbkggfipdldaaa

/- P7: contracts of functions and plain laws; for all inputs that the theorems name. -/
set_option linter.unusedSimpArgs false
set_option linter.unusedVariables false
namespace Go.Proofs.Ytcbkggfipdldaaa
open Go Go.Abs
attribute [local irreducible] awp2 aops2 ains aloop athen bbind obind gbind acond res1 Go.Abs.Fn PCall Go.Abs.Pure SnapArgs SnapL Yl

/-! ### tasks -/
structure CaseV where
  inp : List Int
  out : List (List Int)
  calm : List (List Int)
  deriving Inhabited, DecidableEq
structure TaskV where
  n : Int
  ins : Int
  outs : Int
  cases : List CaseV
  deriving Inhabited, DecidableEq
def encC (c : CaseV) : AV := .agg [encV c.inp, encVV c.out, encVV c.calm]
def encCs (l : List CaseV) : AV := .sl 3 (l.map encC)
def encT (t : TaskV) : AV := .agg [.int .i64 t.n, .int .i64 t.ins, .int .i64 t.outs, encCs t.cases]
def T00 : TaskV := ⟨0, 0, 0, []⟩

/-- the result of made -/
structure KindV where
  n : Nat
  ins : Nat
  outs : Nat
  hasC : Bool
  pc : List Int → Bool
  pa : List Int → List Int → Bool
  pm : List Int → List Int → Bool
def caseOf (k : KindV) (i : List Int) : CaseV := ⟨i, (every k.n k.outs).filter (k.pa i), (every k.n k.outs).filter fun o => k.pa i o && k.pm i o⟩
def casesOf (k : KindV) (l : List (List Int)) : List CaseV := (l.filter k.pc).map (caseOf k)
def taskOf (k : KindV) : TaskV × Int :=
  if cnt (every k.n k.ins) k.pc = 0 then (T00, 16) else if k.hasC = true ∧ k.outs < k.n then (T00, 16) else if 1024 < cnt (every k.n k.ins) k.pc then (T00, 17) else
  if (casesOf k (every k.n k.ins)).any (fun c => decide (1024 < c.out.length)) then (T00, 17) else (⟨k.n, k.ins, k.outs, casesOf k (every k.n k.ins)⟩, 0)

/-- a condition on inputs and outputs -/
structure Cond2 (f : AV) (L M : List (List Int)) (p : List Int → List Int → Bool) : Prop where
  out : ∃ g caps, f = .func g caps ∧ (∀ c ∈ caps, Dat c) ∧ ∀ x ∈ L, ∀ y ∈ M, Pure Try.prog g (encV x :: encV y :: caps) (.bool (p x y))
theorem Cond2.dat {f : AV} {L M : List (List Int)} {p : List Int → List Int → Bool} (h : Cond2 f L M p) : Dat f ∧ f.cells = [f] ∧ f.one = true := by
  obtain ⟨g, caps, rfl, h1, _⟩ := h.out
  exact ⟨Dat.func h1, rfl, rfl⟩

theorem snapErr {H : Hp} (e : Int) : Snap H (.tup [.agg [.int .i64 0, .int .i64 0, .int .i64 0, .esl], .int .i64 e]) (.tup [encT T00, .int .i64 e]) := by
  refine snap_tup (snapL_cons (snap_agg ?_) (snapL_cons (.int _ _) snapL_nil))
  exact snapL_cons (.int _ _) (snapL_cons (.int _ _) (snapL_cons (.int _ _) (snapL_cons (.eslsl 3) snapL_nil)))

/-- what lies at the head of a round of made -/
def MadeI (k : KindV) (kc : List AV) (cs : List CaseV) (H : Hp) (nx : Nat) : Prop := 5 ≤ nx ∧ H 0 = some kc ∧ H 1 = some [.int .i64 0, .int .i64 0, .int .i64 0, .esl] ∧ H 2 = some [.int .i64 0] ∧
  ∃ s, H 3 = some [.int .i64 k.n, .int .i64 k.ins, .int .i64 k.outs, s] ∧ Row H 3 s ((cs.map encC).flatMap AV.cells) ∧ (∀ b, rowB s = some b → 6 ≤ b ∧ b < nx) ∧ ∀ c ∈ cs, c.out.length ≤ 1024

theorem MadeI.stab {k : KindV} {kc : List AV} {cs : List CaseV} {H H' : Hp} {nx nx' : Nat} (h : MadeI k kc cs H nx) (hn : nx ≤ nx') (hs : ∀ i, i < nx → i ≠ 5 → i ≠ 4 → H' i = H i) : MadeI k kc cs H' nx' := by
  obtain ⟨h5, h0, h1, h2, s, h3, hr, hb, hc⟩ := h
  refine ⟨by omega, (hs 0 (by omega) (by omega) (by omega)).trans h0, (hs 1 (by omega) (by omega) (by omega)).trans h1, (hs 2 (by omega) (by omega) (by omega)).trans h2, s, (hs 3 (by omega) (by omega) (by omega)).trans h3, hr.same (fun b hb' => ?_), fun b hb' => ?_, hc⟩
  · have := hb b hb'; exact hs b (by omega) (by omega) (by omega)
  · have := hb b hb'; omega

/-- what lies at the head of an inner round of made -/
def InI (k : KindV) (A : Hp) (a : Nat) (vec : List Int) (outs calm : List (List Int)) (H : Hp) (nx : Nat) : Prop := a + 3 ≤ nx ∧ (∀ x, x < a → x ≠ 4 → H x = A x) ∧ H a = some [.msl 5 k.n 1 0 k.n] ∧
  ∃ so sc, H (a + 1) = some [encV vec, so, sc] ∧ Row H 1 so (outs.map encV) ∧ Row H 1 sc (calm.map encV) ∧ (∀ b, rowB so = some b → a + 4 ≤ b ∧ b < nx) ∧ (∀ b, rowB sc = some b → a + 4 ≤ b ∧ b < nx) ∧ (∀ b, rowB so = some b → rowB sc ≠ some b) ∧ outs.length ≤ 1024 ∧ calm.length ≤ outs.length

theorem InI.stab {k : KindV} {A : Hp} {a : Nat} {vec : List Int} {outs calm : List (List Int)} {H H' : Hp} {nx nx' : Nat} (h : InI k A a vec outs calm H nx) (hn : nx ≤ nx') (hs : ∀ i, i < nx → i ≠ a + 2 → i ≠ a + 3 → H' i = H i) : InI k A a vec outs calm H' nx' := by
  obtain ⟨h1, h2, h3, so, sc, h4, h5, h6, h7, h8, h9, h10⟩ := h
  refine ⟨by omega, fun x hx h4' => (hs x (by omega) (by omega) (by omega)).trans (h2 x hx h4'), (hs a (by omega) (by omega) (by omega)).trans h3, so, sc, (hs (a + 1) (by omega) (by omega) (by omega)).trans h4, h5.same (fun b hb => ?_), h6.same (fun b hb => ?_), fun b hb => ?_, fun b hb => ?_, h9, h10⟩
  · have := h7 b hb; exact hs b (by omega) (by omega) (by omega)
  · have := h8 b hb; exact hs b (by omega) (by omega) (by omega)
  · have := h7 b hb; omega
  · have := h8 b hb; omega

theorem InI.put1 {k : KindV} {A D E : Hp} {a d e : Nat} {vec w : List Int} {outs calm : List (List Int)} {so sc s2 c1 : AV} (q : a + 4 ≤ d) (r2 : ∀ x, x < a → x ≠ 4 → D x = A x) (r3 : D a = some [.msl 5 k.n 1 0 k.n])
    (r6 : Row D 1 sc (calm.map encV)) (r7 : ∀ b, rowB so = some b → a + 4 ≤ b ∧ b < d) (r8 : ∀ b, rowB sc = some b → a + 4 ≤ b ∧ b < d) (r9 : ∀ b, rowB so = some b → rowB sc ≠ some b) (r10 : outs.length < 1024) (r11 : calm.length ≤ outs.length)
    (hrow : Row E 1 s2 (outs.map encV ++ [encV w])) (hle : d ≤ e) (hs : ∀ i, i < d → i ≠ a + 2 → rowB so ≠ some i → E i = D i) (hb : ∀ b, rowB s2 = some b → rowB so = some b ∨ d ≤ b ∧ b < e) :
    InI k A a vec (outs ++ [w]) calm (hupd (hupd E (a + 1) [encV vec, s2, sc]) (a + 2) [c1]) e ∧ E (a + 3) = D (a + 3) := by
  have hf : ∀ x, x < a + 4 → x ≠ a + 2 → E x = D x := fun x hx h2 => hs x (by omega) h2 (fun h => by have := r7 x h; omega)
  have h4 : ∀ b, rowB s2 = some b → a + 4 ≤ b ∧ b < e := fun b h => by
    rcases hb b h with h | h
    · have := r7 b h; omega
    · omega
  refine ⟨⟨by omega, fun x hx h => ?_, ?_, s2, sc, ?_, ?_, ?_, h4, fun b h => ?_, fun b h h' => ?_, by simp; omega, by simp; omega⟩, hf _ (by omega) (by omega)⟩
  · rw [hupd_ne (by omega), hupd_ne (by omega), hf x (by omega) (by omega), r2 x hx h]
  · rw [hupd_ne (by omega), hupd_ne (by omega), hf a (by omega) (by omega), r3]
  · rw [hupd_ne (by omega), hupd_self']
  · rw [List.map_append]
    refine hrow.same fun b h => ?_
    have := h4 b h
    rw [hupd_ne (by omega), hupd_ne (by omega)]
  · refine r6.same fun b h => ?_
    have := r8 b h
    rw [hupd_ne (by omega), hupd_ne (by omega)]
    exact hs b (by omega) (by omega) (fun h' => r9 b h' h)
  · have := r8 b h; omega
  · rcases hb b h with h2 | h2
    · exact r9 b h2 h'
    · have := r8 b h'; omega

theorem InI.put2 {k : KindV} {A D E : Hp} {a d e : Nat} {vec w : List Int} {outs calm : List (List Int)} {so sc s2 c1 : AV} (q : a + 4 ≤ d) (r2 : ∀ x, x < a → x ≠ 4 → D x = A x) (r3 : D a = some [.msl 5 k.n 1 0 k.n])
    (r5 : Row D 1 so (outs.map encV)) (r7 : ∀ b, rowB so = some b → a + 4 ≤ b ∧ b < d) (r8 : ∀ b, rowB sc = some b → a + 4 ≤ b ∧ b < d) (r9 : ∀ b, rowB so = some b → rowB sc ≠ some b) (r10 : outs.length ≤ 1024) (r11 : calm.length < outs.length)
    (hrow : Row E 1 s2 (calm.map encV ++ [encV w])) (hle : d ≤ e) (hs : ∀ i, i < d → i ≠ a + 2 → rowB sc ≠ some i → E i = D i) (hb : ∀ b, rowB s2 = some b → rowB sc = some b ∨ d ≤ b ∧ b < e) :
    InI k A a vec outs (calm ++ [w]) (hupd (hupd E (a + 1) [encV vec, so, s2]) (a + 2) [c1]) e ∧ E (a + 3) = D (a + 3) := by
  have hf : ∀ x, x < a + 4 → x ≠ a + 2 → E x = D x := fun x hx h2 => hs x (by omega) h2 (fun h => by have := r8 x h; omega)
  have h4 : ∀ b, rowB s2 = some b → a + 4 ≤ b ∧ b < e := fun b h => by
    rcases hb b h with h | h
    · have := r8 b h; omega
    · omega
  refine ⟨⟨by omega, fun x hx h => ?_, ?_, so, s2, ?_, ?_, ?_, fun b h => ?_, h4, fun b h h' => ?_, by omega, by simp; omega⟩, hf _ (by omega) (by omega)⟩
  · rw [hupd_ne (by omega), hupd_ne (by omega), hf x (by omega) (by omega), r2 x hx h]
  · rw [hupd_ne (by omega), hupd_ne (by omega), hf a (by omega) (by omega), r3]
  · rw [hupd_ne (by omega), hupd_self']
  · refine r5.same fun b h => ?_
    have := r7 b h
    rw [hupd_ne (by omega), hupd_ne (by omega)]
    exact hs b (by omega) (by omega) (fun h' => r9 b h h')
  · rw [List.map_append]
    refine hrow.same fun b h => ?_
    have := h4 b h
    rw [hupd_ne (by omega), hupd_ne (by omega)]
  · have := r7 b h; omega
  · rcases hb b h' with h2 | h2
    · exact r9 b h h2
    · have := r7 b h; omega

def hkeep (B : Nat → Bool) (H : Hp) : Hp := fun b => if B b = true then H b else none
def hdrop (B : Nat → Bool) (H : Hp) : Hp := fun b => if B b = true then none else H b
theorem CellsTo.nil {Hf : Hp} : CellsTo Hf [] [] := CellsTo.refl _ _
theorem CellsTo.cons {Hf : Hp} {x x' : AV} {cs cs' : List AV} (h : x' = x ∨ Snap Hf x x') (h2 : CellsTo Hf cs cs') : CellsTo Hf (x :: cs) (x' :: cs') := by
  refine ⟨by simp [h2.1], fun i y y' e1 e2 => ?_⟩
  cases i with
  | zero => simp at e1 e2; subst e1 e2; exact h
  | succ i => simp at e1 e2; exact h2.2 i y y' e1 e2
theorem Fz.put {H : Hp} {B : Nat → Bool} {x : Nat} {cs cs' : List AV} (hx : B x = false) (h : H x = some cs) (hc : CellsTo (hkeep B H) cs cs') : Fz (hkeep B H) H (hupd (hdrop B H) x cs') := by
  refine ⟨fun b c hb => ?_, fun b c hb => ?_⟩
  · unfold hkeep at hb; split at hb
    · exact hb
    · cases hb
  · by_cases e : b = x
    · subst e
      rw [hupd_self'] at hb
      cases hb
      exact ⟨cs, h, by simp [hkeep, hx], hc⟩
    · rw [hupd_ne e] at hb
      unfold hdrop at hb; split at hb
      · cases hb
      · rename_i hB
        exact ⟨c, hb, by simp [hkeep, hB], CellsTo.refl _ _⟩
theorem hdrop_at {B : Nat → Bool} {H : Hp} {x : Nat} (h : B x = false) : hdrop B H x = H x := by simp [hdrop, h]
theorem Row_keep {H : Hp} {sz : Nat} {s : AV} {cs : List AV} {B : Nat → Bool} (h : Row H sz s cs) (hb : ∀ b, rowB s = some b → B b = true) : Row (hkeep B H) sz s cs := h.same fun b e => by simp [hkeep, hb b e]

theorem asrc_three {H : Hp} {d : Nat} {x y z : AV} : asrc 3 (hupd H d [x, y, z]) (.msl d 3 3 0 1) = some (1, [x, y, z]) := asrc_msl (n := 3) (len := 1) (off := 0) (cs := [x, y, z]) hupd_self' rfl (by simp)

theorem asrc_one {H : Hp} {d : Nat} {x : AV} : asrc 1 (hupd H d [x]) (.msl d 1 1 0 1) = some (1, [x]) := asrc_msl (n := 1) (len := 1) (off := 0) (cs := [x]) hupd_self' rfl (by simp)

theorem made_c (k : KindV) (hn : 1 ≤ k.n ∧ k.n ≤ 5) (hi : 1 ≤ k.ins ∧ k.ins ≤ 8) (ho : 1 ≤ k.outs ∧ k.outs ≤ 8) (kk : Int) (hk : kk = -1 ∨ 1 ≤ kk ∧ kk ≤ k.n) (fc fa fm : AV)
    (hc : Cond fc (every k.n k.ins) k.pc) (hcc : k.hasC = true ↔ fc ≠ .nilf) (ha : Cond2 fa (every k.n k.ins) (every k.n k.outs) k.pa) (hm : (fm = .nilf ∧ ∀ x y, k.pm x y = false) ∨ Cond2 fm (every k.n k.ins) (every k.n k.outs) k.pm) :
    Pure Try.prog 45 [.agg [.int .i64 k.n, .int .i64 k.ins, .int .i64 k.outs, .int .i64 kk, fc, fa, fm]] (.tup [encT (taskOf k).1, .int .i64 (taskOf k).2]) := by
  refine Pure.of_c2 follows is45 (Nat.le_of_ble_eq_true rfl) ?_
  simp only [b45]
  obtain ⟨hd1, hc1, ho1⟩ := hc.dat
  obtain ⟨hd2, hc2, ho2⟩ := ha.dat
  have hd3 : Dat fm ∧ fm.cells = [fm] ∧ fm.one = true := by
    rcases hm with ⟨rfl, _⟩ | hm
    · exact ⟨.nilf, rfl, rfl⟩
    · exact hm.dat
  obtain ⟨hd3, hc3, ho3⟩ := hd3
  have hfc : ∀ tb, abin2 .neq tb true fc .nilf = some (.bool k.hasC) := by
    rcases hc.out with ⟨rfl, _⟩ | ⟨g, caps, rfl, _⟩
    · have : k.hasC = false := by cases h : k.hasC with | false => rfl | true => exact absurd rfl (hcc.1 h)
      intro tb; rw [this]; rfl
    · have : k.hasC = true := hcc.2 (by simp)
      intro tb; rw [this]; rfl
  have hH0 : ∃ H0 : Hp, H0 = hupd (hupd (hupd noBoxes 0 [.int .i64 k.n, .int .i64 k.ins, .int .i64 k.outs, .int .i64 kk, fc, fa, fm]) 1 [.int .i64 0, .int .i64 0, .int .i64 0, .esl]) 2 [.int .i64 0] := ⟨_, rfl⟩
  obtain ⟨H0, hH0⟩ := hH0
  have g0 : H0 0 = some [.int .i64 k.n, .int .i64 k.ins, .int .i64 k.outs, .int .i64 kk, fc, fa, fm] := by rw [hH0]; rfl
  have g1 : H0 1 = some [.int .i64 0, .int .i64 0, .int .i64 0, .esl] := by rw [hH0]; rfl
  have g2 : H0 2 = some [.int .i64 0] := by rw [hH0]; rfl
  have gn : ∀ i, 3 ≤ i → H0 i = none := by intro i hi; rw [hH0, hupd_ne (by omega), hupd_ne (by omega), hupd_ne (by omega)]; rfl
  refine w_seq ?_
  repeat' (first | refine w_ops0 ?_ | refine a_n ?_ | refine o_nil ?_ | (apply e_alloc rfl; (focus ((try simp only [simB0, simB1, SA, SV, SN, SR, SL, pick_bool, Nat.reduceEqDiff, ↓reduceIte, Nat.reduceAdd, Nat.reduceLeDiff, ho1, ho2, ho3]); (try with_reducible rfl); done)); (focus (simp only [SO, Bool.and_self, one_encV, one_encVV, ho1, ho2, ho3]))) | (apply e_box rfl; (focus ((try simp only [simB0, simB1, SA, SV, SN, SR, SL, pick_bool, Nat.reduceEqDiff, ↓reduceIte, Nat.reduceAdd, Nat.reduceLeDiff, ho1, ho2, ho3]); (try with_reducible rfl); done)); (focus ((try simp only [simB0, simB1, SA, SV, SN, SR, SL, pick_bool, Nat.reduceEqDiff, ↓reduceIte, Nat.reduceAdd, Nat.reduceLeDiff, ho1, ho2, ho3]); (try with_reducible rfl); done)); (focus (simp only [SO, Bool.and_self, one_encV, one_encVV, ho1, ho2, ho3]))))
  refine w_seqC (fun T H nx => H = H0 ∧ nx = 3 ∧ T 1 = .ptr 0 7 0 ∧ T 2 = .ptr 1 4 0 ∧ T 3 = .ptr 2 1 0) ?_ ?_
  · clear g0 g1 g2 gn
    repeat' (first | refine w_seq ?_ | refine w_ops0 ?_ | refine w_block ?_ | refine w_skip ?_ | refine a_n ?_ | refine o_nil ?_ | (apply o_val rfl rfl; (focus ((try simp (disch := omega) only [simB0, simB1, SA, SV, SN, SR, SL, pick_bool, Nat.reduceEqDiff, ↓reduceIte, Nat.reduceAdd, Nat.reduceLeDiff, SO, one_encV, one_encVV, Bool.and_self, Bool.false_eq_true, reduceCtorEq, wrap64, aixS_encV, aixS_encVV, alenS_encV, alenS_encVV, Int.toNat_natCast, List.length_map, aixS_msl, getElem?_map_lt, Nat.mul_one, ho1, ho2, ho3]); first | with_reducible rfl | (apply s_ite; (focus omega); with_reducible rfl)))) | (apply o_callD; (focus ((try simp only [simB0, simB1, SA, SV, SN, SR, SL, pick_bool, Nat.reduceEqDiff, ↓reduceIte, Nat.reduceAdd, Nat.reduceLeDiff, ho1, ho2, ho3]); (try with_reducible rfl); done)); (focus ((try simp only [simB0, simB1, SA, SV, SN, SR, SL, pick_bool, Nat.reduceEqDiff, ↓reduceIte, Nat.reduceAdd, Nat.reduceLeDiff, ho1, ho2, ho3]); (try with_reducible rfl); done)); (focus (first | (exact between_c _ _ _))); (focus (first | (apply snap_data; repeat' (first | exact snapL_nil | apply snapL_dat | exact Dat.int | exact Dat.bool | exact Dat.str | exact Dat.esl | exact Dat.nilf | exact encV_dat _ | exact encVV_dat _)) | (apply snap_plain; (focus (repeat' (first | exact snapL_nil | apply snapL_dat | exact Dat.int | exact Dat.bool | exact Dat.str | exact encV_dat _ | exact encVV_dat _))); rfl)))) | (apply o_gT; (focus (simp only [simB0, simB1, SA, SV, SN, SR, SL, pick_bool, Nat.reduceEqDiff, ↓reduceIte, Nat.reduceAdd, Nat.reduceLeDiff, ho1, ho2, ho3]; done))) | (apply o_gF; (focus (simp only [simB0, simB1, SA, SV, SN, SR, SL, pick_bool, Nat.reduceEqDiff, ↓reduceIte, Nat.reduceAdd, Nat.reduceLeDiff, or_true, true_or, ho1, ho2, ho3]; done))) | (apply o_gB; (focus ((try simp only [simB0, simB1, SA, SV, SN, SR, SL, pick_bool, Nat.reduceEqDiff, ↓reduceIte, Nat.reduceAdd, Nat.reduceLeDiff, ho1, ho2, ho3]); (try with_reducible rfl); done)); all_goals (intro _hg; (try simp only [Bool.not_true, Bool.not_false, Bool.not_eq_true', Bool.not_eq_false', Bool.not_not, decide_eq_true_eq, decide_eq_false_iff_not] at _hg); try (exfalso; omega))) | (apply w_condF; (focus (simp only [simB0, simB1, SA, SV, SN, SR, SL, pick_bool, Nat.reduceEqDiff, ↓reduceIte, Nat.reduceAdd, Nat.reduceLeDiff, ho1, ho2, ho3]; done))) | (apply w_cond; (focus ((try simp only [simB0, simB1, SA, SV, SN, SR, SL, pick_bool, Nat.reduceEqDiff, ↓reduceIte, Nat.reduceAdd, Nat.reduceLeDiff, ho1, ho2, ho3]); (try with_reducible rfl); done)); all_goals (intro _hg; (try simp only [Bool.not_eq_true', Bool.not_eq_false', Bool.not_not, decide_eq_true_eq, decide_eq_false_iff_not] at _hg); try (exfalso; omega))))
    all_goals exact ⟨hH0.symm, rfl, rfl, rfl, rfl⟩
  · rintro T H nx ⟨rfl, rfl, t1, t2, t3⟩
    clear hH0
    refine w_seqC (fun T H' nx => H' = H ∧ nx = 3 ∧ T 1 = .ptr 0 7 0 ∧ T 2 = .ptr 1 4 0 ∧ T 3 = .ptr 2 1 0 ∧ 0 < cnt (every k.n k.ins) k.pc ∧ cnt (every k.n k.ins) k.pc ≤ 1024 ∧ ¬ (k.hasC = true ∧ k.outs < k.n)) ?_ ?_
    · repeat' (first | refine w_seq ?_ | refine w_ops0 ?_ | refine w_block ?_ | refine w_skip ?_ | refine w_ret ?_ | refine a_n ?_ | refine a_r ?_ | refine o_nil ?_ | (apply o_val rfl rfl; (focus ((try simp (disch := omega) only [simB0, simB1, SA, SV, SN, SR, SL, pick_bool, Nat.reduceEqDiff, ↓reduceIte, Nat.reduceAdd, Nat.reduceLeDiff, SO, one_encV, one_encVV, Bool.and_self, Bool.false_eq_true, reduceCtorEq, wrap64, aixS_encV, aixS_encVV, alenS_encV, alenS_encVV, Int.toNat_natCast, List.length_map, aixS_msl, getElem?_map_lt, Nat.mul_one, t1, t2, t3, g0, g1, g2, hfc, ho1, ho2, ho3]); first | with_reducible rfl | (apply s_ite; (focus omega); with_reducible rfl)))) | (apply o_callD; (focus ((try simp only [simB0, simB1, SA, SV, SN, SR, SL, pick_bool, Nat.reduceEqDiff, ↓reduceIte, Nat.reduceAdd, Nat.reduceLeDiff, t1, t2, t3, g0, g1, g2, hfc, ho1, ho2, ho3]); (try with_reducible rfl); done)); (focus ((try simp only [simB0, simB1, SA, SV, SN, SR, SL, pick_bool, Nat.reduceEqDiff, ↓reduceIte, Nat.reduceAdd, Nat.reduceLeDiff, t1, t2, t3, g0, g1, g2, hfc, ho1, ho2, ho3]); (try with_reducible rfl); done)); (focus (first | (exact many_c _ _ 1024 (by omega) (by omega) (by omega) _ _ hc))); (focus (first | (apply snap_data; repeat' (first | exact snapL_nil | apply snapL_dat | exact Dat.int | exact Dat.bool | exact Dat.str | exact Dat.esl | exact Dat.nilf | exact encV_dat _ | exact encVV_dat _ | exact hd1)) | (apply snap_plain; (focus (repeat' (first | exact snapL_nil | apply snapL_dat | exact Dat.int | exact Dat.bool | exact Dat.str | exact encV_dat _ | exact encVV_dat _ | exact hd1))); rfl)))) | (apply e_st rfl; (focus ((try simp only [simB0, simB1, SA, SV, SN, SR, SL, pick_bool, Nat.reduceEqDiff, ↓reduceIte, Nat.reduceAdd, Nat.reduceLeDiff, t1, t2, t3, g0, g1, g2, hfc, ho1, ho2, ho3]); (try with_reducible rfl); done)); (focus ((try simp only [simB0, simB1, SA, SV, SN, SR, SL, pick_bool, Nat.reduceEqDiff, ↓reduceIte, Nat.reduceAdd, Nat.reduceLeDiff, t1, t2, t3, g0, g1, g2, hfc, ho1, ho2, ho3]); (try with_reducible rfl); done)); (focus ((try simp only [simB0, simB1, SA, SV, SN, SR, SL, pick_bool, Nat.reduceEqDiff, ↓reduceIte, Nat.reduceAdd, Nat.reduceLeDiff, t1, t2, t3, g0, g1, g2, hfc, ho1, ho2, ho3]); (try with_reducible rfl); done)); (focus ((try simp only [simB0, simB1, SA, SV, SN, SR, SL, pick_bool, Nat.reduceEqDiff, ↓reduceIte, Nat.reduceAdd, Nat.reduceLeDiff, t1, t2, t3, g0, g1, g2, hfc, ho1, ho2, ho3]); (try with_reducible rfl); done)); (focus (simp only [SO, Bool.and_self, one_encV, one_encVV, t1, t2, t3, g0, g1, g2, hfc, ho1, ho2, ho3])); (focus ((try simp only [SL, Nat.reduceAdd, Nat.reduceMul, List.length_map]); first | done | omega)); (focus ((try simp only [SL, Nat.reduceAdd, Nat.reduceMul, List.length_map]); first | done | omega)); (focus ((try simp only [SL, Nat.reduceAdd, Nat.reduceMul, List.length_map]); first | done | omega))) | (apply o_gT; (focus (simp only [simB0, simB1, SA, SV, SN, SR, SL, pick_bool, Nat.reduceEqDiff, ↓reduceIte, Nat.reduceAdd, Nat.reduceLeDiff, t1, t2, t3, g0, g1, g2, hfc, ho1, ho2, ho3]; done))) | (apply o_gF; (focus (simp only [simB0, simB1, SA, SV, SN, SR, SL, pick_bool, Nat.reduceEqDiff, ↓reduceIte, Nat.reduceAdd, Nat.reduceLeDiff, or_true, true_or, t1, t2, t3, g0, g1, g2, hfc, ho1, ho2, ho3]; done))) | (apply o_gB; (focus ((try simp only [simB0, simB1, SA, SV, SN, SR, SL, pick_bool, Nat.reduceEqDiff, ↓reduceIte, Nat.reduceAdd, Nat.reduceLeDiff, t1, t2, t3, g0, g1, g2, hfc, ho1, ho2, ho3]); (try with_reducible rfl); done)); all_goals (intro _hg; (try simp only [Bool.not_true, Bool.not_false, Bool.not_eq_true', Bool.not_eq_false', Bool.not_not, decide_eq_true_eq, decide_eq_false_iff_not] at _hg); try (exfalso; omega))) | (apply w_condF; (focus (simp only [simB0, simB1, SA, SV, SN, SR, SL, pick_bool, Nat.reduceEqDiff, ↓reduceIte, Nat.reduceAdd, Nat.reduceLeDiff, t1, t2, t3, g0, g1, g2, hfc, ho1, ho2, ho3]; done))) | (apply w_cond; (focus ((try simp only [simB0, simB1, SA, SV, SN, SR, SL, pick_bool, Nat.reduceEqDiff, ↓reduceIte, Nat.reduceAdd, Nat.reduceLeDiff, t1, t2, t3, g0, g1, g2, hfc, ho1, ho2, ho3]); (try with_reducible rfl); done)); all_goals (intro _hg; (try simp only [Bool.not_eq_true', Bool.not_eq_false', Bool.not_not, decide_eq_true_eq, decide_eq_false_iff_not] at _hg); try (exfalso; omega))) | (refine e_ends rfl ?_) | (apply r_2; (focus (simp only [rv, simB0, simB1, SA, SV, SN, SR, SL, pick_bool, Nat.reduceEqDiff, ↓reduceIte, Nat.reduceAdd, Nat.reduceLeDiff, t1, t2, t3, g0, g1, g2, hfc, ho1, ho2, ho3]; with_reducible rfl)); (focus (simp only [rv, simB0, simB1, SA, SV, SN, SR, SL, pick_bool, Nat.reduceEqDiff, ↓reduceIte, Nat.reduceAdd, Nat.reduceLeDiff, t1, t2, t3, g0, g1, g2, hfc, ho1, ho2, ho3]; with_reducible rfl))))
      · have e : taskOf k = (T00, 16) := by unfold taskOf; rw [if_pos (by omega)]
        rw [e]; exact snapErr 16
      · have e : taskOf k = (T00, 16) := by unfold taskOf; rw [if_neg (by omega), if_pos ⟨by assumption, by omega⟩]
        rw [e]; exact snapErr 16
      · have e : taskOf k = (T00, 17) := by unfold taskOf; rw [if_neg (by omega), if_neg (fun h => by omega), if_pos (by omega)]
        rw [e]; exact snapErr 17
      · exact ⟨rfl, rfl, t1, t2, t3, by omega, by omega, fun h => by omega⟩
      · have e : taskOf k = (T00, 17) := by unfold taskOf; rw [if_neg (by omega), if_neg (fun h => by simp_all), if_pos (by omega)]
        rw [e]; exact snapErr 17
      · exact ⟨rfl, rfl, t1, t2, t3, by omega, by omega, fun h => by simp_all⟩
    · clear t1 t2 t3
      rintro T H' nx ⟨rfl, rfl, t1, t2, t3, c1, c2, c3⟩
      refine w_seq ?_
      repeat' (first | refine w_ops0 ?_ | refine a_n ?_ | refine o_nil ?_ | (apply o_val rfl rfl; (focus ((try simp (disch := omega) only [simB0, simB1, SA, SV, SN, SR, SL, pick_bool, Nat.reduceEqDiff, ↓reduceIte, Nat.reduceAdd, Nat.reduceLeDiff, SO, one_encV, one_encVV, Bool.and_self, Bool.false_eq_true, reduceCtorEq, wrap64, aixS_encV, aixS_encVV, alenS_encV, alenS_encVV, Int.toNat_natCast, List.length_map, aixS_msl, getElem?_map_lt, Nat.mul_one, t1, t2, t3, g0, g1, g2, ho1, ho2, ho3]); first | with_reducible rfl | (apply s_ite; (focus omega); with_reducible rfl)))) | (apply e_alloc rfl; (focus ((try simp only [simB0, simB1, SA, SV, SN, SR, SL, pick_bool, Nat.reduceEqDiff, ↓reduceIte, Nat.reduceAdd, Nat.reduceLeDiff, t1, t2, t3, g0, g1, g2, ho1, ho2, ho3]); (try with_reducible rfl); done)); (focus (simp only [SO, Bool.and_self, one_encV, one_encVV, t1, t2, t3, g0, g1, g2, ho1, ho2, ho3]))) | (apply e_st rfl; (focus ((try simp only [simB0, simB1, SA, SV, SN, SR, SL, pick_bool, Nat.reduceEqDiff, ↓reduceIte, Nat.reduceAdd, Nat.reduceLeDiff, t1, t2, t3, g0, g1, g2, ho1, ho2, ho3]); (try with_reducible rfl); done)); (focus ((try simp only [simB0, simB1, SA, SV, SN, SR, SL, pick_bool, Nat.reduceEqDiff, ↓reduceIte, Nat.reduceAdd, Nat.reduceLeDiff, t1, t2, t3, g0, g1, g2, ho1, ho2, ho3]); (try with_reducible rfl); done)); (focus ((try simp only [simB0, simB1, SA, SV, SN, SR, SL, pick_bool, Nat.reduceEqDiff, ↓reduceIte, Nat.reduceAdd, Nat.reduceLeDiff, t1, t2, t3, g0, g1, g2, ho1, ho2, ho3]); (try with_reducible rfl); done)); (focus ((try simp only [simB0, simB1, SA, SV, SN, SR, SL, pick_bool, Nat.reduceEqDiff, ↓reduceIte, Nat.reduceAdd, Nat.reduceLeDiff, t1, t2, t3, g0, g1, g2, ho1, ho2, ho3]); (try with_reducible rfl); done)); (focus (simp only [SO, Bool.and_self, one_encV, one_encVV, t1, t2, t3, g0, g1, g2, ho1, ho2, ho3])); (focus ((try simp only [SL, Nat.reduceAdd, Nat.reduceMul, List.length_map]); first | done | omega)); (focus ((try simp only [SL, Nat.reduceAdd, Nat.reduceMul, List.length_map]); first | done | omega)); (focus ((try simp only [SL, Nat.reduceAdd, Nat.reduceMul, List.length_map]); first | done | omega))))
      have hlc : ∀ l : List CaseV, (∀ y ∈ l.map encC, y.cells.length = 3) := by
        intro l y hy; simp at hy; obtain ⟨c, _, rfl⟩ := hy; rfl
      have hmany : ∀ i, ((casesOf k ((every k.n k.ins).take i)).length ≤ 1024) := by
        intro i; unfold casesOf; rw [List.length_map]; exact Nat.le_trans (cnt_mono _ _ i) c2
      refine w_seqC (fun T' H' nx' => T' 2 = .ptr 1 4 0 ∧ T' 3 = .ptr 2 1 0 ∧ T' 5 = .ptr 3 4 0 ∧ H' 1 = some [.int .i64 0, .int .i64 0, .int .i64 0, .esl] ∧ H' 2 = some [.int .i64 0] ∧
        ∃ s, H' 3 = some [.int .i64 k.n, .int .i64 k.ins, .int .i64 k.outs, s] ∧ Row H' 3 s (((casesOf k (every k.n k.ins)).map encC).flatMap AV.cells) ∧ (∀ b, rowB s = some b → 6 ≤ b) ∧ ∀ c ∈ casesOf k (every k.n k.ins), c.out.length ≤ 1024) ?_ ?_
      rotate_left
      · rintro T' H' nx' ⟨u2, u3, u5, e1, e2, s, e3, hrow, hb6, hall⟩
        obtain ⟨hso, hsc⟩ := hrow.one
        repeat' (first | refine w_seq ?_ | refine w_ops0 ?_ | refine w_ret ?_ | refine a_n ?_ | refine o_nil ?_ | (apply o_val rfl rfl; (focus ((try simp (disch := omega) only [simB0, simB1, SA, SV, SN, SR, SL, pick_bool, Nat.reduceEqDiff, ↓reduceIte, Nat.reduceAdd, Nat.reduceLeDiff, SO, one_encV, one_encVV, Bool.and_self, Bool.false_eq_true, reduceCtorEq, wrap64, aixS_encV, aixS_encVV, alenS_encV, alenS_encVV, Int.toNat_natCast, List.length_map, aixS_msl, getElem?_map_lt, Nat.mul_one, u2, u3, u5, e1, e2, e3, hso, hsc]); first | with_reducible rfl | (apply s_ite; (focus omega); with_reducible rfl)))) | (apply e_st rfl; (focus ((try simp only [simB0, simB1, SA, SV, SN, SR, SL, pick_bool, Nat.reduceEqDiff, ↓reduceIte, Nat.reduceAdd, Nat.reduceLeDiff, u2, u3, u5, e1, e2, e3, hso, hsc]); (try with_reducible rfl); done)); (focus ((try simp only [simB0, simB1, SA, SV, SN, SR, SL, pick_bool, Nat.reduceEqDiff, ↓reduceIte, Nat.reduceAdd, Nat.reduceLeDiff, u2, u3, u5, e1, e2, e3, hso, hsc]); (try with_reducible rfl); done)); (focus ((try simp only [simB0, simB1, SA, SV, SN, SR, SL, pick_bool, Nat.reduceEqDiff, ↓reduceIte, Nat.reduceAdd, Nat.reduceLeDiff, u2, u3, u5, e1, e2, e3, hso, hsc]); (try with_reducible rfl); done)); (focus ((try simp only [simB0, simB1, SA, SV, SN, SR, SL, pick_bool, Nat.reduceEqDiff, ↓reduceIte, Nat.reduceAdd, Nat.reduceLeDiff, u2, u3, u5, e1, e2, e3, hso, hsc]); (try with_reducible rfl); done)); (focus (simp only [SO, Bool.and_self, one_encV, one_encVV, u2, u3, u5, e1, e2, e3, hso, hsc])); (focus ((try simp only [SL, Nat.reduceAdd, Nat.reduceMul, List.length_map]); first | done | omega)); (focus ((try simp only [SL, Nat.reduceAdd, Nat.reduceMul, List.length_map]); first | done | omega)); (focus ((try simp only [SL, Nat.reduceAdd, Nat.reduceMul, List.length_map]); first | done | omega))) | (refine e_ends rfl ?_) | (apply r_2; (focus (simp only [rv, simB0, simB1, SA, SV, SN, SR, SL, pick_bool, Nat.reduceEqDiff, ↓reduceIte, Nat.reduceAdd, Nat.reduceLeDiff, u2, u3, u5, e1, e2, e3, hso, hsc]; with_reducible rfl)); (focus (simp only [rv, simB0, simB1, SA, SV, SN, SR, SL, pick_bool, Nat.reduceEqDiff, ↓reduceIte, Nat.reduceAdd, Nat.reduceLeDiff, u2, u3, u5, e1, e2, e3, hso, hsc]; with_reducible rfl))))
        have e : taskOf k = (⟨k.n, k.ins, k.outs, casesOf k (every k.n k.ins)⟩, 0) := by
          unfold taskOf
          rw [if_neg (by omega), if_neg c3, if_neg (by omega), if_neg]
          rw [List.any_eq_true]
          rintro ⟨c, hc1, hc2⟩
          have := hall c hc1
          simp at hc2; omega
        rw [e]
        refine snap_tup (snapL_cons (snap_agg ?_) (snapL_cons (.int _ _) snapL_nil))
        refine snapL_cons (.int _ _) (snapL_cons (.int _ _) (snapL_cons (.int _ _) (snapL_cons ?_ snapL_nil)))
        refine Row.snap (hrow.same fun b hb => ?_) (hlc _) (by omega) (fun y hy c hc' => ?_)
        · have := hb6 b hb
          rw [hupd_ne (by omega), hupd_ne (by omega)]
        · simp at hy; obtain ⟨q, _, rfl⟩ := hy
          simp only [encC, AV.cells, List.mem_cons, List.not_mem_nil, or_false] at hc'
          rcases hc' with rfl | rfl | rfl
          · exact encV_dat _
          · exact encVV_dat _
          · exact encVV_dat _
      refine w_seq ?_
      repeat' (first | refine w_ops0 ?_ | refine a_n ?_ | refine o_nil ?_ | (apply o_val rfl rfl; (focus ((try simp (disch := omega) only [simB0, simB1, SA, SV, SN, SR, SL, pick_bool, Nat.reduceEqDiff, ↓reduceIte, Nat.reduceAdd, Nat.reduceLeDiff, SO, one_encV, one_encVV, Bool.and_self, Bool.false_eq_true, reduceCtorEq, wrap64, aixS_encV, aixS_encVV, alenS_encV, alenS_encVV, Int.toNat_natCast, List.length_map, aixS_msl, getElem?_map_lt, Nat.mul_one, t1, t2, t3, g0, g1, g2, ho1, ho2, ho3]); first | with_reducible rfl | (apply s_ite; (focus omega); with_reducible rfl)))) | (apply o_callD; (focus ((try simp only [simB0, simB1, SA, SV, SN, SR, SL, pick_bool, Nat.reduceEqDiff, ↓reduceIte, Nat.reduceAdd, Nat.reduceLeDiff, t1, t2, t3, g0, g1, g2, ho1, ho2, ho3]); (try with_reducible rfl); done)); (focus ((try simp only [simB0, simB1, SA, SV, SN, SR, SL, pick_bool, Nat.reduceEqDiff, ↓reduceIte, Nat.reduceAdd, Nat.reduceLeDiff, t1, t2, t3, g0, g1, g2, ho1, ho2, ho3]); (try with_reducible rfl); done)); (focus (first | (exact each_c _ _))); (focus (first | (apply snap_data; repeat' (first | exact snapL_nil | apply snapL_dat | exact Dat.int | exact Dat.bool | exact Dat.str | exact Dat.esl | exact Dat.nilf | exact encV_dat _ | exact encVV_dat _)) | (apply snap_plain; (focus (repeat' (first | exact snapL_nil | apply snapL_dat | exact Dat.int | exact Dat.bool | exact Dat.str | exact encV_dat _ | exact encVV_dat _))); rfl)))))
      refine w_block ?_
      refine w_rangeFb 4 5 rfl rfl (by ((try simp only [simB0, simB1, SA, SV, SN, SR, SL, pick_bool, Nat.reduceEqDiff, ↓reduceIte, Nat.reduceAdd, Nat.reduceLeDiff]); (try with_reducible rfl))) (fun c0 cj hy => ?_)
      have hL : ∀ i, i < (every k.n k.ins).length → casesOf k ((every k.n k.ins).take (i + 1)) = casesOf k ((every k.n k.ins).take i) ++ (if k.pc ((every k.n k.ins).getD i []) = true then [caseOf k ((every k.n k.ins).getD i [])] else []) := by
        intro i hi
        have : (every k.n k.ins).take (i + 1) = (every k.n k.ins).take i ++ [(every k.n k.ins).getD i []] := take_succ' hi
        rw [this]
        unfold casesOf
        rw [List.filter_append, List.map_append]
        congr 1
        simp only [List.filter_cons, List.filter_nil]
        split <;> rfl
      generalize hkc : [AV.int .i64 k.n, .int .i64 k.ins, .int .i64 k.outs, .int .i64 kk, fc, fa, fm] = kc at *
      refine Abs.Fn.mono (each_it (by omega) (by omega) (fun i H' nx => MadeI k kc (casesOf k ((every k.n k.ins).take i)) H' nx ∧ H' 4 = some [c0])
        (fun H' nx => H' 4 = some [cj .ret] ∧ H' 1 = some [.int .i64 0, .int .i64 0, .int .i64 0, .esl] ∧ H' 2 = some [.int .i64 17] ∧ ∃ c ∈ casesOf k (every k.n k.ins), 1024 < c.out.length) ?_ ?_ ?_) ?_
      · rintro i A B a b ⟨h1, h2⟩ hab _ hs
        exact ⟨h1.stab hab (fun i hi h5 _ => hs i hi h5), (hs 4 (by have := h1.1; omega) (by omega)).trans h2⟩
      · exact ⟨⟨Nat.le_refl _, g0, g1, g2, .esl, rfl, Row.nil, fun b hb => (by cases hb), fun c hc => (by cases hc)⟩, rfl⟩
      · rintro i A a hi ⟨hI, h4⟩ hn5 hA
        refine hy _ _ _ _ h4 rfl ?_
        clear hy
        have hmem : (every k.n k.ins).getD i [] ∈ every k.n k.ins := mem_getD (l := every k.n k.ins) hi
        have hvl := every_len k.n k.ins _ hmem
        have hLi := hL i hi
        generalize (every k.n k.ins).getD i [] = vec at hA hmem hvl hLi
        have h5 := hI.1
        obtain ⟨_, i0, i1, i2, s, i3, ir, ib, ic⟩ := hI
        have hI : MadeI k kc (casesOf k ((every k.n k.ins).take i)) A a := ⟨h5, i0, i1, i2, s, i3, ir, ib, ic⟩
        repeat' (first | refine w_ops0 ?_ | refine a_n ?_ | refine o_nil ?_ | (apply e_alloc rfl; (focus ((try simp (disch := omega) only [simB2, simB1, SA, SV, SN, SR, SL, pick_bool, Nat.reduceEqDiff, ↓reduceIte, Nat.reduceAdd, Nat.reduceLeDiff, i0, i1, i2, i3, h4, hA]); (try with_reducible rfl); done)); (focus (simp (disch := omega) only [SO, Bool.and_self, one_encV, one_encVV, i0, i1, i2, i3, h4, hA]))) | (apply e_st; (focus (first | rfl | (simp (disch := omega) only [dm2, oldP, newP, simB0, simB1, SA, SV, SN, SR, SL, pick_bool, Nat.reduceEqDiff, ↓reduceIte, Nat.reduceAdd, Nat.reduceLeDiff, decide_eq_true_eq]; first | done | omega))); (focus ((try simp (disch := omega) only [simB2, simB1, SA, SV, SN, SR, SL, pick_bool, Nat.reduceEqDiff, ↓reduceIte, Nat.reduceAdd, Nat.reduceLeDiff, i0, i1, i2, i3, h4, hA]); (try with_reducible rfl); done)); (focus ((try simp (disch := omega) only [simB2, simB1, SA, SV, SN, SR, SL, pick_bool, Nat.reduceEqDiff, ↓reduceIte, Nat.reduceAdd, Nat.reduceLeDiff, i0, i1, i2, i3, h4, hA]); (try with_reducible rfl); done)); (focus ((try simp (disch := omega) only [simB2, simB1, SA, SV, SN, SR, SL, pick_bool, Nat.reduceEqDiff, ↓reduceIte, Nat.reduceAdd, Nat.reduceLeDiff, i0, i1, i2, i3, h4, hA]); (try with_reducible rfl); done)); (focus ((try simp (disch := omega) only [simB2, simB1, SA, SV, SN, SR, SL, pick_bool, Nat.reduceEqDiff, ↓reduceIte, Nat.reduceAdd, Nat.reduceLeDiff, i0, i1, i2, i3, h4, hA]); (try with_reducible rfl); done)); (focus (simp (disch := omega) only [SO, Bool.and_self, one_encV, one_encVV, i0, i1, i2, i3, h4, hA])); (focus ((try simp (disch := omega) only [SL, Nat.reduceAdd, Nat.reduceMul, List.length_map]); first | done | omega)); (focus ((try simp (disch := omega) only [SL, Nat.reduceAdd, Nat.reduceMul, List.length_map]); first | done | omega)); (focus ((try simp (disch := omega) only [SL, Nat.reduceAdd, Nat.reduceMul, List.length_map]); first | done | omega))))
        refine ⟨by rw [hupd_ne (by omega), hupd_ne (by omega)]; exact h4, ?_⟩
        refine w_block ?_
        refine w_seqC (fun T' H' nx => (∀ x, x ≠ a → x ≠ 4 → H' x = A x) ∧ H' a = some [.msl 5 k.n 1 0 k.n] ∧ nx = a + 1 ∧ T' 1 = .ptr 0 7 0 ∧ T' 2 = .ptr 1 4 0 ∧ T' 3 = .ptr 2 1 0 ∧ T' 5 = .ptr 3 4 0 ∧ T' 6 = .ptr a 1 0 ∧ k.pc vec = true) ?_ ?_
        · have hfr : ∀ x, x ≠ a → x ≠ 4 → hdel (hupd (hupd A a [AV.esl]) a (lput [AV.esl] 0 [AV.msl 5 k.n 1 0 k.n])) 4 x = A x := fun x h1 h2 => by
            rw [hdel_ne h2, hupd_ne h1, hupd_ne h1]
          have hself : hdel (hupd (hupd A a [AV.esl]) a (lput [AV.esl] 0 [AV.msl 5 k.n 1 0 k.n])) 4 a = some [.msl 5 k.n 1 0 k.n] := by
            rw [hdel_ne (by omega), hupd_self']; rfl
          generalize hdel (hupd (hupd A a [AV.esl]) a (lput [AV.esl] 0 [AV.msl 5 k.n 1 0 k.n])) 4 = B at hfr hself
          have b0 := (hfr 0 (by omega) (by omega)).trans i0
          have b5 := (hfr 5 (by omega) (by omega)).trans hA
          rw [← hkc] at b0
          rcases hc.out with ⟨rfl, hp⟩ | ⟨g, caps, rfl, hcd, hg⟩
          · repeat' (first | refine w_seq ?_ | refine w_ops0 ?_ | refine w_skip ?_ | refine a_n ?_ | refine o_nil ?_ | (apply o_val rfl rfl; (focus ((try simp (disch := omega) only [simB0, simB1, SA, SV, SN, SR, SL, pick_bool, Nat.reduceEqDiff, ↓reduceIte, Nat.reduceAdd, Nat.reduceLeDiff, SO, one_encV, one_encVV, Bool.and_self, Bool.false_eq_true, reduceCtorEq, wrap64, aixS_encV, aixS_encVV, alenS_encV, alenS_encVV, Int.toNat_natCast, List.length_map, aixS_msl, getElem?_map_lt, Nat.mul_one, t1, t2, t3, b0, hself]); first | with_reducible rfl | (apply s_ite; (focus omega); with_reducible rfl)))) | (apply o_gF; (focus (simp only [simB0, simB1, SA, SV, SN, SR, SL, pick_bool, Nat.reduceEqDiff, ↓reduceIte, Nat.reduceAdd, Nat.reduceLeDiff, or_true, true_or, t1, t2, t3, b0, hself]; done))) | (apply w_condF; (focus (simp only [simB0, simB1, SA, SV, SN, SR, SL, pick_bool, Nat.reduceEqDiff, ↓reduceIte, Nat.reduceAdd, Nat.reduceLeDiff, t1, t2, t3, b0, hself]; done))))
            exact ⟨hfr, hself, rfl, t1, t2, t3, rfl, rfl, hp _⟩
          · repeat' (first | refine w_seq ?_ | refine w_ops0 ?_ | (apply o_val rfl rfl; (focus ((try simp (disch := omega) only [simB0, simB1, SA, SV, SN, SR, SL, pick_bool, Nat.reduceEqDiff, ↓reduceIte, Nat.reduceAdd, Nat.reduceLeDiff, SO, one_encV, one_encVV, Bool.and_self, Bool.false_eq_true, reduceCtorEq, wrap64, aixS_encV, aixS_encVV, alenS_encV, alenS_encVV, Int.toNat_natCast, List.length_map, aixS_msl, getElem?_map_lt, Nat.mul_one, t1, t2, t3, b0, hself]); first | with_reducible rfl | (apply s_ite; (focus omega); with_reducible rfl)))) | (apply o_gT; (focus (simp only [simB0, simB1, SA, SV, SN, SR, SL, pick_bool, Nat.reduceEqDiff, ↓reduceIte, Nat.reduceAdd, Nat.reduceLeDiff, t1, t2, t3, b0, hself]; done))))
            refine o_callP (by ((try simp only [simB0, simB1, SA, SV, SN, SR, SL, pick_bool, Nat.reduceEqDiff, ↓reduceIte, Nat.reduceAdd, Nat.reduceLeDiff]); (try with_reducible rfl))) (by ((try simp only [simB0, simB1, SA, SV, SN, SR, SL, pick_bool, Nat.reduceEqDiff, ↓reduceIte, Nat.reduceAdd, Nat.reduceLeDiff]); (try with_reducible rfl))) (hg _ hmem) (snap_plain (snapL_cons (snap_row b5 rfl hvl) (snapL_datL hcd)) rfl) ?_
            repeat' (first | refine w_skip ?_ | refine w_exit ?_ | refine a_n ?_ | refine a_x ?_ | refine o_nil ?_ | (apply o_val rfl rfl; (focus ((try simp (disch := omega) only [simB0, simB1, SA, SV, SN, SR, SL, pick_bool, Nat.reduceEqDiff, ↓reduceIte, Nat.reduceAdd, Nat.reduceLeDiff, SO, one_encV, one_encVV, Bool.and_self, Bool.false_eq_true, reduceCtorEq, wrap64, aixS_encV, aixS_encVV, alenS_encV, alenS_encVV, Int.toNat_natCast, List.length_map, aixS_msl, getElem?_map_lt, Nat.mul_one, t1, t2, t3, b0, hself]); first | with_reducible rfl | (apply s_ite; (focus omega); with_reducible rfl)))) | (apply o_gT; (focus (simp only [simB0, simB1, SA, SV, SN, SR, SL, pick_bool, Nat.reduceEqDiff, ↓reduceIte, Nat.reduceAdd, Nat.reduceLeDiff, t1, t2, t3, b0, hself]; done))) | (apply w_cond; (focus ((try simp only [simB0, simB1, SA, SV, SN, SR, SL, pick_bool, Nat.reduceEqDiff, ↓reduceIte, Nat.reduceAdd, Nat.reduceLeDiff, t1, t2, t3, b0, hself]); (try with_reducible rfl); done)); all_goals (intro _hg; (try simp only [Bool.not_eq_true', Bool.not_eq_false', Bool.not_not, decide_eq_true_eq, decide_eq_false_iff_not] at _hg); try (exfalso; omega))))
            · refine .inl ⟨rfl, ⟨?_, hupd_self'⟩, by omega, by omega, (hupd_ne (by omega)).trans (hfr 5 (by omega) (by omega))⟩
              rw [hLi, _hg, if_neg (by simp), List.append_nil]
              exact hI.stab (by omega) (fun x hx _ h4 => (hupd_ne h4).trans (hfr x (by omega) h4))
            · exact ⟨hfr, hself, rfl, t1, t2, t3, rfl, rfl, _hg⟩
        · rintro T' B b ⟨hfr, hself, rfl, u1, u2, u3, u5, u6, hpc⟩
          clear t1 t2 t3
          have b0 := (hfr 0 (by omega) (by omega)).trans i0
          have b1 := (hfr 1 (by omega) (by omega)).trans i1
          have b2 := (hfr 2 (by omega) (by omega)).trans i2
          have b3 := (hfr 3 (by omega) (by omega)).trans i3
          have b5 := (hfr 5 (by omega) (by omega)).trans hA
          rw [← hkc] at b0
          have hsv : Sh vec := by show _ ≤ _; omega
          refine w_seq ?_
          repeat' (first | refine w_ops0 ?_ | (apply o_val rfl; (focus (first | rfl | (simp (disch := omega) only [dm2, oldP, newP, simB0, simB1, SA, SV, SN, SR, SL, pick_bool, Nat.reduceEqDiff, ↓reduceIte, Nat.reduceAdd, Nat.reduceLeDiff, decide_eq_true_eq]; first | done | omega))); (focus ((try simp (disch := omega) only [simB2, simB1, SA, SV, SN, SR, SL, pick_bool, Nat.reduceEqDiff, ↓reduceIte, Nat.reduceAdd, Nat.reduceLeDiff, SO, one_encV, one_encVV, Bool.and_self, Bool.false_eq_true, reduceCtorEq, wrap64, aixS_encV, aixS_encVV, alenS_encV, alenS_encVV, Int.toNat_natCast, List.length_map, aixS_msl, getElem?_map_lt, Nat.mul_one, u1, u2, u3, u5, u6, hself]); first | with_reducible rfl | (apply s_ite; (focus omega); with_reducible rfl)))))
          refine o_callF (by ((try simp only [simB0, simB1, SA, SV, SN, SR, SL, pick_bool, Nat.reduceEqDiff, ↓reduceIte, Nat.reduceAdd, Nat.reduceLeDiff]); (try with_reducible rfl))) (by ((try simp only [simB0, simB1, SA, SV, SN, SR, SL, pick_bool, Nat.reduceEqDiff, ↓reduceIte, Nat.reduceAdd, Nat.reduceLeDiff]); (try with_reducible rfl))) (cloneF_c vec hsv) (snapL_cons (snap_row b5 rfl hvl) snapL_nil) ?_
          repeat' (first | refine a_n ?_ | refine o_nil ?_ | (apply o_val rfl; (focus (first | rfl | (simp (disch := omega) only [dm2, oldP, newP, simB0, simB1, SA, SV, SN, SR, SL, pick_bool, Nat.reduceEqDiff, ↓reduceIte, Nat.reduceAdd, Nat.reduceLeDiff, decide_eq_true_eq]; first | done | omega))); (focus ((try simp (disch := omega) only [simB2, simB1, SA, SV, SN, SR, SL, pick_bool, Nat.reduceEqDiff, ↓reduceIte, Nat.reduceAdd, Nat.reduceLeDiff, SO, one_encV, one_encVV, Bool.and_self, Bool.false_eq_true, reduceCtorEq, wrap64, aixS_encV, aixS_encVV, alenS_encV, alenS_encVV, Int.toNat_natCast, List.length_map, aixS_msl, getElem?_map_lt, Nat.mul_one, u1, u2, u3, u5, u6, hself]); first | with_reducible rfl | (apply s_ite; (focus omega); with_reducible rfl)))) | (apply e_alloc rfl; (focus ((try simp (disch := omega) only [simB2, simB1, SA, SV, SN, SR, SL, pick_bool, Nat.reduceEqDiff, ↓reduceIte, Nat.reduceAdd, Nat.reduceLeDiff, u1, u2, u3, u5, u6, hself]); (try with_reducible rfl); done)); (focus (simp (disch := omega) only [SO, Bool.and_self, one_encV, one_encVV, u1, u2, u3, u5, u6, hself]))) | (apply e_st; (focus (first | rfl | (simp (disch := omega) only [dm2, oldP, newP, simB0, simB1, SA, SV, SN, SR, SL, pick_bool, Nat.reduceEqDiff, ↓reduceIte, Nat.reduceAdd, Nat.reduceLeDiff, decide_eq_true_eq]; first | done | omega))); (focus ((try simp (disch := omega) only [simB2, simB1, SA, SV, SN, SR, SL, pick_bool, Nat.reduceEqDiff, ↓reduceIte, Nat.reduceAdd, Nat.reduceLeDiff, u1, u2, u3, u5, u6, hself]); (try with_reducible rfl); done)); (focus ((try simp (disch := omega) only [simB2, simB1, SA, SV, SN, SR, SL, pick_bool, Nat.reduceEqDiff, ↓reduceIte, Nat.reduceAdd, Nat.reduceLeDiff, u1, u2, u3, u5, u6, hself]); (try with_reducible rfl); done)); (focus ((try simp (disch := omega) only [simB2, simB1, SA, SV, SN, SR, SL, pick_bool, Nat.reduceEqDiff, ↓reduceIte, Nat.reduceAdd, Nat.reduceLeDiff, u1, u2, u3, u5, u6, hself]); (try with_reducible rfl); done)); (focus ((try simp (disch := omega) only [simB2, simB1, SA, SV, SN, SR, SL, pick_bool, Nat.reduceEqDiff, ↓reduceIte, Nat.reduceAdd, Nat.reduceLeDiff, u1, u2, u3, u5, u6, hself]); (try with_reducible rfl); done)); (focus (simp (disch := omega) only [SO, Bool.and_self, one_encV, one_encVV, u1, u2, u3, u5, u6, hself])); (focus ((try simp (disch := omega) only [SL, Nat.reduceAdd, Nat.reduceMul, List.length_map]); first | done | omega)); (focus ((try simp (disch := omega) only [SL, Nat.reduceAdd, Nat.reduceMul, List.length_map]); first | done | omega)); (focus ((try simp (disch := omega) only [SL, Nat.reduceAdd, Nat.reduceMul, List.length_map]); first | done | omega))))
          have hC : ∃ C : Hp, C = hupd (hupd B (a + 1) [AV.esl, AV.esl, AV.esl]) (a + 1) (lput [AV.esl, AV.esl, AV.esl] 0 [encV vec, .esl, .esl]) := ⟨_, rfl⟩
          obtain ⟨C, hC⟩ := hC
          have hCf : ∀ x, x ≠ a + 1 → C x = B x := fun x hx => by rw [hC, hupd_ne hx, hupd_ne hx]
          have hCs : C (a + 1) = some [encV vec, .esl, .esl] := by rw [hC, hupd_self']; rfl
          have d0 := (hCf 0 (by omega)).trans b0
          have hpa : ∀ j, ((every k.n k.outs).take (j + 1)) = (every k.n k.outs).take j ++ (if j < (every k.n k.outs).length then [(every k.n k.outs).getD j []] else []) := by
            intro j
            by_cases hj : j < (every k.n k.outs).length
            · rw [if_pos hj]; exact take_succ' hj
            · rw [if_neg hj, List.take_of_length_le (by omega), List.take_of_length_le (by omega), List.append_nil]
          refine w_seqC (fun T' H' nx' => T' 5 = .ptr 3 4 0 ∧ T' 7 = .ptr (a + 1) 3 0 ∧ InI k A a vec (caseOf k vec).out (caseOf k vec).calm H' nx') ?_ ?_
          rotate_left
          · clear u1 u2 u3 u5 u6
            rintro T2 D d ⟨u5, u7, r1, r2, r3, so, sc, r4, r5, r6, r7, r8, r9, r10, r11⟩
            have hB : ∃ B : Nat → Bool, B = fun b => decide (rowB so = some b) || decide (rowB sc = some b) := ⟨_, rfl⟩
            obtain ⟨B1, hB⟩ := hB
            have hBs : ∀ x, x < a + 4 → B1 x = false := fun x hx => by
              rw [hB, Bool.or_eq_false_iff]
              exact ⟨decide_eq_false (fun h => by have := r7 x h; omega), decide_eq_false (fun h => by have := r8 x h; omega)⟩
            have hk5 := (Row_keep (B := B1) r5 (fun b h => by rw [hB]; simp [h])).snapV
            have hk6 := (Row_keep (B := B1) r6 (fun b h => by rw [hB]; simp [h])).snapV
            have hfz := Fz.put (hBs (a + 1) (by omega)) r4 (CellsTo.cons (.inl rfl) (CellsTo.cons (.inr hk5) (CellsTo.cons (.inr hk6) CellsTo.nil)))
            have hE : ∃ E : Hp, E = hupd (hdrop B1 D) (a + 1) [encV vec, encVV (caseOf k vec).out, encVV (caseOf k vec).calm] := ⟨_, rfl⟩
            obtain ⟨E, hE⟩ := hE
            have hE1 : E (a + 1) = some [encV vec, encVV (caseOf k vec).out, encVV (caseOf k vec).calm] := by rw [hE, hupd_self']
            have hEf : ∀ x, x < a → x ≠ 4 → E x = A x := fun x hx h4 => by rw [hE, hupd_ne (by omega), hdrop_at (hBs x (by omega)), r2 x hx h4]
            have hE3 := (hEf 3 (by omega) (by omega)).trans i3
            rw [← hE] at hfz
            refine w_ops0F _ _ [(5, .ptr 3 4 0), (7, .ptr (a + 1) 3 0)] hfz ⟨.inl u5, .inl u7, trivial⟩ ?_
            obtain ⟨s1, s2⟩ := ir.one
            repeat' (first | (apply o_val rfl; (focus (first | rfl | (simp (disch := omega) only [dm2, oldP, newP, simB0, simB1, SA, SV, SN, SR, SL, pick_bool, Nat.reduceEqDiff, ↓reduceIte, Nat.reduceAdd, Nat.reduceLeDiff, decide_eq_true_eq]; first | done | omega))); (focus ((try simp (disch := omega) only [simB2, simB1, SA, SV, SN, SR, SL, pick_bool, Nat.reduceEqDiff, ↓reduceIte, Nat.reduceAdd, Nat.reduceLeDiff, SO, one_encV, one_encVV, Bool.and_self, Bool.false_eq_true, reduceCtorEq, wrap64, aixS_encV, aixS_encVV, alenS_encV, alenS_encVV, Int.toNat_natCast, List.length_map, aixS_msl, getElem?_map_lt, Nat.mul_one, hE3, hE1]); first | with_reducible rfl | (apply s_ite; (focus omega); with_reducible rfl)))) | (apply e_bld rfl; (focus (exact Nat.succ_ne_zero _)); (focus ((try simp (disch := omega) only [simB2, simB1, SA, SV, SN, SR, SL, pick_bool, Nat.reduceEqDiff, ↓reduceIte, Nat.reduceAdd, Nat.reduceLeDiff, hE3, hE1]); (try with_reducible rfl); done)); (focus ((try simp (disch := omega) only [simB2, simB1, SA, SV, SN, SR, SL, pick_bool, Nat.reduceEqDiff, ↓reduceIte, Nat.reduceAdd, Nat.reduceLeDiff, SO, Bool.and_self, one_encV, one_encVV, hE3, hE1]); (try with_reducible rfl); done))))
            have hfl := (flatMap_cells_get ((casesOf k ((every k.n k.ins).take i)).map encC) (hlc _)).1
            rw [List.length_map] at hfl
            have := hmany i
            refine e_row rfl (by ((try simp only [simB0, simB1, SA, SV, SN, SR, SL, pick_bool, Nat.reduceEqDiff, ↓reduceIte, Nat.reduceAdd, Nat.reduceLeDiff]); (try with_reducible rfl))) (ir.same fun b hb => ?_) (by ((try simp only [simB0, simB1, SA, SV, SN, SR, SL, pick_bool, Nat.reduceEqDiff, ↓reduceIte, Nat.reduceAdd, Nat.reduceLeDiff]); (try with_reducible rfl))) asrc_three rfl rfl (by omega) (by rw [hfl]; omega) (by rw [hfl]; omega) ?_
            · have := ib b hb
              rw [hupd_ne (by omega), hEf b (by omega) (by omega)]
            rintro s3 F f hrow hle1 hle2 hsame hb2
            obtain ⟨s31, s32⟩ := hrow.one
            have hsame' : ∀ i, i < a → i ≠ 4 → rowB s ≠ some i → F i = A i := fun i h1 h2 h3 => by
              rw [hsame i (by omega) h3, hupd_ne (by omega), hEf i h1 h2]
            have hF : ∀ i, i < 6 → i ≠ 4 → F i = A i := fun i h1 h2 => hsame' i (by omega) h2 (fun h => by have := ib i h; omega)
            have hF3 := (hF 3 (by omega) (by omega)).trans i3
            repeat' (first | refine a_n ?_ | refine o_nil ?_ | (apply o_val rfl; (focus (first | rfl | (simp (disch := omega) only [dm2, oldP, newP, simB0, simB1, SA, SV, SN, SR, SL, pick_bool, Nat.reduceEqDiff, ↓reduceIte, Nat.reduceAdd, Nat.reduceLeDiff, decide_eq_true_eq]; first | done | omega))); (focus ((try simp (disch := omega) only [simB2, simB1, SA, SV, SN, SR, SL, pick_bool, Nat.reduceEqDiff, ↓reduceIte, Nat.reduceAdd, Nat.reduceLeDiff, SO, one_encV, one_encVV, Bool.and_self, Bool.false_eq_true, reduceCtorEq, wrap64, aixS_encV, aixS_encVV, alenS_encV, alenS_encVV, Int.toNat_natCast, List.length_map, aixS_msl, getElem?_map_lt, Nat.mul_one, hF3, s31, s32]); first | with_reducible rfl | (apply s_ite; (focus omega); with_reducible rfl)))) | (apply e_st; (focus (first | rfl | (simp (disch := omega) only [dm2, oldP, newP, simB0, simB1, SA, SV, SN, SR, SL, pick_bool, Nat.reduceEqDiff, ↓reduceIte, Nat.reduceAdd, Nat.reduceLeDiff, decide_eq_true_eq]; first | done | omega))); (focus ((try simp (disch := omega) only [simB2, simB1, SA, SV, SN, SR, SL, pick_bool, Nat.reduceEqDiff, ↓reduceIte, Nat.reduceAdd, Nat.reduceLeDiff, hF3, s31, s32]); (try with_reducible rfl); done)); (focus ((try simp (disch := omega) only [simB2, simB1, SA, SV, SN, SR, SL, pick_bool, Nat.reduceEqDiff, ↓reduceIte, Nat.reduceAdd, Nat.reduceLeDiff, hF3, s31, s32]); (try with_reducible rfl); done)); (focus ((try simp (disch := omega) only [simB2, simB1, SA, SV, SN, SR, SL, pick_bool, Nat.reduceEqDiff, ↓reduceIte, Nat.reduceAdd, Nat.reduceLeDiff, hF3, s31, s32]); (try with_reducible rfl); done)); (focus ((try simp (disch := omega) only [simB2, simB1, SA, SV, SN, SR, SL, pick_bool, Nat.reduceEqDiff, ↓reduceIte, Nat.reduceAdd, Nat.reduceLeDiff, hF3, s31, s32]); (try with_reducible rfl); done)); (focus (simp (disch := omega) only [SO, Bool.and_self, one_encV, one_encVV, hF3, s31, s32])); (focus ((try simp (disch := omega) only [SL, Nat.reduceAdd, Nat.reduceMul, List.length_map]); first | done | omega)); (focus ((try simp (disch := omega) only [SL, Nat.reduceAdd, Nat.reduceMul, List.length_map]); first | done | omega)); (focus ((try simp (disch := omega) only [SL, Nat.reduceAdd, Nat.reduceMul, List.length_map]); first | done | omega))))
            rw [hLi, hpc, if_pos rfl]
            refine .inl ⟨rfl, ⟨⟨by omega, ?_, ?_, ?_, s3, ?_, ?_, ?_, ?_⟩, hupd_self'⟩, by omega, by omega, ?_⟩
            · rw [hupd_ne (by omega), hupd_ne (by omega), hF 0 (by omega) (by omega), i0]
            · rw [hupd_ne (by omega), hupd_ne (by omega), hF 1 (by omega) (by omega), i1]
            · rw [hupd_ne (by omega), hupd_ne (by omega), hF 2 (by omega) (by omega), i2]
            · rw [hupd_ne (by omega), hupd_self']; rfl
            · rw [List.map_append, List.flatMap_append]
              refine hrow.same fun b hb => ?_
              rcases hb2 b hb with h | h
              · have := ib b h
                rw [hupd_ne (by omega), hupd_ne (by omega)]
              · rw [hupd_ne (by omega), hupd_ne (by omega)]
            · intro b hb
              rcases hb2 b hb with h | h
              · have := ib b h; omega
              · omega
            · intro c hc
              rw [List.mem_append, List.mem_singleton] at hc
              rcases hc with hc | rfl
              · exact ic c hc
              · exact r10
            · rw [hupd_ne (by omega), hupd_ne (by omega), hF 5 (by omega) (by omega)]
          rw [← hC]
          refine w_seq ?_
          repeat' (first | refine w_ops0 ?_ | refine a_n ?_ | refine o_nil ?_ | (apply o_val rfl; (focus (first | rfl | (simp (disch := omega) only [dm2, oldP, newP, simB0, simB1, SA, SV, SN, SR, SL, pick_bool, Nat.reduceEqDiff, ↓reduceIte, Nat.reduceAdd, Nat.reduceLeDiff, decide_eq_true_eq]; first | done | omega))); (focus ((try simp (disch := omega) only [simB2, simB1, SA, SV, SN, SR, SL, pick_bool, Nat.reduceEqDiff, ↓reduceIte, Nat.reduceAdd, Nat.reduceLeDiff, SO, one_encV, one_encVV, Bool.and_self, Bool.false_eq_true, reduceCtorEq, wrap64, aixS_encV, aixS_encVV, alenS_encV, alenS_encVV, Int.toNat_natCast, List.length_map, aixS_msl, getElem?_map_lt, Nat.mul_one, u1, u2, u3, u5, u6, d0]); first | with_reducible rfl | (apply s_ite; (focus omega); with_reducible rfl)))) | (apply o_callD; (focus ((try simp (disch := omega) only [simB2, simB1, SA, SV, SN, SR, SL, pick_bool, Nat.reduceEqDiff, ↓reduceIte, Nat.reduceAdd, Nat.reduceLeDiff, u1, u2, u3, u5, u6, d0]); (try with_reducible rfl); done)); (focus ((try simp (disch := omega) only [simB2, simB1, SA, SV, SN, SR, SL, pick_bool, Nat.reduceEqDiff, ↓reduceIte, Nat.reduceAdd, Nat.reduceLeDiff, u1, u2, u3, u5, u6, d0]); (try with_reducible rfl); done)); (focus (first | (exact each_c _ _))); (focus (first | (apply snap_data; repeat' (first | exact snapL_nil | apply snapL_dat | exact Dat.int | exact Dat.bool | exact Dat.str | exact Dat.esl | exact Dat.nilf | exact encV_dat _ | exact encVV_dat _)) | (apply snap_plain; (focus (repeat' (first | exact snapL_nil | apply snapL_dat | exact Dat.int | exact Dat.bool | exact Dat.str | exact encV_dat _ | exact encVV_dat _))); rfl)))))
          refine w_block ?_
          refine w_rangeFb (a + 2) (a + 3) (by omega) rfl (by ((try simp only [simB0, simB1, SA, SV, SN, SR, SL, pick_bool, Nat.reduceEqDiff, ↓reduceIte, Nat.reduceAdd, Nat.reduceLeDiff]); (try with_reducible rfl))) (fun c1 cj1 hy1 => ?_)
          refine Abs.Fn.mono (each_it (by omega) (by omega) (fun j H' nx => InI k A a vec (((every k.n k.outs).take j).filter (k.pa vec)) (((every k.n k.outs).take j).filter fun o => k.pa vec o && k.pm vec o) H' nx ∧ H' (a + 2) = some [c1])
            (fun H' nx => H' (a + 2) = some [cj1 .ret] ∧ H' 1 = some [.int .i64 0, .int .i64 0, .int .i64 0, .esl] ∧ H' 2 = some [.int .i64 17] ∧ 1024 < (caseOf k vec).out.length) ?_ ?_ ?_) ?_
          · rintro j A1 B1 n1 n2 ⟨q1, q2⟩ hn _ hs
            exact ⟨q1.stab hn (fun i hi _ h3 => hs i hi h3), (hs (a + 2) (by have := q1.1; omega) (by omega)).trans q2⟩
          · refine ⟨⟨Nat.le_refl _, fun x hx h4 => ?_, ?_, .esl, .esl, ?_, Row.nil, Row.nil, fun b hb => (by cases hb), fun b hb => (by cases hb), fun b hb => (by cases hb), Nat.zero_le _, Nat.le_refl _⟩, hupd_self'⟩
            · rw [hupd_ne (by omega), hCf x (by omega), hfr x (by omega) h4]
            · rw [hupd_ne (by omega), hCf a (by omega), hself]
            · rw [hupd_ne (by omega), hCs]
          · rintro j D d hj ⟨q1, q2⟩ hd4 hDw
            refine hy1 _ _ _ _ q2 rfl ?_
            clear hy1
            have hmw : (every k.n k.outs).getD j [] ∈ every k.n k.outs := mem_getD (l := every k.n k.outs) hj
            have hwl := every_len k.n k.outs _ hmw
            have htk := hpa j
            rw [if_pos hj] at htk
            generalize (every k.n k.outs).getD j [] = w at hDw hmw hwl htk
            have hsw : Sh w := by show _ ≤ _; omega
            rw [htk]
            simp only [List.filter_append, List.filter_cons, List.filter_nil]
            have hoj : (((every k.n k.outs).take j).filter (k.pa vec) ++ (if k.pa vec w = true then [w] else [])).length ≤ (caseOf k vec).out.length := by
              have : ((every k.n k.outs).take (j + 1)).filter (k.pa vec) = ((every k.n k.outs).take j).filter (k.pa vec) ++ (if k.pa vec w = true then [w] else []) := by
                rw [htk, List.filter_append]; simp only [List.filter_cons, List.filter_nil]
              rw [← this]
              unfold caseOf
              exact cnt_mono (every k.n k.outs) (k.pa vec) (j + 1)
            generalize ((every k.n k.outs).take j).filter (k.pa vec) = outs at q1 hoj
            generalize ((every k.n k.outs).take j).filter (fun o => k.pa vec o && k.pm vec o) = calm at q1
            have hq1 := q1
            obtain ⟨r1, r2, r3, so, sc, r4, r5, r6, r7, r8, r9, r10, r11⟩ := q1
            have e0 := (r2 0 (by omega) (by omega)).trans i0
            have e1 := (r2 1 (by omega) (by omega)).trans i1
            have e2 := (r2 2 (by omega) (by omega)).trans i2
            have e5 := (r2 5 (by omega) (by omega)).trans hA
            rw [← hkc] at e0
            repeat' (first | refine w_ops0 ?_ | refine a_n ?_ | refine o_nil ?_ | (apply o_val rfl rfl; (focus ((try simp (disch := omega) only [simB0, simB1, SA, SV, SN, SR, SL, pick_bool, Nat.reduceEqDiff, ↓reduceIte, Nat.reduceAdd, Nat.reduceLeDiff, SO, one_encV, one_encVV, Bool.and_self, Bool.false_eq_true, reduceCtorEq, wrap64, aixS_encV, aixS_encVV, alenS_encV, alenS_encVV, Int.toNat_natCast, List.length_map, aixS_msl, getElem?_map_lt, Nat.mul_one]); first | with_reducible rfl | (apply s_ite; (focus omega); with_reducible rfl)))))
            refine ⟨q2, ?_⟩
            refine w_block ?_
            refine w_seqC (fun T'' H'' nx => H'' = hdel D (a + 2) ∧ nx = d ∧ T'' 1 = .ptr 0 7 0 ∧ T'' 2 = .ptr 1 4 0 ∧ T'' 3 = .ptr 2 1 0 ∧ T'' 6 = .ptr a 1 0 ∧ T'' 7 = .ptr (a + 1) 3 0 ∧ T'' 8 = .msl (a + 3) k.n 1 0 k.n ∧ k.pa vec w = true) ?_ ?_
            · obtain ⟨g, caps, hge, hcd, hg⟩ := ha.out
              repeat' (first | refine w_seq ?_ | refine w_ops0 ?_ | (apply o_val rfl; (focus (first | rfl | (simp (disch := omega) only [dm2, oldP, newP, simB0, simB1, SA, SV, SN, SR, SL, pick_bool, Nat.reduceEqDiff, ↓reduceIte, Nat.reduceAdd, Nat.reduceLeDiff, decide_eq_true_eq]; first | done | omega))); (focus ((try simp (disch := omega) only [simB2, simB1, SA, SV, SN, SR, SL, pick_bool, Nat.reduceEqDiff, ↓reduceIte, Nat.reduceAdd, Nat.reduceLeDiff, SO, one_encV, one_encVV, Bool.and_self, Bool.false_eq_true, reduceCtorEq, wrap64, aixS_encV, aixS_encVV, alenS_encV, alenS_encVV, Int.toNat_natCast, List.length_map, aixS_msl, getElem?_map_lt, Nat.mul_one, u1, u2, u3, u5, u6, e0, e1, e2, r3, r4, hge]); first | with_reducible rfl | (apply s_ite; (focus omega); with_reducible rfl)))))
              refine o_callP (by ((try simp (disch := omega) only [simB2, simB1, SA, SV, SN, SR, SL, pick_bool, Nat.reduceEqDiff, ↓reduceIte, Nat.reduceAdd, Nat.reduceLeDiff, hge]); (try with_reducible rfl))) (by ((try simp only [simB0, simB1, SA, SV, SN, SR, SL, pick_bool, Nat.reduceEqDiff, ↓reduceIte, Nat.reduceAdd, Nat.reduceLeDiff]); (try with_reducible rfl))) (hg _ hmem _ hmw) (snap_plain (snapL_cons (snap_row ((hdel_ne (by omega)).trans e5) rfl hvl) (snapL_cons (snap_row ((hdel_ne (by omega)).trans hDw) rfl hwl) (snapL_datL hcd))) rfl) ?_
              repeat' (first | refine w_skip ?_ | refine w_exit ?_ | refine a_n ?_ | refine a_x ?_ | refine o_nil ?_ | (apply o_val rfl; (focus (first | rfl | (simp (disch := omega) only [dm2, oldP, newP, simB0, simB1, SA, SV, SN, SR, SL, pick_bool, Nat.reduceEqDiff, ↓reduceIte, Nat.reduceAdd, Nat.reduceLeDiff, decide_eq_true_eq]; first | done | omega))); (focus ((try simp (disch := omega) only [simB2, simB1, SA, SV, SN, SR, SL, pick_bool, Nat.reduceEqDiff, ↓reduceIte, Nat.reduceAdd, Nat.reduceLeDiff, SO, one_encV, one_encVV, Bool.and_self, Bool.false_eq_true, reduceCtorEq, wrap64, aixS_encV, aixS_encVV, alenS_encV, alenS_encVV, Int.toNat_natCast, List.length_map, aixS_msl, getElem?_map_lt, Nat.mul_one, u1, u2, u3, u5, u6, e0, e1, e2, r3, r4, hge]); first | with_reducible rfl | (apply s_ite; (focus omega); with_reducible rfl)))) | (apply w_cond; (focus ((try simp (disch := omega) only [simB2, simB1, SA, SV, SN, SR, SL, pick_bool, Nat.reduceEqDiff, ↓reduceIte, Nat.reduceAdd, Nat.reduceLeDiff, u1, u2, u3, u5, u6, e0, e1, e2, r3, r4, hge]); (try with_reducible rfl); done)); all_goals (intro _hg; (try simp (disch := omega) only [Bool.not_eq_true', Bool.not_eq_false', Bool.not_not, decide_eq_true_eq, decide_eq_false_iff_not] at _hg); try (exfalso; omega))))
              · refine .inl ⟨trivial, ⟨?_, hupd_self'⟩, by omega, Nat.le_refl _, (hupd_ne (by omega)).trans (hdel_ne (by omega))⟩
                simp only [_hg, Bool.false_and, Bool.false_eq_true, if_false, List.append_nil]
                exact hq1.stab (Nat.le_refl _) (fun x hx h2 h3 => (hupd_ne h2).trans (hdel_ne h2))
              · exact ⟨rfl, rfl, u1, u2, u3, u6, rfl, rfl, _hg⟩
            · rintro T2 _ d ⟨rfl, rfl, v1, v2, v3, v6, v7, v8, hpw⟩
              simp only [hpw, if_true, Bool.true_and] at hoj ⊢
              have hlen := Row.lenS (n := outs.length) r5 (by simp) Nat.one_pos
              obtain ⟨so1, so2⟩ := r5.one
              obtain ⟨sc1, sc2⟩ := r6.one
              refine w_seqC (fun T'' H'' nx => H'' = hdel D (a + 2) ∧ nx = d ∧ T'' 1 = .ptr 0 7 0 ∧ T'' 6 = .ptr a 1 0 ∧ T'' 7 = .ptr (a + 1) 3 0 ∧ T'' 8 = .msl (a + 3) k.n 1 0 k.n ∧ outs.length < 1024) ?_ ?_
              · repeat' (first | refine w_seq ?_ | refine w_ops0 ?_ | refine w_skip ?_ | refine w_ret ?_ | refine a_n ?_ | refine a_r ?_ | refine o_nil ?_ | (apply o_val rfl; (focus (first | rfl | (simp (disch := omega) only [dm2, oldP, newP, simB0, simB1, SA, SV, SN, SR, SL, pick_bool, Nat.reduceEqDiff, ↓reduceIte, Nat.reduceAdd, Nat.reduceLeDiff, decide_eq_true_eq]; first | done | omega))); (focus ((try simp (disch := omega) only [simB2, simB1, SA, SV, SN, SR, SL, pick_bool, Nat.reduceEqDiff, ↓reduceIte, Nat.reduceAdd, Nat.reduceLeDiff, SO, one_encV, one_encVV, Bool.and_self, Bool.false_eq_true, reduceCtorEq, wrap64, aixS_encV, aixS_encVV, alenS_encV, alenS_encVV, Int.toNat_natCast, List.length_map, aixS_msl, getElem?_map_lt, Nat.mul_one, v1, v2, v3, v6, v7, v8, e0, e1, e2, r3, r4, hlen]); first | with_reducible rfl | (apply s_ite; (focus omega); with_reducible rfl)))) | (apply e_st; (focus (first | rfl | (simp (disch := omega) only [dm2, oldP, newP, simB0, simB1, SA, SV, SN, SR, SL, pick_bool, Nat.reduceEqDiff, ↓reduceIte, Nat.reduceAdd, Nat.reduceLeDiff, decide_eq_true_eq]; first | done | omega))); (focus ((try simp (disch := omega) only [simB2, simB1, SA, SV, SN, SR, SL, pick_bool, Nat.reduceEqDiff, ↓reduceIte, Nat.reduceAdd, Nat.reduceLeDiff, v1, v2, v3, v6, v7, v8, e0, e1, e2, r3, r4, hlen]); (try with_reducible rfl); done)); (focus ((try simp (disch := omega) only [simB2, simB1, SA, SV, SN, SR, SL, pick_bool, Nat.reduceEqDiff, ↓reduceIte, Nat.reduceAdd, Nat.reduceLeDiff, v1, v2, v3, v6, v7, v8, e0, e1, e2, r3, r4, hlen]); (try with_reducible rfl); done)); (focus ((try simp (disch := omega) only [simB2, simB1, SA, SV, SN, SR, SL, pick_bool, Nat.reduceEqDiff, ↓reduceIte, Nat.reduceAdd, Nat.reduceLeDiff, v1, v2, v3, v6, v7, v8, e0, e1, e2, r3, r4, hlen]); (try with_reducible rfl); done)); (focus ((try simp (disch := omega) only [simB2, simB1, SA, SV, SN, SR, SL, pick_bool, Nat.reduceEqDiff, ↓reduceIte, Nat.reduceAdd, Nat.reduceLeDiff, v1, v2, v3, v6, v7, v8, e0, e1, e2, r3, r4, hlen]); (try with_reducible rfl); done)); (focus (simp (disch := omega) only [SO, Bool.and_self, one_encV, one_encVV, v1, v2, v3, v6, v7, v8, e0, e1, e2, r3, r4, hlen])); (focus ((try simp (disch := omega) only [SL, Nat.reduceAdd, Nat.reduceMul, List.length_map]); first | done | omega)); (focus ((try simp (disch := omega) only [SL, Nat.reduceAdd, Nat.reduceMul, List.length_map]); first | done | omega)); (focus ((try simp (disch := omega) only [SL, Nat.reduceAdd, Nat.reduceMul, List.length_map]); first | done | omega))) | (apply w_cond; (focus ((try simp (disch := omega) only [simB2, simB1, SA, SV, SN, SR, SL, pick_bool, Nat.reduceEqDiff, ↓reduceIte, Nat.reduceAdd, Nat.reduceLeDiff, v1, v2, v3, v6, v7, v8, e0, e1, e2, r3, r4, hlen]); (try with_reducible rfl); done)); all_goals (intro _hg; (try simp (disch := omega) only [Bool.not_eq_true', Bool.not_eq_false', Bool.not_not, decide_eq_true_eq, decide_eq_false_iff_not] at _hg); try (exfalso; omega))))
                · refine .inr ⟨trivial, hupd_self', ?_, ?_, by simp at hoj; omega⟩
                  · rw [hupd_ne (by omega), hupd_ne (by omega), hupd_self']; rfl
                  · rw [hupd_ne (by omega), hupd_self']; rfl
                · exact ⟨rfl, rfl, v1, v6, v7, v8, by omega⟩
              · rintro T3 _ d ⟨rfl, rfl, x1, x6, x7, x8, hlt⟩
                clear v1 v2 v3 v6 v7 v8
                refine w_seqC (fun T'' H'' nx => T'' 1 = .ptr 0 7 0 ∧ T'' 6 = .ptr a 1 0 ∧ T'' 7 = .ptr (a + 1) 3 0 ∧ T'' 8 = .msl (a + 3) k.n 1 0 k.n ∧ d ≤ nx ∧ H'' (a + 3) = D (a + 3) ∧ InI k A a vec (outs ++ [w]) calm (hupd H'' (a + 2) [c1]) nx) ?_ ?_
                · repeat' (first | refine w_ops1 ?_ | (apply o_val rfl; (focus (first | rfl | (simp (disch := omega) only [dm2, oldP, newP, simB0, simB1, SA, SV, SN, SR, SL, pick_bool, Nat.reduceEqDiff, ↓reduceIte, Nat.reduceAdd, Nat.reduceLeDiff, decide_eq_true_eq]; first | done | omega))); (focus ((try simp (disch := omega) only [simB2, simB1, SA, SV, SN, SR, SL, pick_bool, Nat.reduceEqDiff, ↓reduceIte, Nat.reduceAdd, Nat.reduceLeDiff, SO, one_encV, one_encVV, Bool.and_self, Bool.false_eq_true, reduceCtorEq, wrap64, aixS_encV, aixS_encVV, alenS_encV, alenS_encVV, Int.toNat_natCast, List.length_map, aixS_msl, getElem?_map_lt, Nat.mul_one, x1, x6, x7, x8, r4]); first | with_reducible rfl | (apply s_ite; (focus omega); with_reducible rfl)))))
                  refine o_callF (by ((try simp only [simB0, simB1, SA, SV, SN, SR, SL, pick_bool, Nat.reduceEqDiff, ↓reduceIte, Nat.reduceAdd, Nat.reduceLeDiff]); (try with_reducible rfl))) (by ((try simp only [simB0, simB1, SA, SV, SN, SR, SL, pick_bool, Nat.reduceEqDiff, ↓reduceIte, Nat.reduceAdd, Nat.reduceLeDiff]); (try with_reducible rfl))) (cloneF_c w hsw) (snapL_cons (snap_row ((hdel_ne (by omega)).trans hDw) rfl hwl) snapL_nil) ?_
                  repeat' (first | (apply e_bld rfl; (focus (exact Nat.succ_ne_zero _)); (focus ((try simp (disch := omega) only [simB2, simB1, SA, SV, SN, SR, SL, pick_bool, Nat.reduceEqDiff, ↓reduceIte, Nat.reduceAdd, Nat.reduceLeDiff, x1, x6, x7, x8, r4]); (try with_reducible rfl); done)); (focus ((try simp (disch := omega) only [simB2, simB1, SA, SV, SN, SR, SL, pick_bool, Nat.reduceEqDiff, ↓reduceIte, Nat.reduceAdd, Nat.reduceLeDiff, SO, Bool.and_self, one_encV, one_encVV, x1, x6, x7, x8, r4]); (try with_reducible rfl); done))))
                  refine e_row rfl (by ((try simp only [simB0, simB1, SA, SV, SN, SR, SL, pick_bool, Nat.reduceEqDiff, ↓reduceIte, Nat.reduceAdd, Nat.reduceLeDiff]); (try with_reducible rfl))) (r5.same fun b hb => ?_) (by ((try simp only [simB0, simB1, SA, SV, SN, SR, SL, pick_bool, Nat.reduceEqDiff, ↓reduceIte, Nat.reduceAdd, Nat.reduceLeDiff]); (try with_reducible rfl))) asrc_one rfl rfl Nat.one_pos (by simp; omega) (by simp; omega) ?_
                  · have := r7 b hb
                    rw [hupd_ne (by omega), hdel_ne (by omega)]
                  rintro s2 E e hrow hle1 hle2 hsame hb2
                  obtain ⟨s21, s22⟩ := hrow.one
                  have hsame' : ∀ i, i < d → i ≠ a + 2 → rowB so ≠ some i → E i = D i := fun i h1 h2 h3 => by
                    rw [hsame i (by omega) h3, hupd_ne (by omega), hdel_ne (by omega)]
                  have hE1 : E (a + 1) = some [encV vec, so, sc] := by
                    rw [hsame' (a + 1) (by omega) (by omega) (fun h => by have := r7 _ h; omega), r4]
                  repeat' (first | refine a_n ?_ | refine o_nil ?_ | (apply o_val rfl; (focus (first | rfl | (simp (disch := omega) only [dm2, oldP, newP, simB0, simB1, SA, SV, SN, SR, SL, pick_bool, Nat.reduceEqDiff, ↓reduceIte, Nat.reduceAdd, Nat.reduceLeDiff, decide_eq_true_eq]; first | done | omega))); (focus ((try simp (disch := omega) only [simB2, simB1, SA, SV, SN, SR, SL, pick_bool, Nat.reduceEqDiff, ↓reduceIte, Nat.reduceAdd, Nat.reduceLeDiff, SO, one_encV, one_encVV, Bool.and_self, Bool.false_eq_true, reduceCtorEq, wrap64, aixS_encV, aixS_encVV, alenS_encV, alenS_encVV, Int.toNat_natCast, List.length_map, aixS_msl, getElem?_map_lt, Nat.mul_one, x1, x6, x7, x8, r4, hE1, so2, sc2, s21, s22]); first | with_reducible rfl | (apply s_ite; (focus omega); with_reducible rfl)))) | (apply e_st; (focus (first | rfl | (simp (disch := omega) only [dm2, oldP, newP, simB0, simB1, SA, SV, SN, SR, SL, pick_bool, Nat.reduceEqDiff, ↓reduceIte, Nat.reduceAdd, Nat.reduceLeDiff, decide_eq_true_eq]; first | done | omega))); (focus ((try simp (disch := omega) only [simB2, simB1, SA, SV, SN, SR, SL, pick_bool, Nat.reduceEqDiff, ↓reduceIte, Nat.reduceAdd, Nat.reduceLeDiff, x1, x6, x7, x8, r4, hE1, so2, sc2, s21, s22]); (try with_reducible rfl); done)); (focus ((try simp (disch := omega) only [simB2, simB1, SA, SV, SN, SR, SL, pick_bool, Nat.reduceEqDiff, ↓reduceIte, Nat.reduceAdd, Nat.reduceLeDiff, x1, x6, x7, x8, r4, hE1, so2, sc2, s21, s22]); (try with_reducible rfl); done)); (focus ((try simp (disch := omega) only [simB2, simB1, SA, SV, SN, SR, SL, pick_bool, Nat.reduceEqDiff, ↓reduceIte, Nat.reduceAdd, Nat.reduceLeDiff, x1, x6, x7, x8, r4, hE1, so2, sc2, s21, s22]); (try with_reducible rfl); done)); (focus ((try simp (disch := omega) only [simB2, simB1, SA, SV, SN, SR, SL, pick_bool, Nat.reduceEqDiff, ↓reduceIte, Nat.reduceAdd, Nat.reduceLeDiff, x1, x6, x7, x8, r4, hE1, so2, sc2, s21, s22]); (try with_reducible rfl); done)); (focus (simp (disch := omega) only [SO, Bool.and_self, one_encV, one_encVV, x1, x6, x7, x8, r4, hE1, so2, sc2, s21, s22])); (focus ((try simp (disch := omega) only [SL, Nat.reduceAdd, Nat.reduceMul, List.length_map]); first | done | omega)); (focus ((try simp (disch := omega) only [SL, Nat.reduceAdd, Nat.reduceMul, List.length_map]); first | done | omega)); (focus ((try simp (disch := omega) only [SL, Nat.reduceAdd, Nat.reduceMul, List.length_map]); first | done | omega))))
                  obtain ⟨z1, z2⟩ := InI.put1 (vec := vec) (c1 := c1) (e := e) hd4 r2 r3 r6 r7 r8 r9 hlt r11 hrow (by omega) hsame' (fun b h => (hb2 b h).imp id (fun h => by omega))
                  exact ⟨x1, x6, x7, x8, by omega, (hupd_ne (by omega)).trans z2, z1⟩
                · rintro T4 E e ⟨y1, y6, y7, y8, hde, hE3, q1⟩
                  have r12 := r11
                  clear x1 x6 x7 x8 r3 r4 r5 r6 r7 r8 r9 r10 r11 so1 so2 sc1 sc2 hlen hq1 hoj
                  have p0 : E 0 = A 0 := by have := q1.2.1 0 (by omega) (by omega); rwa [hupd_ne (by omega)] at this
                  rw [i0, ← hkc] at p0
                  have p5 : E 5 = A 5 := by have := q1.2.1 5 (by omega) (by omega); rwa [hupd_ne (by omega)] at this
                  rw [hA] at p5
                  have hq1 := q1
                  have q1 := hq1
                  obtain ⟨r1, r2, r3, so, sc, r4, r5, r6, r7, r8, r9, r10, r11⟩ := q1
                  have q1 := hq1
                  rw [hupd_ne (by omega)] at r3 r4
                  rcases hm with ⟨rfl, hm⟩ | hm
                  · repeat' (first | refine w_seq ?_ | refine w_ops0 ?_ | refine w_skip ?_ | refine a_n ?_ | refine o_nil ?_ | (apply o_val rfl; (focus (first | rfl | (simp (disch := omega) only [dm2, oldP, newP, simB0, simB1, SA, SV, SN, SR, SL, pick_bool, Nat.reduceEqDiff, ↓reduceIte, Nat.reduceAdd, Nat.reduceLeDiff, decide_eq_true_eq]; first | done | omega))); (focus ((try simp (disch := omega) only [simB2, simB1, SA, SV, SN, SR, SL, pick_bool, Nat.reduceEqDiff, ↓reduceIte, Nat.reduceAdd, Nat.reduceLeDiff, SO, one_encV, one_encVV, Bool.and_self, Bool.false_eq_true, reduceCtorEq, wrap64, aixS_encV, aixS_encVV, alenS_encV, alenS_encVV, Int.toNat_natCast, List.length_map, aixS_msl, getElem?_map_lt, Nat.mul_one, y1, y6, y7, y8, r3, r4, p0]); first | with_reducible rfl | (apply s_ite; (focus omega); with_reducible rfl)))) | (apply o_gF; (focus (simp (disch := omega) only [simB2, simB1, SA, SV, SN, SR, SL, pick_bool, Nat.reduceEqDiff, ↓reduceIte, Nat.reduceAdd, Nat.reduceLeDiff, or_true, true_or, y1, y6, y7, y8, r3, r4, p0]; done))) | (apply w_condF; (focus (simp (disch := omega) only [simB2, simB1, SA, SV, SN, SR, SL, pick_bool, Nat.reduceEqDiff, ↓reduceIte, Nat.reduceAdd, Nat.reduceLeDiff, y1, y6, y7, y8, r3, r4, p0]; done))))
                    refine .inl ⟨trivial, ⟨?_, hupd_self'⟩, by omega, hde, (hupd_ne (by omega)).trans hE3⟩
                    simp only [hm, Bool.false_eq_true, if_false, List.append_nil]
                    exact hq1
                  · obtain ⟨g, caps, hge, hcd, hg⟩ := hm.out
                    repeat' (first | refine w_seq ?_ | refine w_ops0 ?_ | (apply o_val rfl; (focus (first | rfl | (simp (disch := omega) only [dm2, oldP, newP, simB0, simB1, SA, SV, SN, SR, SL, pick_bool, Nat.reduceEqDiff, ↓reduceIte, Nat.reduceAdd, Nat.reduceLeDiff, decide_eq_true_eq]; first | done | omega))); (focus ((try simp (disch := omega) only [simB2, simB1, SA, SV, SN, SR, SL, pick_bool, Nat.reduceEqDiff, ↓reduceIte, Nat.reduceAdd, Nat.reduceLeDiff, SO, one_encV, one_encVV, Bool.and_self, Bool.false_eq_true, reduceCtorEq, wrap64, aixS_encV, aixS_encVV, alenS_encV, alenS_encVV, Int.toNat_natCast, List.length_map, aixS_msl, getElem?_map_lt, Nat.mul_one, y1, y6, y7, y8, r3, r4, p0, hge]); first | with_reducible rfl | (apply s_ite; (focus omega); with_reducible rfl)))) | (apply o_gT; (focus (simp (disch := omega) only [simB2, simB1, SA, SV, SN, SR, SL, pick_bool, Nat.reduceEqDiff, ↓reduceIte, Nat.reduceAdd, Nat.reduceLeDiff, y1, y6, y7, y8, r3, r4, p0, hge]; done))))
                    refine o_callP (by ((try simp (disch := omega) only [simB2, simB1, SA, SV, SN, SR, SL, pick_bool, Nat.reduceEqDiff, ↓reduceIte, Nat.reduceAdd, Nat.reduceLeDiff, hge]); (try with_reducible rfl))) (by ((try simp only [simB0, simB1, SA, SV, SN, SR, SL, pick_bool, Nat.reduceEqDiff, ↓reduceIte, Nat.reduceAdd, Nat.reduceLeDiff]); (try with_reducible rfl))) (hg _ hmem _ hmw) (snap_plain (snapL_cons (snap_row p5 rfl hvl) (snapL_cons (snap_row (hE3.trans hDw) rfl hwl) (snapL_datL hcd))) rfl) ?_
                    repeat' (first | refine w_ops1 ?_ | refine w_skip ?_ | refine a_n ?_ | refine o_nil ?_ | (apply o_val rfl; (focus (first | rfl | (simp (disch := omega) only [dm2, oldP, newP, simB0, simB1, SA, SV, SN, SR, SL, pick_bool, Nat.reduceEqDiff, ↓reduceIte, Nat.reduceAdd, Nat.reduceLeDiff, decide_eq_true_eq]; first | done | omega))); (focus ((try simp (disch := omega) only [simB2, simB1, SA, SV, SN, SR, SL, pick_bool, Nat.reduceEqDiff, ↓reduceIte, Nat.reduceAdd, Nat.reduceLeDiff, SO, one_encV, one_encVV, Bool.and_self, Bool.false_eq_true, reduceCtorEq, wrap64, aixS_encV, aixS_encVV, alenS_encV, alenS_encVV, Int.toNat_natCast, List.length_map, aixS_msl, getElem?_map_lt, Nat.mul_one, y1, y6, y7, y8, r3, r4, p0, hge]); first | with_reducible rfl | (apply s_ite; (focus omega); with_reducible rfl)))) | (apply w_cond; (focus ((try simp (disch := omega) only [simB2, simB1, SA, SV, SN, SR, SL, pick_bool, Nat.reduceEqDiff, ↓reduceIte, Nat.reduceAdd, Nat.reduceLeDiff, y1, y6, y7, y8, r3, r4, p0, hge]); (try with_reducible rfl); done)); all_goals (intro _hg; (try simp (disch := omega) only [Bool.not_eq_true', Bool.not_eq_false', Bool.not_not, decide_eq_true_eq, decide_eq_false_iff_not] at _hg); try (exfalso; omega))))
                    · refine o_callF (by ((try simp only [simB0, simB1, SA, SV, SN, SR, SL, pick_bool, Nat.reduceEqDiff, ↓reduceIte, Nat.reduceAdd, Nat.reduceLeDiff]); (try with_reducible rfl))) (by ((try simp only [simB0, simB1, SA, SV, SN, SR, SL, pick_bool, Nat.reduceEqDiff, ↓reduceIte, Nat.reduceAdd, Nat.reduceLeDiff]); (try with_reducible rfl))) (cloneF_c w hsw) (snapL_cons (snap_row (hE3.trans hDw) rfl hwl) snapL_nil) ?_
                      repeat' (first | (apply e_bld rfl; (focus (exact Nat.succ_ne_zero _)); (focus ((try simp (disch := omega) only [simB2, simB1, SA, SV, SN, SR, SL, pick_bool, Nat.reduceEqDiff, ↓reduceIte, Nat.reduceAdd, Nat.reduceLeDiff, y1, y6, y7, y8, r3, r4, p0]); (try with_reducible rfl); done)); (focus ((try simp (disch := omega) only [simB2, simB1, SA, SV, SN, SR, SL, pick_bool, Nat.reduceEqDiff, ↓reduceIte, Nat.reduceAdd, Nat.reduceLeDiff, SO, Bool.and_self, one_encV, one_encVV, y1, y6, y7, y8, r3, r4, p0]); (try with_reducible rfl); done))))
                      have hEE : ∀ b, a + 4 ≤ b → hupd E (a + 2) [c1] b = E b := fun b h => hupd_ne (by omega)
                      obtain ⟨so1, so2⟩ := r5.one
                      refine e_row rfl (by ((try simp only [simB0, simB1, SA, SV, SN, SR, SL, pick_bool, Nat.reduceEqDiff, ↓reduceIte, Nat.reduceAdd, Nat.reduceLeDiff]); (try with_reducible rfl))) (r6.same fun b hb => ?_) (by ((try simp only [simB0, simB1, SA, SV, SN, SR, SL, pick_bool, Nat.reduceEqDiff, ↓reduceIte, Nat.reduceAdd, Nat.reduceLeDiff]); (try with_reducible rfl))) asrc_one rfl rfl Nat.one_pos (by simp at r11 ⊢; omega) (by simp at r11 ⊢; omega) ?_
                      · have := r8 b hb
                        rw [hupd_ne (by omega), hupd_ne (by omega)]
                      rintro s2 F f hrow hle1 hle2 hsame hb2
                      obtain ⟨s21, s22⟩ := hrow.one
                      have hsame' : ∀ i, i < e → i ≠ a + 2 → rowB sc ≠ some i → F i = hupd E (a + 2) [c1] i := fun i h1 h2 h3 => by
                        rw [hsame i (by omega) h3, hupd_ne (by omega), hupd_ne h2]
                      have hF1 : F (a + 1) = some [encV vec, so, sc] := by
                        rw [hsame' (a + 1) (by omega) (by omega) (fun h => by have := r8 _ h; omega), hupd_ne (by omega), r4]
                      repeat' (first | refine a_n ?_ | refine o_nil ?_ | (apply o_val rfl; (focus (first | rfl | (simp (disch := omega) only [dm2, oldP, newP, simB0, simB1, SA, SV, SN, SR, SL, pick_bool, Nat.reduceEqDiff, ↓reduceIte, Nat.reduceAdd, Nat.reduceLeDiff, decide_eq_true_eq]; first | done | omega))); (focus ((try simp (disch := omega) only [simB2, simB1, SA, SV, SN, SR, SL, pick_bool, Nat.reduceEqDiff, ↓reduceIte, Nat.reduceAdd, Nat.reduceLeDiff, SO, one_encV, one_encVV, Bool.and_self, Bool.false_eq_true, reduceCtorEq, wrap64, aixS_encV, aixS_encVV, alenS_encV, alenS_encVV, Int.toNat_natCast, List.length_map, aixS_msl, getElem?_map_lt, Nat.mul_one, y1, y6, y7, y8, r4, hF1, so1, so2, s21, s22]); first | with_reducible rfl | (apply s_ite; (focus omega); with_reducible rfl)))) | (apply e_st; (focus (first | rfl | (simp (disch := omega) only [dm2, oldP, newP, simB0, simB1, SA, SV, SN, SR, SL, pick_bool, Nat.reduceEqDiff, ↓reduceIte, Nat.reduceAdd, Nat.reduceLeDiff, decide_eq_true_eq]; first | done | omega))); (focus ((try simp (disch := omega) only [simB2, simB1, SA, SV, SN, SR, SL, pick_bool, Nat.reduceEqDiff, ↓reduceIte, Nat.reduceAdd, Nat.reduceLeDiff, y1, y6, y7, y8, r4, hF1, so1, so2, s21, s22]); (try with_reducible rfl); done)); (focus ((try simp (disch := omega) only [simB2, simB1, SA, SV, SN, SR, SL, pick_bool, Nat.reduceEqDiff, ↓reduceIte, Nat.reduceAdd, Nat.reduceLeDiff, y1, y6, y7, y8, r4, hF1, so1, so2, s21, s22]); (try with_reducible rfl); done)); (focus ((try simp (disch := omega) only [simB2, simB1, SA, SV, SN, SR, SL, pick_bool, Nat.reduceEqDiff, ↓reduceIte, Nat.reduceAdd, Nat.reduceLeDiff, y1, y6, y7, y8, r4, hF1, so1, so2, s21, s22]); (try with_reducible rfl); done)); (focus ((try simp (disch := omega) only [simB2, simB1, SA, SV, SN, SR, SL, pick_bool, Nat.reduceEqDiff, ↓reduceIte, Nat.reduceAdd, Nat.reduceLeDiff, y1, y6, y7, y8, r4, hF1, so1, so2, s21, s22]); (try with_reducible rfl); done)); (focus (simp (disch := omega) only [SO, Bool.and_self, one_encV, one_encVV, y1, y6, y7, y8, r4, hF1, so1, so2, s21, s22])); (focus ((try simp (disch := omega) only [SL, Nat.reduceAdd, Nat.reduceMul, List.length_map]); first | done | omega)); (focus ((try simp (disch := omega) only [SL, Nat.reduceAdd, Nat.reduceMul, List.length_map]); first | done | omega)); (focus ((try simp (disch := omega) only [SL, Nat.reduceAdd, Nat.reduceMul, List.length_map]); first | done | omega))))
                      obtain ⟨z1, z2⟩ := InI.put2 (vec := vec) (c1 := c1) (e := f) (by omega) q1.2.1 q1.2.2.1 r5 r7 r8 r9 r10 (by simp; omega) hrow (by omega) hsame' (fun b h => (hb2 b h).imp id (fun h => by omega))
                      rw [hupd_ne (by omega)] at z2
                      refine .inl ⟨trivial, ⟨?_, hupd_self'⟩, by omega, by omega, ?_⟩
                      · rw [_hg, if_pos rfl]; exact z1
                      · rw [hupd_ne (by omega), hupd_ne (by omega), z2, hE3]
                    · refine .inl ⟨trivial, ⟨?_, hupd_self'⟩, by omega, hde, (hupd_ne (by omega)).trans hE3⟩
                      simp only [_hg, Bool.false_eq_true, if_false, List.append_nil]
                      exact hq1
          · rintro r D d (⟨q1, q2, q3, q4⟩ | ⟨q1, q2⟩)
            · right
              refine ⟨.ret, by simp, q1, ?_⟩
              repeat' (first | refine a_r ?_)
              exact .inr ⟨rfl, hupd_self', (hupd_ne (by omega)).trans ((hdel_ne (by omega)).trans q2), (hupd_ne (by omega)).trans ((hdel_ne (by omega)).trans q3), caseOf k vec, List.mem_map.2 ⟨vec, List.mem_filter.2 ⟨hmem, hpc⟩, rfl⟩, q4⟩
            · left
              refine ⟨q2, ?_⟩
              repeat' (first | refine a_n ?_)
              rw [List.take_of_length_le (Nat.le_refl _)] at q1
              exact ⟨u5, rfl, q1.stab (Nat.le_refl _) (fun i hi h2 _ => hdel_ne h2)⟩
      · rintro r A a (⟨h4, h1, h2, hex⟩ | ⟨⟨h5, h0, h1, h2, s, h3, hr, hb, hc⟩, h4⟩)
        · right
          refine ⟨.ret, by simp, h4, ?_⟩
          repeat' (first | refine a_r ?_ | (refine e_ends rfl ?_) | (apply r_2; (focus (simp only [rv, simB0, simB1, SA, SV, SN, SR, SL, pick_bool, Nat.reduceEqDiff, ↓reduceIte, Nat.reduceAdd, Nat.reduceLeDiff, t1, t2, t3, h1, h2]; with_reducible rfl)); (focus (simp only [rv, simB0, simB1, SA, SV, SN, SR, SL, pick_bool, Nat.reduceEqDiff, ↓reduceIte, Nat.reduceAdd, Nat.reduceLeDiff, t1, t2, t3, h1, h2]; with_reducible rfl))))
          have e : taskOf k = (T00, 17) := by
            unfold taskOf
            rw [if_neg (by omega), if_neg c3, if_neg (by omega), if_pos]
            rw [List.any_eq_true]
            obtain ⟨c, k1, k2⟩ := hex
            exact ⟨c, k1, by simpa using k2⟩
          rw [e]; exact snapErr 17
        · left
          refine ⟨h4, ?_⟩
          rw [List.take_of_length_le (Nat.le_refl _)] at hr hc
          repeat' (first | refine a_n ?_)
          refine ⟨t2, t3, rfl, h1, h2, s, h3, hr.same (fun b hb' => ?_), fun b hb' => ?_, hc⟩
          · have := hb b hb'; exact hdel_ne (by omega)
          · have := hb b hb'; omega

end Go.Proofs.Ytcbkggfipdldaaa

/- P8: contracts of functions and plain laws; for all inputs that the theorems name. -/
set_option linter.unusedSimpArgs false
set_option linter.unusedVariables false
namespace Go.Proofs.Ytcbkggfipdldaaa
open Go Go.Abs
attribute [local irreducible] awp2 aops2 ains aloop athen bbind obind gbind acond res1 Go.Abs.Fn PCall Go.Abs.Pure SnapArgs SnapL Yl

/-! ### made, for all numbers -/
def inR (n ins outs kk : Int) : Prop := (1 ≤ n ∧ n ≤ 5) ∧ (1 ≤ ins ∧ ins ≤ 8) ∧ (1 ≤ outs ∧ outs ≤ 8) ∧ (kk = -1 ∨ 1 ≤ kk ∧ kk ≤ n)
instance (n ins outs kk : Int) : Decidable (inR n ins outs kk) := by unfold inR; infer_instance

/-- a function value or nil, over data -/
structure DatF (f : AV) : Prop where
  dat : Dat f
  cells : f.cells = [f]
  one : f.one = true
theorem DatF.nil : DatF .nilf := ⟨.nilf, rfl, rfl⟩
theorem DatF.func {g : FuncId} {caps : List AV} (h : ∀ c ∈ caps, Dat c) : DatF (.func g caps) := ⟨.func h, rfl, rfl⟩

theorem made_err (n ins outs kk : Int) (fc fa fm : AV) (h1 : DatF fc) (h2 : DatF fa) (h3 : DatF fm) (h : ¬ inR n ins outs kk) :
    Pure Try.prog 45 [.agg [.int .i64 n, .int .i64 ins, .int .i64 outs, .int .i64 kk, fc, fa, fm]] (.tup [encT T00, .int .i64 2]) := by
  refine Pure.of_c2 follows is45 (Nat.le_of_ble_eq_true rfl) ?_
  simp only [b45]
  obtain ⟨hd1, hc1, ho1⟩ := h1
  obtain ⟨hd2, hc2, ho2⟩ := h2
  obtain ⟨hd3, hc3, ho3⟩ := h3
  unfold inR at h
  refine w_seq ?_
  repeat' (first | refine w_ops0 ?_ | refine a_n ?_ | refine o_nil ?_ | (apply e_alloc rfl; (focus ((try simp only [simB0, simB1, SA, SV, SN, SR, SL, pick_bool, Nat.reduceEqDiff, ↓reduceIte, Nat.reduceAdd, Nat.reduceLeDiff, ho1, ho2, ho3]); (try with_reducible rfl); done)); (focus (simp only [SO, Bool.and_self, one_encV, one_encVV, ho1, ho2, ho3]))) | (apply e_box rfl; (focus ((try simp only [simB0, simB1, SA, SV, SN, SR, SL, pick_bool, Nat.reduceEqDiff, ↓reduceIte, Nat.reduceAdd, Nat.reduceLeDiff, ho1, ho2, ho3]); (try with_reducible rfl); done)); (focus ((try simp only [simB0, simB1, SA, SV, SN, SR, SL, pick_bool, Nat.reduceEqDiff, ↓reduceIte, Nat.reduceAdd, Nat.reduceLeDiff, ho1, ho2, ho3]); (try with_reducible rfl); done)); (focus (simp only [SO, Bool.and_self, one_encV, one_encVV, ho1, ho2, ho3]))))
  refine w_seqC (fun T H nx => False) ?_ (fun _ _ _ h => h.elim)
  repeat' (first | refine w_seq ?_ | refine w_ops0 ?_ | refine w_block ?_ | refine w_ret ?_ | refine a_n ?_ | refine a_r ?_ | refine o_nil ?_ | (apply o_val rfl rfl; (focus ((try simp (disch := omega) only [simB0, simB1, SA, SV, SN, SR, SL, pick_bool, Nat.reduceEqDiff, ↓reduceIte, Nat.reduceAdd, Nat.reduceLeDiff, SO, one_encV, one_encVV, Bool.and_self, Bool.false_eq_true, reduceCtorEq, wrap64, aixS_encV, aixS_encVV, alenS_encV, alenS_encVV, Int.toNat_natCast, List.length_map, aixS_msl, getElem?_map_lt, Nat.mul_one, ho1, ho2, ho3]); first | with_reducible rfl | (apply s_ite; (focus omega); with_reducible rfl)))) | (apply o_callD; (focus ((try simp only [simB0, simB1, SA, SV, SN, SR, SL, pick_bool, Nat.reduceEqDiff, ↓reduceIte, Nat.reduceAdd, Nat.reduceLeDiff, ho1, ho2, ho3]); (try with_reducible rfl); done)); (focus ((try simp only [simB0, simB1, SA, SV, SN, SR, SL, pick_bool, Nat.reduceEqDiff, ↓reduceIte, Nat.reduceAdd, Nat.reduceLeDiff, ho1, ho2, ho3]); (try with_reducible rfl); done)); (focus (first | (exact between_c _ _ _))); (focus (first | (apply snap_data; repeat' (first | exact snapL_nil | apply snapL_dat | exact Dat.int | exact Dat.bool | exact Dat.str | exact Dat.esl | exact Dat.nilf | exact encV_dat _ | exact encVV_dat _)) | (apply snap_plain; (focus (repeat' (first | exact snapL_nil | apply snapL_dat | exact Dat.int | exact Dat.bool | exact Dat.str | exact encV_dat _ | exact encVV_dat _))); rfl)))) | (apply e_st rfl; (focus ((try simp only [simB0, simB1, SA, SV, SN, SR, SL, pick_bool, Nat.reduceEqDiff, ↓reduceIte, Nat.reduceAdd, Nat.reduceLeDiff, ho1, ho2, ho3]); (try with_reducible rfl); done)); (focus ((try simp only [simB0, simB1, SA, SV, SN, SR, SL, pick_bool, Nat.reduceEqDiff, ↓reduceIte, Nat.reduceAdd, Nat.reduceLeDiff, ho1, ho2, ho3]); (try with_reducible rfl); done)); (focus ((try simp only [simB0, simB1, SA, SV, SN, SR, SL, pick_bool, Nat.reduceEqDiff, ↓reduceIte, Nat.reduceAdd, Nat.reduceLeDiff, ho1, ho2, ho3]); (try with_reducible rfl); done)); (focus ((try simp only [simB0, simB1, SA, SV, SN, SR, SL, pick_bool, Nat.reduceEqDiff, ↓reduceIte, Nat.reduceAdd, Nat.reduceLeDiff, ho1, ho2, ho3]); (try with_reducible rfl); done)); (focus (simp only [SO, Bool.and_self, one_encV, one_encVV, ho1, ho2, ho3])); (focus ((try simp only [SL, Nat.reduceAdd, Nat.reduceMul, List.length_map]); first | done | omega)); (focus ((try simp only [SL, Nat.reduceAdd, Nat.reduceMul, List.length_map]); first | done | omega)); (focus ((try simp only [SL, Nat.reduceAdd, Nat.reduceMul, List.length_map]); first | done | omega))) | (apply o_gT; (focus (simp only [simB0, simB1, SA, SV, SN, SR, SL, pick_bool, Nat.reduceEqDiff, ↓reduceIte, Nat.reduceAdd, Nat.reduceLeDiff, ho1, ho2, ho3]; done))) | (apply o_gF; (focus (simp only [simB0, simB1, SA, SV, SN, SR, SL, pick_bool, Nat.reduceEqDiff, ↓reduceIte, Nat.reduceAdd, Nat.reduceLeDiff, or_true, true_or, ho1, ho2, ho3]; done))) | (apply o_gB; (focus ((try simp only [simB0, simB1, SA, SV, SN, SR, SL, pick_bool, Nat.reduceEqDiff, ↓reduceIte, Nat.reduceAdd, Nat.reduceLeDiff, ho1, ho2, ho3]); (try with_reducible rfl); done)); all_goals (intro _hg; (try simp only [Bool.not_true, Bool.not_false, Bool.not_eq_true', Bool.not_eq_false', Bool.not_not, decide_eq_true_eq, decide_eq_false_iff_not] at _hg); try (exfalso; omega))) | (apply w_condT; (focus (simp only [simB0, simB1, SA, SV, SN, SR, SL, pick_bool, Nat.reduceEqDiff, ↓reduceIte, Nat.reduceAdd, Nat.reduceLeDiff, ho1, ho2, ho3]; done))) | (apply w_cond; (focus ((try simp only [simB0, simB1, SA, SV, SN, SR, SL, pick_bool, Nat.reduceEqDiff, ↓reduceIte, Nat.reduceAdd, Nat.reduceLeDiff, ho1, ho2, ho3]); (try with_reducible rfl); done)); all_goals (intro _hg; (try simp only [Bool.not_eq_true', Bool.not_eq_false', Bool.not_not, decide_eq_true_eq, decide_eq_false_iff_not] at _hg); try (exfalso; omega))) | (refine e_ends rfl ?_) | (apply r_2; (focus (simp only [rv, simB0, simB1, SA, SV, SN, SR, SL, pick_bool, Nat.reduceEqDiff, ↓reduceIte, Nat.reduceAdd, Nat.reduceLeDiff, ho1, ho2, ho3]; with_reducible rfl)); (focus (simp only [rv, simB0, simB1, SA, SV, SN, SR, SL, pick_bool, Nat.reduceEqDiff, ↓reduceIte, Nat.reduceAdd, Nat.reduceLeDiff, ho1, ho2, ho3]; with_reducible rfl))))
  all_goals exact snapErr 2

/-- the result of made -/
def taskI (n ins outs kk : Int) (k : KindV) : TaskV × Int := if inR n ins outs kk then taskOf k else (T00, 2)

theorem made_all (n ins outs kk : Int) (k : KindV) (fc fa fm : AV) (h1 : DatF fc) (h2 : DatF fa) (h3 : DatF fm)
    (h : inR n ins outs kk → k.n = n ∧ k.ins = ins ∧ k.outs = outs ∧ Cond fc (every k.n k.ins) k.pc ∧ (k.hasC = true ↔ fc ≠ .nilf) ∧ Cond2 fa (every k.n k.ins) (every k.n k.outs) k.pa ∧ ((fm = .nilf ∧ ∀ x y, k.pm x y = false) ∨ Cond2 fm (every k.n k.ins) (every k.n k.outs) k.pm)) :
    Pure Try.prog 45 [.agg [.int .i64 n, .int .i64 ins, .int .i64 outs, .int .i64 kk, fc, fa, fm]] (.tup [encT (taskI n ins outs kk k).1, .int .i64 (taskI n ins outs kk k).2]) := by
  unfold taskI
  by_cases hr : inR n ins outs kk
  · rw [if_pos hr]
    obtain ⟨e1, e2, e3, e4, e5, e6, e7⟩ := h hr
    unfold inR at hr
    rw [← e1, ← e2, ← e3]
    exact made_c k (by omega) (by omega) (by omega) kk (by omega) fc fa fm e4 e5 e6 e7
  · rw [if_neg hr]
    exact made_err n ins outs kk fc fa fm h1 h2 h3 hr

theorem encCs_dat (l : List CaseV) : Dat (encCs l) := Dat.sl (fun x hx c hc => by
  simp at hx; obtain ⟨q, _, rfl⟩ := hx
  simp only [encC, AV.cells, List.mem_cons, List.not_mem_nil, or_false] at hc
  rcases hc with rfl | rfl | rfl
  · exact encV_dat _
  · exact encVV_dat _
  · exact encVV_dat _)
theorem encT_dat (t : TaskV) : Dat (encT t) := by
  refine Dat.agg fun x hx => ?_
  simp only [List.mem_cons, List.not_mem_nil, or_false] at hx
  rcases hx with rfl | rfl | rfl | rfl
  · exact .int
  · exact .int
  · exact .int
  · exact encCs_dat _
theorem encTE_dat (t : TaskV) (e : Int) : Dat (.tup [encT t, .int .i64 e]) := Dat.tup (DatL.cons (encT_dat t) (DatL.cons .int DatL.nil))
theorem encT_cells (t : TaskV) : (encT t).cells = [.int .i64 t.n, .int .i64 t.ins, .int .i64 t.outs, encCs t.cases] := rfl
theorem encCs_one (l : List CaseV) : (encCs l).one = true := rfl
theorem encCs_cells (l : List CaseV) : (encCs l).cells = [encCs l] := rfl
theorem kind_dat {n i o k : Int} {fc fa fm : AV} (h1 : DatF fc) (h2 : DatF fa) (h3 : DatF fm) : Dat (.agg [.int .i64 n, .int .i64 i, .int .i64 o, .int .i64 k, fc, fa, fm]) := by
  refine Dat.agg fun x hx => ?_
  simp only [List.mem_cons, List.not_mem_nil, or_false] at hx
  rcases hx with rfl | rfl | rfl | rfl | rfl | rfl | rfl
  · exact .int
  · exact .int
  · exact .int
  · exact .int
  · exact h1.dat
  · exact h2.dat
  · exact h3.dat
theorem DatF.fun1 {g : FuncId} {x : AV} (h : Dat x) : DatF (.func g [.iptr [x] 0]) := DatF.func (DatL.cons (Dat.iptr (DatL.cons h DatL.nil)) DatL.nil)
theorem DatF.fun0 {g : FuncId} : DatF (.func g []) := DatF.func DatL.nil
theorem Cond2.fun1 {g : FuncId} {c : AV} {L M : List (List Int)} {p : List Int → List Int → Bool} (hd : Dat c) (h : ∀ x ∈ L, ∀ y ∈ M, Pure Try.prog g [encV x, encV y, .iptr [c] 0] (.bool (p x y))) : Cond2 (.func g [.iptr [c] 0]) L M p :=
  ⟨g, _, rfl, DatL.cons (Dat.iptr (DatL.cons hd DatL.nil)) DatL.nil, h⟩
theorem Cond2.fun0 {g : FuncId} {L M : List (List Int)} {p : List Int → List Int → Bool} (h : ∀ x ∈ L, ∀ y ∈ M, Pure Try.prog g [encV x, encV y] (.bool (p x y))) : Cond2 (.func g []) L M p :=
  ⟨g, _, rfl, DatL.nil, h⟩

theorem every_sh {n v : Nat} (hn : n ≤ 5) {x : List Int} (h : x ∈ every n v) : Sh x := by
  have := every_len n v x h
  show _ ≤ _; omega

theorem every_ne {n v : Nat} (hn : n ≠ 0) {x : List Int} (h : x ∈ every n v) : x ≠ [] := by
  have := every_len n v x h
  intro e; subst e; exact hn this.symm

/-! ### the tasks -/
theorem agreement_c (n v k : Int) : Pure Try.prog 59 [.int .i64 n, .int .i64 v, .int .i64 k] (.agg [.int .i64 n, .int .i64 v, .int .i64 v, .int .i64 k, .nilf, .func 89 [.iptr [.int .i64 k] 0], .nilf]) := by
  refine Pure.of_c2 follows is59 (Nat.le_of_ble_eq_true rfl) ?_
  simp only [b59]
  repeat' (first | refine w_seq ?_ | refine w_ops0 ?_ | refine w_ret ?_ | refine a_n ?_ | refine o_nil ?_ | (apply o_val rfl rfl; (focus ((try simp (disch := omega) only [simB0, simB1, SA, SV, SN, SR, SL, pick_bool, Nat.reduceEqDiff, ↓reduceIte, Nat.reduceAdd, Nat.reduceLeDiff, SO, one_encV, one_encVV, Bool.and_self, Bool.false_eq_true, reduceCtorEq, wrap64, aixS_encV, aixS_encVV, alenS_encV, alenS_encVV, Int.toNat_natCast, List.length_map, aixS_msl, getElem?_map_lt, Nat.mul_one]); first | with_reducible rfl | (apply s_ite; (focus omega); with_reducible rfl)))) | (apply e_alloc rfl; (focus ((try simp only [simB0, simB1, SA, SV, SN, SR, SL, pick_bool, Nat.reduceEqDiff, ↓reduceIte, Nat.reduceAdd, Nat.reduceLeDiff]); (try with_reducible rfl); done)); (focus (simp only [SO, Bool.and_self, one_encV, one_encVV]))) | (apply e_box rfl; (focus ((try simp only [simB0, simB1, SA, SV, SN, SR, SL, pick_bool, Nat.reduceEqDiff, ↓reduceIte, Nat.reduceAdd, Nat.reduceLeDiff]); (try with_reducible rfl); done)); (focus ((try simp only [simB0, simB1, SA, SV, SN, SR, SL, pick_bool, Nat.reduceEqDiff, ↓reduceIte, Nat.reduceAdd, Nat.reduceLeDiff]); (try with_reducible rfl); done)); (focus (simp only [SO, Bool.and_self, one_encV, one_encVV]))) | (apply e_st rfl; (focus ((try simp only [simB0, simB1, SA, SV, SN, SR, SL, pick_bool, Nat.reduceEqDiff, ↓reduceIte, Nat.reduceAdd, Nat.reduceLeDiff]); (try with_reducible rfl); done)); (focus ((try simp only [simB0, simB1, SA, SV, SN, SR, SL, pick_bool, Nat.reduceEqDiff, ↓reduceIte, Nat.reduceAdd, Nat.reduceLeDiff]); (try with_reducible rfl); done)); (focus ((try simp only [simB0, simB1, SA, SV, SN, SR, SL, pick_bool, Nat.reduceEqDiff, ↓reduceIte, Nat.reduceAdd, Nat.reduceLeDiff]); (try with_reducible rfl); done)); (focus ((try simp only [simB0, simB1, SA, SV, SN, SR, SL, pick_bool, Nat.reduceEqDiff, ↓reduceIte, Nat.reduceAdd, Nat.reduceLeDiff]); (try with_reducible rfl); done)); (focus (simp only [SO, Bool.and_self, one_encV, one_encVV])); (focus ((try simp only [SL, Nat.reduceAdd, Nat.reduceMul, List.length_map]); first | done | omega)); (focus ((try simp only [SL, Nat.reduceAdd, Nat.reduceMul, List.length_map]); first | done | omega)); (focus ((try simp only [SL, Nat.reduceAdd, Nat.reduceMul, List.length_map]); first | done | omega))) | (refine e_ends rfl ?_) | (apply r_1; (focus (simp only [rv, simB0, simB1, SA, SV, SN, SR, SL, pick_bool, Nat.reduceEqDiff, ↓reduceIte, Nat.reduceAdd, Nat.reduceLeDiff]; with_reducible rfl))))
  refine snap_agg ?_
  (repeat' (first | exact snapL_nil | exact Dat.snap Dat.int | exact Dat.snap Dat.bool | exact Dat.snap Dat.str | exact Dat.snap Dat.esl | exact Dat.snap Dat.nilf | exact Dat.snap (encV_dat _) | exact Dat.snap (encVV_dat _) | apply snapL_cons | apply snap_func | apply snap_iptr | (apply snap_ptr; (focus ((try simp only [simB0, simB1, SA, SV, SN, SR, SL, pick_bool, Nat.reduceEqDiff, ↓reduceIte, Nat.reduceAdd, Nat.reduceLeDiff]); with_reducible rfl)); (focus rfl))))

def kAgree (n v k : Int) : KindV := ⟨n.toNat, v.toNat, v.toNat, false, fun _ => true, fun i o => decide ((kinds o).length ≤ max k 1) && o.all fun v => decide (v ∈ i), fun _ _ => false⟩
theorem made_agree (n v kk k : Int) : Pure Try.prog 45 [.agg [.int .i64 n, .int .i64 v, .int .i64 v, .int .i64 kk, .nilf, .func 89 [.iptr [.int .i64 k] 0], .nilf]] (.tup [encT (taskI n v v kk (kAgree n v k)).1, .int .i64 (taskI n v v kk (kAgree n v k)).2]) := by
  refine made_all n v v kk (kAgree n v k) _ _ _ DatF.nil (DatF.fun1 .int) DatF.nil (fun h => ?_)
  unfold inR at h
  have : (kAgree n v k).n ≤ 5 := by show n.toNat ≤ 5; omega
  refine ⟨by show (n.toNat : Int) = n; omega, by show (v.toNat : Int) = v; omega, by show (v.toNat : Int) = v; omega, ⟨.inl ⟨rfl, fun _ => rfl⟩⟩, by simp [kAgree], Cond2.fun1 .int (fun x hx y hy => ?_), .inl ⟨rfl, fun _ _ => rfl⟩⟩
  exact agreement1_c k x y (every_sh this hx) (every_sh this hy)

def consensusT (n v : Int) : TaskV × Int := taskI n v v (-1) (kAgree n v 1)
theorem consensus_c (n v : Int) : Pure Try.prog 16 [.int .i64 n, .int .i64 v] (.tup [encT (consensusT n v).1, .int .i64 (consensusT n v).2]) := by
  refine Pure.of_c2 follows is16 (Nat.le_of_ble_eq_true rfl) ?_
  simp only [b16]
  have hm := made_agree n v (-1) 1
  have hdd : ∀ k : Int, Dat (.agg [.int .i64 n, .int .i64 v, .int .i64 v, .int .i64 k, .nilf, .func 89 [.iptr [.int .i64 1] 0], .nilf]) := fun k => kind_dat DatF.nil (DatF.fun1 .int) DatF.nil
  repeat' (first | refine w_seq ?_ | refine w_ops0 ?_ | refine w_ret ?_ | refine a_n ?_ | refine o_nil ?_ | (apply o_val rfl rfl; (focus ((try simp (disch := omega) only [simB0, simB1, SA, SV, SN, SR, SL, pick_bool, Nat.reduceEqDiff, ↓reduceIte, Nat.reduceAdd, Nat.reduceLeDiff, SO, one_encV, one_encVV, Bool.and_self, Bool.false_eq_true, reduceCtorEq, wrap64, aixS_encV, aixS_encVV, alenS_encV, alenS_encVV, Int.toNat_natCast, List.length_map, aixS_msl, getElem?_map_lt, Nat.mul_one, encT_cells, encCs_one, encCs_cells]); first | with_reducible rfl | (apply s_ite; (focus omega); with_reducible rfl)))) | (apply o_callD; (focus ((try simp only [simB0, simB1, SA, SV, SN, SR, SL, pick_bool, Nat.reduceEqDiff, ↓reduceIte, Nat.reduceAdd, Nat.reduceLeDiff, encT_cells, encCs_one, encCs_cells]); (try with_reducible rfl); done)); (focus ((try simp only [simB0, simB1, SA, SV, SN, SR, SL, pick_bool, Nat.reduceEqDiff, ↓reduceIte, Nat.reduceAdd, Nat.reduceLeDiff, encT_cells, encCs_one, encCs_cells]); (try with_reducible rfl); done)); (focus (first | (exact agreement_c _ _ _) | (exact hm))); (focus (first | (apply snap_data; repeat' (first | exact snapL_nil | apply snapL_dat | exact Dat.int | exact Dat.bool | exact Dat.str | exact Dat.esl | exact Dat.nilf | exact encV_dat _ | exact encVV_dat _ | exact hdd _)) | (apply snap_plain; (focus (repeat' (first | exact snapL_nil | apply snapL_dat | exact Dat.int | exact Dat.bool | exact Dat.str | exact encV_dat _ | exact encVV_dat _ | exact hdd _))); rfl)))) | (apply e_alloc rfl; (focus ((try simp only [simB0, simB1, SA, SV, SN, SR, SL, pick_bool, Nat.reduceEqDiff, ↓reduceIte, Nat.reduceAdd, Nat.reduceLeDiff, encT_cells, encCs_one, encCs_cells]); (try with_reducible rfl); done)); (focus (simp only [SO, Bool.and_self, one_encV, one_encVV, encT_cells, encCs_one, encCs_cells]))) | (apply e_st rfl; (focus ((try simp only [simB0, simB1, SA, SV, SN, SR, SL, pick_bool, Nat.reduceEqDiff, ↓reduceIte, Nat.reduceAdd, Nat.reduceLeDiff, encT_cells, encCs_one, encCs_cells]); (try with_reducible rfl); done)); (focus ((try simp only [simB0, simB1, SA, SV, SN, SR, SL, pick_bool, Nat.reduceEqDiff, ↓reduceIte, Nat.reduceAdd, Nat.reduceLeDiff, encT_cells, encCs_one, encCs_cells]); (try with_reducible rfl); done)); (focus ((try simp only [simB0, simB1, SA, SV, SN, SR, SL, pick_bool, Nat.reduceEqDiff, ↓reduceIte, Nat.reduceAdd, Nat.reduceLeDiff, encT_cells, encCs_one, encCs_cells]); (try with_reducible rfl); done)); (focus ((try simp only [simB0, simB1, SA, SV, SN, SR, SL, pick_bool, Nat.reduceEqDiff, ↓reduceIte, Nat.reduceAdd, Nat.reduceLeDiff, encT_cells, encCs_one, encCs_cells]); (try with_reducible rfl); done)); (focus (simp only [SO, Bool.and_self, one_encV, one_encVV, encT_cells, encCs_one, encCs_cells])); (focus ((try simp only [SL, Nat.reduceAdd, Nat.reduceMul, List.length_map]); first | done | omega)); (focus ((try simp only [SL, Nat.reduceAdd, Nat.reduceMul, List.length_map]); first | done | omega)); (focus ((try simp only [SL, Nat.reduceAdd, Nat.reduceMul, List.length_map]); first | done | omega))) | (refine e_ends rfl ?_) | (apply r_2; (focus (simp only [rv, simB0, simB1, SA, SV, SN, SR, SL, pick_bool, Nat.reduceEqDiff, ↓reduceIte, Nat.reduceAdd, Nat.reduceLeDiff, encT_cells, encCs_one, encCs_cells]; with_reducible rfl)); (focus (simp only [rv, simB0, simB1, SA, SV, SN, SR, SL, pick_bool, Nat.reduceEqDiff, ↓reduceIte, Nat.reduceAdd, Nat.reduceLeDiff, encT_cells, encCs_one, encCs_cells]; with_reducible rfl))))
  exact encTE_dat _ _ _

def setT (n v k : Int) : TaskV × Int := taskI n v v (max k 0) (kAgree n v (max k 0))
theorem set_c (n v k : Int) : Pure Try.prog 18 [.int .i64 n, .int .i64 v, .int .i64 k] (.tup [encT (setT n v k).1, .int .i64 (setT n v k).2]) := by
  refine Pure.of_c2 follows is18 (Nat.le_of_ble_eq_true rfl) ?_
  simp only [b18]
  have hm := made_agree n v (max k 0) (max k 0)
  have hdd : Dat (.agg [.int .i64 n, .int .i64 v, .int .i64 v, .int .i64 (max k 0), .nilf, .func 89 [.iptr [.int .i64 (max k 0)] 0], .nilf]) := kind_dat DatF.nil (DatF.fun1 .int) DatF.nil
  repeat' (first | refine w_seq ?_ | refine w_ops0 ?_ | refine w_ret ?_ | refine a_n ?_ | refine o_nil ?_ | (apply o_val rfl rfl; (focus ((try simp (disch := omega) only [simB0, simB1, SA, SV, SN, SR, SL, pick_bool, Nat.reduceEqDiff, ↓reduceIte, Nat.reduceAdd, Nat.reduceLeDiff, SO, one_encV, one_encVV, Bool.and_self, Bool.false_eq_true, reduceCtorEq, wrap64, aixS_encV, aixS_encVV, alenS_encV, alenS_encVV, Int.toNat_natCast, List.length_map, aixS_msl, getElem?_map_lt, Nat.mul_one, encT_cells, encCs_one, encCs_cells]); first | with_reducible rfl | (apply s_ite; (focus omega); with_reducible rfl)))) | (apply o_callD; (focus ((try simp only [simB0, simB1, SA, SV, SN, SR, SL, pick_bool, Nat.reduceEqDiff, ↓reduceIte, Nat.reduceAdd, Nat.reduceLeDiff, encT_cells, encCs_one, encCs_cells]); (try with_reducible rfl); done)); (focus ((try simp only [simB0, simB1, SA, SV, SN, SR, SL, pick_bool, Nat.reduceEqDiff, ↓reduceIte, Nat.reduceAdd, Nat.reduceLeDiff, encT_cells, encCs_one, encCs_cells]); (try with_reducible rfl); done)); (focus (first | (exact agreement_c _ _ _) | (exact hm))); (focus (first | (apply snap_data; repeat' (first | exact snapL_nil | apply snapL_dat | exact Dat.int | exact Dat.bool | exact Dat.str | exact Dat.esl | exact Dat.nilf | exact encV_dat _ | exact encVV_dat _ | exact hdd)) | (apply snap_plain; (focus (repeat' (first | exact snapL_nil | apply snapL_dat | exact Dat.int | exact Dat.bool | exact Dat.str | exact encV_dat _ | exact encVV_dat _ | exact hdd))); rfl)))) | (apply e_alloc rfl; (focus ((try simp only [simB0, simB1, SA, SV, SN, SR, SL, pick_bool, Nat.reduceEqDiff, ↓reduceIte, Nat.reduceAdd, Nat.reduceLeDiff, encT_cells, encCs_one, encCs_cells]); (try with_reducible rfl); done)); (focus (simp only [SO, Bool.and_self, one_encV, one_encVV, encT_cells, encCs_one, encCs_cells]))) | (apply e_st rfl; (focus ((try simp only [simB0, simB1, SA, SV, SN, SR, SL, pick_bool, Nat.reduceEqDiff, ↓reduceIte, Nat.reduceAdd, Nat.reduceLeDiff, encT_cells, encCs_one, encCs_cells]); (try with_reducible rfl); done)); (focus ((try simp only [simB0, simB1, SA, SV, SN, SR, SL, pick_bool, Nat.reduceEqDiff, ↓reduceIte, Nat.reduceAdd, Nat.reduceLeDiff, encT_cells, encCs_one, encCs_cells]); (try with_reducible rfl); done)); (focus ((try simp only [simB0, simB1, SA, SV, SN, SR, SL, pick_bool, Nat.reduceEqDiff, ↓reduceIte, Nat.reduceAdd, Nat.reduceLeDiff, encT_cells, encCs_one, encCs_cells]); (try with_reducible rfl); done)); (focus ((try simp only [simB0, simB1, SA, SV, SN, SR, SL, pick_bool, Nat.reduceEqDiff, ↓reduceIte, Nat.reduceAdd, Nat.reduceLeDiff, encT_cells, encCs_one, encCs_cells]); (try with_reducible rfl); done)); (focus (simp only [SO, Bool.and_self, one_encV, one_encVV, encT_cells, encCs_one, encCs_cells])); (focus ((try simp only [SL, Nat.reduceAdd, Nat.reduceMul, List.length_map]); first | done | omega)); (focus ((try simp only [SL, Nat.reduceAdd, Nat.reduceMul, List.length_map]); first | done | omega)); (focus ((try simp only [SL, Nat.reduceAdd, Nat.reduceMul, List.length_map]); first | done | omega))) | (refine e_ends rfl ?_) | (apply r_2; (focus (simp only [rv, simB0, simB1, SA, SV, SN, SR, SL, pick_bool, Nat.reduceEqDiff, ↓reduceIte, Nat.reduceAdd, Nat.reduceLeDiff, encT_cells, encCs_one, encCs_cells]; with_reducible rfl)); (focus (simp only [rv, simB0, simB1, SA, SV, SN, SR, SL, pick_bool, Nat.reduceEqDiff, ↓reduceIte, Nat.reduceAdd, Nat.reduceLeDiff, encT_cells, encCs_one, encCs_cells]; with_reducible rfl))))
  exact encTE_dat _ _ _

def moreI (n : Int) : Int := if 0 ≤ n ∧ n ≤ 8 then n + 1 else 9
def kApprox (n s : Int) : KindV := ⟨n.toNat, 2, (moreI s).toNat, false, fun _ => true, fun l m => if (kinds l).length = 1 then eqv m (IntKind.wrap .i64 (l.getD 0 default * s)) else decide (IntKind.wrap .i64 (m.foldl max (m.getD 0 default) - m.foldl min (m.getD 0 default)) ≤ 1), fun _ _ => false⟩
def approxT (n s : Int) : TaskV × Int := taskI n 2 (moreI s) (-1) (kApprox n s)
theorem made_approx (n s : Int) : Pure Try.prog 45 [.agg [.int .i64 n, .int .i64 2, .int .i64 (moreI s), .int .i64 (-1), .nilf, .func 47 [.iptr [.int .i64 s] 0], .nilf]] (.tup [encT (approxT n s).1, .int .i64 (approxT n s).2]) := by
  refine made_all n 2 (moreI s) (-1) (kApprox n s) _ _ _ DatF.nil (DatF.fun1 .int) DatF.nil (fun h => ?_)
  unfold inR at h
  have h5 : (kApprox n s).n ≤ 5 := by show n.toNat ≤ 5; omega
  have h1 : (kApprox n s).n ≠ 0 := by show n.toNat ≠ 0; omega
  refine ⟨by show (n.toNat : Int) = n; omega, rfl, by show ((moreI s).toNat : Int) = moreI s; omega, ⟨.inl ⟨rfl, fun _ => rfl⟩⟩, by simp [kApprox], Cond2.fun1 .int (fun x hx y hy => ?_), .inl ⟨rfl, fun _ _ => rfl⟩⟩
  exact approx1_c s x y (every_sh h5 hx) (every_sh h5 hy) (every_ne h1 hx) (every_ne h1 hy)

theorem approx_c (n s : Int) : Pure Try.prog 11 [.int .i64 n, .int .i64 s] (.tup [encT (approxT n s).1, .int .i64 (approxT n s).2]) := by
  refine Pure.of_c2 follows is11 (Nat.le_of_ble_eq_true rfl) ?_
  simp only [b11]
  have hm := made_approx n s
  unfold moreI at hm
  refine w_seq ?_
  repeat' (first | refine w_ops0 ?_ | refine a_n ?_ | refine o_nil ?_ | (apply o_val rfl rfl; (focus ((try simp (disch := omega) only [simB0, simB1, SA, SV, SN, SR, SL, pick_bool, Nat.reduceEqDiff, ↓reduceIte, Nat.reduceAdd, Nat.reduceLeDiff, SO, one_encV, one_encVV, Bool.and_self, Bool.false_eq_true, reduceCtorEq, wrap64, aixS_encV, aixS_encVV, alenS_encV, alenS_encVV, Int.toNat_natCast, List.length_map, aixS_msl, getElem?_map_lt, Nat.mul_one]); first | with_reducible rfl | (apply s_ite; (focus omega); with_reducible rfl)))) | (apply e_alloc rfl; (focus ((try simp only [simB0, simB1, SA, SV, SN, SR, SL, pick_bool, Nat.reduceEqDiff, ↓reduceIte, Nat.reduceAdd, Nat.reduceLeDiff]); (try with_reducible rfl); done)); (focus (simp only [SO, Bool.and_self, one_encV, one_encVV]))) | (apply e_box rfl; (focus ((try simp only [simB0, simB1, SA, SV, SN, SR, SL, pick_bool, Nat.reduceEqDiff, ↓reduceIte, Nat.reduceAdd, Nat.reduceLeDiff]); (try with_reducible rfl); done)); (focus ((try simp only [simB0, simB1, SA, SV, SN, SR, SL, pick_bool, Nat.reduceEqDiff, ↓reduceIte, Nat.reduceAdd, Nat.reduceLeDiff]); (try with_reducible rfl); done)); (focus (simp only [SO, Bool.and_self, one_encV, one_encVV]))))
  refine w_seq ?_
  refine w_ops0F (only 0 [.int .i64 s]) _ [(0, .int .i64 n), (3, .iptr [.int .i64 s] 0), (4, .ptr 1 4 0)] (Fz.one (by ((try simp only [simB0, simB1, SA, SV, SN, SR, SL, pick_bool, Nat.reduceEqDiff, ↓reduceIte, Nat.reduceAdd, Nat.reduceLeDiff]); (try with_reducible rfl)))) ⟨.inl (by ((try simp only [simB0, simB1, SA, SV, SN, SR, SL, pick_bool, Nat.reduceEqDiff, ↓reduceIte, Nat.reduceAdd, Nat.reduceLeDiff]); (try with_reducible rfl))), .inr ?_, .inl (by ((try simp only [simB0, simB1, SA, SV, SN, SR, SL, pick_bool, Nat.reduceEqDiff, ↓reduceIte, Nat.reduceAdd, Nat.reduceLeDiff]); (try with_reducible rfl))), trivial⟩ ?_
  · ((try simp only [simB0, simB1, SA, SV, SN, SR, SL, pick_bool, Nat.reduceEqDiff, ↓reduceIte, Nat.reduceAdd, Nat.reduceLeDiff]); (try with_reducible rfl))
    exact snap_ptr only_at rfl (snapL_cons (.int _ _) snapL_nil)
  repeat' (first | refine w_ret ?_ | refine a_n ?_ | refine o_nil ?_ | (apply o_val rfl rfl; (focus ((try simp (disch := omega) only [simB0, simB1, SA, SV, SN, SR, SL, pick_bool, Nat.reduceEqDiff, ↓reduceIte, Nat.reduceAdd, Nat.reduceLeDiff, SO, one_encV, one_encVV, Bool.and_self, Bool.false_eq_true, reduceCtorEq, wrap64, aixS_encV, aixS_encVV, alenS_encV, alenS_encVV, Int.toNat_natCast, List.length_map, aixS_msl, getElem?_map_lt, Nat.mul_one, encT_cells, encCs_one, encCs_cells]); first | with_reducible rfl | (apply s_ite; (focus omega); with_reducible rfl)))) | (apply o_callD; (focus ((try simp only [simB0, simB1, SA, SV, SN, SR, SL, pick_bool, Nat.reduceEqDiff, ↓reduceIte, Nat.reduceAdd, Nat.reduceLeDiff, encT_cells, encCs_one, encCs_cells]); (try with_reducible rfl); done)); (focus ((try simp only [simB0, simB1, SA, SV, SN, SR, SL, pick_bool, Nat.reduceEqDiff, ↓reduceIte, Nat.reduceAdd, Nat.reduceLeDiff, encT_cells, encCs_one, encCs_cells]); (try with_reducible rfl); done)); (focus (first | (exact more_c _) | (exact hm))); (focus (first | (apply snap_data; repeat' (first | exact snapL_nil | apply snapL_dat | exact Dat.int | exact Dat.bool | exact Dat.str | exact Dat.esl | exact Dat.nilf | exact encV_dat _ | exact encVV_dat _ | exact kind_dat DatF.nil (DatF.fun1 .int) DatF.nil)) | (apply snap_plain; (focus (repeat' (first | exact snapL_nil | apply snapL_dat | exact Dat.int | exact Dat.bool | exact Dat.str | exact encV_dat _ | exact encVV_dat _ | exact kind_dat DatF.nil (DatF.fun1 .int) DatF.nil))); rfl)))) | (apply e_st rfl; (focus ((try simp only [simB0, simB1, SA, SV, SN, SR, SL, pick_bool, Nat.reduceEqDiff, ↓reduceIte, Nat.reduceAdd, Nat.reduceLeDiff, encT_cells, encCs_one, encCs_cells]); (try with_reducible rfl); done)); (focus ((try simp only [simB0, simB1, SA, SV, SN, SR, SL, pick_bool, Nat.reduceEqDiff, ↓reduceIte, Nat.reduceAdd, Nat.reduceLeDiff, encT_cells, encCs_one, encCs_cells]); (try with_reducible rfl); done)); (focus ((try simp only [simB0, simB1, SA, SV, SN, SR, SL, pick_bool, Nat.reduceEqDiff, ↓reduceIte, Nat.reduceAdd, Nat.reduceLeDiff, encT_cells, encCs_one, encCs_cells]); (try with_reducible rfl); done)); (focus ((try simp only [simB0, simB1, SA, SV, SN, SR, SL, pick_bool, Nat.reduceEqDiff, ↓reduceIte, Nat.reduceAdd, Nat.reduceLeDiff, encT_cells, encCs_one, encCs_cells]); (try with_reducible rfl); done)); (focus (simp only [SO, Bool.and_self, one_encV, one_encVV, encT_cells, encCs_one, encCs_cells])); (focus ((try simp only [SL, Nat.reduceAdd, Nat.reduceMul, List.length_map]); first | done | omega)); (focus ((try simp only [SL, Nat.reduceAdd, Nat.reduceMul, List.length_map]); first | done | omega)); (focus ((try simp only [SL, Nat.reduceAdd, Nat.reduceMul, List.length_map]); first | done | omega))) | (refine e_ends rfl ?_) | (apply r_2; (focus (simp only [rv, simB0, simB1, SA, SV, SN, SR, SL, pick_bool, Nat.reduceEqDiff, ↓reduceIte, Nat.reduceAdd, Nat.reduceLeDiff, encT_cells, encCs_one, encCs_cells]; with_reducible rfl)); (focus (simp only [rv, simB0, simB1, SA, SV, SN, SR, SL, pick_bool, Nat.reduceEqDiff, ↓reduceIte, Nat.reduceAdd, Nat.reduceLeDiff, encT_cells, encCs_one, encCs_cells]; with_reducible rfl))))
  exact encTE_dat _ _ _

end Go.Proofs.Ytcbkggfipdldaaa

/- P9: contracts of functions and plain laws; for all inputs that the theorems name. -/
set_option linter.unusedSimpArgs false
set_option linter.unusedVariables false
namespace Go.Proofs.Ytcbkggfipdldaaa
open Go Go.Abs
attribute [local irreducible] awp2 aops2 ains aloop athen bbind obind gbind acond res1 Go.Abs.Fn PCall Go.Abs.Pure SnapArgs SnapL Yl

theorem asls_lo {b n i : Nat} (h : i < n) : asls 1 (.msl b n 1 0 n) (some (.int .i64 i)) none none = some (.msl b n 1 i (n - i)) := by
  simp [asls, abound]; omega
theorem asls_hi {b n i : Nat} (h : i ≤ n) (h0 : 0 < n) : asls 1 (.msl b n 1 0 n) none (some (.int .i64 i)) none = some (.msl b n 1 0 i) := by
  simp [asls, abound]; omega
theorem aclear_int {b n i : Nat} {H : Hp} {c : List Int} (h : i < n) (hb : H b = some (c.map (AV.int .i64))) (hc : c.length = n) :
    aclear 1 (.int .i64 0) (.msl b n 1 i (n - i)) H = some (hupd H b ((c.take i ++ List.replicate (n - i) 0).map (AV.int .i64))) := by
  unfold aclear
  have hz : zcells (.int .i64 0) (n - i) = (List.replicate (n - i) (0 : Int)).map (AV.int .i64) := by rw [← zcells_int]; rfl
  dsimp only
  rw [if_neg (by omega), hb]
  dsimp only
  rw [if_pos ⟨by simpa using hc, rfl, rfl, rfl, by omega⟩, hz]
  congr 2
  unfold lput
  rw [List.length_map, List.length_replicate, List.drop_eq_nil_of_le (by simp; omega), List.append_nil, List.map_append, List.map_take]

theorem snap_pre {H : Hp} {b n m : Nat} {c l : List Int} (hb : H b = some (c.map (AV.int .i64))) (hc : c.length = n) (hm : m ≤ n) (h : c.take m = l) : Snap H (.msl b n 1 0 m) (encV l) := by
  subst h
  refine snap_msl hb (by simp [hc]) (by omega) (by simp; omega) (fun y hy => by obtain ⟨n, _, rfl⟩ := List.mem_map.1 hy; rfl) (fun i a c' ha hc' => ?_)
  rw [Nat.zero_add, List.getElem?_map] at ha
  rw [List.getElem?_map, List.getElem?_take] at hc'
  split at hc'
  · rw [ha] at hc'; cases hc'
    simp only [Option.map_eq_some_iff] at ha
    obtain ⟨q, _, rfl⟩ := ha
    exact .int _ _
  · cases hc'

/-- DeleteFunc -/
theorem delete_c (l : List Int) (p : Int → Bool) (g : Nat) (caps : List AV) (hd : ∀ x ∈ caps, Dat x) (hg : ∀ x ∈ l, Pure Try.prog g (.int .i64 x :: caps) (.bool (p x))) (hl : Sh l) (b n : Nat) (hn : l.length = n) (H : Hp) (nx : Nat) (hb : H b = some (l.map (AV.int .i64))) :
    Abs.Fn Try.prog 55 [.msl b n 1 0 n, .func g caps] H nx fun r H' nx' => nx' = nx ∧ (∀ x, x ≠ b → H' x = H x) ∧ ∃ (c : List Int) (m : Nat), r = .msl b n 1 0 m ∧ H' b = some (c.map (AV.int .i64)) ∧ c.length = n ∧ m ≤ n ∧ c.take m = l.filter fun x => !p x := by
  refine Abs.Fn.of_c2 follows is55 (Nat.le_of_ble_eq_true rfl) ?_
  simp only [b55]
  refine w_seq ?_
  repeat' (first | refine w_ops0 ?_ | refine a_n ?_ | refine o_nil ?_ | (apply o_val rfl rfl; (focus ((try simp (disch := omega) only [simB0, simB1, SA, SV, SN, SR, SL, pick_bool, Nat.reduceEqDiff, ↓reduceIte, Nat.reduceAdd, Nat.reduceLeDiff, SO, one_encV, one_encVV, Bool.and_self, Bool.false_eq_true, reduceCtorEq, wrap64, aixS_encV, aixS_encVV, alenS_encV, alenS_encVV, Int.toNat_natCast, List.length_map, aixS_msl, getElem?_map_lt, Nat.mul_one]); first | with_reducible rfl | (apply s_ite; (focus omega); with_reducible rfl)))))
  refine w_seq ?_
  repeat' (first | refine w_ops0 ?_ | (apply o_val rfl rfl; (focus ((try simp (disch := omega) only [simB0, simB1, SA, SV, SN, SR, SL, pick_bool, Nat.reduceEqDiff, ↓reduceIte, Nat.reduceAdd, Nat.reduceLeDiff, SO, one_encV, one_encVV, Bool.and_self, Bool.false_eq_true, reduceCtorEq, wrap64, aixS_encV, aixS_encVV, alenS_encV, alenS_encVV, Int.toNat_natCast, List.length_map, aixS_msl, getElem?_map_lt, Nat.mul_one]); first | with_reducible rfl | (apply s_ite; (focus omega); with_reducible rfl)))))
  refine o_callP (by ((try simp only [simB0, simB1, SA, SV, SN, SR, SL, pick_bool, Nat.reduceEqDiff, ↓reduceIte, Nat.reduceAdd, Nat.reduceLeDiff]); (try with_reducible rfl))) (by ((try simp only [simB0, simB1, SA, SV, SN, SR, SL, pick_bool, Nat.reduceEqDiff, ↓reduceIte, Nat.reduceAdd, Nat.reduceLeDiff]); (try with_reducible rfl))) (indexF_c l p g caps hd hg hl) (snap_plain (snapL_cons (snap_row hb rfl hn) (snapL_cons (Dat.func hd H) snapL_nil)) rfl) ?_
  repeat' (first | refine a_n ?_ | refine o_nil ?_ | (apply o_val rfl rfl; (focus ((try simp (disch := omega) only [simB0, simB1, SA, SV, SN, SR, SL, pick_bool, Nat.reduceEqDiff, ↓reduceIte, Nat.reduceAdd, Nat.reduceLeDiff, SO, one_encV, one_encVV, Bool.and_self, Bool.false_eq_true, reduceCtorEq, wrap64, aixS_encV, aixS_encVV, alenS_encV, alenS_encVV, Int.toNat_natCast, List.length_map, aixS_msl, getElem?_map_lt, Nat.mul_one]); first | with_reducible rfl | (apply s_ite; (focus omega); with_reducible rfl)))))
  refine w_seqC (fun T H' nx' => H' = H ∧ nx' = nx ∧ T 0 = .msl b n 1 0 n ∧ T 1 = .func g caps ∧ T 5 = .int .i64 (idxF l p) ∧ idxF l p ≠ -1) ?_ ?_
  · repeat' (first | refine w_seq ?_ | refine w_ops0 ?_ | refine w_skip ?_ | refine w_ret ?_ | refine a_n ?_ | refine a_r ?_ | refine o_nil ?_ | (apply o_val rfl rfl; (focus ((try simp (disch := omega) only [simB0, simB1, SA, SV, SN, SR, SL, pick_bool, Nat.reduceEqDiff, ↓reduceIte, Nat.reduceAdd, Nat.reduceLeDiff, SO, one_encV, one_encVV, Bool.and_self, Bool.false_eq_true, reduceCtorEq, wrap64, aixS_encV, aixS_encVV, alenS_encV, alenS_encVV, Int.toNat_natCast, List.length_map, aixS_msl, getElem?_map_lt, Nat.mul_one, hb]); first | with_reducible rfl | (apply s_ite; (focus omega); with_reducible rfl)))) | (apply w_cond; (focus ((try simp only [simB0, simB1, SA, SV, SN, SR, SL, pick_bool, Nat.reduceEqDiff, ↓reduceIte, Nat.reduceAdd, Nat.reduceLeDiff, hb]); (try with_reducible rfl); done)); all_goals (intro _hg; (try simp only [Bool.not_eq_true', Bool.not_eq_false', Bool.not_not, decide_eq_true_eq, decide_eq_false_iff_not] at _hg); try (exfalso; omega))) | (refine e_ends rfl ?_) | (apply r_1; (focus (simp only [rv, simB0, simB1, SA, SV, SN, SR, SL, pick_bool, Nat.reduceEqDiff, ↓reduceIte, Nat.reduceAdd, Nat.reduceLeDiff, hb]; with_reducible rfl))))
    · refine ⟨rfl, fun _ _ => rfl, l, n, rfl, hb, hn, Nat.le_refl _, ?_⟩
      unfold idxF at _hg
      split at _hg
      · omega
      · rename_i h
        rw [List.take_of_length_le (by omega), List.filter_eq_self.2]
        intro x hx
        simp only [Bool.not_eq_true, List.any_eq_false] at h
        simp [h x hx]
    · exact ⟨rfl, rfl, rfl, rfl, rfl, _hg⟩
  · rintro T H nx ⟨rfl, rfl, t0, t1, t5, hne⟩
    obtain ⟨k, hk, hk1, hk2, hk3⟩ : ∃ k : Nat, idxF l p = k ∧ k < l.length ∧ p (l.getD k default) = true ∧ ∀ i, i < k → p (l.getD i default) = false := by
      unfold idxF at hne ⊢
      split at hne
      · rename_i h
        rw [if_pos h]
        have hlt : l.findIdx p < l.length := List.findIdx_lt_length.2 (by simpa [List.any_eq_true] using h)
        refine ⟨_, rfl, hlt, ?_, fun i hi => ?_⟩
        · have := List.findIdx_getElem (w := hlt)
          simpa [List.getD, hlt] using this
        · have := List.not_of_lt_findIdx hi
          simpa [List.getD, show i < l.length by omega] using this
      · exact absurd rfl hne
    rw [hk] at t5
    refine w_seq (w_seq ?_)
    repeat' (first | refine w_ops0 ?_ | refine a_n ?_ | refine o_nil ?_ | (apply o_val rfl rfl; (focus ((try simp (disch := omega) only [simB0, simB1, SA, SV, SN, SR, SL, pick_bool, Nat.reduceEqDiff, ↓reduceIte, Nat.reduceAdd, Nat.reduceLeDiff, SO, one_encV, one_encVV, Bool.and_self, Bool.false_eq_true, reduceCtorEq, wrap64, aixS_encV, aixS_encVV, alenS_encV, alenS_encVV, Int.toNat_natCast, List.length_map, aixS_msl, getElem?_map_lt, Nat.mul_one, t0, t1, t5]); first | with_reducible rfl | (apply s_ite; (focus omega); with_reducible rfl)))))
    refine w_block (w_loop ?_)
    refine loopI (X := List Int × Nat × Nat) (fun x => [(0, .msl b n 1 0 n), (1, .func g caps), (5, .int .i64 x.2.1), (6, .int .i64 x.2.2)])
      (fun x H' nx' => nx' = nx ∧ (∀ y, y ≠ b → H' y = H y) ∧ H' b = some (x.1.map (AV.int .i64)) ∧ x.1.length = n ∧ x.2.1 < x.2.2 ∧ x.2.2 ≤ n ∧ x.1.take x.2.1 = (l.take x.2.2).filter (fun x => !p x) ∧ x.1.drop x.2.2 = l.drop x.2.2) (fun x => n - x.2.2) (l, k, k + 1)
      ⟨rfl, fun _ _ => rfl, hb, hn, Nat.lt_succ_self _, by show k + 1 ≤ n; omega, ?_, rfl⟩ (by simp (disch := omega) only [agr, SA, Nat.reduceEqDiff, ↓reduceIte, wrap64, Int.natCast_add, Int.natCast_one, Int.natCast_zero, and_true, and_self, t0, t1, t5]) ?_
    · rw [take_succ' hk1, List.filter_append, List.filter_cons]
      simp only [hk2, Bool.not_true, Bool.false_eq_true, if_false, List.filter_nil, List.append_nil]
      symm
      rw [List.filter_eq_self]
      intro x hx
      obtain ⟨i, hi, e⟩ := List.getElem_of_mem hx
      rw [List.length_take] at hi
      have := hk3 i (by omega)
      rw [show l.getD i default = x by rw [← e]; simp [List.getD, show i < l.length by omega]] at this
      simp [this]
    · rintro ⟨c, i, j⟩ H' nx' ⟨rfl, e1, e2, e3, e4, e5, e6, e7⟩
      dsimp only at e2 e3 e4 e5 e6 e7 ⊢
      have hgj : j < n → c.getD j default = l.getD j default := fun h => by
        have : (c.drop j).getD 0 default = (l.drop j).getD 0 default := by rw [e7]
        simpa [List.getD] using this
      repeat' (first | refine w_seq ?_ | refine w_ops0 ?_ | refine w_block ?_ | refine w_skip ?_ | refine w_exit ?_ | refine a_n ?_ | refine a_x ?_ | refine o_nil ?_ | (apply o_val rfl rfl; (focus ((try simp (disch := omega) only [simB0, simB1, SA, SV, SN, SR, SL, pick_bool, Nat.reduceEqDiff, ↓reduceIte, Nat.reduceAdd, Nat.reduceLeDiff, SO, one_encV, one_encVV, Bool.and_self, Bool.false_eq_true, reduceCtorEq, wrap64, aixS_encV, aixS_encVV, alenS_encV, alenS_encVV, Int.toNat_natCast, List.length_map, aixS_msl, getElem?_map_lt, Nat.mul_one, e2, e3]); first | with_reducible rfl | (apply s_ite; (focus omega); with_reducible rfl)))) | (apply w_cond; (focus ((try simp only [simB0, simB1, SA, SV, SN, SR, SL, pick_bool, Nat.reduceEqDiff, ↓reduceIte, Nat.reduceAdd, Nat.reduceLeDiff, e2, e3]); (try with_reducible rfl); done)); all_goals (intro _hg; (try simp only [Bool.not_eq_true', Bool.not_eq_false', Bool.not_not, decide_eq_true_eq, decide_eq_false_iff_not] at _hg); try (exfalso; omega))))
      · rw [hgj (by omega)]
        refine o_callP (by ((try simp only [simB0, simB1, SA, SV, SN, SR, SL, pick_bool, Nat.reduceEqDiff, ↓reduceIte, Nat.reduceAdd, Nat.reduceLeDiff]); (try with_reducible rfl))) (by ((try simp only [simB0, simB1, SA, SV, SN, SR, SL, pick_bool, Nat.reduceEqDiff, ↓reduceIte, Nat.reduceAdd, Nat.reduceLeDiff]); (try with_reducible rfl))) (hg _ (mem_getD (by omega))) (snap_plain (snapL_cons (.int _ _) (snapL_datL hd)) rfl) ?_
        repeat' (first | refine w_seq ?_ | refine w_ops0 ?_ | refine w_skip ?_ | refine a_n ?_ | refine o_nil ?_ | (apply o_val rfl rfl; (focus ((try simp (disch := omega) only [simB0, simB1, SA, SV, SN, SR, SL, pick_bool, Nat.reduceEqDiff, ↓reduceIte, Nat.reduceAdd, Nat.reduceLeDiff, SO, one_encV, one_encVV, Bool.and_self, Bool.false_eq_true, reduceCtorEq, wrap64, aixS_encV, aixS_encVV, alenS_encV, alenS_encVV, Int.toNat_natCast, List.length_map, aixS_msl, getElem?_map_lt, Nat.mul_one, e2, e3]); first | with_reducible rfl | (apply s_ite; (focus omega); with_reducible rfl)))) | (apply e_st rfl; (focus ((try simp only [simB0, simB1, SA, SV, SN, SR, SL, pick_bool, Nat.reduceEqDiff, ↓reduceIte, Nat.reduceAdd, Nat.reduceLeDiff, e2, e3]); (try with_reducible rfl); done)); (focus ((try simp only [simB0, simB1, SA, SV, SN, SR, SL, pick_bool, Nat.reduceEqDiff, ↓reduceIte, Nat.reduceAdd, Nat.reduceLeDiff, e2, e3]); (try with_reducible rfl); done)); (focus ((try simp only [simB0, simB1, SA, SV, SN, SR, SL, pick_bool, Nat.reduceEqDiff, ↓reduceIte, Nat.reduceAdd, Nat.reduceLeDiff, e2, e3]); (try with_reducible rfl); done)); (focus ((try simp only [simB0, simB1, SA, SV, SN, SR, SL, pick_bool, Nat.reduceEqDiff, ↓reduceIte, Nat.reduceAdd, Nat.reduceLeDiff, e2, e3]); (try with_reducible rfl); done)); (focus (simp only [SO, Bool.and_self, one_encV, one_encVV, e2, e3])); (focus ((try simp only [SL, Nat.reduceAdd, Nat.reduceMul, List.length_map]); first | done | omega)); (focus ((try simp only [SL, Nat.reduceAdd, Nat.reduceMul, List.length_map]); first | done | omega)); (focus ((try simp only [SL, Nat.reduceAdd, Nat.reduceMul, List.length_map]); first | done | omega))) | (apply w_cond; (focus ((try simp only [simB0, simB1, SA, SV, SN, SR, SL, pick_bool, Nat.reduceEqDiff, ↓reduceIte, Nat.reduceAdd, Nat.reduceLeDiff, e2, e3]); (try with_reducible rfl); done)); all_goals (intro _hg; (try simp only [Bool.not_eq_true', Bool.not_eq_false', Bool.not_not, decide_eq_true_eq, decide_eq_false_iff_not] at _hg); try (exfalso; omega))))
        · refine ⟨(c.set i (l.getD j default), i + 1, j + 1), by dsimp only; omega, ⟨rfl, fun y hy => by rw [hupd_ne hy, e1 y hy], ?_, by simpa using e3, by dsimp only; omega, by dsimp only; omega, ?_, ?_⟩, by simp (disch := omega) only [agr, SA, Nat.reduceEqDiff, ↓reduceIte, wrap64, Int.natCast_add, Int.natCast_one, Int.natCast_zero, and_true, and_self]⟩
          · rw [hupd_self', lput_map (by omega)]
          · dsimp only
            rw [take_succ' (l := l) (by omega), List.filter_append, ← e6, List.filter_cons, List.filter_nil, _hg, if_pos (by rfl), take_succ' (by simp; omega)]
            rw [List.take_set_of_le (Nat.le_refl _), List.getD_eq_getElem?_getD, List.getElem?_set_self (by omega)]; rfl
          · dsimp only
            rw [List.drop_set_of_lt (by omega)]
            have : (c.drop j).drop 1 = (l.drop j).drop 1 := by rw [e7]
            simpa using this
        · refine ⟨(c, i, j + 1), by dsimp only; omega, ⟨rfl, e1, e2, e3, by dsimp only; omega, by dsimp only; omega, ?_, ?_⟩, by simp (disch := omega) only [agr, SA, Nat.reduceEqDiff, ↓reduceIte, wrap64, Int.natCast_add, Int.natCast_one, Int.natCast_zero, and_true, and_self]⟩
          · dsimp only
            rw [take_succ' (l := l) (by omega), List.filter_append, ← e6, List.filter_cons, List.filter_nil, _hg]
            simp
          · dsimp only
            have : (c.drop j).drop 1 = (l.drop j).drop 1 := by rw [e7]
            simpa using this
      · repeat' (first | (apply o_val rfl rfl; (focus ((try simp (disch := omega) only [simB0, simB1, SA, SV, SN, SR, SL, pick_bool, Nat.reduceEqDiff, ↓reduceIte, Nat.reduceAdd, Nat.reduceLeDiff, SO, one_encV, one_encVV, Bool.and_self, Bool.false_eq_true, reduceCtorEq, wrap64, aixS_encV, aixS_encVV, alenS_encV, alenS_encVV, Int.toNat_natCast, List.length_map, aixS_msl, getElem?_map_lt, Nat.mul_one, e2, e3, asls_lo, asls_hi]); first | with_reducible rfl | (apply s_ite; (focus omega); with_reducible rfl)))))
        refine o_clr (by ((try simp only [simB0, simB1, SA, SV, SN, SR, SL, pick_bool, Nat.reduceEqDiff, ↓reduceIte, Nat.reduceAdd, Nat.reduceLeDiff]); (try with_reducible rfl)); exact aclear_int (by omega) e2 e3) ?_
        repeat' (first | refine w_seq ?_ | refine w_ops0 ?_ | refine w_ret ?_ | refine a_n ?_ | refine o_nil ?_ | (apply o_val rfl rfl; (focus ((try simp (disch := omega) only [simB0, simB1, SA, SV, SN, SR, SL, pick_bool, Nat.reduceEqDiff, ↓reduceIte, Nat.reduceAdd, Nat.reduceLeDiff, SO, one_encV, one_encVV, Bool.and_self, Bool.false_eq_true, reduceCtorEq, wrap64, aixS_encV, aixS_encVV, alenS_encV, alenS_encVV, Int.toNat_natCast, List.length_map, aixS_msl, getElem?_map_lt, Nat.mul_one, e2, e3, asls_lo, asls_hi]); first | with_reducible rfl | (apply s_ite; (focus omega); with_reducible rfl)))) | (refine e_ends rfl ?_) | (apply r_1; (focus (simp only [rv, simB0, simB1, SA, SV, SN, SR, SL, pick_bool, Nat.reduceEqDiff, ↓reduceIte, Nat.reduceAdd, Nat.reduceLeDiff, e2, e3, asls_lo, asls_hi]; with_reducible rfl))))
        refine ⟨rfl, fun x hx => by rw [hupd_ne hx, e1 x hx], _, i, rfl, hupd_self', by simp; omega, by omega, ?_⟩
        rw [List.take_of_length_le (i := j) (by omega)] at e6
        rw [← e6, List.take_append_of_le_length (by simp; omega), List.take_take, Nat.min_self]

/-- what a crusader allows -/
theorem crusader1_c (v : Int) (l m : List Int) (hm : Sh m) (h0 : m ≠ []) : Pure Try.prog 54 [encV l, encV m, .iptr [.int .i64 v] 0] (.bool (decide ((kinds (m.filter fun x => !decide (x = v))).length ≤ 1))) := by
  refine Pure.of_c2 follows is54 (Nat.le_of_ble_eq_true rfl) ?_
  simp only [b54]
  refine w_seq ?_
  repeat' (first | refine w_ops0 ?_ | refine a_n ?_ | refine o_nil ?_ | (apply o_val rfl rfl; (focus ((try simp (disch := omega) only [simB0, simB1, SA, SV, SN, SR, SL, pick_bool, Nat.reduceEqDiff, ↓reduceIte, Nat.reduceAdd, Nat.reduceLeDiff, SO, one_encV, one_encVV, Bool.and_self, Bool.false_eq_true, reduceCtorEq, wrap64, aixS_encV, aixS_encVV, alenS_encV, alenS_encVV, Int.toNat_natCast, List.length_map, aixS_msl, getElem?_map_lt, Nat.mul_one]); first | with_reducible rfl | (apply s_ite; (focus omega); with_reducible rfl)))))
  refine w_seq ?_
  repeat' (first | refine w_ops0 ?_ | (apply o_val rfl rfl; (focus ((try simp (disch := omega) only [simB0, simB1, SA, SV, SN, SR, SL, pick_bool, Nat.reduceEqDiff, ↓reduceIte, Nat.reduceAdd, Nat.reduceLeDiff, SO, one_encV, one_encVV, Bool.and_self, Bool.false_eq_true, reduceCtorEq, wrap64, aixS_encV, aixS_encVV, alenS_encV, alenS_encVV, Int.toNat_natCast, List.length_map, aixS_msl, getElem?_map_lt, Nat.mul_one]); first | with_reducible rfl | (apply s_ite; (focus omega); with_reducible rfl)))))
  refine o_call (by ((try simp only [simB0, simB1, SA, SV, SN, SR, SL, pick_bool, Nat.reduceEqDiff, ↓reduceIte, Nat.reduceAdd, Nat.reduceLeDiff]); (try with_reducible rfl))) (Abs.Fn.mono (by ((try simp only [simB0, simB1, SA, SV, SN, SR, SL, pick_bool, Nat.reduceEqDiff, ↓reduceIte, Nat.reduceAdd, Nat.reduceLeDiff]); (try with_reducible rfl)); exact cloneM_c m hm h0 _ _) ?_)
  rintro _ _ _ ⟨rfl, rfl, rfl⟩
  repeat' (first | (apply o_val rfl rfl; (focus ((try simp (disch := omega) only [simB0, simB1, SA, SV, SN, SR, SL, pick_bool, Nat.reduceEqDiff, ↓reduceIte, Nat.reduceAdd, Nat.reduceLeDiff, SO, one_encV, one_encVV, Bool.and_self, Bool.false_eq_true, reduceCtorEq, wrap64, aixS_encV, aixS_encVV, alenS_encV, alenS_encVV, Int.toNat_natCast, List.length_map, aixS_msl, getElem?_map_lt, Nat.mul_one]); first | with_reducible rfl | (apply s_ite; (focus omega); with_reducible rfl)))))
  refine o_call (by ((try simp only [simB0, simB1, SA, SV, SN, SR, SL, pick_bool, Nat.reduceEqDiff, ↓reduceIte, Nat.reduceAdd, Nat.reduceLeDiff]); (try with_reducible rfl))) (Abs.Fn.mono (by ((try simp only [simB0, simB1, SA, SV, SN, SR, SL, pick_bool, Nat.reduceEqDiff, ↓reduceIte, Nat.reduceAdd, Nat.reduceLeDiff]); (try with_reducible rfl)); exact delete_c m (fun x => decide (x = v)) 56 _ (DatL.cons (Dat.iptr (DatL.cons .int DatL.nil)) DatL.nil) (fun x _ => crusader11_c x v) hm 0 m.length rfl _ _ hupd_self') ?_)
  rintro _ H nx ⟨rfl, h1, c, k, rfl, h2, h3, h4, h5⟩
  repeat' (first | refine a_n ?_ | refine o_nil ?_ | (apply o_val rfl rfl; (focus ((try simp (disch := omega) only [simB0, simB1, SA, SV, SN, SR, SL, pick_bool, Nat.reduceEqDiff, ↓reduceIte, Nat.reduceAdd, Nat.reduceLeDiff, SO, one_encV, one_encVV, Bool.and_self, Bool.false_eq_true, reduceCtorEq, wrap64, aixS_encV, aixS_encVV, alenS_encV, alenS_encVV, Int.toNat_natCast, List.length_map, aixS_msl, getElem?_map_lt, Nat.mul_one]); first | with_reducible rfl | (apply s_ite; (focus omega); with_reducible rfl)))))
  refine w_seq ?_
  repeat' (first | refine w_ops0 ?_ | (apply o_val rfl rfl; (focus ((try simp (disch := omega) only [simB0, simB1, SA, SV, SN, SR, SL, pick_bool, Nat.reduceEqDiff, ↓reduceIte, Nat.reduceAdd, Nat.reduceLeDiff, SO, one_encV, one_encVV, Bool.and_self, Bool.false_eq_true, reduceCtorEq, wrap64, aixS_encV, aixS_encVV, alenS_encV, alenS_encVV, Int.toNat_natCast, List.length_map, aixS_msl, getElem?_map_lt, Nat.mul_one]); first | with_reducible rfl | (apply s_ite; (focus omega); with_reducible rfl)))))
  have hs : Sh (m.filter fun x => !decide (x = v)) := Nat.le_trans (List.length_filter_le _ _) hm
  refine o_callP (by ((try simp only [simB0, simB1, SA, SV, SN, SR, SL, pick_bool, Nat.reduceEqDiff, ↓reduceIte, Nat.reduceAdd, Nat.reduceLeDiff]); (try with_reducible rfl))) (by ((try simp only [simB0, simB1, SA, SV, SN, SR, SL, pick_bool, Nat.reduceEqDiff, ↓reduceIte, Nat.reduceAdd, Nat.reduceLeDiff]); (try with_reducible rfl))) (different_c _ hs) (snap_plain (snapL_cons (snap_pre h2 (by omega) h4 h5) snapL_nil) rfl) ?_
  repeat' (first | refine w_ret ?_ | refine a_n ?_ | refine o_nil ?_ | (apply o_val rfl rfl; (focus ((try simp (disch := omega) only [simB0, simB1, SA, SV, SN, SR, SL, pick_bool, Nat.reduceEqDiff, ↓reduceIte, Nat.reduceAdd, Nat.reduceLeDiff, SO, one_encV, one_encVV, Bool.and_self, Bool.false_eq_true, reduceCtorEq, wrap64, aixS_encV, aixS_encVV, alenS_encV, alenS_encVV, Int.toNat_natCast, List.length_map, aixS_msl, getElem?_map_lt, Nat.mul_one]); first | with_reducible rfl | (apply s_ite; (focus omega); with_reducible rfl)))) | (refine e_ends rfl ?_) | (apply r_1; (focus (simp only [rv, simB0, simB1, SA, SV, SN, SR, SL, pick_bool, Nat.reduceEqDiff, ↓reduceIte, Nat.reduceAdd, Nat.reduceLeDiff]; with_reducible rfl))))
  refine snap_bool ?_
  simp only [Int.ofNat_le, show (1 : Int) = ((1 : Nat) : Int) from rfl]

/-! ### the other tasks -/
def kCrus (n v : Int) : KindV := ⟨n.toNat, v.toNat, (moreI v).toNat, false, fun _ => true, fun _ m => decide ((kinds (m.filter fun x => !decide (x = v))).length ≤ 1), fun l m => eqv m (l.getD 0 default)⟩
def crusT (n v : Int) : TaskV × Int := taskI n v (moreI v) (-1) (kCrus n v)
theorem made_crus (n v : Int) : Pure Try.prog 45 [.agg [.int .i64 n, .int .i64 v, .int .i64 (moreI v), .int .i64 (-1), .nilf, .func 54 [.iptr [.int .i64 v] 0], .func 57 []]] (.tup [encT (crusT n v).1, .int .i64 (crusT n v).2]) := by
  refine made_all n v (moreI v) (-1) (kCrus n v) _ _ _ DatF.nil (DatF.fun1 .int) DatF.fun0 (fun h => ?_)
  unfold inR at h
  have h5 : (kCrus n v).n ≤ 5 := by show n.toNat ≤ 5; omega
  have h1 : (kCrus n v).n ≠ 0 := by show n.toNat ≠ 0; omega
  refine ⟨by show (n.toNat : Int) = n; omega, by show (v.toNat : Int) = v; omega, by show ((moreI v).toNat : Int) = moreI v; omega, ⟨.inl ⟨rfl, fun _ => rfl⟩⟩, by simp [kCrus], Cond2.fun1 .int (fun x hx y hy => ?_), .inr (Cond2.fun0 fun x hx y hy => ?_)⟩
  · exact crusader1_c v x y (every_sh h5 hy) (every_ne h1 hy)
  · exact crusader2_c x y (every_ne h1 hx) (every_sh h5 hx) (every_sh h5 hy)

theorem crus_c (n v : Int) : Pure Try.prog 13 [.int .i64 n, .int .i64 v] (.tup [encT (crusT n v).1, .int .i64 (crusT n v).2]) := by
  refine Pure.of_c2 follows is13 (Nat.le_of_ble_eq_true rfl) ?_
  simp only [b13]
  have hm := made_crus n v
  unfold moreI at hm
  refine w_seq ?_
  repeat' (first | refine w_ops0 ?_ | refine a_n ?_ | refine o_nil ?_ | (apply o_val rfl rfl; (focus ((try simp (disch := omega) only [simB0, simB1, SA, SV, SN, SR, SL, pick_bool, Nat.reduceEqDiff, ↓reduceIte, Nat.reduceAdd, Nat.reduceLeDiff, SO, one_encV, one_encVV, Bool.and_self, Bool.false_eq_true, reduceCtorEq, wrap64, aixS_encV, aixS_encVV, alenS_encV, alenS_encVV, Int.toNat_natCast, List.length_map, aixS_msl, getElem?_map_lt, Nat.mul_one]); first | with_reducible rfl | (apply s_ite; (focus omega); with_reducible rfl)))) | (apply e_alloc rfl; (focus ((try simp only [simB0, simB1, SA, SV, SN, SR, SL, pick_bool, Nat.reduceEqDiff, ↓reduceIte, Nat.reduceAdd, Nat.reduceLeDiff]); (try with_reducible rfl); done)); (focus (simp only [SO, Bool.and_self, one_encV, one_encVV]))) | (apply e_box rfl; (focus ((try simp only [simB0, simB1, SA, SV, SN, SR, SL, pick_bool, Nat.reduceEqDiff, ↓reduceIte, Nat.reduceAdd, Nat.reduceLeDiff]); (try with_reducible rfl); done)); (focus ((try simp only [simB0, simB1, SA, SV, SN, SR, SL, pick_bool, Nat.reduceEqDiff, ↓reduceIte, Nat.reduceAdd, Nat.reduceLeDiff]); (try with_reducible rfl); done)); (focus (simp only [SO, Bool.and_self, one_encV, one_encVV]))))
  refine w_seq ?_
  refine w_ops1F (only 0 [.int .i64 v]) _ [(0, .int .i64 n), (3, .iptr [.int .i64 v] 0), (4, .ptr 1 4 0)] (Fz.one (by ((try simp only [simB0, simB1, SA, SV, SN, SR, SL, pick_bool, Nat.reduceEqDiff, ↓reduceIte, Nat.reduceAdd, Nat.reduceLeDiff]); (try with_reducible rfl)))) ⟨.inl (by ((try simp only [simB0, simB1, SA, SV, SN, SR, SL, pick_bool, Nat.reduceEqDiff, ↓reduceIte, Nat.reduceAdd, Nat.reduceLeDiff]); (try with_reducible rfl))), .inr ?_, .inl (by ((try simp only [simB0, simB1, SA, SV, SN, SR, SL, pick_bool, Nat.reduceEqDiff, ↓reduceIte, Nat.reduceAdd, Nat.reduceLeDiff]); (try with_reducible rfl))), trivial⟩ ?_
  · ((try simp only [simB0, simB1, SA, SV, SN, SR, SL, pick_bool, Nat.reduceEqDiff, ↓reduceIte, Nat.reduceAdd, Nat.reduceLeDiff]); (try with_reducible rfl))
    exact snap_ptr only_at rfl (snapL_cons (.int _ _) snapL_nil)
  repeat' (first | refine w_ret ?_ | refine a_n ?_ | refine o_nil ?_ | (apply o_val rfl rfl; (focus ((try simp (disch := omega) only [simB0, simB1, SA, SV, SN, SR, SL, pick_bool, Nat.reduceEqDiff, ↓reduceIte, Nat.reduceAdd, Nat.reduceLeDiff, SO, one_encV, one_encVV, Bool.and_self, Bool.false_eq_true, reduceCtorEq, wrap64, aixS_encV, aixS_encVV, alenS_encV, alenS_encVV, Int.toNat_natCast, List.length_map, aixS_msl, getElem?_map_lt, Nat.mul_one, encT_cells, encCs_one, encCs_cells]); first | with_reducible rfl | (apply s_ite; (focus omega); with_reducible rfl)))) | (apply o_callD; (focus ((try simp only [simB0, simB1, SA, SV, SN, SR, SL, pick_bool, Nat.reduceEqDiff, ↓reduceIte, Nat.reduceAdd, Nat.reduceLeDiff, encT_cells, encCs_one, encCs_cells]); (try with_reducible rfl); done)); (focus ((try simp only [simB0, simB1, SA, SV, SN, SR, SL, pick_bool, Nat.reduceEqDiff, ↓reduceIte, Nat.reduceAdd, Nat.reduceLeDiff, encT_cells, encCs_one, encCs_cells]); (try with_reducible rfl); done)); (focus (first | (exact more_c _) | (exact hm))); (focus (first | (apply snap_data; repeat' (first | exact snapL_nil | apply snapL_dat | exact Dat.int | exact Dat.bool | exact Dat.str | exact Dat.esl | exact Dat.nilf | exact encV_dat _ | exact encVV_dat _ | exact kind_dat DatF.nil (DatF.fun1 .int) DatF.fun0)) | (apply snap_plain; (focus (repeat' (first | exact snapL_nil | apply snapL_dat | exact Dat.int | exact Dat.bool | exact Dat.str | exact encV_dat _ | exact encVV_dat _ | exact kind_dat DatF.nil (DatF.fun1 .int) DatF.fun0))); rfl)))) | (apply e_st rfl; (focus ((try simp only [simB0, simB1, SA, SV, SN, SR, SL, pick_bool, Nat.reduceEqDiff, ↓reduceIte, Nat.reduceAdd, Nat.reduceLeDiff, encT_cells, encCs_one, encCs_cells]); (try with_reducible rfl); done)); (focus ((try simp only [simB0, simB1, SA, SV, SN, SR, SL, pick_bool, Nat.reduceEqDiff, ↓reduceIte, Nat.reduceAdd, Nat.reduceLeDiff, encT_cells, encCs_one, encCs_cells]); (try with_reducible rfl); done)); (focus ((try simp only [simB0, simB1, SA, SV, SN, SR, SL, pick_bool, Nat.reduceEqDiff, ↓reduceIte, Nat.reduceAdd, Nat.reduceLeDiff, encT_cells, encCs_one, encCs_cells]); (try with_reducible rfl); done)); (focus ((try simp only [simB0, simB1, SA, SV, SN, SR, SL, pick_bool, Nat.reduceEqDiff, ↓reduceIte, Nat.reduceAdd, Nat.reduceLeDiff, encT_cells, encCs_one, encCs_cells]); (try with_reducible rfl); done)); (focus (simp only [SO, Bool.and_self, one_encV, one_encVV, encT_cells, encCs_one, encCs_cells])); (focus ((try simp only [SL, Nat.reduceAdd, Nat.reduceMul, List.length_map]); first | done | omega)); (focus ((try simp only [SL, Nat.reduceAdd, Nat.reduceMul, List.length_map]); first | done | omega)); (focus ((try simp only [SL, Nat.reduceAdd, Nat.reduceMul, List.length_map]); first | done | omega))) | (refine e_ends rfl ?_) | (apply r_2; (focus (simp only [rv, simB0, simB1, SA, SV, SN, SR, SL, pick_bool, Nat.reduceEqDiff, ↓reduceIte, Nat.reduceAdd, Nat.reduceLeDiff, encT_cells, encCs_one, encCs_cells]; with_reducible rfl)); (focus (simp only [rv, simB0, simB1, SA, SV, SN, SR, SL, pick_bool, Nat.reduceEqDiff, ↓reduceIte, Nat.reduceAdd, Nat.reduceLeDiff, encT_cells, encCs_one, encCs_cells]; with_reducible rfl))))
  exact encTE_dat _ _ _

def kRen (n i o : Int) : KindV := ⟨n.toNat, i.toNat, o.toNat, true, fun l => decide ((kinds l).length = l.length), fun _ m => decide ((kinds m).length = m.length), fun _ _ => false⟩
def renT (n i o : Int) : TaskV × Int := taskI n i o (-1) (kRen n i o)
theorem made_ren (n i o : Int) : Pure Try.prog 45 [.agg [.int .i64 n, .int .i64 i, .int .i64 o, .int .i64 (-1), .func 76 [], .func 77 [], .nilf]] (.tup [encT (renT n i o).1, .int .i64 (renT n i o).2]) := by
  refine made_all n i o (-1) (kRen n i o) _ _ _ DatF.fun0 DatF.fun0 DatF.nil (fun h => ?_)
  unfold inR at h
  have h5 : (kRen n i o).n ≤ 5 := by show n.toNat ≤ 5; omega
  refine ⟨by show (n.toNat : Int) = n; omega, by show (i.toNat : Int) = i; omega, by show (o.toNat : Int) = o; omega, ⟨.inr ⟨76, [], rfl, DatL.nil, fun x hx => ?_⟩⟩, by simp [kRen], Cond2.fun0 (fun x hx y hy => ?_), .inl ⟨rfl, fun _ _ => rfl⟩⟩
  · exact renaming1_c x (every_sh h5 hx)
  · exact renaming2_c x y (every_sh h5 hy)
theorem ren_c (n i o : Int) : Pure Try.prog 35 [.int .i64 n, .int .i64 i, .int .i64 o] (.tup [encT (renT n i o).1, .int .i64 (renT n i o).2]) := by
  refine Pure.of_c2 follows is35 (Nat.le_of_ble_eq_true rfl) ?_
  simp only [b35]
  have hm := made_ren n i o
  repeat' (first | refine w_seq ?_ | refine w_ops0 ?_ | refine w_ret ?_ | refine a_n ?_ | refine o_nil ?_ | (apply o_val rfl rfl; (focus ((try simp (disch := omega) only [simB0, simB1, SA, SV, SN, SR, SL, pick_bool, Nat.reduceEqDiff, ↓reduceIte, Nat.reduceAdd, Nat.reduceLeDiff, SO, one_encV, one_encVV, Bool.and_self, Bool.false_eq_true, reduceCtorEq, wrap64, aixS_encV, aixS_encVV, alenS_encV, alenS_encVV, Int.toNat_natCast, List.length_map, aixS_msl, getElem?_map_lt, Nat.mul_one, encT_cells, encCs_one, encCs_cells]); first | with_reducible rfl | (apply s_ite; (focus omega); with_reducible rfl)))) | (apply o_callD; (focus ((try simp only [simB0, simB1, SA, SV, SN, SR, SL, pick_bool, Nat.reduceEqDiff, ↓reduceIte, Nat.reduceAdd, Nat.reduceLeDiff, encT_cells, encCs_one, encCs_cells]); (try with_reducible rfl); done)); (focus ((try simp only [simB0, simB1, SA, SV, SN, SR, SL, pick_bool, Nat.reduceEqDiff, ↓reduceIte, Nat.reduceAdd, Nat.reduceLeDiff, encT_cells, encCs_one, encCs_cells]); (try with_reducible rfl); done)); (focus (first | (exact hm))); (focus (first | (apply snap_data; repeat' (first | exact snapL_nil | apply snapL_dat | exact Dat.int | exact Dat.bool | exact Dat.str | exact Dat.esl | exact Dat.nilf | exact encV_dat _ | exact encVV_dat _ | exact kind_dat DatF.fun0 DatF.fun0 DatF.nil)) | (apply snap_plain; (focus (repeat' (first | exact snapL_nil | apply snapL_dat | exact Dat.int | exact Dat.bool | exact Dat.str | exact encV_dat _ | exact encVV_dat _ | exact kind_dat DatF.fun0 DatF.fun0 DatF.nil))); rfl)))) | (apply e_alloc rfl; (focus ((try simp only [simB0, simB1, SA, SV, SN, SR, SL, pick_bool, Nat.reduceEqDiff, ↓reduceIte, Nat.reduceAdd, Nat.reduceLeDiff, encT_cells, encCs_one, encCs_cells]); (try with_reducible rfl); done)); (focus (simp only [SO, Bool.and_self, one_encV, one_encVV, encT_cells, encCs_one, encCs_cells]))) | (apply e_st rfl; (focus ((try simp only [simB0, simB1, SA, SV, SN, SR, SL, pick_bool, Nat.reduceEqDiff, ↓reduceIte, Nat.reduceAdd, Nat.reduceLeDiff, encT_cells, encCs_one, encCs_cells]); (try with_reducible rfl); done)); (focus ((try simp only [simB0, simB1, SA, SV, SN, SR, SL, pick_bool, Nat.reduceEqDiff, ↓reduceIte, Nat.reduceAdd, Nat.reduceLeDiff, encT_cells, encCs_one, encCs_cells]); (try with_reducible rfl); done)); (focus ((try simp only [simB0, simB1, SA, SV, SN, SR, SL, pick_bool, Nat.reduceEqDiff, ↓reduceIte, Nat.reduceAdd, Nat.reduceLeDiff, encT_cells, encCs_one, encCs_cells]); (try with_reducible rfl); done)); (focus ((try simp only [simB0, simB1, SA, SV, SN, SR, SL, pick_bool, Nat.reduceEqDiff, ↓reduceIte, Nat.reduceAdd, Nat.reduceLeDiff, encT_cells, encCs_one, encCs_cells]); (try with_reducible rfl); done)); (focus (simp only [SO, Bool.and_self, one_encV, one_encVV, encT_cells, encCs_one, encCs_cells])); (focus ((try simp only [SL, Nat.reduceAdd, Nat.reduceMul, List.length_map]); first | done | omega)); (focus ((try simp only [SL, Nat.reduceAdd, Nat.reduceMul, List.length_map]); first | done | omega)); (focus ((try simp only [SL, Nat.reduceAdd, Nat.reduceMul, List.length_map]); first | done | omega))) | (refine e_ends rfl ?_) | (apply r_2; (focus (simp only [rv, simB0, simB1, SA, SV, SN, SR, SL, pick_bool, Nat.reduceEqDiff, ↓reduceIte, Nat.reduceAdd, Nat.reduceLeDiff, encT_cells, encCs_one, encCs_cells]; with_reducible rfl)); (focus (simp only [rv, simB0, simB1, SA, SV, SN, SR, SL, pick_bool, Nat.reduceEqDiff, ↓reduceIte, Nat.reduceAdd, Nat.reduceLeDiff, encT_cells, encCs_one, encCs_cells]; with_reducible rfl))))
  exact encTE_dat _ _ _

def kLead (n : Int) : KindV := ⟨n.toNat, 1, 2, false, fun _ => true, fun _ m => decide (m.sum = 1), fun _ _ => false⟩
def leadT (n : Int) : TaskV × Int := taskI n 1 2 (-1) (kLead n)
theorem made_lead (n : Int) : Pure Try.prog 45 [.agg [.int .i64 n, .int .i64 1, .int .i64 2, .int .i64 (-1), .nilf, .func 78 [], .nilf]] (.tup [encT (leadT n).1, .int .i64 (leadT n).2]) := by
  refine made_all n 1 2 (-1) (kLead n) _ _ _ DatF.nil DatF.fun0 DatF.nil (fun h => ?_)
  unfold inR at h
  have h5 : (kLead n).n ≤ 5 := by show n.toNat ≤ 5; omega
  refine ⟨by show (n.toNat : Int) = n; omega, rfl, rfl, ⟨.inl ⟨rfl, fun _ => rfl⟩⟩, by simp [kLead], Cond2.fun0 (fun x hx y hy => ?_), .inl ⟨rfl, fun _ _ => rfl⟩⟩
  exact leader1_c x y (every_sh h5 hy) (fun a ha => by have := every_mem _ _ y hy a ha; have : (kLead n).outs = 2 := rfl; omega)
theorem lead_c (n : Int) : Pure Try.prog 38 [.int .i64 n] (.tup [encT (leadT n).1, .int .i64 (leadT n).2]) := by
  refine Pure.of_c2 follows is38 (Nat.le_of_ble_eq_true rfl) ?_
  simp only [b38]
  have hm := made_lead n
  repeat' (first | refine w_seq ?_ | refine w_ops0 ?_ | refine w_ret ?_ | refine a_n ?_ | refine o_nil ?_ | (apply o_val rfl rfl; (focus ((try simp (disch := omega) only [simB0, simB1, SA, SV, SN, SR, SL, pick_bool, Nat.reduceEqDiff, ↓reduceIte, Nat.reduceAdd, Nat.reduceLeDiff, SO, one_encV, one_encVV, Bool.and_self, Bool.false_eq_true, reduceCtorEq, wrap64, aixS_encV, aixS_encVV, alenS_encV, alenS_encVV, Int.toNat_natCast, List.length_map, aixS_msl, getElem?_map_lt, Nat.mul_one, encT_cells, encCs_one, encCs_cells]); first | with_reducible rfl | (apply s_ite; (focus omega); with_reducible rfl)))) | (apply o_callD; (focus ((try simp only [simB0, simB1, SA, SV, SN, SR, SL, pick_bool, Nat.reduceEqDiff, ↓reduceIte, Nat.reduceAdd, Nat.reduceLeDiff, encT_cells, encCs_one, encCs_cells]); (try with_reducible rfl); done)); (focus ((try simp only [simB0, simB1, SA, SV, SN, SR, SL, pick_bool, Nat.reduceEqDiff, ↓reduceIte, Nat.reduceAdd, Nat.reduceLeDiff, encT_cells, encCs_one, encCs_cells]); (try with_reducible rfl); done)); (focus (first | (exact hm))); (focus (first | (apply snap_data; repeat' (first | exact snapL_nil | apply snapL_dat | exact Dat.int | exact Dat.bool | exact Dat.str | exact Dat.esl | exact Dat.nilf | exact encV_dat _ | exact encVV_dat _ | exact kind_dat DatF.nil DatF.fun0 DatF.nil)) | (apply snap_plain; (focus (repeat' (first | exact snapL_nil | apply snapL_dat | exact Dat.int | exact Dat.bool | exact Dat.str | exact encV_dat _ | exact encVV_dat _ | exact kind_dat DatF.nil DatF.fun0 DatF.nil))); rfl)))) | (apply e_alloc rfl; (focus ((try simp only [simB0, simB1, SA, SV, SN, SR, SL, pick_bool, Nat.reduceEqDiff, ↓reduceIte, Nat.reduceAdd, Nat.reduceLeDiff, encT_cells, encCs_one, encCs_cells]); (try with_reducible rfl); done)); (focus (simp only [SO, Bool.and_self, one_encV, one_encVV, encT_cells, encCs_one, encCs_cells]))) | (apply e_st rfl; (focus ((try simp only [simB0, simB1, SA, SV, SN, SR, SL, pick_bool, Nat.reduceEqDiff, ↓reduceIte, Nat.reduceAdd, Nat.reduceLeDiff, encT_cells, encCs_one, encCs_cells]); (try with_reducible rfl); done)); (focus ((try simp only [simB0, simB1, SA, SV, SN, SR, SL, pick_bool, Nat.reduceEqDiff, ↓reduceIte, Nat.reduceAdd, Nat.reduceLeDiff, encT_cells, encCs_one, encCs_cells]); (try with_reducible rfl); done)); (focus ((try simp only [simB0, simB1, SA, SV, SN, SR, SL, pick_bool, Nat.reduceEqDiff, ↓reduceIte, Nat.reduceAdd, Nat.reduceLeDiff, encT_cells, encCs_one, encCs_cells]); (try with_reducible rfl); done)); (focus ((try simp only [simB0, simB1, SA, SV, SN, SR, SL, pick_bool, Nat.reduceEqDiff, ↓reduceIte, Nat.reduceAdd, Nat.reduceLeDiff, encT_cells, encCs_one, encCs_cells]); (try with_reducible rfl); done)); (focus (simp only [SO, Bool.and_self, one_encV, one_encVV, encT_cells, encCs_one, encCs_cells])); (focus ((try simp only [SL, Nat.reduceAdd, Nat.reduceMul, List.length_map]); first | done | omega)); (focus ((try simp only [SL, Nat.reduceAdd, Nat.reduceMul, List.length_map]); first | done | omega)); (focus ((try simp only [SL, Nat.reduceAdd, Nat.reduceMul, List.length_map]); first | done | omega))) | (refine e_ends rfl ?_) | (apply r_2; (focus (simp only [rv, simB0, simB1, SA, SV, SN, SR, SL, pick_bool, Nat.reduceEqDiff, ↓reduceIte, Nat.reduceAdd, Nat.reduceLeDiff, encT_cells, encCs_one, encCs_cells]; with_reducible rfl)); (focus (simp only [rv, simB0, simB1, SA, SV, SN, SR, SL, pick_bool, Nat.reduceEqDiff, ↓reduceIte, Nat.reduceAdd, Nat.reduceLeDiff, encT_cells, encCs_one, encCs_cells]; with_reducible rfl))))
  exact encTE_dat _ _ _

def kCom (n : Int) : KindV := ⟨n.toNat, 2, 2, false, fun _ => true, fun l m => eqv m 0 || eqv m 1 && decide (l.foldl min (l.getD 0 default) = 1), fun l m => eqv m (l.foldl min (l.getD 0 default))⟩
def comT (n : Int) : TaskV × Int := taskI n 2 2 (-1) (kCom n)
theorem made_com (n : Int) : Pure Try.prog 45 [.agg [.int .i64 n, .int .i64 2, .int .i64 2, .int .i64 (-1), .nilf, .func 62 [.iptr [.func 61 []] 0], .func 63 [.iptr [.func 61 []] 0]]] (.tup [encT (comT n).1, .int .i64 (comT n).2]) := by
  have hd : Dat (.func 61 []) := Dat.func DatL.nil
  refine made_all n 2 2 (-1) (kCom n) _ _ _ DatF.nil (DatF.fun1 hd) (DatF.fun1 hd) (fun h => ?_)
  unfold inR at h
  have h5 : (kCom n).n ≤ 5 := by show n.toNat ≤ 5; omega
  have h1 : (kCom n).n ≠ 0 := by show n.toNat ≠ 0; omega
  refine ⟨by show (n.toNat : Int) = n; omega, rfl, rfl, ⟨.inl ⟨rfl, fun _ => rfl⟩⟩, by simp [kCom], Cond2.fun1 hd (fun x hx y hy => ?_), .inr (Cond2.fun1 hd fun x hx y hy => ?_)⟩
  · exact commit2_c x y (every_ne h1 hx) (every_sh h5 hx) (every_sh h5 hy)
  · exact commit3_c x y (every_ne h1 hx) (every_sh h5 hx) (every_sh h5 hy)
theorem com_c (n : Int) : Pure Try.prog 23 [.int .i64 n] (.tup [encT (comT n).1, .int .i64 (comT n).2]) := by
  refine Pure.of_c2 follows is23 (Nat.le_of_ble_eq_true rfl) ?_
  simp only [b23]
  have hm := made_com n
  have hd : Dat (.func 61 []) := Dat.func DatL.nil
  refine w_seq ?_
  repeat' (first | refine w_ops0 ?_ | refine a_n ?_ | refine o_nil ?_ | (apply o_val rfl rfl; (focus ((try simp (disch := omega) only [simB0, simB1, SA, SV, SN, SR, SL, pick_bool, Nat.reduceEqDiff, ↓reduceIte, Nat.reduceAdd, Nat.reduceLeDiff, SO, one_encV, one_encVV, Bool.and_self, Bool.false_eq_true, reduceCtorEq, wrap64, aixS_encV, aixS_encVV, alenS_encV, alenS_encVV, Int.toNat_natCast, List.length_map, aixS_msl, getElem?_map_lt, Nat.mul_one]); first | with_reducible rfl | (apply s_ite; (focus omega); with_reducible rfl)))) | (apply e_alloc rfl; (focus ((try simp only [simB0, simB1, SA, SV, SN, SR, SL, pick_bool, Nat.reduceEqDiff, ↓reduceIte, Nat.reduceAdd, Nat.reduceLeDiff]); (try with_reducible rfl); done)); (focus (simp only [SO, Bool.and_self, one_encV, one_encVV]))))
  refine w_seq ?_
  repeat' (first | refine w_ops0 ?_ | refine a_n ?_ | refine o_nil ?_ | (apply e_alloc rfl; (focus ((try simp only [simB0, simB1, SA, SV, SN, SR, SL, pick_bool, Nat.reduceEqDiff, ↓reduceIte, Nat.reduceAdd, Nat.reduceLeDiff]); (try with_reducible rfl); done)); (focus (simp only [SO, Bool.and_self, one_encV, one_encVV]))) | (apply e_st rfl; (focus ((try simp only [simB0, simB1, SA, SV, SN, SR, SL, pick_bool, Nat.reduceEqDiff, ↓reduceIte, Nat.reduceAdd, Nat.reduceLeDiff]); (try with_reducible rfl); done)); (focus ((try simp only [simB0, simB1, SA, SV, SN, SR, SL, pick_bool, Nat.reduceEqDiff, ↓reduceIte, Nat.reduceAdd, Nat.reduceLeDiff]); (try with_reducible rfl); done)); (focus ((try simp only [simB0, simB1, SA, SV, SN, SR, SL, pick_bool, Nat.reduceEqDiff, ↓reduceIte, Nat.reduceAdd, Nat.reduceLeDiff]); (try with_reducible rfl); done)); (focus ((try simp only [simB0, simB1, SA, SV, SN, SR, SL, pick_bool, Nat.reduceEqDiff, ↓reduceIte, Nat.reduceAdd, Nat.reduceLeDiff]); (try with_reducible rfl); done)); (focus (simp only [SO, Bool.and_self, one_encV, one_encVV])); (focus ((try simp only [SL, Nat.reduceAdd, Nat.reduceMul, List.length_map]); first | done | omega)); (focus ((try simp only [SL, Nat.reduceAdd, Nat.reduceMul, List.length_map]); first | done | omega)); (focus ((try simp only [SL, Nat.reduceAdd, Nat.reduceMul, List.length_map]); first | done | omega))))
  refine w_seq ?_
  refine w_ops0F (only 1 [.func 61 []]) _ [(0, .int .i64 n), (4, .iptr [.func 61 []] 0), (2, .ptr 0 4 0)] (Fz.one (by ((try simp only [simB0, simB1, SA, SV, SN, SR, SL, pick_bool, Nat.reduceEqDiff, ↓reduceIte, Nat.reduceAdd, Nat.reduceLeDiff]); (try with_reducible rfl)))) ⟨.inl (by ((try simp only [simB0, simB1, SA, SV, SN, SR, SL, pick_bool, Nat.reduceEqDiff, ↓reduceIte, Nat.reduceAdd, Nat.reduceLeDiff]); (try with_reducible rfl))), .inr ?_, .inl (by ((try simp only [simB0, simB1, SA, SV, SN, SR, SL, pick_bool, Nat.reduceEqDiff, ↓reduceIte, Nat.reduceAdd, Nat.reduceLeDiff]); (try with_reducible rfl))), trivial⟩ ?_
  · ((try simp only [simB0, simB1, SA, SV, SN, SR, SL, pick_bool, Nat.reduceEqDiff, ↓reduceIte, Nat.reduceAdd, Nat.reduceLeDiff]); (try with_reducible rfl))
    exact snap_ptr only_at rfl (snapL_cons (hd _) snapL_nil)
  repeat' (first | refine w_ret ?_ | refine a_n ?_ | refine o_nil ?_ | (apply o_val rfl rfl; (focus ((try simp (disch := omega) only [simB0, simB1, SA, SV, SN, SR, SL, pick_bool, Nat.reduceEqDiff, ↓reduceIte, Nat.reduceAdd, Nat.reduceLeDiff, SO, one_encV, one_encVV, Bool.and_self, Bool.false_eq_true, reduceCtorEq, wrap64, aixS_encV, aixS_encVV, alenS_encV, alenS_encVV, Int.toNat_natCast, List.length_map, aixS_msl, getElem?_map_lt, Nat.mul_one, encT_cells, encCs_one, encCs_cells]); first | with_reducible rfl | (apply s_ite; (focus omega); with_reducible rfl)))) | (apply o_callD; (focus ((try simp only [simB0, simB1, SA, SV, SN, SR, SL, pick_bool, Nat.reduceEqDiff, ↓reduceIte, Nat.reduceAdd, Nat.reduceLeDiff, encT_cells, encCs_one, encCs_cells]); (try with_reducible rfl); done)); (focus ((try simp only [simB0, simB1, SA, SV, SN, SR, SL, pick_bool, Nat.reduceEqDiff, ↓reduceIte, Nat.reduceAdd, Nat.reduceLeDiff, encT_cells, encCs_one, encCs_cells]); (try with_reducible rfl); done)); (focus (first | (exact hm))); (focus (first | (apply snap_data; repeat' (first | exact snapL_nil | apply snapL_dat | exact Dat.int | exact Dat.bool | exact Dat.str | exact Dat.esl | exact Dat.nilf | exact encV_dat _ | exact encVV_dat _ | exact kind_dat DatF.nil (DatF.fun1 hd) (DatF.fun1 hd))) | (apply snap_plain; (focus (repeat' (first | exact snapL_nil | apply snapL_dat | exact Dat.int | exact Dat.bool | exact Dat.str | exact encV_dat _ | exact encVV_dat _ | exact kind_dat DatF.nil (DatF.fun1 hd) (DatF.fun1 hd)))); rfl)))) | (apply e_st rfl; (focus ((try simp only [simB0, simB1, SA, SV, SN, SR, SL, pick_bool, Nat.reduceEqDiff, ↓reduceIte, Nat.reduceAdd, Nat.reduceLeDiff, encT_cells, encCs_one, encCs_cells]); (try with_reducible rfl); done)); (focus ((try simp only [simB0, simB1, SA, SV, SN, SR, SL, pick_bool, Nat.reduceEqDiff, ↓reduceIte, Nat.reduceAdd, Nat.reduceLeDiff, encT_cells, encCs_one, encCs_cells]); (try with_reducible rfl); done)); (focus ((try simp only [simB0, simB1, SA, SV, SN, SR, SL, pick_bool, Nat.reduceEqDiff, ↓reduceIte, Nat.reduceAdd, Nat.reduceLeDiff, encT_cells, encCs_one, encCs_cells]); (try with_reducible rfl); done)); (focus ((try simp only [simB0, simB1, SA, SV, SN, SR, SL, pick_bool, Nat.reduceEqDiff, ↓reduceIte, Nat.reduceAdd, Nat.reduceLeDiff, encT_cells, encCs_one, encCs_cells]); (try with_reducible rfl); done)); (focus (simp only [SO, Bool.and_self, one_encV, one_encVV, encT_cells, encCs_one, encCs_cells])); (focus ((try simp only [SL, Nat.reduceAdd, Nat.reduceMul, List.length_map]); first | done | omega)); (focus ((try simp only [SL, Nat.reduceAdd, Nat.reduceMul, List.length_map]); first | done | omega)); (focus ((try simp only [SL, Nat.reduceAdd, Nat.reduceMul, List.length_map]); first | done | omega))) | (refine e_ends rfl ?_) | (apply r_2; (focus (simp only [rv, simB0, simB1, SA, SV, SN, SR, SL, pick_bool, Nat.reduceEqDiff, ↓reduceIte, Nat.reduceAdd, Nat.reduceLeDiff, encT_cells, encCs_one, encCs_cells]; with_reducible rfl)); (focus (simp only [rv, simB0, simB1, SA, SV, SN, SR, SL, pick_bool, Nat.reduceEqDiff, ↓reduceIte, Nat.reduceAdd, Nat.reduceLeDiff, encT_cells, encCs_one, encCs_cells]; with_reducible rfl))))
  exact encTE_dat _ _ _

end Go.Proofs.Ytcbkggfipdldaaa
