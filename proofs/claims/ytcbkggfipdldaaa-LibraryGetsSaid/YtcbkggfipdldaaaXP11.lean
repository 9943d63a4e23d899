/- P11: contracts of functions and plain laws; for all inputs that the theorems name. -/
import Derived.Test.YtcbkggfipdldaaaXP10
set_option linter.unusedSimpArgs false
set_option linter.unusedVariables false
namespace Go.Proofs.Ytcbkggfipdldaaa
open Go Go.Abs
attribute [local irreducible] awp2 aops2 ains aloop athen bbind obind gbind acond res1 Go.Abs.Fn PCall Go.Abs.Pure SnapArgs SnapL Yl

theorem encK_dat (a b c d e : Int) : Dat (.agg [.int .i64 a, .int .i64 b, .int .i64 c, .int .i64 d, .int .i64 e]) := Dat.agg (DatL.cons .int (DatL.cons .int (DatL.cons .int (DatL.cons .int (DatL.cons .int DatL.nil)))))

def allowB (task ins outs k : Int) (l m : List Int) : Bool :=
  if task = 0 then nearB outs l m else if task = 1 then eqv m 0 || (eqv m 1 && !decide (0 ∈ l)) else if task = 2 then decide ((kinds m).length = 1) && m.all (fun v => decide (v ∈ l)) else if task = 3 then honestB ins m else
  if task = 4 then decide (m.sum = 1) else if task = 5 then decide ((kinds m).length = m.length) else decide (((kinds m).length : Int) ≤ k) && m.all (fun v => decide (v ∈ l))
theorem allowed_r (task n ins outs k : Int) (l m : List Int) (hl : Sh l) (hm : Sh m) (h0 : l ≠ []) (h1 : m ≠ []) (hb : ∀ x ∈ m, 0 ≤ x ∧ x ≤ 1000) :
    Pure Try.prog 115 [encK task n ins outs k, encV l, encV m] (.bool (allowB task ins outs k l m)) := by
  refine Pure.of_c2 follows is115 (Nat.le_of_ble_eq_true rfl) ?_
  simp only [b115]
  have hnear := near_r task n ins outs k l m hl hm h0 h1
  have hhon := honest_r task n ins outs k m hm
  have hlm : m.length ≤ 1000000000 := hm
  unfold encK at *
  refine w_seq ?_
  repeat' (first | refine w_ops0 ?_ | refine a_n ?_ | refine o_nil ?_ | (apply o_val rfl rfl; (focus ((try simp (disch := omega) only [simB0, simB1, SA, SV, SN, SR, SL, pick_bool, Nat.reduceEqDiff, ↓reduceIte, Nat.reduceAdd, Nat.reduceLeDiff, SO, one_encV, one_encVV, Bool.and_self, Bool.false_eq_true, reduceCtorEq, wrap64, aixS_encV, aixS_encVV, alenS_encV, alenS_encVV, Int.toNat_natCast, List.length_map, aixS_msl, getElem?_map_lt, Nat.mul_one]); first | with_reducible rfl | (apply s_ite; (focus omega); with_reducible rfl)))) | (apply e_box rfl; (focus ((try simp only [simB0, simB1, SA, SV, SN, SR, SL, pick_bool, Nat.reduceEqDiff, ↓reduceIte, Nat.reduceAdd, Nat.reduceLeDiff]); (try with_reducible rfl); done)); (focus ((try simp only [simB0, simB1, SA, SV, SN, SR, SL, pick_bool, Nat.reduceEqDiff, ↓reduceIte, Nat.reduceAdd, Nat.reduceLeDiff]); (try with_reducible rfl); done)); (focus (simp only [SO, Bool.and_self, one_encV, one_encVV]))))
  refine w_seqC (fun T H nx => T 1 = encV l ∧ T 2 = encV m ∧ T 3 = .ptr 0 5 0 ∧ H 0 = some [.int .i64 task, .int .i64 n, .int .i64 ins, .int .i64 outs, .int .i64 k] ∧ task ≠ 0 ∧ task ≠ 1 ∧ task ≠ 2 ∧ task ≠ 3 ∧ task ≠ 4 ∧ task ≠ 5) ?_ ?_
  · repeat' (first | refine w_seq ?_ | refine w_ops0 ?_ | refine w_block ?_ | refine w_skip ?_ | refine w_ret ?_ | refine a_n ?_ | refine a_r ?_ | refine o_nil ?_ | (apply o_val rfl rfl; (focus ((try simp (disch := omega) only [simB0, simB1, SA, SV, SN, SR, SL, pick_bool, Nat.reduceEqDiff, ↓reduceIte, Nat.reduceAdd, Nat.reduceLeDiff, SO, one_encV, one_encVV, Bool.and_self, Bool.false_eq_true, reduceCtorEq, wrap64, aixS_encV, aixS_encVV, alenS_encV, alenS_encVV, Int.toNat_natCast, List.length_map, aixS_msl, getElem?_map_lt, Nat.mul_one]); first | with_reducible rfl | (apply s_ite; (focus omega); with_reducible rfl)))) | (apply o_callD; (focus ((try simp only [simB0, simB1, SA, SV, SN, SR, SL, pick_bool, Nat.reduceEqDiff, ↓reduceIte, Nat.reduceAdd, Nat.reduceLeDiff]); (try with_reducible rfl); done)); (focus ((try simp only [simB0, simB1, SA, SV, SN, SR, SL, pick_bool, Nat.reduceEqDiff, ↓reduceIte, Nat.reduceAdd, Nat.reduceLeDiff]); (try with_reducible rfl); done)); (focus (first | (exact different_r _ hm) | (exact all_r _ _ hm) | (exact occurs_c _ _ hl) | (exact chosen_r _ _ hl hm) | (exact hnear) | (exact hhon))); (focus (first | (apply snap_data; repeat' (first | exact snapL_nil | apply snapL_dat | exact Dat.int | exact Dat.bool | exact Dat.str | exact Dat.esl | exact Dat.nilf | exact encV_dat _ | exact encVV_dat _ | exact encK_dat _ _ _ _ _)) | (apply snap_plain; (focus (repeat' (first | exact snapL_nil | apply snapL_dat | exact Dat.int | exact Dat.bool | exact Dat.str | exact encV_dat _ | exact encVV_dat _ | exact encK_dat _ _ _ _ _))); rfl)))) | (apply o_gT; (focus (simp only [simB0, simB1, SA, SV, SN, SR, SL, pick_bool, Nat.reduceEqDiff, ↓reduceIte, Nat.reduceAdd, Nat.reduceLeDiff]; done))) | (apply o_gF; (focus (simp only [simB0, simB1, SA, SV, SN, SR, SL, pick_bool, Nat.reduceEqDiff, ↓reduceIte, Nat.reduceAdd, Nat.reduceLeDiff, or_true, true_or]; done))) | (apply o_gB; (focus ((try simp only [simB0, simB1, SA, SV, SN, SR, SL, pick_bool, Nat.reduceEqDiff, ↓reduceIte, Nat.reduceAdd, Nat.reduceLeDiff]); (try with_reducible rfl); done)); all_goals (intro _hg; (try simp only [Bool.not_true, Bool.not_false, Bool.not_eq_true', Bool.not_eq_false', Bool.not_not, decide_eq_true_eq, decide_eq_false_iff_not] at _hg); try (exfalso; omega))) | (apply w_cond; (focus ((try simp only [simB0, simB1, SA, SV, SN, SR, SL, pick_bool, Nat.reduceEqDiff, ↓reduceIte, Nat.reduceAdd, Nat.reduceLeDiff]); (try with_reducible rfl); done)); all_goals (intro _hg; (try simp only [Bool.not_eq_true', Bool.not_eq_false', Bool.not_not, decide_eq_true_eq, decide_eq_false_iff_not] at _hg); try (exfalso; omega))) | (refine e_ends rfl ?_) | (apply r_1; (focus (simp only [rv, simB0, simB1, SA, SV, SN, SR, SL, pick_bool, Nat.reduceEqDiff, ↓reduceIte, Nat.reduceAdd, Nat.reduceLeDiff]; with_reducible rfl))) | refine w_loop ?_)
    · refine snap_bool ?_; unfold allowB; simp [*]
    · refine snap_bool ?_; unfold allowB; simp [*]
    · refine snap_bool ?_; unfold allowB; simp [*]
    · refine snap_bool ?_; unfold allowB; simp [*]
    · refine snap_bool ?_; unfold allowB; rw [if_neg (by omega), if_neg (by omega), if_pos (by omega), decide_eq_true (by omega), Bool.true_and]
    · refine snap_bool ?_; unfold allowB; rw [if_neg (by omega), if_neg (by omega), if_pos (by omega), decide_eq_false (by omega), Bool.false_and]
    · refine snap_bool ?_; unfold allowB; simp [*]
    · refine loop0 (X := Nat) (fun q => [(2, encV m), (7, .int .i64 (m.take q).sum), (8, .int .i64 q)]) (fun q => q ≤ m.length ∧ 0 ≤ (m.take q).sum ∧ (m.take q).sum ≤ q * 1000) (fun q => m.length - q) 0 ⟨Nat.zero_le _, by simp⟩ (by simp (disch := omega) only [agr, SA, Nat.reduceEqDiff, ↓reduceIte, wrap64, Int.natCast_add, Int.natCast_one, Int.natCast_zero, and_true, and_self, List.take_zero, List.sum_nil]) ?_
      rintro q ⟨h2, h3, h4⟩
      repeat' (first | refine w_seq ?_ | refine w_ops0 ?_ | refine w_block ?_ | refine w_skip ?_ | refine w_exit ?_ | refine w_ret ?_ | refine a_n ?_ | refine a_x ?_ | refine a_r ?_ | refine o_nil ?_ | (apply o_val rfl rfl; (focus ((try simp (disch := omega) only [simB0, simB1, SA, SV, SN, SR, SL, pick_bool, Nat.reduceEqDiff, ↓reduceIte, Nat.reduceAdd, Nat.reduceLeDiff, SO, one_encV, one_encVV, Bool.and_self, Bool.false_eq_true, reduceCtorEq, wrap64, aixS_encV, aixS_encVV, alenS_encV, alenS_encVV, Int.toNat_natCast, List.length_map, aixS_msl, getElem?_map_lt, Nat.mul_one]); first | with_reducible rfl | (apply s_ite; (focus omega); with_reducible rfl)))) | (apply w_cond; (focus ((try simp only [simB0, simB1, SA, SV, SN, SR, SL, pick_bool, Nat.reduceEqDiff, ↓reduceIte, Nat.reduceAdd, Nat.reduceLeDiff]); (try with_reducible rfl); done)); all_goals (intro _hg; (try simp only [Bool.not_eq_true', Bool.not_eq_false', Bool.not_not, decide_eq_true_eq, decide_eq_false_iff_not] at _hg); try (exfalso; omega))) | (refine e_ends rfl ?_) | (apply r_1; (focus (simp only [rv, simB0, simB1, SA, SV, SN, SR, SL, pick_bool, Nat.reduceEqDiff, ↓reduceIte, Nat.reduceAdd, Nat.reduceLeDiff]; with_reducible rfl))))
      · have hx := hb _ (mem_getD (show q < m.length by omega))
        have e : (m.take (q + 1)).sum = (m.take q).sum + m.getD q default := by rw [take_succ' (by omega), List.sum_append]; simp
        refine ⟨q + 1, ⟨by omega, by omega, by omega⟩, by omega, ?_, rfl, rfl⟩
        rw [e]
        simp (disch := omega) only [agr, SA, Nat.reduceEqDiff, ↓reduceIte, wrap64, Int.natCast_add, Int.natCast_one, Int.natCast_zero, and_true, and_self]
      · refine snap_bool ?_
        rw [List.take_of_length_le (by omega)]
        unfold allowB; simp [*]
    · refine snap_bool ?_; unfold allowB; simp only [Int.ofNat_inj]; simp [*]
    · exact ⟨rfl, rfl, rfl, rfl, by omega, by omega, by omega, by omega, by omega, by omega⟩
  · rintro T H nx ⟨t1, t2, t3, h0, g0, g1, g2, g3, g4, g5⟩
    repeat' (first | refine w_seq ?_ | refine w_ops1 ?_ | refine w_ret ?_ | refine a_n ?_ | refine o_nil ?_ | (apply o_val rfl rfl; (focus ((try simp (disch := omega) only [simB0, simB1, SA, SV, SN, SR, SL, pick_bool, Nat.reduceEqDiff, ↓reduceIte, Nat.reduceAdd, Nat.reduceLeDiff, SO, one_encV, one_encVV, Bool.and_self, Bool.false_eq_true, reduceCtorEq, wrap64, aixS_encV, aixS_encVV, alenS_encV, alenS_encVV, Int.toNat_natCast, List.length_map, aixS_msl, getElem?_map_lt, Nat.mul_one, t1, t2, t3, h0]); first | with_reducible rfl | (apply s_ite; (focus omega); with_reducible rfl)))) | (apply o_callD; (focus ((try simp only [simB0, simB1, SA, SV, SN, SR, SL, pick_bool, Nat.reduceEqDiff, ↓reduceIte, Nat.reduceAdd, Nat.reduceLeDiff, t1, t2, t3, h0]); (try with_reducible rfl); done)); (focus ((try simp only [simB0, simB1, SA, SV, SN, SR, SL, pick_bool, Nat.reduceEqDiff, ↓reduceIte, Nat.reduceAdd, Nat.reduceLeDiff, t1, t2, t3, h0]); (try with_reducible rfl); done)); (focus (first | (exact different_r _ hm) | (exact chosen_r _ _ hl hm))); (focus (first | (apply snap_data; repeat' (first | exact snapL_nil | apply snapL_dat | exact Dat.int | exact Dat.bool | exact Dat.str | exact Dat.esl | exact Dat.nilf | exact encV_dat _ | exact encVV_dat _)) | (apply snap_plain; (focus (repeat' (first | exact snapL_nil | apply snapL_dat | exact Dat.int | exact Dat.bool | exact Dat.str | exact encV_dat _ | exact encVV_dat _))); rfl)))) | (apply o_gT; (focus (simp only [simB0, simB1, SA, SV, SN, SR, SL, pick_bool, Nat.reduceEqDiff, ↓reduceIte, Nat.reduceAdd, Nat.reduceLeDiff, t1, t2, t3, h0]; done))) | (apply o_gF; (focus (simp only [simB0, simB1, SA, SV, SN, SR, SL, pick_bool, Nat.reduceEqDiff, ↓reduceIte, Nat.reduceAdd, Nat.reduceLeDiff, or_true, true_or, t1, t2, t3, h0]; done))) | (apply o_gB; (focus ((try simp only [simB0, simB1, SA, SV, SN, SR, SL, pick_bool, Nat.reduceEqDiff, ↓reduceIte, Nat.reduceAdd, Nat.reduceLeDiff, t1, t2, t3, h0]); (try with_reducible rfl); done)); all_goals (intro _hg; (try simp only [Bool.not_true, Bool.not_false, Bool.not_eq_true', Bool.not_eq_false', Bool.not_not, decide_eq_true_eq, decide_eq_false_iff_not] at _hg); try (exfalso; omega))) | (refine e_ends rfl ?_) | (apply r_1; (focus (simp only [rv, simB0, simB1, SA, SV, SN, SR, SL, pick_bool, Nat.reduceEqDiff, ↓reduceIte, Nat.reduceAdd, Nat.reduceLeDiff, t1, t2, t3, h0]; with_reducible rfl))))
    all_goals (refine snap_bool ?_; unfold allowB; rw [if_neg g0, if_neg g1, if_neg g2, if_neg g3, if_neg g4, if_neg g5])
    · simp [_hg]
    · simp; omega

def calmB (task : Int) (l m : List Int) : Bool := if task = 1 then (decide (0 ∈ l) && eqv m 0) || (!decide (0 ∈ l) && eqv m 1) else if task = 3 then eqv m (l.getD 0 default) else false
theorem calm_r (task n ins outs k : Int) (l m : List Int) (hl : Sh l) (hm : Sh m) (h0 : l ≠ []) : Pure Try.prog 116 [encK task n ins outs k, encV l, encV m] (.bool (calmB task l m)) := by
  refine Pure.of_c2 follows is116 (Nat.le_of_ble_eq_true rfl) ?_
  simp only [b116]
  have := List.length_pos_iff.2 h0
  unfold encK
  repeat' (first | refine w_seq ?_ | refine w_ops0 ?_ | refine w_block ?_ | refine w_skip ?_ | refine w_ret ?_ | refine a_n ?_ | refine a_r ?_ | refine o_nil ?_ | (apply o_val rfl rfl; (focus ((try simp (disch := omega) only [simB0, simB1, SA, SV, SN, SR, SL, pick_bool, Nat.reduceEqDiff, ↓reduceIte, Nat.reduceAdd, Nat.reduceLeDiff, SO, one_encV, one_encVV, Bool.and_self, Bool.false_eq_true, reduceCtorEq, wrap64, aixS_encV, aixS_encVV, alenS_encV, alenS_encVV, Int.toNat_natCast, List.length_map, aixS_msl, getElem?_map_lt, Nat.mul_one]); first | with_reducible rfl | (apply s_ite; (focus omega); with_reducible rfl)))) | (apply o_callD; (focus ((try simp only [simB0, simB1, SA, SV, SN, SR, SL, pick_bool, Nat.reduceEqDiff, ↓reduceIte, Nat.reduceAdd, Nat.reduceLeDiff]); (try with_reducible rfl); done)); (focus ((try simp only [simB0, simB1, SA, SV, SN, SR, SL, pick_bool, Nat.reduceEqDiff, ↓reduceIte, Nat.reduceAdd, Nat.reduceLeDiff]); (try with_reducible rfl); done)); (focus (first | (exact all_r _ _ hm) | (exact occurs_c _ _ hl))); (focus (first | (apply snap_data; repeat' (first | exact snapL_nil | apply snapL_dat | exact Dat.int | exact Dat.bool | exact Dat.str | exact Dat.esl | exact Dat.nilf | exact encV_dat _ | exact encVV_dat _)) | (apply snap_plain; (focus (repeat' (first | exact snapL_nil | apply snapL_dat | exact Dat.int | exact Dat.bool | exact Dat.str | exact encV_dat _ | exact encVV_dat _))); rfl)))) | (apply e_box rfl; (focus ((try simp only [simB0, simB1, SA, SV, SN, SR, SL, pick_bool, Nat.reduceEqDiff, ↓reduceIte, Nat.reduceAdd, Nat.reduceLeDiff]); (try with_reducible rfl); done)); (focus ((try simp only [simB0, simB1, SA, SV, SN, SR, SL, pick_bool, Nat.reduceEqDiff, ↓reduceIte, Nat.reduceAdd, Nat.reduceLeDiff]); (try with_reducible rfl); done)); (focus (simp only [SO, Bool.and_self, one_encV, one_encVV]))) | (apply o_gT; (focus (simp only [simB0, simB1, SA, SV, SN, SR, SL, pick_bool, Nat.reduceEqDiff, ↓reduceIte, Nat.reduceAdd, Nat.reduceLeDiff]; done))) | (apply o_gF; (focus (simp only [simB0, simB1, SA, SV, SN, SR, SL, pick_bool, Nat.reduceEqDiff, ↓reduceIte, Nat.reduceAdd, Nat.reduceLeDiff, or_true, true_or]; done))) | (apply o_gB; (focus ((try simp only [simB0, simB1, SA, SV, SN, SR, SL, pick_bool, Nat.reduceEqDiff, ↓reduceIte, Nat.reduceAdd, Nat.reduceLeDiff]); (try with_reducible rfl); done)); all_goals (intro _hg; (try simp only [Bool.not_true, Bool.not_false, Bool.not_eq_true', Bool.not_eq_false', Bool.not_not, decide_eq_true_eq, decide_eq_false_iff_not] at _hg); try (exfalso; omega))) | (apply w_cond; (focus ((try simp only [simB0, simB1, SA, SV, SN, SR, SL, pick_bool, Nat.reduceEqDiff, ↓reduceIte, Nat.reduceAdd, Nat.reduceLeDiff]); (try with_reducible rfl); done)); all_goals (intro _hg; (try simp only [Bool.not_eq_true', Bool.not_eq_false', Bool.not_not, decide_eq_true_eq, decide_eq_false_iff_not] at _hg); try (exfalso; omega))) | (refine e_ends rfl ?_) | (apply r_1; (focus (simp only [rv, simB0, simB1, SA, SV, SN, SR, SL, pick_bool, Nat.reduceEqDiff, ↓reduceIte, Nat.reduceAdd, Nat.reduceLeDiff]; with_reducible rfl))))
  all_goals (refine snap_bool ?_; unfold calmB; first | contradiction | simp [*])

def caseB (task : Int) (l : List Int) : Bool := decide (task ≠ 5) || decide ((kinds l).length = l.length)
theorem case_r (task n ins outs k : Int) (l : List Int) (hl : Sh l) : Pure Try.prog 86 [encK task n ins outs k, encV l] (.bool (caseB task l)) := by
  refine Pure.of_c2 follows is86 (Nat.le_of_ble_eq_true rfl) ?_
  simp only [b86]
  unfold encK
  repeat' (first | refine w_seq ?_ | refine w_ops0 ?_ | refine w_ret ?_ | refine a_n ?_ | refine o_nil ?_ | (apply o_val rfl rfl; (focus ((try simp (disch := omega) only [simB0, simB1, SA, SV, SN, SR, SL, pick_bool, Nat.reduceEqDiff, ↓reduceIte, Nat.reduceAdd, Nat.reduceLeDiff, SO, one_encV, one_encVV, Bool.and_self, Bool.false_eq_true, reduceCtorEq, wrap64, aixS_encV, aixS_encVV, alenS_encV, alenS_encVV, Int.toNat_natCast, List.length_map, aixS_msl, getElem?_map_lt, Nat.mul_one]); first | with_reducible rfl | (apply s_ite; (focus omega); with_reducible rfl)))) | (apply o_callD; (focus ((try simp only [simB0, simB1, SA, SV, SN, SR, SL, pick_bool, Nat.reduceEqDiff, ↓reduceIte, Nat.reduceAdd, Nat.reduceLeDiff]); (try with_reducible rfl); done)); (focus ((try simp only [simB0, simB1, SA, SV, SN, SR, SL, pick_bool, Nat.reduceEqDiff, ↓reduceIte, Nat.reduceAdd, Nat.reduceLeDiff]); (try with_reducible rfl); done)); (focus (first | (exact different_r _ hl))); (focus (first | (apply snap_data; repeat' (first | exact snapL_nil | apply snapL_dat | exact Dat.int | exact Dat.bool | exact Dat.str | exact Dat.esl | exact Dat.nilf | exact encV_dat _ | exact encVV_dat _)) | (apply snap_plain; (focus (repeat' (first | exact snapL_nil | apply snapL_dat | exact Dat.int | exact Dat.bool | exact Dat.str | exact encV_dat _ | exact encVV_dat _))); rfl)))) | (apply e_box rfl; (focus ((try simp only [simB0, simB1, SA, SV, SN, SR, SL, pick_bool, Nat.reduceEqDiff, ↓reduceIte, Nat.reduceAdd, Nat.reduceLeDiff]); (try with_reducible rfl); done)); (focus ((try simp only [simB0, simB1, SA, SV, SN, SR, SL, pick_bool, Nat.reduceEqDiff, ↓reduceIte, Nat.reduceAdd, Nat.reduceLeDiff]); (try with_reducible rfl); done)); (focus (simp only [SO, Bool.and_self, one_encV, one_encVV]))) | (apply o_gT; (focus (simp only [simB0, simB1, SA, SV, SN, SR, SL, pick_bool, Nat.reduceEqDiff, ↓reduceIte, Nat.reduceAdd, Nat.reduceLeDiff]; done))) | (apply o_gF; (focus (simp only [simB0, simB1, SA, SV, SN, SR, SL, pick_bool, Nat.reduceEqDiff, ↓reduceIte, Nat.reduceAdd, Nat.reduceLeDiff, or_true, true_or]; done))) | (apply o_gB; (focus ((try simp only [simB0, simB1, SA, SV, SN, SR, SL, pick_bool, Nat.reduceEqDiff, ↓reduceIte, Nat.reduceAdd, Nat.reduceLeDiff]); (try with_reducible rfl); done)); all_goals (intro _hg; (try simp only [Bool.not_true, Bool.not_false, Bool.not_eq_true', Bool.not_eq_false', Bool.not_not, decide_eq_true_eq, decide_eq_false_iff_not] at _hg); try (exfalso; omega))) | (refine e_ends rfl ?_) | (apply r_1; (focus (simp only [rv, simB0, simB1, SA, SV, SN, SR, SL, pick_bool, Nat.reduceEqDiff, ↓reduceIte, Nat.reduceAdd, Nat.reduceLeDiff]; with_reducible rfl))))
  all_goals (refine snap_bool ?_; unfold caseB; (try simp only [Int.ofNat_inj]); simp [*])

/-! ### all vectors -/
theorem Row_last {H : Hp} {s x x' : AV} {cs content : List AV} {bx : Nat} (hrow : Row H 1 s (cs ++ [x])) (hbx : H bx = some content) (hne : rowB s ≠ some bx) (hs : ∀ Hf : Hp, Hf bx = some content → Snap Hf x x') :
    ∃ Hf H'', Fz Hf H H'' ∧ Row H'' 1 s (cs ++ [x']) ∧ (∀ i, i ≠ bx → rowB s ≠ some i → H'' i = H i) := by
  generalize hc : cs ++ [x] = cs1 at hrow
  cases hrow with
  | nil => simp at hc
  | box b len cs1 hb hl =>
    subst hc
    have hnb : b ≠ bx := fun e => hne (by rw [e]; rfl)
    have hk : hkeep (fun y => decide (y = bx)) H bx = some content := by simp [hkeep, hbx]
    refine ⟨_, _, Fz.put (B := fun y => decide (y = bx)) (x := b) (cs' := cs ++ [x']) (by simpa using hnb) hb (CellsTo.snoc (hs _ hk)), ?_, fun i h1 h2 => ?_⟩
    · have hl' : (cs ++ [x']).length = len * 1 := by rw [← hl]; simp
      have := Row.box (H := hupd (hdrop (fun y => decide (y = bx)) H) b (cs ++ [x'])) (sz := 1) b len (cs ++ [x']) hupd_self' hl'
      exact this
    · rw [hupd_ne (fun e => h2 (by rw [e]; rfl)), hdrop_at (by simpa using h1)]

theorem every_r (v : Nat) (hv : v ≤ 8) : ∀ n : Nat, n ≤ 5 → Pure Try.prog 85 [.int .i64 n, .int .i64 v] (encVV (every n v)) := by
  intro n
  induction n with
  | zero =>
    intro _
    refine Pure.of_c2 follows is85 (Nat.le_of_ble_eq_true rfl) ?_
    simp only [b85]
    repeat' (first | refine w_seq ?_ | refine w_ops0 ?_ | refine w_ret ?_ | refine a_n ?_ | refine a_r ?_ | refine o_nil ?_ | (apply o_val rfl rfl; (focus ((try simp (disch := omega) only [simB0, simB1, SA, SV, SN, SR, SL, pick_bool, Nat.reduceEqDiff, ↓reduceIte, Nat.reduceAdd, Nat.reduceLeDiff, SO, one_encV, one_encVV, Bool.and_self, Bool.false_eq_true, reduceCtorEq, wrap64, aixS_encV, aixS_encVV, alenS_encV, alenS_encVV, Int.toNat_natCast, List.length_map, aixS_msl, getElem?_map_lt, Nat.mul_one, show ((0 : Nat) : Int) = 0 from rfl, decide_true]); first | with_reducible rfl | (apply s_ite; (focus omega); with_reducible rfl)))) | (apply e_bld rfl; (focus (exact Nat.succ_ne_zero _)); (focus ((try simp only [simB0, simB1, SA, SV, SN, SR, SL, pick_bool, Nat.reduceEqDiff, ↓reduceIte, Nat.reduceAdd, Nat.reduceLeDiff, show ((0 : Nat) : Int) = 0 from rfl, decide_true]); (try with_reducible rfl); done)); (focus ((try simp only [simB0, simB1, SA, SV, SN, SR, SL, pick_bool, Nat.reduceEqDiff, ↓reduceIte, Nat.reduceAdd, Nat.reduceLeDiff, SO, Bool.and_self, one_encV, one_encVV, show ((0 : Nat) : Int) = 0 from rfl, decide_true]); (try with_reducible rfl); done))) | (apply w_condT; (focus (simp only [simB0, simB1, SA, SV, SN, SR, SL, pick_bool, Nat.reduceEqDiff, ↓reduceIte, Nat.reduceAdd, Nat.reduceLeDiff, show ((0 : Nat) : Int) = 0 from rfl, decide_true]; done))) | (refine e_ends rfl ?_) | (apply r_1; (focus (simp only [rv, simB0, simB1, SA, SV, SN, SR, SL, pick_bool, Nat.reduceEqDiff, ↓reduceIte, Nat.reduceAdd, Nat.reduceLeDiff, show ((0 : Nat) : Int) = 0 from rfl, decide_true]; with_reducible rfl))))
    refine snap_msl (l := [encV []]) hupd_self' rfl (by omega) rfl (fun y hy => by simp at hy; subst hy; rfl) (fun i a c ha hc => ?_)
    match i, ha, hc with
    | 0, ha, hc => cases ha; cases hc; exact .eslsl 1
  | succ n ih =>
    intro hn
    have ih := ih (by omega)
    refine Pure.of_c2 follows is85 (Nat.le_of_ble_eq_true rfl) ?_
    simp only [b85]
    have hlen : (every n v).length ≤ 8 ^ 5 := by
      rw [every_count]
      exact Nat.le_trans (Nat.pow_le_pow_left hv n) (Nat.pow_le_pow_right (by omega) (by omega))
    have hvl := every_len n v
    have e1 : IntKind.wrap .i64 (((n + 1 : Nat) : Int) - 1) = (n : Nat) := by
      rw [show ((n + 1 : Nat) : Int) - 1 = n by omega, wrap64 (by omega) (by omega)]
    generalize hR : every n v = R at *
    have hdn : ∀ x : Nat, (List.range (x + 1)).flatMap (fun (x : Nat) => R.map fun r => (x : Int) :: r) = (List.range x).flatMap (fun (x : Nat) => R.map fun r => (x : Int) :: r) ++ R.map fun r => (x : Int) :: r := fun x => by
      rw [List.range_succ, List.flatMap_append]; simp
    have hdl : ∀ x : Nat, ((List.range x).flatMap (fun (x : Nat) => R.map fun r => (x : Int) :: r)).length = x * R.length := fun x => by
      simp [List.length_flatMap, List.sum_replicate_nat, List.map_const']
    have hE : every (n + 1) v = (List.range v).flatMap (fun (x : Nat) => R.map fun r => (x : Int) :: r) := by rw [← hR]; rfl
    rw [hE]
    generalize hDone : (fun x => (List.range x).flatMap (fun (x : Nat) => R.map fun r => (x : Int) :: r)) = Done at *
    have hD0 : Done 0 = [] := by rw [← hDone]; rfl
    have hdn : ∀ x, Done (x + 1) = Done x ++ R.map fun r => (x : Int) :: r := fun x => by rw [← hDone]; exact hdn x
    have hdl : ∀ x, (Done x).length = x * R.length := fun x => by rw [← hDone]; exact hdl x
    have hDv : (List.range v).flatMap (fun (x : Nat) => R.map fun r => (x : Int) :: r) = Done v := by rw [← hDone]
    rw [hDv]
    clear hDone hE hDv
    repeat' (first | refine w_seq ?_ | refine w_ops0 ?_ | refine w_block ?_ | refine w_skip ?_ | refine a_n ?_ | refine o_nil ?_ | (apply o_val rfl rfl; (focus ((try simp (disch := omega) only [simB0, simB1, SA, SV, SN, SR, SL, pick_bool, Nat.reduceEqDiff, ↓reduceIte, Nat.reduceAdd, Nat.reduceLeDiff, SO, one_encV, one_encVV, Bool.and_self, Bool.false_eq_true, reduceCtorEq, wrap64, aixS_encV, aixS_encVV, alenS_encV, alenS_encVV, Int.toNat_natCast, List.length_map, aixS_msl, getElem?_map_lt, Nat.mul_one, e1]); first | with_reducible rfl | (apply s_ite; (focus omega); with_reducible rfl)))) | (apply o_callD; (focus ((try simp only [simB0, simB1, SA, SV, SN, SR, SL, pick_bool, Nat.reduceEqDiff, ↓reduceIte, Nat.reduceAdd, Nat.reduceLeDiff, e1]); (try with_reducible rfl); done)); (focus ((try simp only [simB0, simB1, SA, SV, SN, SR, SL, pick_bool, Nat.reduceEqDiff, ↓reduceIte, Nat.reduceAdd, Nat.reduceLeDiff, e1]); (try with_reducible rfl); done)); (focus (first | (exact ih))); (focus (first | (apply snap_data; repeat' (first | exact snapL_nil | apply snapL_dat | exact Dat.int | exact Dat.bool | exact Dat.str | exact Dat.esl | exact Dat.nilf | exact encV_dat _ | exact encVV_dat _)) | (apply snap_plain; (focus (repeat' (first | exact snapL_nil | apply snapL_dat | exact Dat.int | exact Dat.bool | exact Dat.str | exact encV_dat _ | exact encVV_dat _))); rfl)))) | (apply w_cond; (focus ((try simp only [simB0, simB1, SA, SV, SN, SR, SL, pick_bool, Nat.reduceEqDiff, ↓reduceIte, Nat.reduceAdd, Nat.reduceLeDiff, e1]); (try with_reducible rfl); done)); all_goals (intro _hg; (try simp only [Bool.not_eq_true', Bool.not_eq_false', Bool.not_not, decide_eq_true_eq, decide_eq_false_iff_not] at _hg); try (exfalso; omega))) | refine w_loop ?_)
    refine loopI (X := AV × Nat) (fun x => [(1, .int .i64 v), (5, x.1), (6, encVV R), (7, .int .i64 x.2)]) (fun x H nx => x.2 ≤ v ∧ Row H 1 x.1 ((Done x.2).map encV) ∧ ∀ b, rowB x.1 = some b → b < nx) (fun x => v - x.2) (.esl, 0) ⟨Nat.zero_le _, by rw [hD0]; exact Row.nil, fun b hb => (by cases hb)⟩ (by simp (disch := omega) only [agr, SA, Nat.reduceEqDiff, ↓reduceIte, wrap64, Int.natCast_add, Int.natCast_one, Int.natCast_zero, and_true, and_self]) ?_
    rintro ⟨s, q⟩ H nx ⟨h1, h2, h3⟩
    dsimp only at h1 h2 h3 ⊢
    repeat' (first | refine w_seq ?_ | refine w_ops0 ?_ | refine w_block ?_ | refine w_skip ?_ | refine w_exit ?_ | refine w_ret ?_ | refine a_n ?_ | refine a_x ?_ | refine o_nil ?_ | (apply o_val rfl rfl; (focus ((try simp (disch := omega) only [simB0, simB1, SA, SV, SN, SR, SL, pick_bool, Nat.reduceEqDiff, ↓reduceIte, Nat.reduceAdd, Nat.reduceLeDiff, SO, one_encV, one_encVV, Bool.and_self, Bool.false_eq_true, reduceCtorEq, wrap64, aixS_encV, aixS_encVV, alenS_encV, alenS_encVV, Int.toNat_natCast, List.length_map, aixS_msl, getElem?_map_lt, Nat.mul_one]); first | with_reducible rfl | (apply s_ite; (focus omega); with_reducible rfl)))) | (apply w_cond; (focus ((try simp only [simB0, simB1, SA, SV, SN, SR, SL, pick_bool, Nat.reduceEqDiff, ↓reduceIte, Nat.reduceAdd, Nat.reduceLeDiff]); (try with_reducible rfl); done)); all_goals (intro _hg; (try simp only [Bool.not_eq_true', Bool.not_eq_false', Bool.not_not, decide_eq_true_eq, decide_eq_false_iff_not] at _hg); try (exfalso; omega))) | (refine e_ends rfl ?_) | (apply r_1; (focus (simp only [rv, simB0, simB1, SA, SV, SN, SR, SL, pick_bool, Nat.reduceEqDiff, ↓reduceIte, Nat.reduceAdd, Nat.reduceLeDiff]; with_reducible rfl))) | refine w_loop ?_)
    rotate_left
    · rw [show q = v by omega] at h2
      exact Row.snapV h2
    have hqR : q * R.length ≤ 8 * 32768 := Nat.mul_le_mul (by omega) hlen
    obtain ⟨s1, s2⟩ := h2.one
    refine loopF (X := AV × Nat) (fun x => [(1, .int .i64 v), (5, x.1), (6, encVV R), (7, .int .i64 q), (8, .int .i64 x.2)])
      (fun x H nx => x.2 ≤ R.length ∧ Row H 1 x.1 ((Done q ++ (R.take x.2).map fun r => (q : Int) :: r).map encV) ∧ ∀ b, rowB x.1 = some b → b < nx) (fun x => R.length - x.2) (s, 0)
      ⟨noBoxes, H, Fz.none, ⟨Nat.zero_le _, by simpa using h2, h3⟩, agrF_of (by simp (disch := omega) only [agr, SA, Nat.reduceEqDiff, ↓reduceIte, wrap64, Int.natCast_add, Int.natCast_one, Int.natCast_zero, and_true, and_self])⟩ ?_
    rintro ⟨s, j⟩ H nx ⟨h4, h5, h6⟩
    dsimp only at h4 h5 h6 ⊢
    clear h2 h3 s1 s2
    obtain ⟨s1, s2⟩ := h5.one
    repeat' (first | refine w_seq ?_ | refine w_ops0 ?_ | refine w_block ?_ | refine w_skip ?_ | refine w_exit ?_ | refine a_n ?_ | refine a_x ?_ | refine o_nil ?_ | (apply o_val rfl; (focus (first | rfl | (simp (disch := omega) only [dm2, oldP, newP, simB0, simB1, SA, SV, SN, SR, SL, pick_bool, Nat.reduceEqDiff, ↓reduceIte, Nat.reduceAdd, Nat.reduceLeDiff, decide_eq_true_eq]; first | done | omega))); (focus ((try simp (disch := omega) only [simB2, simB1, SA, SV, SN, SR, SL, pick_bool, Nat.reduceEqDiff, ↓reduceIte, Nat.reduceAdd, Nat.reduceLeDiff, SO, one_encV, one_encVV, Bool.and_self, Bool.false_eq_true, reduceCtorEq, wrap64, aixS_encV, aixS_encVV, alenS_encV, alenS_encVV, Int.toNat_natCast, List.length_map, aixS_msl, getElem?_map_lt, Nat.mul_one, s1]); first | with_reducible rfl | (apply s_ite; (focus omega); with_reducible rfl)))) | (apply e_bld rfl; (focus (exact Nat.succ_ne_zero _)); (focus ((try simp (disch := omega) only [simB2, simB1, SA, SV, SN, SR, SL, pick_bool, Nat.reduceEqDiff, ↓reduceIte, Nat.reduceAdd, Nat.reduceLeDiff, s1]); (try with_reducible rfl); done)); (focus ((try simp (disch := omega) only [simB2, simB1, SA, SV, SN, SR, SL, pick_bool, Nat.reduceEqDiff, ↓reduceIte, Nat.reduceAdd, Nat.reduceLeDiff, SO, Bool.and_self, one_encV, one_encVV, s1]); (try with_reducible rfl); done))) | (apply w_cond; (focus ((try simp (disch := omega) only [simB2, simB1, SA, SV, SN, SR, SL, pick_bool, Nat.reduceEqDiff, ↓reduceIte, Nat.reduceAdd, Nat.reduceLeDiff, s1]); (try with_reducible rfl); done)); all_goals (intro _hg; (try simp (disch := omega) only [Bool.not_eq_true', Bool.not_eq_false', Bool.not_not, decide_eq_true_eq, decide_eq_false_iff_not] at _hg); try (exfalso; omega))))
    · refine e_app0 rfl (by ((try simp only [simB0, simB1, SA, SV, SN, SR, SL, pick_bool, Nat.reduceEqDiff, ↓reduceIte, Nat.reduceAdd, Nat.reduceLeDiff]); (try with_reducible rfl))) (by ((try simp only [simB0, simB1, SA, SV, SN, SR, SL, pick_bool, Nat.reduceEqDiff, ↓reduceIte, Nat.reduceAdd, Nat.reduceLeDiff]); (try with_reducible rfl))) asrc_one rfl (by omega) (by omega) ?_
      repeat' (first | refine w_ops0 ?_ | refine a_n ?_ | refine o_nil ?_ | (apply o_val rfl; (focus (first | rfl | (simp (disch := omega) only [dm2, oldP, newP, simB0, simB1, SA, SV, SN, SR, SL, pick_bool, Nat.reduceEqDiff, ↓reduceIte, Nat.reduceAdd, Nat.reduceLeDiff, decide_eq_true_eq]; first | done | omega))); (focus ((try simp (disch := omega) only [simB2, simB1, SA, SV, SN, SR, SL, pick_bool, Nat.reduceEqDiff, ↓reduceIte, Nat.reduceAdd, Nat.reduceLeDiff, SO, one_encV, one_encVV, Bool.and_self, Bool.false_eq_true, reduceCtorEq, wrap64, aixS_encV, aixS_encVV, alenS_encV, alenS_encVV, Int.toNat_natCast, List.length_map, aixS_msl, getElem?_map_lt, Nat.mul_one, s1]); first | with_reducible rfl | (apply s_ite; (focus omega); with_reducible rfl)))))
      have hw := mem_getD (l := R) (k := j) (by omega)
      have hwl := hvl _ hw
      generalize hwe : R.getD j default = w at *
      refine e_app (b := nx + 1) (m := 1) (len := 1) (cs := [.int .i64 q]) (n := w.length) (new := w.map (AV.int .i64)) rfl (by ((try simp only [simB0, simB1, SA, SV, SN, SR, SL, pick_bool, Nat.reduceEqDiff, ↓reduceIte, Nat.reduceAdd, Nat.reduceLeDiff]); (try with_reducible rfl))) hupd_self' (by ((try simp only [simB0, simB1, SA, SV, SN, SR, SL, pick_bool, Nat.reduceEqDiff, ↓reduceIte, Nat.reduceAdd, Nat.reduceLeDiff]); (try with_reducible rfl))) asrc_encV ones_int rfl rfl (by omega) (by omega) ?_
      repeat' (first | (apply e_bld rfl; (focus (exact Nat.succ_ne_zero _)); (focus ((try simp (disch := omega) only [simB2, simB1, SA, SV, SN, SR, SL, pick_bool, Nat.reduceEqDiff, ↓reduceIte, Nat.reduceAdd, Nat.reduceLeDiff, s1]); (try with_reducible rfl); done)); (focus ((try simp (disch := omega) only [simB2, simB1, SA, SV, SN, SR, SL, pick_bool, Nat.reduceEqDiff, ↓reduceIte, Nat.reduceAdd, Nat.reduceLeDiff, SO, Bool.and_self, one_encV, one_encVV, s1]); (try with_reducible rfl); done))))
      have hln : ((Done q ++ (R.take j).map fun r => (q : Int) :: r).map encV).length ≤ 1000000 := by simp [hdl]; omega
      refine e_row rfl (by ((try simp only [simB0, simB1, SA, SV, SN, SR, SL, pick_bool, Nat.reduceEqDiff, ↓reduceIte, Nat.reduceAdd, Nat.reduceLeDiff]); (try with_reducible rfl))) (h5.same fun b hb => ?_) (by ((try simp only [simB0, simB1, SA, SV, SN, SR, SL, pick_bool, Nat.reduceEqDiff, ↓reduceIte, Nat.reduceAdd, Nat.reduceLeDiff]); (try with_reducible rfl))) asrc_one rfl rfl Nat.one_pos (by omega) (by omega) ?_
      · have := h6 b hb
        rw [hupd_ne (by omega), hupd_ne (by omega), hupd_ne (by omega), hupd_ne (by omega)]
      rintro s3 E e hrow hle1 hle2 hsame hb2
      have hbx : E (nx + 1) = some (((q : Int) :: w).map (AV.int .i64)) := by
        rw [hsame (nx + 1) (by omega) (fun h => by have := h6 _ h; omega), hupd_ne (by omega), hupd_self']; rfl
      obtain ⟨Hf, H2, hfz, hrow2, hsame2⟩ := Row_last (x' := encV ((q : Int) :: w)) hrow hbx (fun h => by
        rcases hb2 _ h with h | h
        · have := h6 _ h; omega
        · omega) (fun Hf h => snap_row h (by omega) (by simp; omega))
      repeat' (first | refine w_ops0 ?_ | refine a_n ?_ | refine o_nil ?_ | (apply o_val rfl rfl; (focus ((try simp (disch := omega) only [simB0, simB1, SA, SV, SN, SR, SL, pick_bool, Nat.reduceEqDiff, ↓reduceIte, Nat.reduceAdd, Nat.reduceLeDiff, SO, one_encV, one_encVV, Bool.and_self, Bool.false_eq_true, reduceCtorEq, wrap64, aixS_encV, aixS_encVV, alenS_encV, alenS_encVV, Int.toNat_natCast, List.length_map, aixS_msl, getElem?_map_lt, Nat.mul_one]); first | with_reducible rfl | (apply s_ite; (focus omega); with_reducible rfl)))))
      refine ⟨(s3, j + 1), by dsimp only; omega, Hf, H2, hfz, ⟨by dsimp only; omega, ?_, fun b hb => ?_⟩, agrF_of (by simp (disch := omega) only [agr, SA, Nat.reduceEqDiff, ↓reduceIte, wrap64, Int.natCast_add, Int.natCast_one, Int.natCast_zero, and_true, and_self])⟩
      · dsimp only
        have hmap : ((Done q ++ (R.take j ++ [w]).map fun r => (q : Int) :: r).map encV) = (Done q ++ (R.take j).map fun r => (q : Int) :: r).map encV ++ [encV ((q : Int) :: w)] := by simp
        rw [take_succ' (by omega), hwe, hmap]
        exact hrow2
      · rcases hb2 _ hb with h | h
        · have := h6 _ h; omega
        · omega
    · refine ⟨(s, q + 1), by dsimp only; omega, ⟨by dsimp only; omega, ?_, h6⟩, by simp (disch := omega) only [agr, SA, Nat.reduceEqDiff, ↓reduceIte, wrap64, Int.natCast_add, Int.natCast_one, Int.natCast_zero, and_true, and_self]⟩
      dsimp only
      rw [hdn]
      rwa [List.take_of_length_le (by omega)] at h5

end Go.Proofs.Ytcbkggfipdldaaa
