/- P10: contracts of functions and plain laws; for all inputs that the theorems name. -/
import Derived.Test.YtcbkggfipdldaaaXP9
set_option linter.unusedSimpArgs false
set_option linter.unusedVariables false
namespace Go.Proofs.Ytcbkggfipdldaaa
open Go Go.Abs
attribute [local irreducible] awp2 aops2 ains aloop athen bbind obind gbind acond res1 Go.Abs.Fn PCall Go.Abs.Pure SnapArgs SnapL Yl

/-! ### the reference's conditions -/
theorem occurs_c (l : List Int) (v : Int) (hl : Sh l) : Pure Try.prog 129 [encV l, .int .i64 v] (.bool (decide (v ∈ l))) := by
  refine Pure.of_c2 follows is129 (Nat.le_of_ble_eq_true rfl) ?_
  simp only [b129]
  repeat' (first | refine w_seq ?_ | refine w_ops0 ?_ | refine w_block ?_ | refine a_n ?_ | refine o_nil ?_ | (apply o_val rfl rfl; (focus ((try simp (disch := omega) only [simB0, simB1, SA, SV, SN, SR, SL, pick_bool, Nat.reduceEqDiff, ↓reduceIte, Nat.reduceAdd, Nat.reduceLeDiff, SO, one_encV, one_encVV, Bool.and_self, Bool.false_eq_true, reduceCtorEq, wrap64, aixS_encV, aixS_encVV, alenS_encV, alenS_encVV, Int.toNat_natCast, List.length_map, aixS_msl, getElem?_map_lt, Nat.mul_one]); first | with_reducible rfl | (apply s_ite; (focus omega); with_reducible rfl)))) | refine w_loop ?_)
  refine loop0 (X := Nat) (fun k => [(0, encV l), (1, .int .i64 v), (5, .int .i64 k)]) (fun k => k ≤ l.length ∧ ∀ i, i < k → l.getD i default ≠ v) (fun k => l.length - k) 0 ⟨Nat.zero_le _, by simp⟩ (by simp (disch := omega) only [agr, SA, Nat.reduceEqDiff, ↓reduceIte, wrap64, Int.natCast_add, Int.natCast_one, Int.natCast_zero, and_true, and_self]) ?_
  rintro k ⟨h1, h2⟩
  repeat' (first | refine w_seq ?_ | refine w_ops0 ?_ | refine w_block ?_ | refine w_skip ?_ | refine w_exit ?_ | refine w_ret ?_ | refine a_n ?_ | refine a_x ?_ | refine a_r ?_ | refine o_nil ?_ | (apply o_val rfl rfl; (focus ((try simp (disch := omega) only [simB0, simB1, SA, SV, SN, SR, SL, pick_bool, Nat.reduceEqDiff, ↓reduceIte, Nat.reduceAdd, Nat.reduceLeDiff, SO, one_encV, one_encVV, Bool.and_self, Bool.false_eq_true, reduceCtorEq, wrap64, aixS_encV, aixS_encVV, alenS_encV, alenS_encVV, Int.toNat_natCast, List.length_map, aixS_msl, getElem?_map_lt, Nat.mul_one]); first | with_reducible rfl | (apply s_ite; (focus omega); with_reducible rfl)))) | (apply w_cond; (focus ((try simp only [simB0, simB1, SA, SV, SN, SR, SL, pick_bool, Nat.reduceEqDiff, ↓reduceIte, Nat.reduceAdd, Nat.reduceLeDiff]); (try with_reducible rfl); done)); all_goals (intro _hg; (try simp only [Bool.not_eq_true', Bool.not_eq_false', Bool.not_not, decide_eq_true_eq, decide_eq_false_iff_not] at _hg); try (exfalso; omega))) | (refine e_ends rfl ?_) | (apply r_1; (focus (simp only [rv, simB0, simB1, SA, SV, SN, SR, SL, pick_bool, Nat.reduceEqDiff, ↓reduceIte, Nat.reduceAdd, Nat.reduceLeDiff]; with_reducible rfl))))
  · refine snap_bool ?_
    symm
    rw [decide_eq_true_iff, ← _hg]
    exact mem_getD (by omega)
  · refine ⟨k + 1, ⟨by omega, fun i hi => ?_⟩, by omega, by simp (disch := omega) only [agr, SA, Nat.reduceEqDiff, ↓reduceIte, wrap64, Int.natCast_add, Int.natCast_one, Int.natCast_zero, and_true, and_self], rfl, rfl⟩
    rcases Nat.lt_succ_iff_lt_or_eq.1 hi with h | rfl
    · exact h2 i h
    · exact _hg
  · refine snap_bool ?_
    symm
    rw [decide_eq_false_iff_not]
    intro hm
    obtain ⟨i, hi, e⟩ := List.getElem_of_mem hm
    exact h2 i (by omega) (by simp [List.getD, hi, e])

theorem mem_kinds {l : List Int} {v : Int} : v ∈ kinds l ↔ v ∈ l := by
  suffices h : ∀ (l ks : List Int), v ∈ l.foldl (fun ks v => if v ∈ ks then ks else ks ++ [v]) ks ↔ v ∈ ks ∨ v ∈ l by simpa [kinds] using h l []
  intro l
  induction l with
  | nil => simp
  | cons a l ih =>
    intro ks
    rw [List.foldl_cons, ih]
    split
    · rename_i h
      rw [List.mem_cons]
      constructor
      · rintro (h1 | h1)
        · exact .inl h1
        · exact .inr (.inr h1)
      · rintro (h1 | rfl | h1)
        · exact .inl h1
        · exact .inl h
        · exact .inr h1
    · rw [List.mem_append, List.mem_singleton, List.mem_cons, or_assoc]

theorem asls_encV_hi {l : List Int} {k : Nat} (h : k ≤ l.length) : asls 1 (encV l) none (some (.int .i64 k)) none = some (encV (l.take k)) := by
  simp [asls, abound, encV, h]
theorem asls_encV_lo {l : List Int} {k : Nat} (h : k ≤ l.length) : asls 1 (encV l) (some (.int .i64 k)) none none = some (encV (l.drop k)) := by
  simp [asls, abound, encV, h]
  rw [List.take_of_length_le (by simp)]

theorem different_r (l : List Int) (hl : Sh l) : Pure Try.prog 114 [encV l] (.int .i64 (kinds l).length) := by
  refine Pure.of_c2 follows is114 (Nat.le_of_ble_eq_true rfl) ?_
  simp only [b114]
  repeat' (first | refine w_seq ?_ | refine w_ops0 ?_ | refine w_block ?_ | refine a_n ?_ | refine o_nil ?_ | (apply o_val rfl rfl; (focus ((try simp (disch := omega) only [simB0, simB1, SA, SV, SN, SR, SL, pick_bool, Nat.reduceEqDiff, ↓reduceIte, Nat.reduceAdd, Nat.reduceLeDiff, SO, one_encV, one_encVV, Bool.and_self, Bool.false_eq_true, reduceCtorEq, wrap64, aixS_encV, aixS_encVV, alenS_encV, alenS_encVV, Int.toNat_natCast, List.length_map, aixS_msl, getElem?_map_lt, Nat.mul_one]); first | with_reducible rfl | (apply s_ite; (focus omega); with_reducible rfl)))) | refine w_loop ?_)
  refine loop0 (X := Nat) (fun k => [(0, encV l), (3, .int .i64 (kinds (l.take k)).length), (4, .int .i64 k)]) (fun k => k ≤ l.length) (fun k => l.length - k) 0 (Nat.zero_le _) (by simp (disch := omega) only [agr, SA, Nat.reduceEqDiff, ↓reduceIte, wrap64, Int.natCast_add, Int.natCast_one, Int.natCast_zero, and_true, and_self, List.take_zero, show (kinds []).length = 0 from rfl]) ?_
  rintro k hk
  have := kinds_len (l.take k)
  rw [List.length_take] at this
  have hl' : l.length ≤ 1000000000 := hl
  repeat' (first | refine w_seq ?_ | refine w_ops0 ?_ | refine w_ops1 ?_ | refine w_block ?_ | refine w_skip ?_ | refine w_exit ?_ | refine w_ret ?_ | refine a_n ?_ | refine a_x ?_ | refine o_nil ?_ | (apply o_val rfl rfl; (focus ((try simp (disch := omega) only [simB0, simB1, SA, SV, SN, SR, SL, pick_bool, Nat.reduceEqDiff, ↓reduceIte, Nat.reduceAdd, Nat.reduceLeDiff, SO, one_encV, one_encVV, Bool.and_self, Bool.false_eq_true, reduceCtorEq, wrap64, aixS_encV, aixS_encVV, alenS_encV, alenS_encVV, Int.toNat_natCast, List.length_map, aixS_msl, getElem?_map_lt, Nat.mul_one, asls_encV_hi]); first | with_reducible rfl | (apply s_ite; (focus omega); with_reducible rfl)))) | (apply o_callD; (focus ((try simp only [simB0, simB1, SA, SV, SN, SR, SL, pick_bool, Nat.reduceEqDiff, ↓reduceIte, Nat.reduceAdd, Nat.reduceLeDiff, asls_encV_hi]); (try with_reducible rfl); done)); (focus ((try simp only [simB0, simB1, SA, SV, SN, SR, SL, pick_bool, Nat.reduceEqDiff, ↓reduceIte, Nat.reduceAdd, Nat.reduceLeDiff, asls_encV_hi]); (try with_reducible rfl); done)); (focus (first | (exact occurs_c _ _ (Nat.le_trans (by rw [List.length_take]; omega) hl)))); (focus (first | (apply snap_data; repeat' (first | exact snapL_nil | apply snapL_dat | exact Dat.int | exact Dat.bool | exact Dat.str | exact Dat.esl | exact Dat.nilf | exact encV_dat _ | exact encVV_dat _)) | (apply snap_plain; (focus (repeat' (first | exact snapL_nil | apply snapL_dat | exact Dat.int | exact Dat.bool | exact Dat.str | exact encV_dat _ | exact encVV_dat _))); rfl)))) | (apply w_cond; (focus ((try simp only [simB0, simB1, SA, SV, SN, SR, SL, pick_bool, Nat.reduceEqDiff, ↓reduceIte, Nat.reduceAdd, Nat.reduceLeDiff, asls_encV_hi]); (try with_reducible rfl); done)); all_goals (intro _hg; (try simp only [Bool.not_eq_true', Bool.not_eq_false', Bool.not_not, decide_eq_true_eq, decide_eq_false_iff_not] at _hg); try (exfalso; omega))) | (refine e_ends rfl ?_) | (apply r_1; (focus (simp only [rv, simB0, simB1, SA, SV, SN, SR, SL, pick_bool, Nat.reduceEqDiff, ↓reduceIte, Nat.reduceAdd, Nat.reduceLeDiff, asls_encV_hi]; with_reducible rfl))))
  · refine ⟨k + 1, by omega, by omega, ?_, rfl, rfl⟩
    rw [take_succ' (by omega), kinds_snoc, if_neg (by rwa [mem_kinds])]
    simp (disch := omega) only [agr, SA, Nat.reduceEqDiff, ↓reduceIte, wrap64, Int.natCast_add, Int.natCast_one, Int.natCast_zero, and_true, and_self, List.length_append, List.length_singleton]
  · refine ⟨k + 1, by omega, by omega, ?_, rfl, rfl⟩
    rw [take_succ' (by omega), kinds_snoc, if_pos (by rwa [mem_kinds])]
    simp (disch := omega) only [agr, SA, Nat.reduceEqDiff, ↓reduceIte, wrap64, Int.natCast_add, Int.natCast_one, Int.natCast_zero, and_true, and_self]
  · rw [List.take_of_length_le (by omega)]; exact .int _ _

theorem chosen_r (l m : List Int) (hl : Sh l) (hm : Sh m) : Pure Try.prog 132 [encV l, encV m] (.bool (m.all fun v => decide (v ∈ l))) := by
  refine Pure.of_c2 follows is132 (Nat.le_of_ble_eq_true rfl) ?_
  simp only [b132]
  repeat' (first | refine w_seq ?_ | refine w_ops0 ?_ | refine w_block ?_ | refine a_n ?_ | refine o_nil ?_ | (apply o_val rfl rfl; (focus ((try simp (disch := omega) only [simB0, simB1, SA, SV, SN, SR, SL, pick_bool, Nat.reduceEqDiff, ↓reduceIte, Nat.reduceAdd, Nat.reduceLeDiff, SO, one_encV, one_encVV, Bool.and_self, Bool.false_eq_true, reduceCtorEq, wrap64, aixS_encV, aixS_encVV, alenS_encV, alenS_encVV, Int.toNat_natCast, List.length_map, aixS_msl, getElem?_map_lt, Nat.mul_one]); first | with_reducible rfl | (apply s_ite; (focus omega); with_reducible rfl)))) | refine w_loop ?_)
  refine loop0 (X := Nat) (fun k => [(0, encV l), (1, encV m), (5, .int .i64 k)]) (fun k => k ≤ m.length ∧ ∀ i, i < k → m.getD i default ∈ l) (fun k => m.length - k) 0 ⟨Nat.zero_le _, by simp⟩ (by simp (disch := omega) only [agr, SA, Nat.reduceEqDiff, ↓reduceIte, wrap64, Int.natCast_add, Int.natCast_one, Int.natCast_zero, and_true, and_self]) ?_
  rintro k ⟨h1, h2⟩
  repeat' (first | refine w_seq ?_ | refine w_ops0 ?_ | refine w_block ?_ | refine w_skip ?_ | refine w_exit ?_ | refine w_ret ?_ | refine a_n ?_ | refine a_x ?_ | refine a_r ?_ | refine o_nil ?_ | (apply o_val rfl rfl; (focus ((try simp (disch := omega) only [simB0, simB1, SA, SV, SN, SR, SL, pick_bool, Nat.reduceEqDiff, ↓reduceIte, Nat.reduceAdd, Nat.reduceLeDiff, SO, one_encV, one_encVV, Bool.and_self, Bool.false_eq_true, reduceCtorEq, wrap64, aixS_encV, aixS_encVV, alenS_encV, alenS_encVV, Int.toNat_natCast, List.length_map, aixS_msl, getElem?_map_lt, Nat.mul_one]); first | with_reducible rfl | (apply s_ite; (focus omega); with_reducible rfl)))) | (apply o_callD; (focus ((try simp only [simB0, simB1, SA, SV, SN, SR, SL, pick_bool, Nat.reduceEqDiff, ↓reduceIte, Nat.reduceAdd, Nat.reduceLeDiff]); (try with_reducible rfl); done)); (focus ((try simp only [simB0, simB1, SA, SV, SN, SR, SL, pick_bool, Nat.reduceEqDiff, ↓reduceIte, Nat.reduceAdd, Nat.reduceLeDiff]); (try with_reducible rfl); done)); (focus (first | (exact occurs_c _ _ hl))); (focus (first | (apply snap_data; repeat' (first | exact snapL_nil | apply snapL_dat | exact Dat.int | exact Dat.bool | exact Dat.str | exact Dat.esl | exact Dat.nilf | exact encV_dat _ | exact encVV_dat _)) | (apply snap_plain; (focus (repeat' (first | exact snapL_nil | apply snapL_dat | exact Dat.int | exact Dat.bool | exact Dat.str | exact encV_dat _ | exact encVV_dat _))); rfl)))) | (apply w_cond; (focus ((try simp only [simB0, simB1, SA, SV, SN, SR, SL, pick_bool, Nat.reduceEqDiff, ↓reduceIte, Nat.reduceAdd, Nat.reduceLeDiff]); (try with_reducible rfl); done)); all_goals (intro _hg; (try simp only [Bool.not_eq_true', Bool.not_eq_false', Bool.not_not, decide_eq_true_eq, decide_eq_false_iff_not] at _hg); try (exfalso; omega))) | (refine e_ends rfl ?_) | (apply r_1; (focus (simp only [rv, simB0, simB1, SA, SV, SN, SR, SL, pick_bool, Nat.reduceEqDiff, ↓reduceIte, Nat.reduceAdd, Nat.reduceLeDiff]; with_reducible rfl))))
  · refine snap_bool ?_
    symm
    rw [Bool.eq_false_iff, ne_eq, List.all_eq_true]
    intro h
    exact _hg (by simpa using h _ (mem_getD (l := m) (k := k) (by omega)))
  · refine ⟨k + 1, ⟨by omega, fun i hi => ?_⟩, by omega, by simp (disch := omega) only [agr, SA, Nat.reduceEqDiff, ↓reduceIte, wrap64, Int.natCast_add, Int.natCast_one, Int.natCast_zero, and_true, and_self], rfl, rfl⟩
    rcases Nat.lt_succ_iff_lt_or_eq.1 hi with h | rfl
    · exact h2 i h
    · exact _hg
  · refine snap_bool ?_
    symm
    rw [List.all_eq_true]
    intro v hv
    obtain ⟨i, hi, e⟩ := List.getElem_of_mem hv
    have := h2 i (by omega)
    rw [show m.getD i default = v by simp [List.getD, hi, e]] at this
    simpa using this

theorem spread_r (l : List Int) (hl : Sh l) (h0 : l ≠ []) : Pure Try.prog 148 [encV l] (.int .i64 (IntKind.wrap .i64 (l.foldl max (l.getD 0 default) - l.foldl min (l.getD 0 default)))) := by
  refine Pure.of_c2 follows is148 (Nat.le_of_ble_eq_true rfl) ?_
  simp only [b148]
  have hpos := List.length_pos_iff.2 h0
  repeat' (first | refine w_seq ?_ | refine w_ops0 ?_ | refine w_ops1 ?_ | refine w_block ?_ | refine a_n ?_ | refine o_nil ?_ | (apply o_val rfl rfl; (focus ((try simp (disch := omega) only [simB0, simB1, SA, SV, SN, SR, SL, pick_bool, Nat.reduceEqDiff, ↓reduceIte, Nat.reduceAdd, Nat.reduceLeDiff, SO, one_encV, one_encVV, Bool.and_self, Bool.false_eq_true, reduceCtorEq, wrap64, aixS_encV, aixS_encVV, alenS_encV, alenS_encVV, Int.toNat_natCast, List.length_map, aixS_msl, getElem?_map_lt, Nat.mul_one]); first | with_reducible rfl | (apply s_ite; (focus omega); with_reducible rfl)))) | refine w_loop ?_)
  refine loop0 (X := Nat) (fun k => [(0, encV l), (3, .int .i64 ((l.take k).foldl min (l.getD 0 default))), (4, .int .i64 ((l.take k).foldl max (l.getD 0 default))), (5, .int .i64 k)]) (fun k => k ≤ l.length) (fun k => l.length - k) 0 (Nat.zero_le _) (by simp (disch := omega) only [agr, SA, Nat.reduceEqDiff, ↓reduceIte, wrap64, Int.natCast_add, Int.natCast_one, Int.natCast_zero, and_true, and_self, List.take_zero, List.foldl_nil, Int.toNat_zero]) ?_
  rintro k hk
  repeat' (first | refine w_seq ?_ | refine w_ops0 ?_ | refine w_ops1 ?_ | refine w_block ?_ | refine w_skip ?_ | refine w_exit ?_ | refine w_ret ?_ | refine a_n ?_ | refine a_x ?_ | refine o_nil ?_ | (apply o_val rfl rfl; (focus ((try simp (disch := omega) only [simB0, simB1, SA, SV, SN, SR, SL, pick_bool, Nat.reduceEqDiff, ↓reduceIte, Nat.reduceAdd, Nat.reduceLeDiff, SO, one_encV, one_encVV, Bool.and_self, Bool.false_eq_true, reduceCtorEq, wrap64, aixS_encV, aixS_encVV, alenS_encV, alenS_encVV, Int.toNat_natCast, List.length_map, aixS_msl, getElem?_map_lt, Nat.mul_one]); first | with_reducible rfl | (apply s_ite; (focus omega); with_reducible rfl)))) | (apply w_cond; (focus ((try simp only [simB0, simB1, SA, SV, SN, SR, SL, pick_bool, Nat.reduceEqDiff, ↓reduceIte, Nat.reduceAdd, Nat.reduceLeDiff]); (try with_reducible rfl); done)); all_goals (intro _hg; (try simp only [Bool.not_eq_true', Bool.not_eq_false', Bool.not_not, decide_eq_true_eq, decide_eq_false_iff_not] at _hg); try (exfalso; omega))) | (refine e_ends rfl ?_) | (apply r_1; (focus (simp only [rv, simB0, simB1, SA, SV, SN, SR, SL, pick_bool, Nat.reduceEqDiff, ↓reduceIte, Nat.reduceAdd, Nat.reduceLeDiff]; with_reducible rfl))))
  · refine ⟨k + 1, by omega, by omega, ?_, rfl, rfl⟩
    rw [take_succ' (by omega), List.foldl_append, List.foldl_append]
    simp (disch := omega) only [agr, SA, Nat.reduceEqDiff, ↓reduceIte, wrap64, Int.natCast_add, Int.natCast_one, Int.natCast_zero, and_true, and_self, List.foldl_cons, List.foldl_nil]
  · rw [List.take_of_length_le (by omega)]; exact .int _ _

theorem all_r (l : List Int) (v : Int) (hl : Sh l) : Pure Try.prog 131 [encV l, .int .i64 v] (.bool (eqv l v)) := by
  refine Pure.of_c2 follows is131 (Nat.le_of_ble_eq_true rfl) ?_
  simp only [b131]
  have := kinds_len l
  repeat' (first | refine w_seq ?_ | refine w_ops0 ?_ | refine w_ret ?_ | refine a_n ?_ | refine o_nil ?_ | (apply o_val rfl rfl; (focus ((try simp (disch := omega) only [simB0, simB1, SA, SV, SN, SR, SL, pick_bool, Nat.reduceEqDiff, ↓reduceIte, Nat.reduceAdd, Nat.reduceLeDiff, SO, one_encV, one_encVV, Bool.and_self, Bool.false_eq_true, reduceCtorEq, wrap64, aixS_encV, aixS_encVV, alenS_encV, alenS_encVV, Int.toNat_natCast, List.length_map, aixS_msl, getElem?_map_lt, Nat.mul_one]); first | with_reducible rfl | (apply s_ite; (focus omega); with_reducible rfl)))) | (apply o_callD; (focus ((try simp only [simB0, simB1, SA, SV, SN, SR, SL, pick_bool, Nat.reduceEqDiff, ↓reduceIte, Nat.reduceAdd, Nat.reduceLeDiff]); (try with_reducible rfl); done)); (focus ((try simp only [simB0, simB1, SA, SV, SN, SR, SL, pick_bool, Nat.reduceEqDiff, ↓reduceIte, Nat.reduceAdd, Nat.reduceLeDiff]); (try with_reducible rfl); done)); (focus (first | (exact different_r _ hl))); (focus (first | (apply snap_data; repeat' (first | exact snapL_nil | apply snapL_dat | exact Dat.int | exact Dat.bool | exact Dat.str | exact Dat.esl | exact Dat.nilf | exact encV_dat _ | exact encVV_dat _)) | (apply snap_plain; (focus (repeat' (first | exact snapL_nil | apply snapL_dat | exact Dat.int | exact Dat.bool | exact Dat.str | exact encV_dat _ | exact encVV_dat _))); rfl)))) | (apply o_gT; (focus (simp only [simB0, simB1, SA, SV, SN, SR, SL, pick_bool, Nat.reduceEqDiff, ↓reduceIte, Nat.reduceAdd, Nat.reduceLeDiff]; done))) | (apply o_gF; (focus (simp only [simB0, simB1, SA, SV, SN, SR, SL, pick_bool, Nat.reduceEqDiff, ↓reduceIte, Nat.reduceAdd, Nat.reduceLeDiff, or_true, true_or]; done))) | (apply o_gB; (focus ((try simp only [simB0, simB1, SA, SV, SN, SR, SL, pick_bool, Nat.reduceEqDiff, ↓reduceIte, Nat.reduceAdd, Nat.reduceLeDiff]); (try with_reducible rfl); done)); all_goals (intro _hg; (try simp only [Bool.not_true, Bool.not_false, Bool.not_eq_true', Bool.not_eq_false', Bool.not_not, decide_eq_true_eq, decide_eq_false_iff_not] at _hg); try (exfalso; omega))) | (refine e_ends rfl ?_) | (apply r_1; (focus (simp only [rv, simB0, simB1, SA, SV, SN, SR, SL, pick_bool, Nat.reduceEqDiff, ↓reduceIte, Nat.reduceAdd, Nat.reduceLeDiff]; with_reducible rfl))))
  all_goals refine snap_bool ?_
  · unfold eqv; simp; omega
  · unfold eqv; simp; omega

theorem plus_r (n : Int) : Pure Try.prog 53 [.int .i64 n] (.int .i64 (if n < 0 ∨ 1000 < n then 1000 else n + 1)) := by
  refine Pure.of_c2 follows is53 (Nat.le_of_ble_eq_true rfl) ?_
  simp only [b53]
  repeat' (first | refine w_seq ?_ | refine w_ops0 ?_ | refine w_skip ?_ | refine w_ret ?_ | refine a_n ?_ | refine a_r ?_ | refine o_nil ?_ | (apply o_val rfl rfl; (focus ((try simp (disch := omega) only [simB0, simB1, SA, SV, SN, SR, SL, pick_bool, Nat.reduceEqDiff, ↓reduceIte, Nat.reduceAdd, Nat.reduceLeDiff, SO, one_encV, one_encVV, Bool.and_self, Bool.false_eq_true, reduceCtorEq, wrap64, aixS_encV, aixS_encVV, alenS_encV, alenS_encVV, Int.toNat_natCast, List.length_map, aixS_msl, getElem?_map_lt, Nat.mul_one]); first | with_reducible rfl | (apply s_ite; (focus omega); with_reducible rfl)))) | (apply o_gT; (focus (simp only [simB0, simB1, SA, SV, SN, SR, SL, pick_bool, Nat.reduceEqDiff, ↓reduceIte, Nat.reduceAdd, Nat.reduceLeDiff]; done))) | (apply o_gF; (focus (simp only [simB0, simB1, SA, SV, SN, SR, SL, pick_bool, Nat.reduceEqDiff, ↓reduceIte, Nat.reduceAdd, Nat.reduceLeDiff, or_true, true_or]; done))) | (apply o_gB; (focus ((try simp only [simB0, simB1, SA, SV, SN, SR, SL, pick_bool, Nat.reduceEqDiff, ↓reduceIte, Nat.reduceAdd, Nat.reduceLeDiff]); (try with_reducible rfl); done)); all_goals (intro _hg; (try simp only [Bool.not_true, Bool.not_false, Bool.not_eq_true', Bool.not_eq_false', Bool.not_not, decide_eq_true_eq, decide_eq_false_iff_not] at _hg); try (exfalso; omega))) | (apply w_condT; (focus (simp only [simB0, simB1, SA, SV, SN, SR, SL, pick_bool, Nat.reduceEqDiff, ↓reduceIte, Nat.reduceAdd, Nat.reduceLeDiff]; done))) | (apply w_cond; (focus ((try simp only [simB0, simB1, SA, SV, SN, SR, SL, pick_bool, Nat.reduceEqDiff, ↓reduceIte, Nat.reduceAdd, Nat.reduceLeDiff]); (try with_reducible rfl); done)); all_goals (intro _hg; (try simp only [Bool.not_eq_true', Bool.not_eq_false', Bool.not_not, decide_eq_true_eq, decide_eq_false_iff_not] at _hg); try (exfalso; omega))) | (refine e_ends rfl ?_) | (apply r_1; (focus (simp only [rv, simB0, simB1, SA, SV, SN, SR, SL, pick_bool, Nat.reduceEqDiff, ↓reduceIte, Nat.reduceAdd, Nat.reduceLeDiff]; with_reducible rfl))))
  all_goals (refine snap_int ?_)
  · rw [if_pos (by omega)]
  · rw [if_neg (by omega)]
  · rw [if_pos (by omega)]

/-- a kind of the reference -/
def encK (task n ins outs k : Int) : AV := .agg [.int .i64 task, .int .i64 n, .int .i64 ins, .int .i64 outs, .int .i64 k]
def nearB (outs : Int) (l m : List Int) : Bool := if (kinds l).length = 1 then eqv m (IntKind.wrap .i64 (l.getD 0 default * IntKind.wrap .i64 (outs - 1))) else decide (IntKind.wrap .i64 (m.foldl max (m.getD 0 default) - m.foldl min (m.getD 0 default)) ≤ 1)
theorem near_r (a b c d e : Int) (l m : List Int) (hl : Sh l) (hm : Sh m) (h0 : l ≠ []) (h1 : m ≠ []) : Pure Try.prog 130 [encK a b c d e, encV l, encV m] (.bool (nearB d l m)) := by
  refine Pure.of_c2 follows is130 (Nat.le_of_ble_eq_true rfl) ?_
  simp only [b130]
  have := List.length_pos_iff.2 h0
  unfold encK
  repeat' (first | refine w_seq ?_ | refine w_ops0 ?_ | refine w_ops1 ?_ | refine w_skip ?_ | refine w_ret ?_ | refine a_n ?_ | refine a_r ?_ | refine o_nil ?_ | (apply o_val rfl rfl; (focus ((try simp (disch := omega) only [simB0, simB1, SA, SV, SN, SR, SL, pick_bool, Nat.reduceEqDiff, ↓reduceIte, Nat.reduceAdd, Nat.reduceLeDiff, SO, one_encV, one_encVV, Bool.and_self, Bool.false_eq_true, reduceCtorEq, wrap64, aixS_encV, aixS_encVV, alenS_encV, alenS_encVV, Int.toNat_natCast, List.length_map, aixS_msl, getElem?_map_lt, Nat.mul_one]); first | with_reducible rfl | (apply s_ite; (focus omega); with_reducible rfl)))) | (apply o_callD; (focus ((try simp only [simB0, simB1, SA, SV, SN, SR, SL, pick_bool, Nat.reduceEqDiff, ↓reduceIte, Nat.reduceAdd, Nat.reduceLeDiff]); (try with_reducible rfl); done)); (focus ((try simp only [simB0, simB1, SA, SV, SN, SR, SL, pick_bool, Nat.reduceEqDiff, ↓reduceIte, Nat.reduceAdd, Nat.reduceLeDiff]); (try with_reducible rfl); done)); (focus (first | (exact different_r _ hl) | (exact all_r _ _ hm) | (exact spread_r _ hm h1))); (focus (first | (apply snap_data; repeat' (first | exact snapL_nil | apply snapL_dat | exact Dat.int | exact Dat.bool | exact Dat.str | exact Dat.esl | exact Dat.nilf | exact encV_dat _ | exact encVV_dat _)) | (apply snap_plain; (focus (repeat' (first | exact snapL_nil | apply snapL_dat | exact Dat.int | exact Dat.bool | exact Dat.str | exact encV_dat _ | exact encVV_dat _))); rfl)))) | (apply e_box rfl; (focus ((try simp only [simB0, simB1, SA, SV, SN, SR, SL, pick_bool, Nat.reduceEqDiff, ↓reduceIte, Nat.reduceAdd, Nat.reduceLeDiff]); (try with_reducible rfl); done)); (focus ((try simp only [simB0, simB1, SA, SV, SN, SR, SL, pick_bool, Nat.reduceEqDiff, ↓reduceIte, Nat.reduceAdd, Nat.reduceLeDiff]); (try with_reducible rfl); done)); (focus (simp only [SO, Bool.and_self, one_encV, one_encVV]))) | (apply w_cond; (focus ((try simp only [simB0, simB1, SA, SV, SN, SR, SL, pick_bool, Nat.reduceEqDiff, ↓reduceIte, Nat.reduceAdd, Nat.reduceLeDiff]); (try with_reducible rfl); done)); all_goals (intro _hg; (try simp only [Bool.not_eq_true', Bool.not_eq_false', Bool.not_not, decide_eq_true_eq, decide_eq_false_iff_not] at _hg); try (exfalso; omega))) | (refine e_ends rfl ?_) | (apply r_1; (focus (simp only [rv, simB0, simB1, SA, SV, SN, SR, SL, pick_bool, Nat.reduceEqDiff, ↓reduceIte, Nat.reduceAdd, Nat.reduceLeDiff]; with_reducible rfl))))
  all_goals (refine snap_bool ?_; unfold nearB)
  · rw [if_pos (by omega), Int.toNat_zero]
  · rw [if_neg (by omega)]

def honestB (ins : Int) (m : List Int) : Bool := m.all fun x => m.all fun y => !(decide (x < ins) && decide (y < ins) && decide (x ≠ y))
theorem honest_r (a b c d e : Int) (m : List Int) (hm : Sh m) : Pure Try.prog 133 [encK a b c d e, encV m] (.bool (honestB c m)) := by
  refine Pure.of_c2 follows is133 (Nat.le_of_ble_eq_true rfl) ?_
  simp only [b133]
  unfold encK
  repeat' (first | refine w_seq ?_ | refine w_ops0 ?_ | refine w_block ?_ | refine a_n ?_ | refine o_nil ?_ | (apply o_val rfl rfl; (focus ((try simp (disch := omega) only [simB0, simB1, SA, SV, SN, SR, SL, pick_bool, Nat.reduceEqDiff, ↓reduceIte, Nat.reduceAdd, Nat.reduceLeDiff, SO, one_encV, one_encVV, Bool.and_self, Bool.false_eq_true, reduceCtorEq, wrap64, aixS_encV, aixS_encVV, alenS_encV, alenS_encVV, Int.toNat_natCast, List.length_map, aixS_msl, getElem?_map_lt, Nat.mul_one]); first | with_reducible rfl | (apply s_ite; (focus omega); with_reducible rfl)))) | (apply e_box rfl; (focus ((try simp only [simB0, simB1, SA, SV, SN, SR, SL, pick_bool, Nat.reduceEqDiff, ↓reduceIte, Nat.reduceAdd, Nat.reduceLeDiff]); (try with_reducible rfl); done)); (focus ((try simp only [simB0, simB1, SA, SV, SN, SR, SL, pick_bool, Nat.reduceEqDiff, ↓reduceIte, Nat.reduceAdd, Nat.reduceLeDiff]); (try with_reducible rfl); done)); (focus (simp only [SO, Bool.and_self, one_encV, one_encVV]))) | refine w_loop ?_)
  refine loop0 (X := Nat) (fun k => [(1, encV m), (2, .ptr 0 5 0), (5, .int .i64 k)]) (fun k => k ≤ m.length ∧ ∀ i j, j < i → i < k → m.getD i default < c → m.getD j default < c → m.getD i default = m.getD j default) (fun k => m.length - k) 0 ⟨Nat.zero_le _, by simp⟩ (by simp (disch := omega) only [agr, SA, Nat.reduceEqDiff, ↓reduceIte, wrap64, Int.natCast_add, Int.natCast_one, Int.natCast_zero, and_true, and_self, List.length_cons, List.length_nil, Nat.reduceAdd]) ?_
  rintro k ⟨h1, h2⟩
  repeat' (first | refine w_seq ?_ | refine w_ops0 ?_ | refine w_block ?_ | refine w_skip ?_ | refine w_exit ?_ | refine w_ret ?_ | refine a_n ?_ | refine a_x ?_ | refine o_nil ?_ | (apply o_val rfl rfl; (focus ((try simp (disch := omega) only [simB0, simB1, SA, SV, SN, SR, SL, pick_bool, Nat.reduceEqDiff, ↓reduceIte, Nat.reduceAdd, Nat.reduceLeDiff, SO, one_encV, one_encVV, Bool.and_self, Bool.false_eq_true, reduceCtorEq, wrap64, aixS_encV, aixS_encVV, alenS_encV, alenS_encVV, Int.toNat_natCast, List.length_map, aixS_msl, getElem?_map_lt, Nat.mul_one]); first | with_reducible rfl | (apply s_ite; (focus omega); with_reducible rfl)))) | (apply w_cond; (focus ((try simp only [simB0, simB1, SA, SV, SN, SR, SL, pick_bool, Nat.reduceEqDiff, ↓reduceIte, Nat.reduceAdd, Nat.reduceLeDiff]); (try with_reducible rfl); done)); all_goals (intro _hg; (try simp only [Bool.not_eq_true', Bool.not_eq_false', Bool.not_not, decide_eq_true_eq, decide_eq_false_iff_not] at _hg); try (exfalso; omega))) | (refine e_ends rfl ?_) | (apply r_1; (focus (simp only [rv, simB0, simB1, SA, SV, SN, SR, SL, pick_bool, Nat.reduceEqDiff, ↓reduceIte, Nat.reduceAdd, Nat.reduceLeDiff]; with_reducible rfl))) | refine w_loop ?_)
  · refine loop0 (X := Nat) (fun q => [(1, encV m), (2, .ptr 0 5 0), (5, .int .i64 k), (6, .int .i64 q)]) (fun q => q ≤ k ∧ ∀ j, j < q → m.getD k default < c → m.getD j default < c → m.getD k default = m.getD j default) (fun q => k - q) 0 ⟨Nat.zero_le _, by simp⟩ (by simp (disch := omega) only [agr, SA, Nat.reduceEqDiff, ↓reduceIte, wrap64, Int.natCast_add, Int.natCast_one, Int.natCast_zero, and_true, and_self]) ?_
    rintro q ⟨h3, h4⟩
    repeat' (first | refine w_seq ?_ | refine w_ops0 ?_ | refine w_ops1 ?_ | refine w_block ?_ | refine w_skip ?_ | refine w_exit ?_ | refine w_ret ?_ | refine a_n ?_ | refine a_x ?_ | refine a_r ?_ | refine o_nil ?_ | (apply o_val rfl rfl; (focus ((try simp (disch := omega) only [simB0, simB1, SA, SV, SN, SR, SL, pick_bool, Nat.reduceEqDiff, ↓reduceIte, Nat.reduceAdd, Nat.reduceLeDiff, SO, one_encV, one_encVV, Bool.and_self, Bool.false_eq_true, reduceCtorEq, wrap64, aixS_encV, aixS_encVV, alenS_encV, alenS_encVV, Int.toNat_natCast, List.length_map, aixS_msl, getElem?_map_lt, Nat.mul_one]); first | with_reducible rfl | (apply s_ite; (focus omega); with_reducible rfl)))) | (apply o_gT; (focus (simp only [simB0, simB1, SA, SV, SN, SR, SL, pick_bool, Nat.reduceEqDiff, ↓reduceIte, Nat.reduceAdd, Nat.reduceLeDiff]; done))) | (apply o_gF; (focus (simp only [simB0, simB1, SA, SV, SN, SR, SL, pick_bool, Nat.reduceEqDiff, ↓reduceIte, Nat.reduceAdd, Nat.reduceLeDiff, or_true, true_or]; done))) | (apply o_gB; (focus ((try simp only [simB0, simB1, SA, SV, SN, SR, SL, pick_bool, Nat.reduceEqDiff, ↓reduceIte, Nat.reduceAdd, Nat.reduceLeDiff]); (try with_reducible rfl); done)); all_goals (intro _hg; (try simp only [Bool.not_true, Bool.not_false, Bool.not_eq_true', Bool.not_eq_false', Bool.not_not, decide_eq_true_eq, decide_eq_false_iff_not] at _hg); try (exfalso; omega))) | (apply w_condF; (focus (simp only [simB0, simB1, SA, SV, SN, SR, SL, pick_bool, Nat.reduceEqDiff, ↓reduceIte, Nat.reduceAdd, Nat.reduceLeDiff]; done))) | (apply w_cond; (focus ((try simp only [simB0, simB1, SA, SV, SN, SR, SL, pick_bool, Nat.reduceEqDiff, ↓reduceIte, Nat.reduceAdd, Nat.reduceLeDiff]); (try with_reducible rfl); done)); all_goals (intro _hg; (try simp only [Bool.not_eq_true', Bool.not_eq_false', Bool.not_not, decide_eq_true_eq, decide_eq_false_iff_not] at _hg); try (exfalso; omega))) | (refine e_ends rfl ?_) | (apply r_1; (focus (simp only [rv, simB0, simB1, SA, SV, SN, SR, SL, pick_bool, Nat.reduceEqDiff, ↓reduceIte, Nat.reduceAdd, Nat.reduceLeDiff]; with_reducible rfl))))
    · refine snap_bool ?_
      symm
      unfold honestB
      rw [Bool.eq_false_iff, ne_eq, List.all_eq_true]
      intro h
      have := h _ (mem_getD (l := m) (k := k) (by omega))
      rw [List.all_eq_true] at this
      have := this _ (mem_getD (l := m) (k := q) (by omega))
      generalize m.getD k default = x at *
      generalize m.getD q default = y at *
      simp at this
      omega
    all_goals first | (refine ⟨q + 1, ⟨by omega, fun j hj => ?_⟩, by omega, by simp (disch := omega) only [agr, SA, Nat.reduceEqDiff, ↓reduceIte, wrap64, Int.natCast_add, Int.natCast_one, Int.natCast_zero, and_true, and_self], rfl, rfl⟩; rcases Nat.lt_succ_iff_lt_or_eq.1 hj with h | rfl; exact h4 j h; intro q1 q2; omega) | skip
    refine ⟨k + 1, ⟨by omega, fun i j hij hi => ?_⟩, by omega, by simp (disch := omega) only [agr, SA, Nat.reduceEqDiff, ↓reduceIte, wrap64, Int.natCast_add, Int.natCast_one, Int.natCast_zero, and_true, and_self], rfl, rfl⟩
    rcases Nat.lt_succ_iff_lt_or_eq.1 hi with h | rfl
    · exact h2 i j hij h
    · exact h4 j (by omega)
  · refine snap_bool ?_
    symm
    unfold honestB
    simp only [List.all_eq_true]
    intro x hx y hy
    obtain ⟨i, hi, rfl⟩ := List.getElem_of_mem hx
    obtain ⟨j, hj, rfl⟩ := List.getElem_of_mem hy
    have e1 : m.getD i default = m[i] := by simp [List.getD, hi]
    have e2 : m.getD j default = m[j] := by simp [List.getD, hj]
    rw [← e1, ← e2]
    rcases Nat.lt_trichotomy j i with h | rfl | h
    · have := h2 i j h (by omega)
      generalize m.getD i default = x at *
      generalize m.getD j default = y at *
      simp; omega
    · simp
    · have := h2 j i h (by omega)
      generalize m.getD i default = x at *
      generalize m.getD j default = y at *
      simp; omega

end Go.Proofs.Ytcbkggfipdldaaa
