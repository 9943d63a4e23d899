/- P5: contracts of functions and plain laws; for all inputs that the theorems name. -/
import Derived.Test.YtcbkggfipdldaaaXP4
set_option linter.unusedSimpArgs false
set_option linter.unusedVariables false
namespace Go.Proofs.Ytcbkggfipdldaaa
open Go Go.Abs
attribute [local irreducible] awp2 aops2 ains aloop athen bbind obind gbind acond res1 Go.Abs.Fn PCall Go.Abs.Pure SnapArgs SnapL Yl

theorem zcells_int (n : Nat) : zcells (.agg [.int .i64 0]) n = (List.replicate n (0 : Int)).map (AV.int .i64) := by
  induction n with
  | zero => rfl
  | succ n ih => rw [List.replicate_succ, List.map_cons, ← ih]; simp [zcells, List.replicate_succ, AV.cells]

/-- The iterator each(n, v): what is asked of a loop over it. -/
theorem each_it {y n v : Nat} {H : Hp} {nx : Nat} (hn : 1 ≤ n ∧ n ≤ 1000) (hv : 1 ≤ v ∧ v ≤ 1000) (I : Nat → Hp → Nat → Prop) (Q : Hp → Nat → Prop)
    (stab : ∀ k H H' nx' nx'', I k H nx' → nx' ≤ nx'' → nx ≤ nx' → (∀ i, i < nx' → i ≠ nx → H' i = H i) → I k H' nx'')
    (h0 : I 0 H nx)
    (rnd : ∀ k H' nx', k < (every n v).length → I k H' nx' → nx < nx' → H' nx = some (((every n v).getD k []).map (AV.int .i64)) →
      Yl Try.prog y [.msl nx n 1 0 n] H' nx' fun r H'' nx'' => (r = .bool true ∧ I (k + 1) H'' nx'' ∧ nx < nx'' ∧ nx' ≤ nx'' ∧ H'' nx = H' nx) ∨ (r = .bool false ∧ Q H'' nx'')) :
    Abs.Fn Try.prog 113 [.yld y, .iptr [.int .i64 n] 0, .iptr [.int .i64 v] 0] H nx fun _ H' nx' => Q H' nx' ∨ I (every n v).length H' nx' := by
  refine Abs.Fn.of_c2 follows is113 (Nat.le_of_ble_eq_true rfl) ?_
  simp only [b113]
  repeat' (first | refine w_seq ?_ | refine w_ops0 ?_ | (apply o_val rfl rfl; (focus ((try simp (disch := omega) only [simB0, simB1, SA, SV, SN, SR, SL, pick_bool, Nat.reduceEqDiff, ↓reduceIte, Nat.reduceAdd, Nat.reduceLeDiff, SO, one_encV, one_encVV, Bool.and_self, Bool.false_eq_true, reduceCtorEq, wrap64, aixS_encV, aixS_encVV, alenS_encV, alenS_encVV, Int.toNat_natCast, List.length_map, aixS_msl, getElem?_map_lt, Nat.mul_one]); first | with_reducible rfl | (apply s_ite; (focus omega); with_reducible rfl)))))
  refine e_mks rfl (by ((try simp only [simB0, simB1, SA, SV, SN, SR, SL, pick_bool, Nat.reduceEqDiff, ↓reduceIte, Nat.reduceAdd, Nat.reduceLeDiff]); (try with_reducible rfl))) (by ((try simp only [simB0, simB1, SA, SV, SN, SR, SL, pick_bool, Nat.reduceEqDiff, ↓reduceIte, Nat.reduceAdd, Nat.reduceLeDiff]); (try with_reducible rfl))) (by omega) (by omega) (by omega) (by omega) ?_
  repeat' (first | refine w_block ?_ | refine a_n ?_ | refine o_nil ?_ | (apply o_val rfl rfl; (focus ((try simp (disch := omega) only [simB0, simB1, SA, SV, SN, SR, SL, pick_bool, Nat.reduceEqDiff, ↓reduceIte, Nat.reduceAdd, Nat.reduceLeDiff, SO, one_encV, one_encVV, Bool.and_self, Bool.false_eq_true, reduceCtorEq, wrap64, aixS_encV, aixS_encVV, alenS_encV, alenS_encVV, Int.toNat_natCast, List.length_map, aixS_msl, getElem?_map_lt, Nat.mul_one]); first | with_reducible rfl | (apply s_ite; (focus omega); with_reducible rfl)))) | refine w_loop ?_)
  obtain ⟨t, ht⟩ := every_head n v hv.1
  have hrun := run_every n v hv.1
  refine loopI (X := Nat) (fun k => [(0, .yld y), (1, .iptr [.int .i64 n] 0), (2, .iptr [.int .i64 v] 0), (4, .msl nx n 1 0 n)])
    (fun k H' nx' => k < (every n v).length ∧ I k H' nx' ∧ nx < nx' ∧ H' nx = some (((every n v).getD k []).map (AV.int .i64))) (fun k => (every n v).length - k) 0
    ⟨by rw [ht]; simp, stab 0 H _ nx _ h0 (Nat.le_succ _) (Nat.le_refl _) (fun i hi hne => by simp [hupd, hne]), Nat.lt_succ_self _, by rw [hupd_self', zcells_int, ht]; simp⟩ (by simp (disch := omega) only [agr, SA, Nat.reduceEqDiff, ↓reduceIte, wrap64, Int.natCast_add, Int.natCast_one, Int.natCast_zero, and_true, and_self, Int.toNat_natCast, Nat.mul_one]) ?_
  rintro k H1 nx1 ⟨hk, hI, hnx, hH⟩
  repeat' (first | refine w_seq ?_ | refine w_ops0 ?_ | refine w_block ?_ | (apply o_val rfl rfl; (focus ((try simp (disch := omega) only [simB0, simB1, SA, SV, SN, SR, SL, pick_bool, Nat.reduceEqDiff, ↓reduceIte, Nat.reduceAdd, Nat.reduceLeDiff, SO, one_encV, one_encVV, Bool.and_self, Bool.false_eq_true, reduceCtorEq, wrap64, aixS_encV, aixS_encVV, alenS_encV, alenS_encVV, Int.toNat_natCast, List.length_map, aixS_msl, getElem?_map_lt, Nat.mul_one]); first | with_reducible rfl | (apply s_ite; (focus omega); with_reducible rfl)))))
  refine o_yield (by ((try simp only [simB0, simB1, SA, SV, SN, SR, SL, pick_bool, Nat.reduceEqDiff, ↓reduceIte, Nat.reduceAdd, Nat.reduceLeDiff]); (try with_reducible rfl))) (by ((try simp only [simB0, simB1, SA, SV, SN, SR, SL, pick_bool, Nat.reduceEqDiff, ↓reduceIte, Nat.reduceAdd, Nat.reduceLeDiff]); (try with_reducible rfl))) (Yl.mono (rnd k H1 nx1 hk hI hnx hH) ?_)
  rintro r H2 nx2 (⟨rfl, hI2, hnx2, hle, hH2⟩ | ⟨rfl, hQ⟩)
  rotate_left
  · repeat' (first | refine w_ret ?_ | refine a_n ?_ | refine a_r ?_ | refine o_nil ?_ | (apply o_val rfl rfl; (focus ((try simp (disch := omega) only [simB0, simB1, SA, SV, SN, SR, SL, pick_bool, Nat.reduceEqDiff, ↓reduceIte, Nat.reduceAdd, Nat.reduceLeDiff, SO, one_encV, one_encVV, Bool.and_self, Bool.false_eq_true, reduceCtorEq, wrap64, aixS_encV, aixS_encVV, alenS_encV, alenS_encVV, Int.toNat_natCast, List.length_map, aixS_msl, getElem?_map_lt, Nat.mul_one]); first | with_reducible rfl | (apply s_ite; (focus omega); with_reducible rfl)))) | (apply w_condT; (focus (simp only [simB0, simB1, SA, SV, SN, SR, SL, pick_bool, Nat.reduceEqDiff, ↓reduceIte, Nat.reduceAdd, Nat.reduceLeDiff]; done))) | (refine e_ends rfl ?_) | refine r_0 ?_)
    exact .inl hQ
  · rw [hH] at hH2
    repeat' (first | refine w_seq ?_ | refine w_ops0 ?_ | refine w_block ?_ | refine w_skip ?_ | refine a_n ?_ | refine o_nil ?_ | (apply o_val rfl rfl; (focus ((try simp (disch := omega) only [simB0, simB1, SA, SV, SN, SR, SL, pick_bool, Nat.reduceEqDiff, ↓reduceIte, Nat.reduceAdd, Nat.reduceLeDiff, SO, one_encV, one_encVV, Bool.and_self, Bool.false_eq_true, reduceCtorEq, wrap64, aixS_encV, aixS_encVV, alenS_encV, alenS_encVV, Int.toNat_natCast, List.length_map, aixS_msl, getElem?_map_lt, Nat.mul_one]); first | with_reducible rfl | (apply s_ite; (focus omega); with_reducible rfl)))) | (apply w_condF; (focus (simp only [simB0, simB1, SA, SV, SN, SR, SL, pick_bool, Nat.reduceEqDiff, ↓reduceIte, Nat.reduceAdd, Nat.reduceLeDiff]; done))) | refine w_loop ?_)
    have hvl : ((every n v).getD k []).length = n := by
      have : (every n v).getD k [] ∈ every n v := mem_getD (l := every n v) hk
      exact every_len n v _ this
    have hvm : ∀ a ∈ (every n v).getD k [], 0 ≤ a ∧ a < v := every_mem n v _ (mem_getD (l := every n v) hk)
    have hget := run_get _ hrun k hk
    generalize hvec : (every n v).getD k [] = vec at hH2 hvl hvm hget
    refine loopI (X := Nat) (fun j => [(0, .yld y), (1, .iptr [.int .i64 n] 0), (2, .iptr [.int .i64 v] 0), (4, .msl nx n 1 0 n), (5, .int .i64 ((j : Int) - 1))])
      (fun j H' nx' => j ≤ n ∧ I (k + 1) H' nx' ∧ nx < nx' ∧ ∃ c : List Int, H' nx = some (c.map (AV.int .i64)) ∧ c.length = n ∧ c = vec.take j ++ List.replicate (n - j) 0 ∧ vec.drop j = List.replicate (n - j) ((v : Int) - 1)) (fun j => j) n
      ⟨Nat.le_refl _, hI2, hnx2, vec, hH2, hvl, by rw [List.take_of_length_le (by omega)]; simp, by rw [List.drop_eq_nil_of_le (by omega)]; simp⟩ (by simp (disch := omega) only [agr, SA, Nat.reduceEqDiff, ↓reduceIte, wrap64, Int.natCast_add, Int.natCast_one, Int.natCast_zero, and_true, and_self]) ?_
    rintro j H3 nx3 ⟨hj, hI3, hnx3, c, hH3, hc, hcd, hdr⟩
    have hcj : 0 < j → c.getD (j - 1) default = vec.getD (j - 1) default := by
      intro h0
      rw [hcd]
      simp only [List.getD]
      rw [List.getElem?_append_left (by simp; omega), List.getElem?_take, if_pos (by omega)]
    repeat' (first | refine w_seq ?_ | refine w_ops0 ?_ | refine w_ops1 ?_ | refine w_block ?_ | refine w_skip ?_ | refine w_exit ?_ | refine w_ret ?_ | refine a_n ?_ | refine a_x ?_ | refine a_r ?_ | refine o_nil ?_ | (apply o_val rfl rfl; (focus ((try simp (disch := omega) only [simB0, simB1, SA, SV, SN, SR, SL, pick_bool, Nat.reduceEqDiff, ↓reduceIte, Nat.reduceAdd, Nat.reduceLeDiff, SO, one_encV, one_encVV, Bool.and_self, Bool.false_eq_true, reduceCtorEq, wrap64, aixS_encV, aixS_encVV, alenS_encV, alenS_encVV, Int.toNat_natCast, List.length_map, aixS_msl, getElem?_map_lt, Nat.mul_one, hH3, hc]); first | with_reducible rfl | (apply s_ite; (focus omega); with_reducible rfl)))) | (apply e_st rfl; (focus ((try simp only [simB0, simB1, SA, SV, SN, SR, SL, pick_bool, Nat.reduceEqDiff, ↓reduceIte, Nat.reduceAdd, Nat.reduceLeDiff, hH3, hc]); (try with_reducible rfl); done)); (focus ((try simp only [simB0, simB1, SA, SV, SN, SR, SL, pick_bool, Nat.reduceEqDiff, ↓reduceIte, Nat.reduceAdd, Nat.reduceLeDiff, hH3, hc]); (try with_reducible rfl); done)); (focus ((try simp only [simB0, simB1, SA, SV, SN, SR, SL, pick_bool, Nat.reduceEqDiff, ↓reduceIte, Nat.reduceAdd, Nat.reduceLeDiff, hH3, hc]); (try with_reducible rfl); done)); (focus ((try simp only [simB0, simB1, SA, SV, SN, SR, SL, pick_bool, Nat.reduceEqDiff, ↓reduceIte, Nat.reduceAdd, Nat.reduceLeDiff, hH3, hc]); (try with_reducible rfl); done)); (focus (simp only [SO, Bool.and_self, one_encV, one_encVV, hH3, hc])); (focus ((try simp only [SL, Nat.reduceAdd, Nat.reduceMul, List.length_map]); first | done | omega)); (focus ((try simp only [SL, Nat.reduceAdd, Nat.reduceMul, List.length_map]); first | done | omega)); (focus ((try simp only [SL, Nat.reduceAdd, Nat.reduceMul, List.length_map]); first | done | omega))) | (apply o_gT; (focus (simp only [simB0, simB1, SA, SV, SN, SR, SL, pick_bool, Nat.reduceEqDiff, ↓reduceIte, Nat.reduceAdd, Nat.reduceLeDiff, hH3, hc]; done))) | (apply o_gF; (focus (simp only [simB0, simB1, SA, SV, SN, SR, SL, pick_bool, Nat.reduceEqDiff, ↓reduceIte, Nat.reduceAdd, Nat.reduceLeDiff, or_true, true_or, hH3, hc]; done))) | (apply o_gB; (focus ((try simp only [simB0, simB1, SA, SV, SN, SR, SL, pick_bool, Nat.reduceEqDiff, ↓reduceIte, Nat.reduceAdd, Nat.reduceLeDiff, hH3, hc]); (try with_reducible rfl); done)); all_goals (intro _hg; (try simp only [Bool.not_true, Bool.not_false, Bool.not_eq_true', Bool.not_eq_false', Bool.not_not, decide_eq_true_eq, decide_eq_false_iff_not] at _hg); try (exfalso; omega))) | (apply w_condF; (focus (simp only [simB0, simB1, SA, SV, SN, SR, SL, pick_bool, Nat.reduceEqDiff, ↓reduceIte, Nat.reduceAdd, Nat.reduceLeDiff, hH3, hc]; done))) | (apply w_cond; (focus ((try simp only [simB0, simB1, SA, SV, SN, SR, SL, pick_bool, Nat.reduceEqDiff, ↓reduceIte, Nat.reduceAdd, Nat.reduceLeDiff, hH3, hc]); (try with_reducible rfl); done)); all_goals (intro _hg; (try simp only [Bool.not_eq_true', Bool.not_eq_false', Bool.not_not, decide_eq_true_eq, decide_eq_false_iff_not] at _hg); try (exfalso; omega))) | (refine e_ends rfl ?_) | refine r_0 ?_)
    · have hj0 : 0 < j := by omega
      have ht1 : ((j : Int) - 1).toNat = j - 1 := by omega
      rw [ht1] at _hg ⊢
      refine ⟨j - 1, by omega, ⟨by omega, stab _ _ _ _ _ hI3 (Nat.le_refl _) (by omega) (fun i _ hne => by simp [hupd, hne]), hnx3, c.set (j - 1) 0, ?_, by simpa using hc, ?_, ?_⟩, by simp (disch := omega) only [agr, SA, Nat.reduceEqDiff, ↓reduceIte, wrap64, Int.natCast_add, Int.natCast_one, Int.natCast_zero, and_true, and_self, show ((j - 1 : Nat) : Int) = (j : Int) - 1 by omega]⟩
      · rw [hupd_self', lput_map (by omega)]
      · rw [hcd, show n - (j - 1) = (n - j) + 1 by omega, List.replicate_succ]
        have e : vec.take j = vec.take (j - 1) ++ [vec.getD (j - 1) default] := by
          have := take_succ' (l := vec) (k := j - 1) (by omega); rwa [show j - 1 + 1 = j by omega] at this
        rw [e, List.append_assoc, List.set_append_right _ _ (by simp; omega)]
        simp
        rw [show j - 1 - min (j - 1) vec.length = 0 by omega]; rfl
      · have := drop_cons (l := vec) (k := j - 1) (by omega)
        rw [this, show j - 1 + 1 = j by omega, hdr, show n - (j - 1) = (n - j) + 1 by omega, List.replicate_succ, ← hcj hj0, _hg]
    · rename_i _ hg1
      have hj0 : 0 < j := by omega
      have ht1 : ((j : Int) - 1).toNat = j - 1 := by omega
      rw [ht1] at hg1 ⊢
      rw [hcj hj0] at hg1 ⊢
      have hd := hvm _ (mem_getD (l := vec) (k := j - 1) (by omega))
      have hsplit : vec = vec.take (j - 1) ++ vec.getD (j - 1) default :: List.replicate (n - j) ((v : Int) - 1) := by
        rw [← hdr]
        have := drop_cons (l := vec) (k := j - 1) (by omega)
        rw [show j - 1 + 1 = j by omega] at this
        rw [← this, List.take_append_drop]
      have hnext := incF_mid (v := v) (by omega) (vec.getD (j - 1) default) (by omega) (n - j) (vec.take (j - 1))
      rw [← hsplit, hget] at hnext
      split at hnext
      case isFalse => cases hnext
      case isTrue hk1 =>
      injection hnext with hnext
      refine ⟨k + 1, by omega, ⟨hk1, stab _ _ _ _ _ hI3 (Nat.le_refl _) (by omega) (fun i _ hne => by simp [hupd, hne]), hnx3, ?_⟩, by simp (disch := omega) only [agr, SA, Nat.reduceEqDiff, ↓reduceIte, wrap64, Int.natCast_add, Int.natCast_one, Int.natCast_zero, and_true, and_self]⟩
      rw [hupd_self', wrap64 (by omega) (by omega), lput_map (by omega), hnext, hcd]
      have e : vec.take j = vec.take (j - 1) ++ [vec.getD (j - 1) default] := by
        have := take_succ' (l := vec) (k := j - 1) (by omega); rwa [show j - 1 + 1 = j by omega] at this
      rw [e, List.append_assoc, List.set_append_right _ _ (by simp; omega)]
      congr 2
      simp
      rw [show j - 1 - min (j - 1) vec.length = 0 by omega]; rfl
    · have hj0 : j = 0 := by omega
      subst hj0
      right
      rw [Nat.sub_zero, List.drop_zero] at hdr
      rw [hdr, incF_last (by omega)] at hget
      split at hget
      · cases hget
      · rw [show (every n v).length = k + 1 by omega]; exact hI3

end Go.Proofs.Ytcbkggfipdldaaa
