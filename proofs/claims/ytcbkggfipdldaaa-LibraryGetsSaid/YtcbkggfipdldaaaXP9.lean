/- P9: contracts of functions and plain laws; for all inputs that the theorems name. -/
import Derived.Test.YtcbkggfipdldaaaXP8
set_option linter.unusedSimpArgs false
set_option linter.unusedVariables false
namespace Go.Proofs.Ytcbkggfipdldaaa
open Go Go.Abs
attribute [local irreducible] awp2 aops2 ains aloop athen bbind obind gbind acond res1 Go.Abs.Fn PCall Go.Abs.Pure SnapArgs SnapL Yl

theorem asls_lo {b n i : Nat} (h : i < n) : asls 1 (.msl b n 1 0 n) (some (.int .i64 i)) none none = some (.msl b n 1 i (n - i)) := by
  simp [asls, abound]; omega
theorem asls_hi {b n i : Nat} (h : i ≤ n) (h0 : 0 < n) : asls 1 (.msl b n 1 0 n) none (some (.int .i64 i)) none = some (.msl b n 1 0 i) := by
  simp [asls, abound]; omega
theorem aclear_int {b n i : Nat} {H : Hp} {c : List Int} (h : i < n) (hb : H b = some (c.map (AV.int .i64))) (hc : c.length = n) :
    aclear 1 (.int .i64 0) (.msl b n 1 i (n - i)) H = some (hupd H b ((c.take i ++ List.replicate (n - i) 0).map (AV.int .i64))) := by
  unfold aclear
  have hz : zcells (.int .i64 0) (n - i) = (List.replicate (n - i) (0 : Int)).map (AV.int .i64) := by rw [← zcells_int]; rfl
  dsimp only
  rw [if_neg (by omega), hb]
  dsimp only
  rw [if_pos ⟨by simpa using hc, rfl, rfl, rfl, by omega⟩, hz]
  congr 2
  unfold lput
  rw [List.length_map, List.length_replicate, List.drop_eq_nil_of_le (by simp; omega), List.append_nil, List.map_append, List.map_take]

theorem snap_pre {H : Hp} {b n m : Nat} {c l : List Int} (hb : H b = some (c.map (AV.int .i64))) (hc : c.length = n) (hm : m ≤ n) (h : c.take m = l) : Snap H (.msl b n 1 0 m) (encV l) := by
  subst h
  refine snap_msl hb (by simp [hc]) (by omega) (by simp; omega) (fun y hy => by obtain ⟨n, _, rfl⟩ := List.mem_map.1 hy; rfl) (fun i a c' ha hc' => ?_)
  rw [Nat.zero_add, List.getElem?_map] at ha
  rw [List.getElem?_map, List.getElem?_take] at hc'
  split at hc'
  · rw [ha] at hc'; cases hc'
    simp only [Option.map_eq_some_iff] at ha
    obtain ⟨q, _, rfl⟩ := ha
    exact .int _ _
  · cases hc'

/-- DeleteFunc -/
theorem delete_c (l : List Int) (p : Int → Bool) (g : Nat) (caps : List AV) (hd : ∀ x ∈ caps, Dat x) (hg : ∀ x ∈ l, Pure Try.prog g (.int .i64 x :: caps) (.bool (p x))) (hl : Sh l) (b n : Nat) (hn : l.length = n) (H : Hp) (nx : Nat) (hb : H b = some (l.map (AV.int .i64))) :
    Abs.Fn Try.prog 55 [.msl b n 1 0 n, .func g caps] H nx fun r H' nx' => nx' = nx ∧ (∀ x, x ≠ b → H' x = H x) ∧ ∃ (c : List Int) (m : Nat), r = .msl b n 1 0 m ∧ H' b = some (c.map (AV.int .i64)) ∧ c.length = n ∧ m ≤ n ∧ c.take m = l.filter fun x => !p x := by
  refine Abs.Fn.of_c2 follows is55 (Nat.le_of_ble_eq_true rfl) ?_
  simp only [b55]
  refine w_seq ?_
  repeat' (first | refine w_ops0 ?_ | refine a_n ?_ | refine o_nil ?_ | (apply o_val rfl rfl; (focus ((try simp (disch := omega) only [simB0, simB1, SA, SV, SN, SR, SL, pick_bool, Nat.reduceEqDiff, ↓reduceIte, Nat.reduceAdd, Nat.reduceLeDiff, SO, one_encV, one_encVV, Bool.and_self, Bool.false_eq_true, reduceCtorEq, wrap64, aixS_encV, aixS_encVV, alenS_encV, alenS_encVV, Int.toNat_natCast, List.length_map, aixS_msl, getElem?_map_lt, Nat.mul_one]); first | with_reducible rfl | (apply s_ite; (focus omega); with_reducible rfl)))))
  refine w_seq ?_
  repeat' (first | refine w_ops0 ?_ | (apply o_val rfl rfl; (focus ((try simp (disch := omega) only [simB0, simB1, SA, SV, SN, SR, SL, pick_bool, Nat.reduceEqDiff, ↓reduceIte, Nat.reduceAdd, Nat.reduceLeDiff, SO, one_encV, one_encVV, Bool.and_self, Bool.false_eq_true, reduceCtorEq, wrap64, aixS_encV, aixS_encVV, alenS_encV, alenS_encVV, Int.toNat_natCast, List.length_map, aixS_msl, getElem?_map_lt, Nat.mul_one]); first | with_reducible rfl | (apply s_ite; (focus omega); with_reducible rfl)))))
  refine o_callP (by ((try simp only [simB0, simB1, SA, SV, SN, SR, SL, pick_bool, Nat.reduceEqDiff, ↓reduceIte, Nat.reduceAdd, Nat.reduceLeDiff]); (try with_reducible rfl))) (by ((try simp only [simB0, simB1, SA, SV, SN, SR, SL, pick_bool, Nat.reduceEqDiff, ↓reduceIte, Nat.reduceAdd, Nat.reduceLeDiff]); (try with_reducible rfl))) (indexF_c l p g caps hd hg hl) (snap_plain (snapL_cons (snap_row hb rfl hn) (snapL_cons (Dat.func hd H) snapL_nil)) rfl) ?_
  repeat' (first | refine a_n ?_ | refine o_nil ?_ | (apply o_val rfl rfl; (focus ((try simp (disch := omega) only [simB0, simB1, SA, SV, SN, SR, SL, pick_bool, Nat.reduceEqDiff, ↓reduceIte, Nat.reduceAdd, Nat.reduceLeDiff, SO, one_encV, one_encVV, Bool.and_self, Bool.false_eq_true, reduceCtorEq, wrap64, aixS_encV, aixS_encVV, alenS_encV, alenS_encVV, Int.toNat_natCast, List.length_map, aixS_msl, getElem?_map_lt, Nat.mul_one]); first | with_reducible rfl | (apply s_ite; (focus omega); with_reducible rfl)))))
  refine w_seqC (fun T H' nx' => H' = H ∧ nx' = nx ∧ T 0 = .msl b n 1 0 n ∧ T 1 = .func g caps ∧ T 5 = .int .i64 (idxF l p) ∧ idxF l p ≠ -1) ?_ ?_
  · repeat' (first | refine w_seq ?_ | refine w_ops0 ?_ | refine w_skip ?_ | refine w_ret ?_ | refine a_n ?_ | refine a_r ?_ | refine o_nil ?_ | (apply o_val rfl rfl; (focus ((try simp (disch := omega) only [simB0, simB1, SA, SV, SN, SR, SL, pick_bool, Nat.reduceEqDiff, ↓reduceIte, Nat.reduceAdd, Nat.reduceLeDiff, SO, one_encV, one_encVV, Bool.and_self, Bool.false_eq_true, reduceCtorEq, wrap64, aixS_encV, aixS_encVV, alenS_encV, alenS_encVV, Int.toNat_natCast, List.length_map, aixS_msl, getElem?_map_lt, Nat.mul_one, hb]); first | with_reducible rfl | (apply s_ite; (focus omega); with_reducible rfl)))) | (apply w_cond; (focus ((try simp only [simB0, simB1, SA, SV, SN, SR, SL, pick_bool, Nat.reduceEqDiff, ↓reduceIte, Nat.reduceAdd, Nat.reduceLeDiff, hb]); (try with_reducible rfl); done)); all_goals (intro _hg; (try simp only [Bool.not_eq_true', Bool.not_eq_false', Bool.not_not, decide_eq_true_eq, decide_eq_false_iff_not] at _hg); try (exfalso; omega))) | (refine e_ends rfl ?_) | (apply r_1; (focus (simp only [rv, simB0, simB1, SA, SV, SN, SR, SL, pick_bool, Nat.reduceEqDiff, ↓reduceIte, Nat.reduceAdd, Nat.reduceLeDiff, hb]; with_reducible rfl))))
    · refine ⟨rfl, fun _ _ => rfl, l, n, rfl, hb, hn, Nat.le_refl _, ?_⟩
      unfold idxF at _hg
      split at _hg
      · omega
      · rename_i h
        rw [List.take_of_length_le (by omega), List.filter_eq_self.2]
        intro x hx
        simp only [Bool.not_eq_true, List.any_eq_false] at h
        simp [h x hx]
    · exact ⟨rfl, rfl, rfl, rfl, rfl, _hg⟩
  · rintro T H nx ⟨rfl, rfl, t0, t1, t5, hne⟩
    obtain ⟨k, hk, hk1, hk2, hk3⟩ : ∃ k : Nat, idxF l p = k ∧ k < l.length ∧ p (l.getD k default) = true ∧ ∀ i, i < k → p (l.getD i default) = false := by
      unfold idxF at hne ⊢
      split at hne
      · rename_i h
        rw [if_pos h]
        have hlt : l.findIdx p < l.length := List.findIdx_lt_length.2 (by simpa [List.any_eq_true] using h)
        refine ⟨_, rfl, hlt, ?_, fun i hi => ?_⟩
        · have := List.findIdx_getElem (w := hlt)
          simpa [List.getD, hlt] using this
        · have := List.not_of_lt_findIdx hi
          simpa [List.getD, show i < l.length by omega] using this
      · exact absurd rfl hne
    rw [hk] at t5
    refine w_seq (w_seq ?_)
    repeat' (first | refine w_ops0 ?_ | refine a_n ?_ | refine o_nil ?_ | (apply o_val rfl rfl; (focus ((try simp (disch := omega) only [simB0, simB1, SA, SV, SN, SR, SL, pick_bool, Nat.reduceEqDiff, ↓reduceIte, Nat.reduceAdd, Nat.reduceLeDiff, SO, one_encV, one_encVV, Bool.and_self, Bool.false_eq_true, reduceCtorEq, wrap64, aixS_encV, aixS_encVV, alenS_encV, alenS_encVV, Int.toNat_natCast, List.length_map, aixS_msl, getElem?_map_lt, Nat.mul_one, t0, t1, t5]); first | with_reducible rfl | (apply s_ite; (focus omega); with_reducible rfl)))))
    refine w_block (w_loop ?_)
    refine loopI (X := List Int × Nat × Nat) (fun x => [(0, .msl b n 1 0 n), (1, .func g caps), (5, .int .i64 x.2.1), (6, .int .i64 x.2.2)])
      (fun x H' nx' => nx' = nx ∧ (∀ y, y ≠ b → H' y = H y) ∧ H' b = some (x.1.map (AV.int .i64)) ∧ x.1.length = n ∧ x.2.1 < x.2.2 ∧ x.2.2 ≤ n ∧ x.1.take x.2.1 = (l.take x.2.2).filter (fun x => !p x) ∧ x.1.drop x.2.2 = l.drop x.2.2) (fun x => n - x.2.2) (l, k, k + 1)
      ⟨rfl, fun _ _ => rfl, hb, hn, Nat.lt_succ_self _, by show k + 1 ≤ n; omega, ?_, rfl⟩ (by simp (disch := omega) only [agr, SA, Nat.reduceEqDiff, ↓reduceIte, wrap64, Int.natCast_add, Int.natCast_one, Int.natCast_zero, and_true, and_self, t0, t1, t5]) ?_
    · rw [take_succ' hk1, List.filter_append, List.filter_cons]
      simp only [hk2, Bool.not_true, Bool.false_eq_true, if_false, List.filter_nil, List.append_nil]
      symm
      rw [List.filter_eq_self]
      intro x hx
      obtain ⟨i, hi, e⟩ := List.getElem_of_mem hx
      rw [List.length_take] at hi
      have := hk3 i (by omega)
      rw [show l.getD i default = x by rw [← e]; simp [List.getD, show i < l.length by omega]] at this
      simp [this]
    · rintro ⟨c, i, j⟩ H' nx' ⟨rfl, e1, e2, e3, e4, e5, e6, e7⟩
      dsimp only at e2 e3 e4 e5 e6 e7 ⊢
      have hgj : j < n → c.getD j default = l.getD j default := fun h => by
        have : (c.drop j).getD 0 default = (l.drop j).getD 0 default := by rw [e7]
        simpa [List.getD] using this
      repeat' (first | refine w_seq ?_ | refine w_ops0 ?_ | refine w_block ?_ | refine w_skip ?_ | refine w_exit ?_ | refine a_n ?_ | refine a_x ?_ | refine o_nil ?_ | (apply o_val rfl rfl; (focus ((try simp (disch := omega) only [simB0, simB1, SA, SV, SN, SR, SL, pick_bool, Nat.reduceEqDiff, ↓reduceIte, Nat.reduceAdd, Nat.reduceLeDiff, SO, one_encV, one_encVV, Bool.and_self, Bool.false_eq_true, reduceCtorEq, wrap64, aixS_encV, aixS_encVV, alenS_encV, alenS_encVV, Int.toNat_natCast, List.length_map, aixS_msl, getElem?_map_lt, Nat.mul_one, e2, e3]); first | with_reducible rfl | (apply s_ite; (focus omega); with_reducible rfl)))) | (apply w_cond; (focus ((try simp only [simB0, simB1, SA, SV, SN, SR, SL, pick_bool, Nat.reduceEqDiff, ↓reduceIte, Nat.reduceAdd, Nat.reduceLeDiff, e2, e3]); (try with_reducible rfl); done)); all_goals (intro _hg; (try simp only [Bool.not_eq_true', Bool.not_eq_false', Bool.not_not, decide_eq_true_eq, decide_eq_false_iff_not] at _hg); try (exfalso; omega))))
      · rw [hgj (by omega)]
        refine o_callP (by ((try simp only [simB0, simB1, SA, SV, SN, SR, SL, pick_bool, Nat.reduceEqDiff, ↓reduceIte, Nat.reduceAdd, Nat.reduceLeDiff]); (try with_reducible rfl))) (by ((try simp only [simB0, simB1, SA, SV, SN, SR, SL, pick_bool, Nat.reduceEqDiff, ↓reduceIte, Nat.reduceAdd, Nat.reduceLeDiff]); (try with_reducible rfl))) (hg _ (mem_getD (by omega))) (snap_plain (snapL_cons (.int _ _) (snapL_datL hd)) rfl) ?_
        repeat' (first | refine w_seq ?_ | refine w_ops0 ?_ | refine w_skip ?_ | refine a_n ?_ | refine o_nil ?_ | (apply o_val rfl rfl; (focus ((try simp (disch := omega) only [simB0, simB1, SA, SV, SN, SR, SL, pick_bool, Nat.reduceEqDiff, ↓reduceIte, Nat.reduceAdd, Nat.reduceLeDiff, SO, one_encV, one_encVV, Bool.and_self, Bool.false_eq_true, reduceCtorEq, wrap64, aixS_encV, aixS_encVV, alenS_encV, alenS_encVV, Int.toNat_natCast, List.length_map, aixS_msl, getElem?_map_lt, Nat.mul_one, e2, e3]); first | with_reducible rfl | (apply s_ite; (focus omega); with_reducible rfl)))) | (apply e_st rfl; (focus ((try simp only [simB0, simB1, SA, SV, SN, SR, SL, pick_bool, Nat.reduceEqDiff, ↓reduceIte, Nat.reduceAdd, Nat.reduceLeDiff, e2, e3]); (try with_reducible rfl); done)); (focus ((try simp only [simB0, simB1, SA, SV, SN, SR, SL, pick_bool, Nat.reduceEqDiff, ↓reduceIte, Nat.reduceAdd, Nat.reduceLeDiff, e2, e3]); (try with_reducible rfl); done)); (focus ((try simp only [simB0, simB1, SA, SV, SN, SR, SL, pick_bool, Nat.reduceEqDiff, ↓reduceIte, Nat.reduceAdd, Nat.reduceLeDiff, e2, e3]); (try with_reducible rfl); done)); (focus ((try simp only [simB0, simB1, SA, SV, SN, SR, SL, pick_bool, Nat.reduceEqDiff, ↓reduceIte, Nat.reduceAdd, Nat.reduceLeDiff, e2, e3]); (try with_reducible rfl); done)); (focus (simp only [SO, Bool.and_self, one_encV, one_encVV, e2, e3])); (focus ((try simp only [SL, Nat.reduceAdd, Nat.reduceMul, List.length_map]); first | done | omega)); (focus ((try simp only [SL, Nat.reduceAdd, Nat.reduceMul, List.length_map]); first | done | omega)); (focus ((try simp only [SL, Nat.reduceAdd, Nat.reduceMul, List.length_map]); first | done | omega))) | (apply w_cond; (focus ((try simp only [simB0, simB1, SA, SV, SN, SR, SL, pick_bool, Nat.reduceEqDiff, ↓reduceIte, Nat.reduceAdd, Nat.reduceLeDiff, e2, e3]); (try with_reducible rfl); done)); all_goals (intro _hg; (try simp only [Bool.not_eq_true', Bool.not_eq_false', Bool.not_not, decide_eq_true_eq, decide_eq_false_iff_not] at _hg); try (exfalso; omega))))
        · refine ⟨(c.set i (l.getD j default), i + 1, j + 1), by dsimp only; omega, ⟨rfl, fun y hy => by rw [hupd_ne hy, e1 y hy], ?_, by simpa using e3, by dsimp only; omega, by dsimp only; omega, ?_, ?_⟩, by simp (disch := omega) only [agr, SA, Nat.reduceEqDiff, ↓reduceIte, wrap64, Int.natCast_add, Int.natCast_one, Int.natCast_zero, and_true, and_self]⟩
          · rw [hupd_self', lput_map (by omega)]
          · dsimp only
            rw [take_succ' (l := l) (by omega), List.filter_append, ← e6, List.filter_cons, List.filter_nil, _hg, if_pos (by rfl), take_succ' (by simp; omega)]
            rw [List.take_set_of_le (Nat.le_refl _), List.getD_eq_getElem?_getD, List.getElem?_set_self (by omega)]; rfl
          · dsimp only
            rw [List.drop_set_of_lt (by omega)]
            have : (c.drop j).drop 1 = (l.drop j).drop 1 := by rw [e7]
            simpa using this
        · refine ⟨(c, i, j + 1), by dsimp only; omega, ⟨rfl, e1, e2, e3, by dsimp only; omega, by dsimp only; omega, ?_, ?_⟩, by simp (disch := omega) only [agr, SA, Nat.reduceEqDiff, ↓reduceIte, wrap64, Int.natCast_add, Int.natCast_one, Int.natCast_zero, and_true, and_self]⟩
          · dsimp only
            rw [take_succ' (l := l) (by omega), List.filter_append, ← e6, List.filter_cons, List.filter_nil, _hg]
            simp
          · dsimp only
            have : (c.drop j).drop 1 = (l.drop j).drop 1 := by rw [e7]
            simpa using this
      · repeat' (first | (apply o_val rfl rfl; (focus ((try simp (disch := omega) only [simB0, simB1, SA, SV, SN, SR, SL, pick_bool, Nat.reduceEqDiff, ↓reduceIte, Nat.reduceAdd, Nat.reduceLeDiff, SO, one_encV, one_encVV, Bool.and_self, Bool.false_eq_true, reduceCtorEq, wrap64, aixS_encV, aixS_encVV, alenS_encV, alenS_encVV, Int.toNat_natCast, List.length_map, aixS_msl, getElem?_map_lt, Nat.mul_one, e2, e3, asls_lo, asls_hi]); first | with_reducible rfl | (apply s_ite; (focus omega); with_reducible rfl)))))
        refine o_clr (by ((try simp only [simB0, simB1, SA, SV, SN, SR, SL, pick_bool, Nat.reduceEqDiff, ↓reduceIte, Nat.reduceAdd, Nat.reduceLeDiff]); (try with_reducible rfl)); exact aclear_int (by omega) e2 e3) ?_
        repeat' (first | refine w_seq ?_ | refine w_ops0 ?_ | refine w_ret ?_ | refine a_n ?_ | refine o_nil ?_ | (apply o_val rfl rfl; (focus ((try simp (disch := omega) only [simB0, simB1, SA, SV, SN, SR, SL, pick_bool, Nat.reduceEqDiff, ↓reduceIte, Nat.reduceAdd, Nat.reduceLeDiff, SO, one_encV, one_encVV, Bool.and_self, Bool.false_eq_true, reduceCtorEq, wrap64, aixS_encV, aixS_encVV, alenS_encV, alenS_encVV, Int.toNat_natCast, List.length_map, aixS_msl, getElem?_map_lt, Nat.mul_one, e2, e3, asls_lo, asls_hi]); first | with_reducible rfl | (apply s_ite; (focus omega); with_reducible rfl)))) | (refine e_ends rfl ?_) | (apply r_1; (focus (simp only [rv, simB0, simB1, SA, SV, SN, SR, SL, pick_bool, Nat.reduceEqDiff, ↓reduceIte, Nat.reduceAdd, Nat.reduceLeDiff, e2, e3, asls_lo, asls_hi]; with_reducible rfl))))
        refine ⟨rfl, fun x hx => by rw [hupd_ne hx, e1 x hx], _, i, rfl, hupd_self', by simp; omega, by omega, ?_⟩
        rw [List.take_of_length_le (i := j) (by omega)] at e6
        rw [← e6, List.take_append_of_le_length (by simp; omega), List.take_take, Nat.min_self]

/-- what a crusader allows -/
theorem crusader1_c (v : Int) (l m : List Int) (hm : Sh m) (h0 : m ≠ []) : Pure Try.prog 54 [encV l, encV m, .iptr [.int .i64 v] 0] (.bool (decide ((kinds (m.filter fun x => !decide (x = v))).length ≤ 1))) := by
  refine Pure.of_c2 follows is54 (Nat.le_of_ble_eq_true rfl) ?_
  simp only [b54]
  refine w_seq ?_
  repeat' (first | refine w_ops0 ?_ | refine a_n ?_ | refine o_nil ?_ | (apply o_val rfl rfl; (focus ((try simp (disch := omega) only [simB0, simB1, SA, SV, SN, SR, SL, pick_bool, Nat.reduceEqDiff, ↓reduceIte, Nat.reduceAdd, Nat.reduceLeDiff, SO, one_encV, one_encVV, Bool.and_self, Bool.false_eq_true, reduceCtorEq, wrap64, aixS_encV, aixS_encVV, alenS_encV, alenS_encVV, Int.toNat_natCast, List.length_map, aixS_msl, getElem?_map_lt, Nat.mul_one]); first | with_reducible rfl | (apply s_ite; (focus omega); with_reducible rfl)))))
  refine w_seq ?_
  repeat' (first | refine w_ops0 ?_ | (apply o_val rfl rfl; (focus ((try simp (disch := omega) only [simB0, simB1, SA, SV, SN, SR, SL, pick_bool, Nat.reduceEqDiff, ↓reduceIte, Nat.reduceAdd, Nat.reduceLeDiff, SO, one_encV, one_encVV, Bool.and_self, Bool.false_eq_true, reduceCtorEq, wrap64, aixS_encV, aixS_encVV, alenS_encV, alenS_encVV, Int.toNat_natCast, List.length_map, aixS_msl, getElem?_map_lt, Nat.mul_one]); first | with_reducible rfl | (apply s_ite; (focus omega); with_reducible rfl)))))
  refine o_call (by ((try simp only [simB0, simB1, SA, SV, SN, SR, SL, pick_bool, Nat.reduceEqDiff, ↓reduceIte, Nat.reduceAdd, Nat.reduceLeDiff]); (try with_reducible rfl))) (Abs.Fn.mono (by ((try simp only [simB0, simB1, SA, SV, SN, SR, SL, pick_bool, Nat.reduceEqDiff, ↓reduceIte, Nat.reduceAdd, Nat.reduceLeDiff]); (try with_reducible rfl)); exact cloneM_c m hm h0 _ _) ?_)
  rintro _ _ _ ⟨rfl, rfl, rfl⟩
  repeat' (first | (apply o_val rfl rfl; (focus ((try simp (disch := omega) only [simB0, simB1, SA, SV, SN, SR, SL, pick_bool, Nat.reduceEqDiff, ↓reduceIte, Nat.reduceAdd, Nat.reduceLeDiff, SO, one_encV, one_encVV, Bool.and_self, Bool.false_eq_true, reduceCtorEq, wrap64, aixS_encV, aixS_encVV, alenS_encV, alenS_encVV, Int.toNat_natCast, List.length_map, aixS_msl, getElem?_map_lt, Nat.mul_one]); first | with_reducible rfl | (apply s_ite; (focus omega); with_reducible rfl)))))
  refine o_call (by ((try simp only [simB0, simB1, SA, SV, SN, SR, SL, pick_bool, Nat.reduceEqDiff, ↓reduceIte, Nat.reduceAdd, Nat.reduceLeDiff]); (try with_reducible rfl))) (Abs.Fn.mono (by ((try simp only [simB0, simB1, SA, SV, SN, SR, SL, pick_bool, Nat.reduceEqDiff, ↓reduceIte, Nat.reduceAdd, Nat.reduceLeDiff]); (try with_reducible rfl)); exact delete_c m (fun x => decide (x = v)) 56 _ (DatL.cons (Dat.iptr (DatL.cons .int DatL.nil)) DatL.nil) (fun x _ => crusader11_c x v) hm 0 m.length rfl _ _ hupd_self') ?_)
  rintro _ H nx ⟨rfl, h1, c, k, rfl, h2, h3, h4, h5⟩
  repeat' (first | refine a_n ?_ | refine o_nil ?_ | (apply o_val rfl rfl; (focus ((try simp (disch := omega) only [simB0, simB1, SA, SV, SN, SR, SL, pick_bool, Nat.reduceEqDiff, ↓reduceIte, Nat.reduceAdd, Nat.reduceLeDiff, SO, one_encV, one_encVV, Bool.and_self, Bool.false_eq_true, reduceCtorEq, wrap64, aixS_encV, aixS_encVV, alenS_encV, alenS_encVV, Int.toNat_natCast, List.length_map, aixS_msl, getElem?_map_lt, Nat.mul_one]); first | with_reducible rfl | (apply s_ite; (focus omega); with_reducible rfl)))))
  refine w_seq ?_
  repeat' (first | refine w_ops0 ?_ | (apply o_val rfl rfl; (focus ((try simp (disch := omega) only [simB0, simB1, SA, SV, SN, SR, SL, pick_bool, Nat.reduceEqDiff, ↓reduceIte, Nat.reduceAdd, Nat.reduceLeDiff, SO, one_encV, one_encVV, Bool.and_self, Bool.false_eq_true, reduceCtorEq, wrap64, aixS_encV, aixS_encVV, alenS_encV, alenS_encVV, Int.toNat_natCast, List.length_map, aixS_msl, getElem?_map_lt, Nat.mul_one]); first | with_reducible rfl | (apply s_ite; (focus omega); with_reducible rfl)))))
  have hs : Sh (m.filter fun x => !decide (x = v)) := Nat.le_trans (List.length_filter_le _ _) hm
  refine o_callP (by ((try simp only [simB0, simB1, SA, SV, SN, SR, SL, pick_bool, Nat.reduceEqDiff, ↓reduceIte, Nat.reduceAdd, Nat.reduceLeDiff]); (try with_reducible rfl))) (by ((try simp only [simB0, simB1, SA, SV, SN, SR, SL, pick_bool, Nat.reduceEqDiff, ↓reduceIte, Nat.reduceAdd, Nat.reduceLeDiff]); (try with_reducible rfl))) (different_c _ hs) (snap_plain (snapL_cons (snap_pre h2 (by omega) h4 h5) snapL_nil) rfl) ?_
  repeat' (first | refine w_ret ?_ | refine a_n ?_ | refine o_nil ?_ | (apply o_val rfl rfl; (focus ((try simp (disch := omega) only [simB0, simB1, SA, SV, SN, SR, SL, pick_bool, Nat.reduceEqDiff, ↓reduceIte, Nat.reduceAdd, Nat.reduceLeDiff, SO, one_encV, one_encVV, Bool.and_self, Bool.false_eq_true, reduceCtorEq, wrap64, aixS_encV, aixS_encVV, alenS_encV, alenS_encVV, Int.toNat_natCast, List.length_map, aixS_msl, getElem?_map_lt, Nat.mul_one]); first | with_reducible rfl | (apply s_ite; (focus omega); with_reducible rfl)))) | (refine e_ends rfl ?_) | (apply r_1; (focus (simp only [rv, simB0, simB1, SA, SV, SN, SR, SL, pick_bool, Nat.reduceEqDiff, ↓reduceIte, Nat.reduceAdd, Nat.reduceLeDiff]; with_reducible rfl))))
  refine snap_bool ?_
  simp only [Int.ofNat_le, show (1 : Int) = ((1 : Nat) : Int) from rfl]

/-! ### the other tasks -/
def kCrus (n v : Int) : KindV := ⟨n.toNat, v.toNat, (moreI v).toNat, false, fun _ => true, fun _ m => decide ((kinds (m.filter fun x => !decide (x = v))).length ≤ 1), fun l m => eqv m (l.getD 0 default)⟩
def crusT (n v : Int) : TaskV × Int := taskI n v (moreI v) (-1) (kCrus n v)
theorem made_crus (n v : Int) : Pure Try.prog 45 [.agg [.int .i64 n, .int .i64 v, .int .i64 (moreI v), .int .i64 (-1), .nilf, .func 54 [.iptr [.int .i64 v] 0], .func 57 []]] (.tup [encT (crusT n v).1, .int .i64 (crusT n v).2]) := by
  refine made_all n v (moreI v) (-1) (kCrus n v) _ _ _ DatF.nil (DatF.fun1 .int) DatF.fun0 (fun h => ?_)
  unfold inR at h
  have h5 : (kCrus n v).n ≤ 5 := by show n.toNat ≤ 5; omega
  have h1 : (kCrus n v).n ≠ 0 := by show n.toNat ≠ 0; omega
  refine ⟨by show (n.toNat : Int) = n; omega, by show (v.toNat : Int) = v; omega, by show ((moreI v).toNat : Int) = moreI v; omega, ⟨.inl ⟨rfl, fun _ => rfl⟩⟩, by simp [kCrus], Cond2.fun1 .int (fun x hx y hy => ?_), .inr (Cond2.fun0 fun x hx y hy => ?_)⟩
  · exact crusader1_c v x y (every_sh h5 hy) (every_ne h1 hy)
  · exact crusader2_c x y (every_ne h1 hx) (every_sh h5 hx) (every_sh h5 hy)

theorem crus_c (n v : Int) : Pure Try.prog 13 [.int .i64 n, .int .i64 v] (.tup [encT (crusT n v).1, .int .i64 (crusT n v).2]) := by
  refine Pure.of_c2 follows is13 (Nat.le_of_ble_eq_true rfl) ?_
  simp only [b13]
  have hm := made_crus n v
  unfold moreI at hm
  refine w_seq ?_
  repeat' (first | refine w_ops0 ?_ | refine a_n ?_ | refine o_nil ?_ | (apply o_val rfl rfl; (focus ((try simp (disch := omega) only [simB0, simB1, SA, SV, SN, SR, SL, pick_bool, Nat.reduceEqDiff, ↓reduceIte, Nat.reduceAdd, Nat.reduceLeDiff, SO, one_encV, one_encVV, Bool.and_self, Bool.false_eq_true, reduceCtorEq, wrap64, aixS_encV, aixS_encVV, alenS_encV, alenS_encVV, Int.toNat_natCast, List.length_map, aixS_msl, getElem?_map_lt, Nat.mul_one]); first | with_reducible rfl | (apply s_ite; (focus omega); with_reducible rfl)))) | (apply e_alloc rfl; (focus ((try simp only [simB0, simB1, SA, SV, SN, SR, SL, pick_bool, Nat.reduceEqDiff, ↓reduceIte, Nat.reduceAdd, Nat.reduceLeDiff]); (try with_reducible rfl); done)); (focus (simp only [SO, Bool.and_self, one_encV, one_encVV]))) | (apply e_box rfl; (focus ((try simp only [simB0, simB1, SA, SV, SN, SR, SL, pick_bool, Nat.reduceEqDiff, ↓reduceIte, Nat.reduceAdd, Nat.reduceLeDiff]); (try with_reducible rfl); done)); (focus ((try simp only [simB0, simB1, SA, SV, SN, SR, SL, pick_bool, Nat.reduceEqDiff, ↓reduceIte, Nat.reduceAdd, Nat.reduceLeDiff]); (try with_reducible rfl); done)); (focus (simp only [SO, Bool.and_self, one_encV, one_encVV]))))
  refine w_seq ?_
  refine w_ops1F (only 0 [.int .i64 v]) _ [(0, .int .i64 n), (3, .iptr [.int .i64 v] 0), (4, .ptr 1 4 0)] (Fz.one (by ((try simp only [simB0, simB1, SA, SV, SN, SR, SL, pick_bool, Nat.reduceEqDiff, ↓reduceIte, Nat.reduceAdd, Nat.reduceLeDiff]); (try with_reducible rfl)))) ⟨.inl (by ((try simp only [simB0, simB1, SA, SV, SN, SR, SL, pick_bool, Nat.reduceEqDiff, ↓reduceIte, Nat.reduceAdd, Nat.reduceLeDiff]); (try with_reducible rfl))), .inr ?_, .inl (by ((try simp only [simB0, simB1, SA, SV, SN, SR, SL, pick_bool, Nat.reduceEqDiff, ↓reduceIte, Nat.reduceAdd, Nat.reduceLeDiff]); (try with_reducible rfl))), trivial⟩ ?_
  · ((try simp only [simB0, simB1, SA, SV, SN, SR, SL, pick_bool, Nat.reduceEqDiff, ↓reduceIte, Nat.reduceAdd, Nat.reduceLeDiff]); (try with_reducible rfl))
    exact snap_ptr only_at rfl (snapL_cons (.int _ _) snapL_nil)
  repeat' (first | refine w_ret ?_ | refine a_n ?_ | refine o_nil ?_ | (apply o_val rfl rfl; (focus ((try simp (disch := omega) only [simB0, simB1, SA, SV, SN, SR, SL, pick_bool, Nat.reduceEqDiff, ↓reduceIte, Nat.reduceAdd, Nat.reduceLeDiff, SO, one_encV, one_encVV, Bool.and_self, Bool.false_eq_true, reduceCtorEq, wrap64, aixS_encV, aixS_encVV, alenS_encV, alenS_encVV, Int.toNat_natCast, List.length_map, aixS_msl, getElem?_map_lt, Nat.mul_one, encT_cells, encCs_one, encCs_cells]); first | with_reducible rfl | (apply s_ite; (focus omega); with_reducible rfl)))) | (apply o_callD; (focus ((try simp only [simB0, simB1, SA, SV, SN, SR, SL, pick_bool, Nat.reduceEqDiff, ↓reduceIte, Nat.reduceAdd, Nat.reduceLeDiff, encT_cells, encCs_one, encCs_cells]); (try with_reducible rfl); done)); (focus ((try simp only [simB0, simB1, SA, SV, SN, SR, SL, pick_bool, Nat.reduceEqDiff, ↓reduceIte, Nat.reduceAdd, Nat.reduceLeDiff, encT_cells, encCs_one, encCs_cells]); (try with_reducible rfl); done)); (focus (first | (exact more_c _) | (exact hm))); (focus (first | (apply snap_data; repeat' (first | exact snapL_nil | apply snapL_dat | exact Dat.int | exact Dat.bool | exact Dat.str | exact Dat.esl | exact Dat.nilf | exact encV_dat _ | exact encVV_dat _ | exact kind_dat DatF.nil (DatF.fun1 .int) DatF.fun0)) | (apply snap_plain; (focus (repeat' (first | exact snapL_nil | apply snapL_dat | exact Dat.int | exact Dat.bool | exact Dat.str | exact encV_dat _ | exact encVV_dat _ | exact kind_dat DatF.nil (DatF.fun1 .int) DatF.fun0))); rfl)))) | (apply e_st rfl; (focus ((try simp only [simB0, simB1, SA, SV, SN, SR, SL, pick_bool, Nat.reduceEqDiff, ↓reduceIte, Nat.reduceAdd, Nat.reduceLeDiff, encT_cells, encCs_one, encCs_cells]); (try with_reducible rfl); done)); (focus ((try simp only [simB0, simB1, SA, SV, SN, SR, SL, pick_bool, Nat.reduceEqDiff, ↓reduceIte, Nat.reduceAdd, Nat.reduceLeDiff, encT_cells, encCs_one, encCs_cells]); (try with_reducible rfl); done)); (focus ((try simp only [simB0, simB1, SA, SV, SN, SR, SL, pick_bool, Nat.reduceEqDiff, ↓reduceIte, Nat.reduceAdd, Nat.reduceLeDiff, encT_cells, encCs_one, encCs_cells]); (try with_reducible rfl); done)); (focus ((try simp only [simB0, simB1, SA, SV, SN, SR, SL, pick_bool, Nat.reduceEqDiff, ↓reduceIte, Nat.reduceAdd, Nat.reduceLeDiff, encT_cells, encCs_one, encCs_cells]); (try with_reducible rfl); done)); (focus (simp only [SO, Bool.and_self, one_encV, one_encVV, encT_cells, encCs_one, encCs_cells])); (focus ((try simp only [SL, Nat.reduceAdd, Nat.reduceMul, List.length_map]); first | done | omega)); (focus ((try simp only [SL, Nat.reduceAdd, Nat.reduceMul, List.length_map]); first | done | omega)); (focus ((try simp only [SL, Nat.reduceAdd, Nat.reduceMul, List.length_map]); first | done | omega))) | (refine e_ends rfl ?_) | (apply r_2; (focus (simp only [rv, simB0, simB1, SA, SV, SN, SR, SL, pick_bool, Nat.reduceEqDiff, ↓reduceIte, Nat.reduceAdd, Nat.reduceLeDiff, encT_cells, encCs_one, encCs_cells]; with_reducible rfl)); (focus (simp only [rv, simB0, simB1, SA, SV, SN, SR, SL, pick_bool, Nat.reduceEqDiff, ↓reduceIte, Nat.reduceAdd, Nat.reduceLeDiff, encT_cells, encCs_one, encCs_cells]; with_reducible rfl))))
  exact encTE_dat _ _ _

def kRen (n i o : Int) : KindV := ⟨n.toNat, i.toNat, o.toNat, true, fun l => decide ((kinds l).length = l.length), fun _ m => decide ((kinds m).length = m.length), fun _ _ => false⟩
def renT (n i o : Int) : TaskV × Int := taskI n i o (-1) (kRen n i o)
theorem made_ren (n i o : Int) : Pure Try.prog 45 [.agg [.int .i64 n, .int .i64 i, .int .i64 o, .int .i64 (-1), .func 76 [], .func 77 [], .nilf]] (.tup [encT (renT n i o).1, .int .i64 (renT n i o).2]) := by
  refine made_all n i o (-1) (kRen n i o) _ _ _ DatF.fun0 DatF.fun0 DatF.nil (fun h => ?_)
  unfold inR at h
  have h5 : (kRen n i o).n ≤ 5 := by show n.toNat ≤ 5; omega
  refine ⟨by show (n.toNat : Int) = n; omega, by show (i.toNat : Int) = i; omega, by show (o.toNat : Int) = o; omega, ⟨.inr ⟨76, [], rfl, DatL.nil, fun x hx => ?_⟩⟩, by simp [kRen], Cond2.fun0 (fun x hx y hy => ?_), .inl ⟨rfl, fun _ _ => rfl⟩⟩
  · exact renaming1_c x (every_sh h5 hx)
  · exact renaming2_c x y (every_sh h5 hy)
theorem ren_c (n i o : Int) : Pure Try.prog 35 [.int .i64 n, .int .i64 i, .int .i64 o] (.tup [encT (renT n i o).1, .int .i64 (renT n i o).2]) := by
  refine Pure.of_c2 follows is35 (Nat.le_of_ble_eq_true rfl) ?_
  simp only [b35]
  have hm := made_ren n i o
  repeat' (first | refine w_seq ?_ | refine w_ops0 ?_ | refine w_ret ?_ | refine a_n ?_ | refine o_nil ?_ | (apply o_val rfl rfl; (focus ((try simp (disch := omega) only [simB0, simB1, SA, SV, SN, SR, SL, pick_bool, Nat.reduceEqDiff, ↓reduceIte, Nat.reduceAdd, Nat.reduceLeDiff, SO, one_encV, one_encVV, Bool.and_self, Bool.false_eq_true, reduceCtorEq, wrap64, aixS_encV, aixS_encVV, alenS_encV, alenS_encVV, Int.toNat_natCast, List.length_map, aixS_msl, getElem?_map_lt, Nat.mul_one, encT_cells, encCs_one, encCs_cells]); first | with_reducible rfl | (apply s_ite; (focus omega); with_reducible rfl)))) | (apply o_callD; (focus ((try simp only [simB0, simB1, SA, SV, SN, SR, SL, pick_bool, Nat.reduceEqDiff, ↓reduceIte, Nat.reduceAdd, Nat.reduceLeDiff, encT_cells, encCs_one, encCs_cells]); (try with_reducible rfl); done)); (focus ((try simp only [simB0, simB1, SA, SV, SN, SR, SL, pick_bool, Nat.reduceEqDiff, ↓reduceIte, Nat.reduceAdd, Nat.reduceLeDiff, encT_cells, encCs_one, encCs_cells]); (try with_reducible rfl); done)); (focus (first | (exact hm))); (focus (first | (apply snap_data; repeat' (first | exact snapL_nil | apply snapL_dat | exact Dat.int | exact Dat.bool | exact Dat.str | exact Dat.esl | exact Dat.nilf | exact encV_dat _ | exact encVV_dat _ | exact kind_dat DatF.fun0 DatF.fun0 DatF.nil)) | (apply snap_plain; (focus (repeat' (first | exact snapL_nil | apply snapL_dat | exact Dat.int | exact Dat.bool | exact Dat.str | exact encV_dat _ | exact encVV_dat _ | exact kind_dat DatF.fun0 DatF.fun0 DatF.nil))); rfl)))) | (apply e_alloc rfl; (focus ((try simp only [simB0, simB1, SA, SV, SN, SR, SL, pick_bool, Nat.reduceEqDiff, ↓reduceIte, Nat.reduceAdd, Nat.reduceLeDiff, encT_cells, encCs_one, encCs_cells]); (try with_reducible rfl); done)); (focus (simp only [SO, Bool.and_self, one_encV, one_encVV, encT_cells, encCs_one, encCs_cells]))) | (apply e_st rfl; (focus ((try simp only [simB0, simB1, SA, SV, SN, SR, SL, pick_bool, Nat.reduceEqDiff, ↓reduceIte, Nat.reduceAdd, Nat.reduceLeDiff, encT_cells, encCs_one, encCs_cells]); (try with_reducible rfl); done)); (focus ((try simp only [simB0, simB1, SA, SV, SN, SR, SL, pick_bool, Nat.reduceEqDiff, ↓reduceIte, Nat.reduceAdd, Nat.reduceLeDiff, encT_cells, encCs_one, encCs_cells]); (try with_reducible rfl); done)); (focus ((try simp only [simB0, simB1, SA, SV, SN, SR, SL, pick_bool, Nat.reduceEqDiff, ↓reduceIte, Nat.reduceAdd, Nat.reduceLeDiff, encT_cells, encCs_one, encCs_cells]); (try with_reducible rfl); done)); (focus ((try simp only [simB0, simB1, SA, SV, SN, SR, SL, pick_bool, Nat.reduceEqDiff, ↓reduceIte, Nat.reduceAdd, Nat.reduceLeDiff, encT_cells, encCs_one, encCs_cells]); (try with_reducible rfl); done)); (focus (simp only [SO, Bool.and_self, one_encV, one_encVV, encT_cells, encCs_one, encCs_cells])); (focus ((try simp only [SL, Nat.reduceAdd, Nat.reduceMul, List.length_map]); first | done | omega)); (focus ((try simp only [SL, Nat.reduceAdd, Nat.reduceMul, List.length_map]); first | done | omega)); (focus ((try simp only [SL, Nat.reduceAdd, Nat.reduceMul, List.length_map]); first | done | omega))) | (refine e_ends rfl ?_) | (apply r_2; (focus (simp only [rv, simB0, simB1, SA, SV, SN, SR, SL, pick_bool, Nat.reduceEqDiff, ↓reduceIte, Nat.reduceAdd, Nat.reduceLeDiff, encT_cells, encCs_one, encCs_cells]; with_reducible rfl)); (focus (simp only [rv, simB0, simB1, SA, SV, SN, SR, SL, pick_bool, Nat.reduceEqDiff, ↓reduceIte, Nat.reduceAdd, Nat.reduceLeDiff, encT_cells, encCs_one, encCs_cells]; with_reducible rfl))))
  exact encTE_dat _ _ _

def kLead (n : Int) : KindV := ⟨n.toNat, 1, 2, false, fun _ => true, fun _ m => decide (m.sum = 1), fun _ _ => false⟩
def leadT (n : Int) : TaskV × Int := taskI n 1 2 (-1) (kLead n)
theorem made_lead (n : Int) : Pure Try.prog 45 [.agg [.int .i64 n, .int .i64 1, .int .i64 2, .int .i64 (-1), .nilf, .func 78 [], .nilf]] (.tup [encT (leadT n).1, .int .i64 (leadT n).2]) := by
  refine made_all n 1 2 (-1) (kLead n) _ _ _ DatF.nil DatF.fun0 DatF.nil (fun h => ?_)
  unfold inR at h
  have h5 : (kLead n).n ≤ 5 := by show n.toNat ≤ 5; omega
  refine ⟨by show (n.toNat : Int) = n; omega, rfl, rfl, ⟨.inl ⟨rfl, fun _ => rfl⟩⟩, by simp [kLead], Cond2.fun0 (fun x hx y hy => ?_), .inl ⟨rfl, fun _ _ => rfl⟩⟩
  exact leader1_c x y (every_sh h5 hy) (fun a ha => by have := every_mem _ _ y hy a ha; have : (kLead n).outs = 2 := rfl; omega)
theorem lead_c (n : Int) : Pure Try.prog 38 [.int .i64 n] (.tup [encT (leadT n).1, .int .i64 (leadT n).2]) := by
  refine Pure.of_c2 follows is38 (Nat.le_of_ble_eq_true rfl) ?_
  simp only [b38]
  have hm := made_lead n
  repeat' (first | refine w_seq ?_ | refine w_ops0 ?_ | refine w_ret ?_ | refine a_n ?_ | refine o_nil ?_ | (apply o_val rfl rfl; (focus ((try simp (disch := omega) only [simB0, simB1, SA, SV, SN, SR, SL, pick_bool, Nat.reduceEqDiff, ↓reduceIte, Nat.reduceAdd, Nat.reduceLeDiff, SO, one_encV, one_encVV, Bool.and_self, Bool.false_eq_true, reduceCtorEq, wrap64, aixS_encV, aixS_encVV, alenS_encV, alenS_encVV, Int.toNat_natCast, List.length_map, aixS_msl, getElem?_map_lt, Nat.mul_one, encT_cells, encCs_one, encCs_cells]); first | with_reducible rfl | (apply s_ite; (focus omega); with_reducible rfl)))) | (apply o_callD; (focus ((try simp only [simB0, simB1, SA, SV, SN, SR, SL, pick_bool, Nat.reduceEqDiff, ↓reduceIte, Nat.reduceAdd, Nat.reduceLeDiff, encT_cells, encCs_one, encCs_cells]); (try with_reducible rfl); done)); (focus ((try simp only [simB0, simB1, SA, SV, SN, SR, SL, pick_bool, Nat.reduceEqDiff, ↓reduceIte, Nat.reduceAdd, Nat.reduceLeDiff, encT_cells, encCs_one, encCs_cells]); (try with_reducible rfl); done)); (focus (first | (exact hm))); (focus (first | (apply snap_data; repeat' (first | exact snapL_nil | apply snapL_dat | exact Dat.int | exact Dat.bool | exact Dat.str | exact Dat.esl | exact Dat.nilf | exact encV_dat _ | exact encVV_dat _ | exact kind_dat DatF.nil DatF.fun0 DatF.nil)) | (apply snap_plain; (focus (repeat' (first | exact snapL_nil | apply snapL_dat | exact Dat.int | exact Dat.bool | exact Dat.str | exact encV_dat _ | exact encVV_dat _ | exact kind_dat DatF.nil DatF.fun0 DatF.nil))); rfl)))) | (apply e_alloc rfl; (focus ((try simp only [simB0, simB1, SA, SV, SN, SR, SL, pick_bool, Nat.reduceEqDiff, ↓reduceIte, Nat.reduceAdd, Nat.reduceLeDiff, encT_cells, encCs_one, encCs_cells]); (try with_reducible rfl); done)); (focus (simp only [SO, Bool.and_self, one_encV, one_encVV, encT_cells, encCs_one, encCs_cells]))) | (apply e_st rfl; (focus ((try simp only [simB0, simB1, SA, SV, SN, SR, SL, pick_bool, Nat.reduceEqDiff, ↓reduceIte, Nat.reduceAdd, Nat.reduceLeDiff, encT_cells, encCs_one, encCs_cells]); (try with_reducible rfl); done)); (focus ((try simp only [simB0, simB1, SA, SV, SN, SR, SL, pick_bool, Nat.reduceEqDiff, ↓reduceIte, Nat.reduceAdd, Nat.reduceLeDiff, encT_cells, encCs_one, encCs_cells]); (try with_reducible rfl); done)); (focus ((try simp only [simB0, simB1, SA, SV, SN, SR, SL, pick_bool, Nat.reduceEqDiff, ↓reduceIte, Nat.reduceAdd, Nat.reduceLeDiff, encT_cells, encCs_one, encCs_cells]); (try with_reducible rfl); done)); (focus ((try simp only [simB0, simB1, SA, SV, SN, SR, SL, pick_bool, Nat.reduceEqDiff, ↓reduceIte, Nat.reduceAdd, Nat.reduceLeDiff, encT_cells, encCs_one, encCs_cells]); (try with_reducible rfl); done)); (focus (simp only [SO, Bool.and_self, one_encV, one_encVV, encT_cells, encCs_one, encCs_cells])); (focus ((try simp only [SL, Nat.reduceAdd, Nat.reduceMul, List.length_map]); first | done | omega)); (focus ((try simp only [SL, Nat.reduceAdd, Nat.reduceMul, List.length_map]); first | done | omega)); (focus ((try simp only [SL, Nat.reduceAdd, Nat.reduceMul, List.length_map]); first | done | omega))) | (refine e_ends rfl ?_) | (apply r_2; (focus (simp only [rv, simB0, simB1, SA, SV, SN, SR, SL, pick_bool, Nat.reduceEqDiff, ↓reduceIte, Nat.reduceAdd, Nat.reduceLeDiff, encT_cells, encCs_one, encCs_cells]; with_reducible rfl)); (focus (simp only [rv, simB0, simB1, SA, SV, SN, SR, SL, pick_bool, Nat.reduceEqDiff, ↓reduceIte, Nat.reduceAdd, Nat.reduceLeDiff, encT_cells, encCs_one, encCs_cells]; with_reducible rfl))))
  exact encTE_dat _ _ _

def kCom (n : Int) : KindV := ⟨n.toNat, 2, 2, false, fun _ => true, fun l m => eqv m 0 || eqv m 1 && decide (l.foldl min (l.getD 0 default) = 1), fun l m => eqv m (l.foldl min (l.getD 0 default))⟩
def comT (n : Int) : TaskV × Int := taskI n 2 2 (-1) (kCom n)
theorem made_com (n : Int) : Pure Try.prog 45 [.agg [.int .i64 n, .int .i64 2, .int .i64 2, .int .i64 (-1), .nilf, .func 62 [.iptr [.func 61 []] 0], .func 63 [.iptr [.func 61 []] 0]]] (.tup [encT (comT n).1, .int .i64 (comT n).2]) := by
  have hd : Dat (.func 61 []) := Dat.func DatL.nil
  refine made_all n 2 2 (-1) (kCom n) _ _ _ DatF.nil (DatF.fun1 hd) (DatF.fun1 hd) (fun h => ?_)
  unfold inR at h
  have h5 : (kCom n).n ≤ 5 := by show n.toNat ≤ 5; omega
  have h1 : (kCom n).n ≠ 0 := by show n.toNat ≠ 0; omega
  refine ⟨by show (n.toNat : Int) = n; omega, rfl, rfl, ⟨.inl ⟨rfl, fun _ => rfl⟩⟩, by simp [kCom], Cond2.fun1 hd (fun x hx y hy => ?_), .inr (Cond2.fun1 hd fun x hx y hy => ?_)⟩
  · exact commit2_c x y (every_ne h1 hx) (every_sh h5 hx) (every_sh h5 hy)
  · exact commit3_c x y (every_ne h1 hx) (every_sh h5 hx) (every_sh h5 hy)
theorem com_c (n : Int) : Pure Try.prog 23 [.int .i64 n] (.tup [encT (comT n).1, .int .i64 (comT n).2]) := by
  refine Pure.of_c2 follows is23 (Nat.le_of_ble_eq_true rfl) ?_
  simp only [b23]
  have hm := made_com n
  have hd : Dat (.func 61 []) := Dat.func DatL.nil
  refine w_seq ?_
  repeat' (first | refine w_ops0 ?_ | refine a_n ?_ | refine o_nil ?_ | (apply o_val rfl rfl; (focus ((try simp (disch := omega) only [simB0, simB1, SA, SV, SN, SR, SL, pick_bool, Nat.reduceEqDiff, ↓reduceIte, Nat.reduceAdd, Nat.reduceLeDiff, SO, one_encV, one_encVV, Bool.and_self, Bool.false_eq_true, reduceCtorEq, wrap64, aixS_encV, aixS_encVV, alenS_encV, alenS_encVV, Int.toNat_natCast, List.length_map, aixS_msl, getElem?_map_lt, Nat.mul_one]); first | with_reducible rfl | (apply s_ite; (focus omega); with_reducible rfl)))) | (apply e_alloc rfl; (focus ((try simp only [simB0, simB1, SA, SV, SN, SR, SL, pick_bool, Nat.reduceEqDiff, ↓reduceIte, Nat.reduceAdd, Nat.reduceLeDiff]); (try with_reducible rfl); done)); (focus (simp only [SO, Bool.and_self, one_encV, one_encVV]))))
  refine w_seq ?_
  repeat' (first | refine w_ops0 ?_ | refine a_n ?_ | refine o_nil ?_ | (apply e_alloc rfl; (focus ((try simp only [simB0, simB1, SA, SV, SN, SR, SL, pick_bool, Nat.reduceEqDiff, ↓reduceIte, Nat.reduceAdd, Nat.reduceLeDiff]); (try with_reducible rfl); done)); (focus (simp only [SO, Bool.and_self, one_encV, one_encVV]))) | (apply e_st rfl; (focus ((try simp only [simB0, simB1, SA, SV, SN, SR, SL, pick_bool, Nat.reduceEqDiff, ↓reduceIte, Nat.reduceAdd, Nat.reduceLeDiff]); (try with_reducible rfl); done)); (focus ((try simp only [simB0, simB1, SA, SV, SN, SR, SL, pick_bool, Nat.reduceEqDiff, ↓reduceIte, Nat.reduceAdd, Nat.reduceLeDiff]); (try with_reducible rfl); done)); (focus ((try simp only [simB0, simB1, SA, SV, SN, SR, SL, pick_bool, Nat.reduceEqDiff, ↓reduceIte, Nat.reduceAdd, Nat.reduceLeDiff]); (try with_reducible rfl); done)); (focus ((try simp only [simB0, simB1, SA, SV, SN, SR, SL, pick_bool, Nat.reduceEqDiff, ↓reduceIte, Nat.reduceAdd, Nat.reduceLeDiff]); (try with_reducible rfl); done)); (focus (simp only [SO, Bool.and_self, one_encV, one_encVV])); (focus ((try simp only [SL, Nat.reduceAdd, Nat.reduceMul, List.length_map]); first | done | omega)); (focus ((try simp only [SL, Nat.reduceAdd, Nat.reduceMul, List.length_map]); first | done | omega)); (focus ((try simp only [SL, Nat.reduceAdd, Nat.reduceMul, List.length_map]); first | done | omega))))
  refine w_seq ?_
  refine w_ops0F (only 1 [.func 61 []]) _ [(0, .int .i64 n), (4, .iptr [.func 61 []] 0), (2, .ptr 0 4 0)] (Fz.one (by ((try simp only [simB0, simB1, SA, SV, SN, SR, SL, pick_bool, Nat.reduceEqDiff, ↓reduceIte, Nat.reduceAdd, Nat.reduceLeDiff]); (try with_reducible rfl)))) ⟨.inl (by ((try simp only [simB0, simB1, SA, SV, SN, SR, SL, pick_bool, Nat.reduceEqDiff, ↓reduceIte, Nat.reduceAdd, Nat.reduceLeDiff]); (try with_reducible rfl))), .inr ?_, .inl (by ((try simp only [simB0, simB1, SA, SV, SN, SR, SL, pick_bool, Nat.reduceEqDiff, ↓reduceIte, Nat.reduceAdd, Nat.reduceLeDiff]); (try with_reducible rfl))), trivial⟩ ?_
  · ((try simp only [simB0, simB1, SA, SV, SN, SR, SL, pick_bool, Nat.reduceEqDiff, ↓reduceIte, Nat.reduceAdd, Nat.reduceLeDiff]); (try with_reducible rfl))
    exact snap_ptr only_at rfl (snapL_cons (hd _) snapL_nil)
  repeat' (first | refine w_ret ?_ | refine a_n ?_ | refine o_nil ?_ | (apply o_val rfl rfl; (focus ((try simp (disch := omega) only [simB0, simB1, SA, SV, SN, SR, SL, pick_bool, Nat.reduceEqDiff, ↓reduceIte, Nat.reduceAdd, Nat.reduceLeDiff, SO, one_encV, one_encVV, Bool.and_self, Bool.false_eq_true, reduceCtorEq, wrap64, aixS_encV, aixS_encVV, alenS_encV, alenS_encVV, Int.toNat_natCast, List.length_map, aixS_msl, getElem?_map_lt, Nat.mul_one, encT_cells, encCs_one, encCs_cells]); first | with_reducible rfl | (apply s_ite; (focus omega); with_reducible rfl)))) | (apply o_callD; (focus ((try simp only [simB0, simB1, SA, SV, SN, SR, SL, pick_bool, Nat.reduceEqDiff, ↓reduceIte, Nat.reduceAdd, Nat.reduceLeDiff, encT_cells, encCs_one, encCs_cells]); (try with_reducible rfl); done)); (focus ((try simp only [simB0, simB1, SA, SV, SN, SR, SL, pick_bool, Nat.reduceEqDiff, ↓reduceIte, Nat.reduceAdd, Nat.reduceLeDiff, encT_cells, encCs_one, encCs_cells]); (try with_reducible rfl); done)); (focus (first | (exact hm))); (focus (first | (apply snap_data; repeat' (first | exact snapL_nil | apply snapL_dat | exact Dat.int | exact Dat.bool | exact Dat.str | exact Dat.esl | exact Dat.nilf | exact encV_dat _ | exact encVV_dat _ | exact kind_dat DatF.nil (DatF.fun1 hd) (DatF.fun1 hd))) | (apply snap_plain; (focus (repeat' (first | exact snapL_nil | apply snapL_dat | exact Dat.int | exact Dat.bool | exact Dat.str | exact encV_dat _ | exact encVV_dat _ | exact kind_dat DatF.nil (DatF.fun1 hd) (DatF.fun1 hd)))); rfl)))) | (apply e_st rfl; (focus ((try simp only [simB0, simB1, SA, SV, SN, SR, SL, pick_bool, Nat.reduceEqDiff, ↓reduceIte, Nat.reduceAdd, Nat.reduceLeDiff, encT_cells, encCs_one, encCs_cells]); (try with_reducible rfl); done)); (focus ((try simp only [simB0, simB1, SA, SV, SN, SR, SL, pick_bool, Nat.reduceEqDiff, ↓reduceIte, Nat.reduceAdd, Nat.reduceLeDiff, encT_cells, encCs_one, encCs_cells]); (try with_reducible rfl); done)); (focus ((try simp only [simB0, simB1, SA, SV, SN, SR, SL, pick_bool, Nat.reduceEqDiff, ↓reduceIte, Nat.reduceAdd, Nat.reduceLeDiff, encT_cells, encCs_one, encCs_cells]); (try with_reducible rfl); done)); (focus ((try simp only [simB0, simB1, SA, SV, SN, SR, SL, pick_bool, Nat.reduceEqDiff, ↓reduceIte, Nat.reduceAdd, Nat.reduceLeDiff, encT_cells, encCs_one, encCs_cells]); (try with_reducible rfl); done)); (focus (simp only [SO, Bool.and_self, one_encV, one_encVV, encT_cells, encCs_one, encCs_cells])); (focus ((try simp only [SL, Nat.reduceAdd, Nat.reduceMul, List.length_map]); first | done | omega)); (focus ((try simp only [SL, Nat.reduceAdd, Nat.reduceMul, List.length_map]); first | done | omega)); (focus ((try simp only [SL, Nat.reduceAdd, Nat.reduceMul, List.length_map]); first | done | omega))) | (refine e_ends rfl ?_) | (apply r_2; (focus (simp only [rv, simB0, simB1, SA, SV, SN, SR, SL, pick_bool, Nat.reduceEqDiff, ↓reduceIte, Nat.reduceAdd, Nat.reduceLeDiff, encT_cells, encCs_one, encCs_cells]; with_reducible rfl)); (focus (simp only [rv, simB0, simB1, SA, SV, SN, SR, SL, pick_bool, Nat.reduceEqDiff, ↓reduceIte, Nat.reduceAdd, Nat.reduceLeDiff, encT_cells, encCs_one, encCs_cells]; with_reducible rfl))))
  exact encTE_dat _ _ _

end Go.Proofs.Ytcbkggfipdldaaa
