/- P6: contracts of functions and plain laws; for all inputs that the theorems name. -/
import Derived.Test.YtcbkggfipdldaaaXP5
set_option linter.unusedSimpArgs false
set_option linter.unusedVariables false
namespace Go.Proofs.Ytcbkggfipdldaaa
open Go Go.Abs
attribute [local irreducible] awp2 aops2 ains aloop athen bbind obind gbind acond res1 Go.Abs.Fn PCall Go.Abs.Pure SnapArgs SnapL Yl

def cnt (L : List (List Int)) (p : List Int → Bool) : Nat := (L.filter p).length
theorem cnt_snoc (L : List (List Int)) (p : List Int → Bool) (x : List Int) : cnt (L ++ [x]) p = cnt L p + if p x then 1 else 0 := by
  unfold cnt; rw [List.filter_append]; simp [List.filter_cons]; split <;> simp
theorem cnt_mono (L : List (List Int)) (p : List Int → Bool) (k : Nat) : cnt (L.take k) p ≤ cnt L p := by
  unfold cnt
  conv => rhs; rw [← List.take_append_drop k L, List.filter_append, List.length_append]
  omega
theorem every_count (n v : Nat) : (every n v).length = v ^ n := by
  induction n with
  | zero => rfl
  | succ n ih =>
    simp only [every, List.length_flatMap, List.length_map, ih]
    rw [List.map_const', List.sum_replicate_nat, List.length_range, Nat.pow_succ, Nat.mul_comm]

/-- a condition on vectors, nil or a function that decides it -/
structure Cond (hold : AV) (L : List (List Int)) (p : List Int → Bool) : Prop where
  out : (hold = .nilf ∧ ∀ x, p x = true) ∨ ∃ g caps, hold = .func g caps ∧ (∀ c ∈ caps, Dat c) ∧ ∀ x ∈ L, Pure Try.prog g (encV x :: caps) (.bool (p x))

theorem Cond.dat {hold : AV} {L : List (List Int)} {p : List Int → Bool} (h : Cond hold L p) : Dat hold ∧ hold.cells = [hold] ∧ hold.one = true := by
  rcases h.out with ⟨rfl, _⟩ | ⟨g, caps, rfl, h1, _⟩
  · exact ⟨.nilf, rfl, rfl⟩
  · exact ⟨Dat.func h1, rfl, rfl⟩

theorem one_eq {a b : Int} (h : a = b) : some [AV.int .i64 a] = some [AV.int .i64 b] := by rw [h]

theorem many_c (n v limit : Nat) (hn : 1 ≤ n ∧ n ≤ 1000) (hv : 1 ≤ v ∧ v ≤ 1000) (hl : limit ≤ 1000000) (hold : AV) (p : List Int → Bool) (hc : Cond hold (every n v) p) :
    Pure Try.prog 82 [.int .i64 n, .int .i64 v, hold, .int .i64 limit] (.int .i64 ((min (cnt (every n v) p) (limit + 1) : Nat) : Int)) := by
  refine Pure.of_c2 follows is82 (Nat.le_of_ble_eq_true rfl) ?_
  simp only [b82]
  obtain ⟨hd, hcell, hone⟩ := hc.dat
  repeat' (first | refine w_seq ?_ | refine w_ops0 ?_ | refine w_block ?_ | refine a_n ?_ | refine o_nil ?_ | (apply o_val rfl rfl; (focus ((try simp (disch := omega) only [simB0, simB1, SA, SV, SN, SR, SL, pick_bool, Nat.reduceEqDiff, ↓reduceIte, Nat.reduceAdd, Nat.reduceLeDiff, SO, one_encV, one_encVV, Bool.and_self, Bool.false_eq_true, reduceCtorEq, wrap64, aixS_encV, aixS_encVV, alenS_encV, alenS_encVV, Int.toNat_natCast, List.length_map, aixS_msl, getElem?_map_lt, Nat.mul_one, hcell, hone]); first | with_reducible rfl | (apply s_ite; (focus omega); with_reducible rfl)))) | (apply o_callD; (focus ((try simp only [simB0, simB1, SA, SV, SN, SR, SL, pick_bool, Nat.reduceEqDiff, ↓reduceIte, Nat.reduceAdd, Nat.reduceLeDiff, hcell, hone]); (try with_reducible rfl); done)); (focus ((try simp only [simB0, simB1, SA, SV, SN, SR, SL, pick_bool, Nat.reduceEqDiff, ↓reduceIte, Nat.reduceAdd, Nat.reduceLeDiff, hcell, hone]); (try with_reducible rfl); done)); (focus (first | (exact each_c _ _))); (focus (first | (apply snap_data; repeat' (first | exact snapL_nil | apply snapL_dat | exact Dat.int | exact Dat.bool | exact Dat.str | exact Dat.esl | exact Dat.nilf | exact encV_dat _ | exact encVV_dat _)) | (apply snap_plain; (focus (repeat' (first | exact snapL_nil | apply snapL_dat | exact Dat.int | exact Dat.bool | exact Dat.str | exact encV_dat _ | exact encVV_dat _))); rfl)))) | (apply e_alloc rfl; (focus ((try simp only [simB0, simB1, SA, SV, SN, SR, SL, pick_bool, Nat.reduceEqDiff, ↓reduceIte, Nat.reduceAdd, Nat.reduceLeDiff, hcell, hone]); (try with_reducible rfl); done)); (focus (simp only [SO, Bool.and_self, one_encV, one_encVV, hcell, hone]))) | (apply e_box rfl; (focus ((try simp only [simB0, simB1, SA, SV, SN, SR, SL, pick_bool, Nat.reduceEqDiff, ↓reduceIte, Nat.reduceAdd, Nat.reduceLeDiff, hcell, hone]); (try with_reducible rfl); done)); (focus ((try simp only [simB0, simB1, SA, SV, SN, SR, SL, pick_bool, Nat.reduceEqDiff, ↓reduceIte, Nat.reduceAdd, Nat.reduceLeDiff, hcell, hone]); (try with_reducible rfl); done)); (focus (simp only [SO, Bool.and_self, one_encV, one_encVV, hcell, hone]))) | (apply e_st rfl; (focus ((try simp only [simB0, simB1, SA, SV, SN, SR, SL, pick_bool, Nat.reduceEqDiff, ↓reduceIte, Nat.reduceAdd, Nat.reduceLeDiff, hcell, hone]); (try with_reducible rfl); done)); (focus ((try simp only [simB0, simB1, SA, SV, SN, SR, SL, pick_bool, Nat.reduceEqDiff, ↓reduceIte, Nat.reduceAdd, Nat.reduceLeDiff, hcell, hone]); (try with_reducible rfl); done)); (focus ((try simp only [simB0, simB1, SA, SV, SN, SR, SL, pick_bool, Nat.reduceEqDiff, ↓reduceIte, Nat.reduceAdd, Nat.reduceLeDiff, hcell, hone]); (try with_reducible rfl); done)); (focus ((try simp only [simB0, simB1, SA, SV, SN, SR, SL, pick_bool, Nat.reduceEqDiff, ↓reduceIte, Nat.reduceAdd, Nat.reduceLeDiff, hcell, hone]); (try with_reducible rfl); done)); (focus (simp only [SO, Bool.and_self, one_encV, one_encVV, hcell, hone])); (focus ((try simp only [SL, Nat.reduceAdd, Nat.reduceMul, List.length_map]); first | done | omega)); (focus ((try simp only [SL, Nat.reduceAdd, Nat.reduceMul, List.length_map]); first | done | omega)); (focus ((try simp only [SL, Nat.reduceAdd, Nat.reduceMul, List.length_map]); first | done | omega))))
  refine w_rangeFb 3 4 rfl rfl (by ((try simp only [simB0, simB1, SA, SV, SN, SR, SL, pick_bool, Nat.reduceEqDiff, ↓reduceIte, Nat.reduceAdd, Nat.reduceLeDiff]); (try with_reducible rfl))) (fun c0 cj hy => ?_)
  refine Abs.Fn.mono (each_it hn hv (fun k H nx => 4 ≤ nx ∧ H 0 = some [hold] ∧ H 1 = some [.int .i64 limit] ∧ H 2 = some [.int .i64 (cnt ((every n v).take k) p)] ∧ H 3 = some [c0] ∧ cnt ((every n v).take k) p ≤ limit)
    (fun H nx => H 3 = some [cj (.exit 0)] ∧ H 2 = some [.int .i64 ((limit + 1 : Nat) : Int)] ∧ limit < cnt (every n v) p) ?_ ?_ ?_) ?_
  · rintro k H H' a b ⟨h5, h0, h1, h2, h3, hle⟩ hab _ hs
    exact ⟨by omega, (hs 0 (by omega) (by omega)).trans h0, (hs 1 (by omega) (by omega)).trans h1, (hs 2 (by omega) (by omega)).trans h2, (hs 3 (by omega) (by omega)).trans h3, hle⟩
  · exact ⟨Nat.le_refl _, rfl, rfl, rfl, rfl, Nat.zero_le _⟩
  · rintro k H nx hk ⟨h5, h0, h1, h2, h3, hle⟩ hnx hH
    refine hy _ _ _ _ h3 rfl ?_
    clear hy
    have hmem : (every n v).getD k [] ∈ every n v := mem_getD (l := every n v) hk
    have hlen := every_len n v _ hmem
    have htk : (every n v).take (k + 1) = (every n v).take k ++ [(every n v).getD k []] := take_succ' hk
    have hsn := cnt_snoc ((every n v).take k) p ((every n v).getD k [])
    rw [← htk] at hsn
    have hmo := cnt_mono (every n v) p (k + 1)
    rcases hc.out with ⟨rfl, hp⟩ | ⟨g, caps, rfl, hcd, hg⟩
    · repeat' (first | refine w_ops0 ?_ | refine a_n ?_ | refine o_nil ?_ | (apply o_val rfl rfl; (focus ((try simp (disch := omega) only [simB0, simB1, SA, SV, SN, SR, SL, pick_bool, Nat.reduceEqDiff, ↓reduceIte, Nat.reduceAdd, Nat.reduceLeDiff, SO, one_encV, one_encVV, Bool.and_self, Bool.false_eq_true, reduceCtorEq, wrap64, aixS_encV, aixS_encVV, alenS_encV, alenS_encVV, Int.toNat_natCast, List.length_map, aixS_msl, getElem?_map_lt, Nat.mul_one, h0, h1, h2, h3]); first | with_reducible rfl | (apply s_ite; (focus omega); with_reducible rfl)))))
      refine ⟨h3, ?_⟩
      repeat' (first | refine w_seq ?_ | refine w_ops0 ?_ | refine w_block ?_ | refine w_skip ?_ | refine w_exit ?_ | refine a_n ?_ | refine a_x ?_ | refine o_nil ?_ | (apply o_val rfl rfl; (focus ((try simp (disch := omega) only [simB0, simB1, SA, SV, SN, SR, SL, pick_bool, Nat.reduceEqDiff, ↓reduceIte, Nat.reduceAdd, Nat.reduceLeDiff, SO, one_encV, one_encVV, Bool.and_self, Bool.false_eq_true, reduceCtorEq, wrap64, aixS_encV, aixS_encVV, alenS_encV, alenS_encVV, Int.toNat_natCast, List.length_map, aixS_msl, getElem?_map_lt, Nat.mul_one, h0, h1, h2, h3]); first | with_reducible rfl | (apply s_ite; (focus omega); with_reducible rfl)))) | (apply e_st rfl; (focus ((try simp only [simB0, simB1, SA, SV, SN, SR, SL, pick_bool, Nat.reduceEqDiff, ↓reduceIte, Nat.reduceAdd, Nat.reduceLeDiff, h0, h1, h2, h3]); (try with_reducible rfl); done)); (focus ((try simp only [simB0, simB1, SA, SV, SN, SR, SL, pick_bool, Nat.reduceEqDiff, ↓reduceIte, Nat.reduceAdd, Nat.reduceLeDiff, h0, h1, h2, h3]); (try with_reducible rfl); done)); (focus ((try simp only [simB0, simB1, SA, SV, SN, SR, SL, pick_bool, Nat.reduceEqDiff, ↓reduceIte, Nat.reduceAdd, Nat.reduceLeDiff, h0, h1, h2, h3]); (try with_reducible rfl); done)); (focus ((try simp only [simB0, simB1, SA, SV, SN, SR, SL, pick_bool, Nat.reduceEqDiff, ↓reduceIte, Nat.reduceAdd, Nat.reduceLeDiff, h0, h1, h2, h3]); (try with_reducible rfl); done)); (focus (simp only [SO, Bool.and_self, one_encV, one_encVV, h0, h1, h2, h3])); (focus ((try simp only [SL, Nat.reduceAdd, Nat.reduceMul, List.length_map]); first | done | omega)); (focus ((try simp only [SL, Nat.reduceAdd, Nat.reduceMul, List.length_map]); first | done | omega)); (focus ((try simp only [SL, Nat.reduceAdd, Nat.reduceMul, List.length_map]); first | done | omega))) | (apply o_gF; (focus (simp only [simB0, simB1, SA, SV, SN, SR, SL, pick_bool, Nat.reduceEqDiff, ↓reduceIte, Nat.reduceAdd, Nat.reduceLeDiff, or_true, true_or, h0, h1, h2, h3]; done))) | (apply w_condT; (focus (simp only [simB0, simB1, SA, SV, SN, SR, SL, pick_bool, Nat.reduceEqDiff, ↓reduceIte, Nat.reduceAdd, Nat.reduceLeDiff, h0, h1, h2, h3]; done))) | (apply w_cond; (focus ((try simp only [simB0, simB1, SA, SV, SN, SR, SL, pick_bool, Nat.reduceEqDiff, ↓reduceIte, Nat.reduceAdd, Nat.reduceLeDiff, h0, h1, h2, h3]); (try with_reducible rfl); done)); all_goals (intro _hg; (try simp only [Bool.not_eq_true', Bool.not_eq_false', Bool.not_not, decide_eq_true_eq, decide_eq_false_iff_not] at _hg); try (exfalso; omega))))
      all_goals rw [hp, if_pos rfl] at hsn
      · exact .inr ⟨rfl, rfl, one_eq (by omega), by omega⟩
      · exact .inl ⟨rfl, ⟨by omega, h0, h1, one_eq (by omega), rfl, by omega⟩, by omega, Nat.le_refl _, rfl⟩
    · repeat' (first | refine w_ops0 ?_ | refine a_n ?_ | refine o_nil ?_ | (apply o_val rfl rfl; (focus ((try simp (disch := omega) only [simB0, simB1, SA, SV, SN, SR, SL, pick_bool, Nat.reduceEqDiff, ↓reduceIte, Nat.reduceAdd, Nat.reduceLeDiff, SO, one_encV, one_encVV, Bool.and_self, Bool.false_eq_true, reduceCtorEq, wrap64, aixS_encV, aixS_encVV, alenS_encV, alenS_encVV, Int.toNat_natCast, List.length_map, aixS_msl, getElem?_map_lt, Nat.mul_one, h0, h1, h2, h3]); first | with_reducible rfl | (apply s_ite; (focus omega); with_reducible rfl)))))
      refine ⟨h3, ?_⟩
      repeat' (first | refine w_seq ?_ | refine w_ops0 ?_ | refine w_block ?_ | (apply o_val rfl rfl; (focus ((try simp (disch := omega) only [simB0, simB1, SA, SV, SN, SR, SL, pick_bool, Nat.reduceEqDiff, ↓reduceIte, Nat.reduceAdd, Nat.reduceLeDiff, SO, one_encV, one_encVV, Bool.and_self, Bool.false_eq_true, reduceCtorEq, wrap64, aixS_encV, aixS_encVV, alenS_encV, alenS_encVV, Int.toNat_natCast, List.length_map, aixS_msl, getElem?_map_lt, Nat.mul_one, h0, h1, h2, h3]); first | with_reducible rfl | (apply s_ite; (focus omega); with_reducible rfl)))) | (apply o_gT; (focus (simp only [simB0, simB1, SA, SV, SN, SR, SL, pick_bool, Nat.reduceEqDiff, ↓reduceIte, Nat.reduceAdd, Nat.reduceLeDiff, h0, h1, h2, h3]; done))))
      refine o_callP (by ((try simp only [simB0, simB1, SA, SV, SN, SR, SL, pick_bool, Nat.reduceEqDiff, ↓reduceIte, Nat.reduceAdd, Nat.reduceLeDiff, h0]); (try with_reducible rfl))) (by ((try simp only [simB0, simB1, SA, SV, SN, SR, SL, pick_bool, Nat.reduceEqDiff, ↓reduceIte, Nat.reduceAdd, Nat.reduceLeDiff]); (try with_reducible rfl))) (hg _ hmem) (snap_plain (snapL_cons (snap_row (by ((try simp only [simB0, simB1, SA, SV, SN, SR, SL, pick_bool, Nat.reduceEqDiff, ↓reduceIte, Nat.reduceAdd, Nat.reduceLeDiff, hH]); (try with_reducible rfl))) rfl hlen) (snapL_datL hcd)) rfl) ?_
      repeat' (first | refine w_seq ?_ | refine w_ops0 ?_ | refine w_skip ?_ | refine w_exit ?_ | refine a_n ?_ | refine a_x ?_ | refine o_nil ?_ | (apply o_val rfl rfl; (focus ((try simp (disch := omega) only [simB0, simB1, SA, SV, SN, SR, SL, pick_bool, Nat.reduceEqDiff, ↓reduceIte, Nat.reduceAdd, Nat.reduceLeDiff, SO, one_encV, one_encVV, Bool.and_self, Bool.false_eq_true, reduceCtorEq, wrap64, aixS_encV, aixS_encVV, alenS_encV, alenS_encVV, Int.toNat_natCast, List.length_map, aixS_msl, getElem?_map_lt, Nat.mul_one, h0, h1, h2, h3]); first | with_reducible rfl | (apply s_ite; (focus omega); with_reducible rfl)))) | (apply e_st rfl; (focus ((try simp only [simB0, simB1, SA, SV, SN, SR, SL, pick_bool, Nat.reduceEqDiff, ↓reduceIte, Nat.reduceAdd, Nat.reduceLeDiff, h0, h1, h2, h3]); (try with_reducible rfl); done)); (focus ((try simp only [simB0, simB1, SA, SV, SN, SR, SL, pick_bool, Nat.reduceEqDiff, ↓reduceIte, Nat.reduceAdd, Nat.reduceLeDiff, h0, h1, h2, h3]); (try with_reducible rfl); done)); (focus ((try simp only [simB0, simB1, SA, SV, SN, SR, SL, pick_bool, Nat.reduceEqDiff, ↓reduceIte, Nat.reduceAdd, Nat.reduceLeDiff, h0, h1, h2, h3]); (try with_reducible rfl); done)); (focus ((try simp only [simB0, simB1, SA, SV, SN, SR, SL, pick_bool, Nat.reduceEqDiff, ↓reduceIte, Nat.reduceAdd, Nat.reduceLeDiff, h0, h1, h2, h3]); (try with_reducible rfl); done)); (focus (simp only [SO, Bool.and_self, one_encV, one_encVV, h0, h1, h2, h3])); (focus ((try simp only [SL, Nat.reduceAdd, Nat.reduceMul, List.length_map]); first | done | omega)); (focus ((try simp only [SL, Nat.reduceAdd, Nat.reduceMul, List.length_map]); first | done | omega)); (focus ((try simp only [SL, Nat.reduceAdd, Nat.reduceMul, List.length_map]); first | done | omega))) | (apply w_cond; (focus ((try simp only [simB0, simB1, SA, SV, SN, SR, SL, pick_bool, Nat.reduceEqDiff, ↓reduceIte, Nat.reduceAdd, Nat.reduceLeDiff, h0, h1, h2, h3]); (try with_reducible rfl); done)); all_goals (intro _hg; (try simp only [Bool.not_eq_true', Bool.not_eq_false', Bool.not_not, decide_eq_true_eq, decide_eq_false_iff_not] at _hg); try (exfalso; omega))))
      · rename_i hg1
        rw [hg1, if_pos rfl] at hsn
        exact .inr ⟨rfl, rfl, one_eq (by omega), by omega⟩
      · rename_i hg1
        rw [hg1, if_pos rfl] at hsn
        exact .inl ⟨rfl, ⟨by omega, h0, h1, one_eq (by omega), rfl, by omega⟩, by omega, Nat.le_refl _, rfl⟩
      · rename_i hg1
        rw [hg1, if_neg (by simp)] at hsn
        exact .inl ⟨rfl, ⟨by omega, h0, h1, h2.trans (one_eq (by omega)), rfl, by omega⟩, by omega, Nat.le_refl _, rfl⟩
  · rintro r H nx (⟨h3, h2, hgt⟩ | ⟨h5, h0, h1, h2, h3, hle⟩)
    · right
      refine ⟨.exit 0, by simp, h3, ?_⟩
      repeat' (first | refine w_seq ?_ | refine w_ops0 ?_ | refine w_ret ?_ | refine a_n ?_ | refine o_nil ?_ | (apply o_val rfl rfl; (focus ((try simp (disch := omega) only [simB0, simB1, SA, SV, SN, SR, SL, pick_bool, Nat.reduceEqDiff, ↓reduceIte, Nat.reduceAdd, Nat.reduceLeDiff, SO, one_encV, one_encVV, Bool.and_self, Bool.false_eq_true, reduceCtorEq, wrap64, aixS_encV, aixS_encVV, alenS_encV, alenS_encVV, Int.toNat_natCast, List.length_map, aixS_msl, getElem?_map_lt, Nat.mul_one, h2]); first | with_reducible rfl | (apply s_ite; (focus omega); with_reducible rfl)))) | (refine e_ends rfl ?_) | (apply r_1; (focus (simp only [rv, simB0, simB1, SA, SV, SN, SR, SL, pick_bool, Nat.reduceEqDiff, ↓reduceIte, Nat.reduceAdd, Nat.reduceLeDiff, h2]; with_reducible rfl))))
      exact snap_int (by omega)
    · left
      refine ⟨h3, ?_⟩
      repeat' (first | refine w_seq ?_ | refine w_ops0 ?_ | refine w_ret ?_ | refine a_n ?_ | refine o_nil ?_ | (apply o_val rfl rfl; (focus ((try simp (disch := omega) only [simB0, simB1, SA, SV, SN, SR, SL, pick_bool, Nat.reduceEqDiff, ↓reduceIte, Nat.reduceAdd, Nat.reduceLeDiff, SO, one_encV, one_encVV, Bool.and_self, Bool.false_eq_true, reduceCtorEq, wrap64, aixS_encV, aixS_encVV, alenS_encV, alenS_encVV, Int.toNat_natCast, List.length_map, aixS_msl, getElem?_map_lt, Nat.mul_one, h2]); first | with_reducible rfl | (apply s_ite; (focus omega); with_reducible rfl)))) | (refine e_ends rfl ?_) | (apply r_1; (focus (simp only [rv, simB0, simB1, SA, SV, SN, SR, SL, pick_bool, Nat.reduceEqDiff, ↓reduceIte, Nat.reduceAdd, Nat.reduceLeDiff, h2]; with_reducible rfl))))
      rw [List.take_of_length_le (Nat.le_refl _)] at hle ⊢
      exact snap_int (by omega)

end Go.Proofs.Ytcbkggfipdldaaa
