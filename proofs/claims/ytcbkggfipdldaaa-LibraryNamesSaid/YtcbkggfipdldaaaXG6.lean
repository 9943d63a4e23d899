/- Texts of this claim, one after the other: P36, P37, P38, P39, P40, P41, P42. -/
import Derived.Test.YtcbkggfipdldaaaXG5
import Derived.Test.YtcbkggfipdldaaaXG4

set_option linter.unusedSimpArgs false
set_option linter.unusedVariables false

/- P36: contracts of functions and plain laws; for all inputs that the theorems name. -/
namespace Go.Proofs.Ytcbkggfipdldaaa
open Go Go.Abs
open Nat (reduceEqDiff reduceAdd reduceLeDiff)
attribute [local irreducible] awp2 aops2 ains aloop athen bbind obind gbind acond res1 Go.Abs.Fn PCall Go.Abs.Pure SnapArgs SnapL Yl

/-! ### sorting a short row of strings -/
def strLt (a b : ByteArray) : Bool := Op.bytesLess a.toList b.toList
theorem str_lss (a b : ByteArray) : abin2 .lss false false (.str a) (.str b) = some (.bool (strLt a b)) := rfl
theorem str_neq (a b : ByteArray) : abin2 .neq false false (.str a) (.str b) = some (.bool (!(a.toList == b.toList))) := rfl
theorem isNaNS_c (s : ByteArray) : Pure Try.prog 153 [.str s] (.bool false) := by
  refine Pure.of_c2 follows is153 (Nat.le_of_ble_eq_true rfl) ?_
  simp only [b153, O, G, N, M, D, F, B2, cFal, cTru]
  repeat' (first | apply w_seq | apply w_ops0 | apply w_ret | apply a_n | apply o_nil | (apply o_val rfl rfl; (focus ((try simp (disch := omega) only [simB0, ZA, reduceEqDiff, ↓reduceIte, reduceAdd, reduceLeDiff, ZV, reduceCtorEq, str_neq]); first | with_reducible rfl | (apply s_ite; (focus omega); with_reducible rfl)))) | (refine e_ends rfl ?_) | (apply r_1; (focus (simp only [rv, simB0, ZA, reduceEqDiff, ↓reduceIte, reduceAdd, reduceLeDiff, str_neq]; with_reducible rfl))))
  exact snap_bool (by simp)
theorem lessS_c (a b : ByteArray) : Pure Try.prog 145 [.str a, .str b] (.bool (strLt a b)) := by
  refine Pure.of_c2 follows is145 (Nat.le_of_ble_eq_true rfl) ?_
  simp only [b145, O, G, N, M, D, F, B2, cFal, cTru]
  repeat' (first | apply w_seq | apply w_ops0 | apply w_ret | apply a_n | apply o_nil | (apply o_val rfl rfl; (focus ((try simp (disch := omega) only [simB0, ZA, reduceEqDiff, ↓reduceIte, reduceAdd, reduceLeDiff, ZV, reduceCtorEq, Bool.false_eq_true, str_lss]); first | with_reducible rfl | (apply s_ite; (focus omega); with_reducible rfl)))) | (apply o_callD; (iterate 2 (focus ((try simp only [simB0, ZA, reduceEqDiff, ↓reduceIte, reduceAdd, reduceLeDiff, Bool.false_eq_true, str_lss]); (try with_reducible rfl); done))); (focus (first | (exact isNaNS_c _))); (focus ((first | refine snap_plain ?_ rfl | apply snap_data); repeat' (first | exact snapL_nil | apply snapL_i | apply snapL_dat)))) | (apply o_gT; (focus (simp only [simB0, ZA, reduceEqDiff, ↓reduceIte, reduceAdd, reduceLeDiff, Bool.false_eq_true, str_lss]; done))) | (apply o_gF; (focus (simp only [simB0, ZA, reduceEqDiff, ↓reduceIte, reduceAdd, reduceLeDiff, or_true, true_or, Bool.false_eq_true, str_lss]; done))) | (refine e_ends rfl ?_) | (apply r_1; (focus (simp only [rv, simB0, ZA, reduceEqDiff, ↓reduceIte, reduceAdd, reduceLeDiff, Bool.false_eq_true, str_lss]; with_reducible rfl))))
  exact .bool _
theorem lput_mapS {l : List ByteArray} {k : Nat} {x : ByteArray} (h : k < l.length) : lput (l.map AV.str) k [AV.str x] = (l.set k x).map AV.str := by
  simp only [lput, List.map_set, List.length_cons, List.length_nil, Nat.zero_add]
  rw [List.set_eq_take_append_cons_drop, if_pos (by simpa using h)]
  simp
def swpS (l : List ByteArray) (j : Nat) : List ByteArray := (l.set (j + 1) (l.getD j default)).set j (l.getD (j + 1) default)
def downS : Nat → List ByteArray → List ByteArray
  | 0, l => l
  | j + 1, l => if strLt (l.getD (j + 1) default) (l.getD j default) = true then downS j (swpS l j) else l
def downsS : Nat → Nat → List ByteArray → List ByteArray
  | 0, _, l => l
  | f + 1, i, l => downsS f (i + 1) (downS i l)
def sortedS (l : List ByteArray) : List ByteArray := downsS (l.length - 1) 1 l
theorem swpS_len (l : List ByteArray) (j : Nat) : (swpS l j).length = l.length := by simp [swpS]
theorem insertionS_c (l : List ByteArray) (hl : Sh l) (h0 : l ≠ []) (H : Hp) (B nx : Nat) (hH : H B = some (l.map AV.str)) (hB : B < nx) :
    Abs.Fn Try.prog 139 [.msl B l.length 1 0 l.length, .int .i64 0, .int .i64 l.length] H nx fun _ H' nx' => H' = hupd H B ((sortedS l).map AV.str) ∧ nx' = nx := by
  refine Abs.Fn.of_c2 follows is139 (Nat.le_of_ble_eq_true rfl) ?_
  simp only [b139, O, G, N, M, D, F, B2, cFal, cTru]
  have hpos := List.length_pos_iff.2 h0
  repeat' (first | apply w_seq | apply w_ops0 | apply w_block | apply a_n | apply o_nil | (apply o_val rfl rfl; (focus ((try simp (disch := omega) only [simB0, ZA, reduceEqDiff, ↓reduceIte, reduceAdd, reduceLeDiff, ZV, reduceCtorEq]); first | with_reducible rfl | (apply s_ite; (focus omega); with_reducible rfl)))) | apply w_loop)
  refine loopI (X := Nat × List ByteArray) (fun x => [(0, .msl B l.length 1 0 l.length), (1, .int .i64 0), (2, .int .i64 l.length), (6, .int .i64 x.1)]) (fun x H' nx' => x.2.length = l.length ∧ 1 ≤ x.1 ∧ x.1 ≤ l.length ∧ H' = hupd H B (x.2.map AV.str) ∧ nx' = nx ∧ downsS (l.length - x.1) x.1 x.2 = sortedS l) (fun x => l.length - x.1) (1, l) ⟨rfl, Nat.le_refl _, hpos, ?_, rfl, rfl⟩ (by simp (disch := omega) only [agr, ZG, reduceEqDiff, ↓reduceIte, Int.zero_add]) ?_
  · funext b
    by_cases e : b = B
    · subst e; rw [hupd_self']; exact hH
    · rw [hupd_ne e]
  rintro ⟨i, L⟩ H' nx' ⟨e1, e2, e3, rfl, rfl, e4⟩
  dsimp only at e1 e2 e3 e4 ⊢
  by_cases hi : i < l.length
  · repeat' (first | apply w_seq | apply w_ops0 | apply w_block | apply w_skip | apply a_n | apply o_nil | (apply o_val rfl rfl; (focus ((try simp (disch := omega) only [simB0, ZA, reduceEqDiff, ↓reduceIte, reduceAdd, reduceLeDiff, ZV, reduceCtorEq]); first | with_reducible rfl | (apply s_ite; (focus omega); with_reducible rfl)))) | (apply w_cond; (focus ((try simp only [simB0, ZA, reduceEqDiff, ↓reduceIte, reduceAdd, reduceLeDiff]); (try with_reducible rfl); done)); all_goals (intro _hg; (try simp only [ZB] at _hg); try first | exact absurd trivial _hg | (exfalso; omega))) | apply w_loop)
    refine loopI (X := Nat × List ByteArray) (fun x => [(0, .msl B l.length 1 0 l.length), (1, .int .i64 0), (2, .int .i64 l.length), (6, .int .i64 i), (7, .int .i64 x.1)]) (fun x H' nxx => x.2.length = l.length ∧ x.1 ≤ i ∧ H' = hupd H B (x.2.map AV.str) ∧ nxx = nx' ∧ downS x.1 x.2 = downS i L) (fun x => x.1) (i, L) ⟨e1, Nat.le_refl _, rfl, rfl, rfl⟩ (by simp (disch := omega) only [agr, ZG, reduceEqDiff, ↓reduceIte]) ?_
    rintro ⟨j, M⟩ H' nxx ⟨a1, a2, rfl, rfl, a3⟩
    dsimp only at a1 a2 a3 ⊢
    cases j with
    | zero =>
      repeat' (first | apply w_seq | apply w_ops0 | apply w_mixS1 | apply w_exit | apply a_n | apply a_x | apply o_nil | (apply o_val rfl rfl; (focus ((try simp (disch := omega) only [simB0, ZA, reduceEqDiff, ↓reduceIte, reduceAdd, reduceLeDiff, ZV, reduceCtorEq]); first | with_reducible rfl | (apply s_ite; (focus omega); with_reducible rfl)))) | (apply o_gF; (focus (simp only [simB0, ZA, reduceEqDiff, ↓reduceIte, reduceAdd, reduceLeDiff, or_true, true_or]; done))) | (apply o_gB; (focus ((try simp only [simB0, ZA, reduceEqDiff, ↓reduceIte, reduceAdd, reduceLeDiff]); (try with_reducible rfl); done)); all_goals (intro _hg; (try simp only [ZB] at _hg); try first | exact absurd trivial _hg | (exfalso; omega))) | (apply w_condF; (focus (simp only [simB0, ZA, reduceEqDiff, ↓reduceIte, reduceAdd, reduceLeDiff]; done))))
      refine ⟨(i + 1, M), by dsimp only; omega, ⟨a1, by dsimp only; omega, by dsimp only; omega, rfl, rfl, ?_⟩, by simp (disch := omega) only [agr, ZG, reduceEqDiff, ↓reduceIte]⟩
      dsimp only
      rw [show downS 0 M = M from rfl] at a3
      rw [a3, ← e4, show l.length - i = (l.length - (i + 1)) + 1 by omega]; rfl
    | succ j =>
      have tj : ((j + 1 : Nat) : Int) - 1 = j := by omega
      have lc := lessS_c (M.getD (j + 1) default) (M.getD j default)
      by_cases hc : strLt (M.getD (j + 1) default) (M.getD j default) = true
      · rw [hc] at lc
        have hM2 : (swpS M j).length = l.length := by rw [swpS_len, a1]
        obtain ⟨M1, hl1, lm1, lm2⟩ : ∃ M1 : List ByteArray, M1.length = l.length ∧ lput (M.map AV.str) (j + 1) [.str (M.getD j default)] = M1.map AV.str ∧ lput (M1.map AV.str) j [.str (M.getD (j + 1) default)] = (swpS M j).map AV.str :=
          ⟨M.set (j + 1) (M.getD j default), by simp [a1], lput_mapS (by omega), by rw [lput_mapS (by simp; omega)]; rfl⟩
        have lm3 := lm2
        simp only [lput, List.length_cons, List.length_nil, Nat.zero_add] at lm1 lm2
        repeat' (first | apply w_seq | apply w_ops0 | apply w_ops1 | apply w_mixS1 | apply w_block | apply w_skip | apply a_n | apply o_nil | (apply o_val rfl rfl; (focus ((try simp (disch := omega) only [simB0, ZA, reduceEqDiff, ↓reduceIte, reduceAdd, reduceLeDiff, ZV, reduceCtorEq, tj, Int.toNat_natCast, lm1, lm2]); first | with_reducible rfl | (apply s_ite; (focus omega); with_reducible rfl)))) | (apply o_callD; (iterate 2 (focus ((try simp only [simB0, ZA, reduceEqDiff, ↓reduceIte, reduceAdd, reduceLeDiff, tj, Int.toNat_natCast, lm1, lm2]); (try with_reducible rfl); done))); (focus (first | (exact lc))); (focus ((first | refine snap_plain ?_ rfl | apply snap_data); repeat' (first | exact snapL_nil | apply snapL_i | apply snapL_dat)))) | (apply e_st rfl; (iterate 4 (focus ((try simp only [simB0, ZA, reduceEqDiff, ↓reduceIte, reduceAdd, reduceLeDiff, tj, Int.toNat_natCast, lm1, lm2]); (try with_reducible rfl); done))); (focus (simp only [SO, Bool.and_self, one_encV, one_encVV, tj, Int.toNat_natCast, lm1, lm2])); (iterate 3 (focus ((try simp only [SL, reduceAdd, Nat.reduceMul, List.length_map]); first | done | omega)))) | (apply o_gT; (focus (simp only [simB0, ZA, reduceEqDiff, ↓reduceIte, reduceAdd, reduceLeDiff, tj, Int.toNat_natCast, lm1, lm2]; done))) | (apply o_gB; (focus ((try simp only [simB0, ZA, reduceEqDiff, ↓reduceIte, reduceAdd, reduceLeDiff, tj, Int.toNat_natCast, lm1, lm2]); (try with_reducible rfl); done)); all_goals (intro _hg; (try simp only [ZB] at _hg); try first | exact absurd trivial _hg | (exfalso; omega))) | (apply w_condT; (focus (simp only [simB0, ZA, reduceEqDiff, ↓reduceIte, reduceAdd, reduceLeDiff, tj, Int.toNat_natCast, lm1, lm2]; done))))
        refine ⟨(j, swpS M j), by dsimp only; omega, ⟨hM2, by dsimp only; omega, ?_, rfl, ?_⟩, by simp (disch := omega) only [agr, ZG, reduceEqDiff, ↓reduceIte, tj]⟩
        · dsimp only; rw [hupd_two, hupd_two, lm3]
        · dsimp only; rw [← a3, downS, if_pos hc]
      · rw [Bool.not_eq_true _ |>.mp hc] at lc
        repeat' (first | apply w_seq | apply w_ops0 | apply w_mixS1 | apply w_exit | apply a_n | apply a_x | apply o_nil | (apply o_val rfl rfl; (focus ((try simp (disch := omega) only [simB0, ZA, reduceEqDiff, ↓reduceIte, reduceAdd, reduceLeDiff, ZV, reduceCtorEq, tj, Int.toNat_natCast]); first | with_reducible rfl | (apply s_ite; (focus omega); with_reducible rfl)))) | (apply o_callD; (iterate 2 (focus ((try simp only [simB0, ZA, reduceEqDiff, ↓reduceIte, reduceAdd, reduceLeDiff, tj, Int.toNat_natCast]); (try with_reducible rfl); done))); (focus (first | (exact lc))); (focus ((first | refine snap_plain ?_ rfl | apply snap_data); repeat' (first | exact snapL_nil | apply snapL_i | apply snapL_dat)))) | (apply o_gT; (focus (simp only [simB0, ZA, reduceEqDiff, ↓reduceIte, reduceAdd, reduceLeDiff, tj, Int.toNat_natCast]; done))) | (apply o_gB; (focus ((try simp only [simB0, ZA, reduceEqDiff, ↓reduceIte, reduceAdd, reduceLeDiff, tj, Int.toNat_natCast]); (try with_reducible rfl); done)); all_goals (intro _hg; (try simp only [ZB] at _hg); try first | exact absurd trivial _hg | (exfalso; omega))) | (apply w_condF; (focus (simp only [simB0, ZA, reduceEqDiff, ↓reduceIte, reduceAdd, reduceLeDiff, tj, Int.toNat_natCast]; done))))
        refine ⟨(i + 1, M), by dsimp only; omega, ⟨a1, by dsimp only; omega, by dsimp only; omega, rfl, rfl, ?_⟩, by simp (disch := omega) only [agr, ZG, reduceEqDiff, ↓reduceIte]⟩
        dsimp only
        rw [downS, if_neg hc] at a3
        rw [a3, ← e4, show l.length - i = (l.length - (i + 1)) + 1 by omega]; rfl
  · repeat' (first | apply w_seq | apply w_ops0 | apply w_exit | apply a_n | apply a_x | apply o_nil | (apply o_val rfl rfl; (focus ((try simp (disch := omega) only [simB0, ZA, reduceEqDiff, ↓reduceIte, reduceAdd, reduceLeDiff, ZV, reduceCtorEq]); first | with_reducible rfl | (apply s_ite; (focus omega); with_reducible rfl)))) | (apply w_cond; (focus ((try simp only [simB0, ZA, reduceEqDiff, ↓reduceIte, reduceAdd, reduceLeDiff]); (try with_reducible rfl); done)); all_goals (intro _hg; (try simp only [ZB] at _hg); try first | exact absurd trivial _hg | (exfalso; omega))) | (refine e_ends rfl ?_) | apply r_0)
    refine ⟨?_, rfl⟩
    rw [← e4, show l.length - i = 0 by omega]; rfl

theorem pdqS_c (l : List ByteArray) (hl : l.length ≤ 12) (h0 : l ≠ []) (x : Int) (H : Hp) (B nx : Nat) (hH : H B = some (l.map AV.str)) (hB : B < nx) :
    Abs.Fn Try.prog 128 [.msl B l.length 1 0 l.length, .int .i64 0, .int .i64 l.length, .int .i64 x] H nx fun _ H' nx' => H' = hupd H B ((sortedS l).map AV.str) ∧ nx' = nx := by
  refine Abs.Fn.of_c2 follows is128 (Nat.le_of_ble_eq_true rfl) ?_
  simp only [b128, O, G, N, M, D, F, B2, cFal, cTru]
  repeat' (first | apply w_seq | apply w_ops0 | apply w_block | apply a_n | apply o_nil | (apply o_val rfl rfl; (focus ((try simp (disch := omega) only [simB0, ZA, reduceEqDiff, ↓reduceIte, reduceAdd, reduceLeDiff, ZV, reduceCtorEq]); first | with_reducible rfl | (apply s_ite; (focus omega); with_reducible rfl)))) | apply w_loop)
  refine loopI (X := Unit) (fun _ => [(0, .msl B l.length 1 0 l.length), (1, .int .i64 0), (2, .int .i64 l.length)]) (fun _ H' nx' => H' = H ∧ nx' = nx) (fun _ => 0) () ⟨rfl, rfl⟩ (by simp (disch := omega) only [agr, ZG, reduceEqDiff, ↓reduceIte]) ?_
  rintro _ H' nx' ⟨rfl, rfl⟩
  refine w_block ?_
  repeat' (first | apply w_seq | apply w_ops0 | apply a_n | apply o_nil | (apply o_val rfl rfl; (focus ((try simp (disch := omega) only [simB0, ZA, reduceEqDiff, ↓reduceIte, reduceAdd, reduceLeDiff, ZV, reduceCtorEq]); first | with_reducible rfl | (apply s_ite; (focus omega); with_reducible rfl)))) | (apply w_cond; (focus ((try simp only [simB0, ZA, reduceEqDiff, ↓reduceIte, reduceAdd, reduceLeDiff]); (try with_reducible rfl); done)); all_goals (intro _hg; (try simp only [ZB] at _hg); try first | exact absurd trivial _hg | (exfalso; omega))))
  refine o_callE (by ((try simp only [simB0, ZA, reduceEqDiff, ↓reduceIte, reduceAdd, reduceLeDiff]); (try with_reducible rfl))) (by ((try simp only [simB0, ZA, reduceEqDiff, ↓reduceIte, reduceAdd, reduceLeDiff]); (try with_reducible rfl))) (insertionS_c l (by show _ ≤ _; omega) h0 H' B nx' hH hB) ?_
  rintro _ H2 nx2 ⟨rfl, rfl⟩
  repeat' (first | apply w_ret | apply a_n | apply a_r | apply o_nil | (refine e_ends rfl ?_) | apply r_0)
  exact ⟨rfl, rfl⟩
theorem sortS_c (l : List ByteArray) (hl : l.length ≤ 7) (h0 : l ≠ []) (H : Hp) (B nx : Nat) (hH : H B = some (l.map AV.str)) (hB : B < nx) :
    Abs.Fn Try.prog 111 [.msl B l.length 1 0 l.length] H nx fun _ H' nx' => H' = hupd H B ((sortedS l).map AV.str) ∧ nx' = nx := by
  refine Abs.Fn.of_c2 follows is111 (Nat.le_of_ble_eq_true rfl) ?_
  simp only [b111, O, G, N, M, D, F, B2, cFal, cTru]
  obtain ⟨r, hr⟩ := len_c l.length hl
  have hw : IntKind.u64.wrap (l.length : Int) = l.length := wrapU64 (by omega) (by omega)
  repeat' (first | apply w_seq | apply w_ops0 | apply a_n | apply o_nil | (apply o_val rfl rfl; (focus ((try simp (disch := omega) only [simB0, ZA, reduceEqDiff, ↓reduceIte, reduceAdd, reduceLeDiff, ZV, reduceCtorEq, hw]); first | with_reducible rfl | (apply s_ite; (focus omega); with_reducible rfl)))) | (apply o_callD; (iterate 2 (focus ((try simp only [simB0, ZA, reduceEqDiff, ↓reduceIte, reduceAdd, reduceLeDiff, hw]); (try with_reducible rfl); done))); (focus (first | (exact hr))); (focus ((first | refine snap_plain ?_ rfl | apply snap_data); repeat' (first | exact snapL_nil | apply snapL_i | apply snapL_dat)))))
  refine o_callE (by ((try simp only [simB0, ZA, reduceEqDiff, ↓reduceIte, reduceAdd, reduceLeDiff]); (try with_reducible rfl))) (by ((try simp only [simB0, ZA, reduceEqDiff, ↓reduceIte, reduceAdd, reduceLeDiff]); (try with_reducible rfl))) (pdqS_c l (by omega) h0 r H B nx hH hB) ?_
  rintro _ H2 nx2 ⟨rfl, rfl⟩
  repeat' (first | apply o_nil | (refine e_ends rfl ?_) | apply r_0)
  exact ⟨rfl, rfl⟩
end Go.Proofs.Ytcbkggfipdldaaa

/- P37: contracts of functions and plain laws; for all inputs that the theorems name. -/
namespace Go.Proofs.Ytcbkggfipdldaaa
open Go Go.Abs
open Nat (reduceEqDiff reduceAdd reduceLeDiff)
attribute [local irreducible] awp2 aops2 ains aloop athen bbind obind gbind acond res1 Go.Abs.Fn PCall Go.Abs.Pure SnapArgs SnapL Yl

theorem keys_it {y p b : Nat} {ks vs : List AV} {H : Hp} {nx : Nat} (I : List Nat → Hp → Nat → Prop)
    (hp : ∀ S H' nx', I S H' nx' → H' p = some [.mp b] ∧ H' b = some [.omap ks vs] ∧ p ≠ nx ∧ b ≠ nx)
    (stab : ∀ S H H' nx' nx'', I S H nx' → nx' ≤ nx'' → (∀ i, i < nx' → i ≠ nx → H' i = H i) → I S H' nx'')
    (h0 : I [] H nx) (hk1 : ∀ i, i < ks.length → (ks.getD i .undef).cells = [ks.getD i .undef])
    (rnd : ∀ S i H' nx', i < ks.length → i ∉ S → S.length < ks.length → I S H' nx' → nx < nx' → Yl Try.prog y [ks.getD i .undef] H' nx' fun r H'' nx'' => r = .bool true ∧ I (S ++ [i]) H'' nx'' ∧ nx' ≤ nx'' ∧ H'' nx = H' nx) :
    Abs.Fn Try.prog 112 [.yld y, .ptr p 1 0] H nx fun _ H' nx' => ∃ S, I S H' nx' ∧ S.Nodup ∧ (∀ i, i ∈ S → i < ks.length) ∧ ∀ i, i < ks.length → i ∈ S := by
  refine Abs.Fn.of_c2 follows is112 (Nat.le_of_ble_eq_true rfl) ?_
  simp only [b112, O, G, N, M, D, F, B2, cFal, cTru]
  obtain ⟨g1, g2, g3, g4⟩ := hp _ _ _ h0
  repeat' (first | apply w_seq | apply w_ops0 | (apply o_val rfl rfl; (focus ((try simp (disch := omega) only [simB0, ZA, reduceEqDiff, ↓reduceIte, reduceAdd, reduceLeDiff, ZV, reduceCtorEq, g1, g2]); first | with_reducible rfl | (apply s_ite; (focus omega); with_reducible rfl)))))
  refine o_mrng (by ((try simp only [simB0, ZA, reduceEqDiff, ↓reduceIte, reduceAdd, reduceLeDiff]); (try with_reducible rfl))) g2 ?_
  repeat' (first | apply w_block | apply a_n | apply o_nil | apply w_loop)
  refine loopI (X := List Nat) (fun _ => [(0, .yld y), (5, .itr nx)]) (fun S H' nx' => I S H' nx' ∧ nx < nx' ∧ H' nx = some [.oiter b ks.length S] ∧ S.Nodup ∧ (∀ i, i ∈ S → i < ks.length)) (fun S => ks.length - S.length) []
    ⟨stab _ _ _ _ _ h0 (Nat.le_succ _) (fun i hi hne => by rw [hupd_ne hne]), Nat.lt_succ_self _, hupd_self', List.nodup_nil, fun i hi => (by cases hi)⟩ (by simp (disch := omega) only [agr, ZG, reduceEqDiff, ↓reduceIte]) ?_
  rintro S H1 nx1 ⟨hI, hnx, hit, hnd, hlt⟩
  obtain ⟨j1, j2, j3, j4⟩ := hp _ _ _ hI
  have hS : S.length ≤ ks.length := by
    have := List.Nodup.length_le_of_subset hnd (l₂ := List.range ks.length) (fun i hi => List.mem_range.2 (hlt i hi))
    simpa using this
  repeat' (first | apply w_seq | apply w_ops0)
  refine o_mnxt (by ((try simp only [simB0, ZA, reduceEqDiff, ↓reduceIte, reduceAdd, reduceLeDiff]); (try with_reducible rfl))) hit j2 rfl (fun i hi hn => ?_) (fun hall => ?_)
  · repeat' (first | apply w_seq | apply w_ops0 | apply w_block | apply w_skip | apply a_n | apply o_nil | (apply o_val rfl rfl; (focus ((try simp (disch := omega) only [simB0, ZA, reduceEqDiff, ↓reduceIte, reduceAdd, reduceLeDiff, ZV, reduceCtorEq]); first | with_reducible rfl | (apply s_ite; (focus omega); with_reducible rfl)))) | (apply w_condT; (focus (simp only [simB0, ZA, reduceEqDiff, ↓reduceIte, reduceAdd, reduceLeDiff]; done))))
    refine o_ment (i := i) (by ((try simp only [simB0, ZA, reduceEqDiff, ↓reduceIte, reduceAdd, reduceLeDiff]); (try with_reducible rfl))) hupd_self' (by rw [hupd_ne j4]; exact j2) rfl (by simp) hi ?_
    repeat' (first | apply w_seq | apply w_ops0 | apply a_n | apply o_nil | (apply o_val rfl rfl; (focus ((try simp (disch := omega) only [simB0, ZA, reduceEqDiff, ↓reduceIte, reduceAdd, reduceLeDiff, ZV, reduceCtorEq]); first | with_reducible rfl | (apply s_ite; (focus omega); with_reducible rfl)))))
    have hnd' : (S ++ [i]).Nodup := List.nodup_append.2 ⟨hnd, by simp, fun a ha c hc => by simp at hc; subst hc; intro e; subst e; exact hn ha⟩
    have hlt' : ∀ j, j ∈ S ++ [i] → j < ks.length := fun j hj => by
      rcases List.mem_append.1 hj with h | h
      · exact hlt j h
      · simp at h; subst h; exact hi
    have hS' : (S ++ [i]).length ≤ ks.length := by
      have := List.Nodup.length_le_of_subset hnd' (l₂ := List.range ks.length) (fun j hj => List.mem_range.2 (hlt' j hj))
      simpa using this
    refine o_yield (by ((try simp only [simB0, ZA, reduceEqDiff, ↓reduceIte, reduceAdd, reduceLeDiff]); (try with_reducible rfl))) (by ((try simp only [simB0, ZA, reduceEqDiff, ↓reduceIte, reduceAdd, reduceLeDiff]); (try with_reducible rfl))) (Yl.mono (rnd S i _ nx1 hi hn (by simp at hS'; omega) (stab _ _ _ _ _ hI (Nat.le_refl _) (fun x hx hne => by rw [hupd_ne hne])) hnx) ?_)
    rintro r H2 nx2 ⟨rfl, hI2, hle, hH2⟩
    repeat' (first | apply w_skip | apply a_n | apply o_nil | (apply o_val rfl rfl; (focus ((try simp (disch := omega) only [simB0, ZA, reduceEqDiff, ↓reduceIte, reduceAdd, reduceLeDiff, ZV, reduceCtorEq]); first | with_reducible rfl | (apply s_ite; (focus omega); with_reducible rfl)))) | (apply w_condF; (focus (simp only [simB0, ZA, reduceEqDiff, ↓reduceIte, reduceAdd, reduceLeDiff]; done))))
    refine ⟨S ++ [i], by simp at hS' ⊢; omega, ⟨hI2, by omega, by rw [hH2]; exact hupd_self', hnd', hlt'⟩, by simp (disch := omega) only [agr, ZG, reduceEqDiff, ↓reduceIte]⟩
  · repeat' (first | apply w_seq | apply w_exit | apply a_n | apply a_x | apply o_nil | (apply o_val rfl rfl; (focus ((try simp (disch := omega) only [simB0, ZA, reduceEqDiff, ↓reduceIte, reduceAdd, reduceLeDiff, ZV, reduceCtorEq]); first | with_reducible rfl | (apply s_ite; (focus omega); with_reducible rfl)))) | (apply w_condF; (focus (simp only [simB0, ZA, reduceEqDiff, ↓reduceIte, reduceAdd, reduceLeDiff]; done))) | (refine e_ends rfl ?_) | apply r_0)
    exact ⟨S, hI, hnd, hlt, fun i hi => hall i hi hi⟩

theorem appendSeq_c {p b : Nat} {ks vs : List AV} {H : Hp} {nx : Nat} (gp : H p = some [.mp b]) (gb : H b = some [.omap ks vs]) (hp : p < nx) (hb : b < nx) (hl : ks.length ≤ 100)
    (hk : ∀ i, i < ks.length → (ks.getD i .undef).cells = [ks.getD i .undef] ∧ (ks.getD i .undef).one = true) :
    Abs.Fn Try.prog 127 [.esl, .func 112 [.ptr p 1 0]] H nx fun r H' nx' => ∃ S : List Nat, S.Nodup ∧ (∀ i, i ∈ S → i < ks.length) ∧ (∀ i, i < ks.length → i ∈ S) ∧ Row H' 1 r (S.map (ks.getD · .undef)) ∧ nx ≤ nx' ∧ ∀ b', rowB r = some b' → nx ≤ b' ∧ b' < nx' := by
  refine Abs.Fn.of_c2 follows is127 (Nat.le_of_ble_eq_true rfl) ?_
  simp only [b127, O, G, N, M, D, F, B2, cFal, cTru]
  repeat' (first | apply w_seq | apply w_ops0 | apply w_block | apply a_n | apply o_nil | (apply o_val rfl rfl; (focus ((try simp (disch := omega) only [simB0, ZA, reduceEqDiff, ↓reduceIte, reduceAdd, reduceLeDiff, ZV, reduceCtorEq]); first | with_reducible rfl | (apply s_ite; (focus omega); with_reducible rfl)))) | (apply e_box rfl; (iterate 2 (focus ((try simp only [simB0, ZA, reduceEqDiff, ↓reduceIte, reduceAdd, reduceLeDiff]); (try with_reducible rfl); done))); (focus (simp only [SO, Bool.and_self, one_encV, one_encVV]))))
  refine w_rangeFb (nx + 1) (nx + 2) rfl rfl (by ((try simp only [simB0, ZA, reduceEqDiff, ↓reduceIte, reduceAdd, reduceLeDiff]); (try with_reducible rfl))) (fun c0 cj hy => ?_)
  refine Abs.Fn.mono (keys_it (p := p) (b := b) (ks := ks) (vs := vs) (fun S H' nx' => nx + 2 ≤ nx' ∧ H' p = some [.mp b] ∧ H' b = some [.omap ks vs] ∧ H' (nx + 1) = some [c0] ∧ ∃ sv, H' nx = some [sv] ∧ Row H' 1 sv (S.map (ks.getD · .undef)) ∧ ∀ b', rowB sv = some b' → nx + 2 < b' ∧ b' < nx') ?_ ?_ ?_ (fun i hi => (hk i hi).1) ?_) ?_
  · rintro S H' nx' ⟨h1, h2, h3, h4, h5⟩
    exact ⟨h2, h3, by omega, by omega⟩
  · rintro S H1 H2 a c ⟨h1, h2, h3, h4, sv, h5, h6, h7⟩ hac hs
    refine ⟨by omega, (hs _ (by omega) (by omega)).trans h2, (hs _ (by omega) (by omega)).trans h3, (hs _ (by omega) (by omega)).trans h4, sv, (hs _ (by omega) (by omega)).trans h5, h6.same (fun b' hb' => hs _ (h7 b' hb').2 (by have := h7 b' hb'; omega)), fun b' hb' => ⟨(h7 b' hb').1, by have := h7 b' hb'; omega⟩⟩
  · refine ⟨Nat.le_refl _, ?_, ?_, hupd_self', .esl, ?_, .nil, fun b' hb' => (by cases hb')⟩
    · rw [hupd_ne (by omega), hupd_ne (by omega), gp]
    · rw [hupd_ne (by omega), hupd_ne (by omega), gb]
    · rw [hupd_ne (by omega), hupd_self']
  · rintro S i H' nx' hi hn hlt ⟨h1, h2, h3, h4, sv, h5, h6, h7⟩ hnx
    obtain ⟨k1, k2⟩ := hk i hi
    refine hy _ _ _ _ h4 rfl ?_
    clear hy
    generalize hkk : ks.getD i .undef = kk at *
    repeat' (first | apply w_ops0 | apply a_n | apply o_nil | (apply o_val rfl rfl; (focus ((try simp (disch := omega) only [simB0, ZA, reduceEqDiff, ↓reduceIte, reduceAdd, reduceLeDiff, ZV, reduceCtorEq]); first | with_reducible rfl | (apply s_ite; (focus omega); with_reducible rfl)))))
    refine ⟨h4, ?_⟩
    repeat' (first | apply w_ops0 | apply w_block | (apply o_val rfl; (focus (first | rfl | (simp (disch := omega) only [dm2, oldP, newP, simB0, ZA, reduceEqDiff, ↓reduceIte, reduceAdd, reduceLeDiff, decide_eq_true_eq]; first | done | omega))); (focus ((try simp (disch := omega) only [simB2, ZA, reduceEqDiff, ↓reduceIte, reduceAdd, reduceLeDiff, ZV, reduceCtorEq, h5, k1, k2]); first | with_reducible rfl | (apply s_ite; (focus omega); with_reducible rfl)))) | (apply e_bld rfl; (focus (exact Nat.succ_ne_zero _)); (focus ((try simp (disch := omega) only [simB2, ZA, reduceEqDiff, ↓reduceIte, reduceAdd, reduceLeDiff, h5, k1, k2]); (try with_reducible rfl); done)); (focus ((try simp (disch := omega) only [simB2, ZA, reduceEqDiff, ↓reduceIte, reduceAdd, reduceLeDiff, SO, Bool.and_self, one_encV, one_encVV, h5, k1, k2]); (try with_reducible rfl); done))))
    refine e_row rfl (by ((try simp only [simB0, ZA, reduceEqDiff, ↓reduceIte, reduceAdd, reduceLeDiff]); (try with_reducible rfl))) (h6.same fun b' hb' => ?_) (by ((try simp only [simB0, ZA, reduceEqDiff, ↓reduceIte, reduceAdd, reduceLeDiff]); (try with_reducible rfl))) (k := 1) (new := [kk]) asrc_one (by simp [AV.ones, k2]) rfl Nat.one_pos (by rw [List.length_map]; omega) (by rw [List.length_map]; omega) ?_
    · have := h7 b' hb'
      rw [hupd_ne (by omega), hdel_ne (by omega)]
    rintro sv' H2 nx2 r1 r2 r3 r4 r5
    have z : ∀ x, x < nx' → x ≠ nx + 1 → rowB sv ≠ some x → H2 x = H' x := fun x a1 a2 a3 => (r4 x (by omega) a3).trans (by rw [hupd_ne (by omega), hdel_ne a2])
    have zs : ∀ x, x ≤ nx + 2 → rowB sv ≠ some x := fun x hx e => by have := h7 x e; omega
    have g5 : H2 nx = some [sv] := (z nx (by omega) (by omega) (zs _ (by omega))).trans h5
    obtain ⟨q1, q2⟩ := r1.one
    repeat' (first | apply a_n | apply o_nil | (apply e_st; (focus (first | rfl | (simp (disch := omega) only [dm2, oldP, newP, simB0, ZA, reduceEqDiff, ↓reduceIte, reduceAdd, reduceLeDiff, decide_eq_true_eq]; first | done | omega))); (iterate 4 (focus ((try simp (disch := omega) only [simB2, ZA, reduceEqDiff, ↓reduceIte, reduceAdd, reduceLeDiff, g5, q1, q2]); (try with_reducible rfl); done))); (focus (simp (disch := omega) only [SO, Bool.and_self, one_encV, one_encVV, g5, q1, q2])); (iterate 3 (focus ((try simp (disch := omega) only [SL, reduceAdd, Nat.reduceMul, List.length_map]); first | done | omega)))))
    have w : ∀ x, x ≠ nx → x ≠ nx + 1 → hupd (hupd H2 nx (lput [sv] 0 [sv'])) (nx + 1) [c0] x = H2 x := fun x a1 a2 => by rw [hupd_ne a2, hupd_ne a1]
    have u7 : ∀ b', rowB sv' = some b' → nx + 2 < b' ∧ b' < nx2 := fun b' hb' => by
      rcases r5 b' hb' with e | ⟨e1, e2⟩
      · have := h7 b' e; omega
      · omega
    refine ⟨rfl, ⟨by omega, by rw [w _ (by omega) (by omega), z _ (by omega) (by omega) (zs _ (by omega)), h2], by rw [w _ (by omega) (by omega), z _ (by omega) (by omega) (zs _ (by omega)), h3], hupd_self', sv', ?_, ?_, u7⟩, by omega, by rw [w _ (by omega) (by omega), z _ (by omega) (by omega) (zs _ (by omega))]⟩
    · rw [hupd_ne (by omega), hupd_self']; rfl
    · rw [List.map_append, List.map_cons, List.map_nil, hkk]
      exact r1.same (fun b' hb' => w b' (by have := u7 b' hb'; omega) (by have := u7 b' hb'; omega))
  · rintro r H' nx' ⟨S, ⟨h1, h2, h3, h4, sv, h5, h6, h7⟩, s1, s2, s3⟩
    refine .inl ⟨h4, ?_⟩
    repeat' (first | apply w_seq | apply w_ops0 | apply w_ret | apply a_n | apply o_nil | (apply o_val rfl; (focus (first | rfl | (simp (disch := omega) only [dm2, oldP, newP, simB0, ZA, reduceEqDiff, ↓reduceIte, reduceAdd, reduceLeDiff, decide_eq_true_eq]; first | done | omega))); (focus ((try simp (disch := omega) only [simB2, ZA, reduceEqDiff, ↓reduceIte, reduceAdd, reduceLeDiff, ZV, reduceCtorEq, h5]); first | with_reducible rfl | (apply s_ite; (focus omega); with_reducible rfl)))) | (refine e_ends rfl ?_) | (apply r_1; (focus (simp (disch := omega) only [rv, simB2, ZA, reduceEqDiff, ↓reduceIte, reduceAdd, reduceLeDiff, h5]; with_reducible rfl))))
    exact ⟨S, s1, s2, s3, h6.same (fun b' hb' => hdel_ne (by have := h7 b' hb'; omega)), by omega, fun b' hb' => by have := h7 b' hb'; omega⟩
end Go.Proofs.Ytcbkggfipdldaaa

/- P38: contracts of functions and plain laws; for all inputs that the theorems name. -/
namespace Go.Proofs.Ytcbkggfipdldaaa
open Go Go.Abs

/-! ### sorting the seven names, in whatever order they come -/
def nameL : List ByteArray := [sAppr, sCom, sCons, sCrus, sLead, sRen, sSet]
def nm (i : Nat) : ByteArray := nameL.getD i default
theorem nm_lt : (List.range 7).all (fun i => (List.range 7).all fun j => strLt (nm i) (nm j) == decide (i < j)) = true := by decide +kernel
theorem nm_lt' {i j : Nat} (hi : i < 7) (hj : j < 7) : strLt (nm i) (nm j) = decide (i < j) := by
  have := List.all_eq_true.1 (List.all_eq_true.1 nm_lt i (List.mem_range.2 hi)) j (List.mem_range.2 hj)
  simpa using this
def swpN (l : List Nat) (j : Nat) : List Nat := (l.set (j + 1) (l.getD j default)).set j (l.getD (j + 1) default)
def downN : Nat → List Nat → List Nat
  | 0, l => l
  | j + 1, l => if l.getD (j + 1) default < l.getD j default then downN j (swpN l j) else l
def downsN : Nat → Nat → List Nat → List Nat
  | 0, _, l => l
  | f + 1, i, l => downsN f (i + 1) (downN i l)
theorem swpN_len (l : List Nat) (j : Nat) : (swpN l j).length = l.length := by simp [swpN]
theorem downN_len (j : Nat) (l : List Nat) : (downN j l).length = l.length := by
  induction j generalizing l with
  | zero => rfl
  | succ j ih => unfold downN; split <;> simp [ih, swpN_len]
theorem getD_nm {l : List Nat} {k : Nat} (h : k < l.length) : (l.map nm).getD k default = nm (l.getD k default) := by
  simp [List.getD, h]
theorem mem_getN {l : List Nat} {k : Nat} (h : k < l.length) : l.getD k default ∈ l := by
  simp [List.getD, h]
theorem swpN_mem {l : List Nat} {j : Nat} (h : j + 1 < l.length) (hl : ∀ x, x ∈ l → x < 7) : ∀ x, x ∈ swpN l j → x < 7 := by
  intro x hx
  unfold swpN at hx
  rcases List.mem_or_eq_of_mem_set hx with hx | rfl
  · rcases List.mem_or_eq_of_mem_set hx with hx | rfl
    · exact hl _ hx
    · exact hl _ (mem_getN (by omega))
  · exact hl _ (mem_getN h)
theorem down_nm (j : Nat) (l : List Nat) (h : j < l.length) (hl : ∀ x, x ∈ l → x < 7) : downS j (l.map nm) = (downN j l).map nm ∧ ∀ x, x ∈ downN j l → x < 7 := by
  induction j generalizing l with
  | zero => exact ⟨rfl, hl⟩
  | succ j ih =>
    rw [downS, downN, getD_nm h, getD_nm (by omega), nm_lt' (hl _ (mem_getN h)) (hl _ (mem_getN (by omega)))]
    by_cases hc : l.getD (j + 1) default < l.getD j default
    · rw [if_pos (by simpa using hc), if_pos hc]
      have e : swpS (l.map nm) j = (swpN l j).map nm := by
        unfold swpS swpN
        rw [getD_nm h, getD_nm (by omega), List.map_set, List.map_set]
      rw [e]
      exact ih _ (by rw [swpN_len]; omega) (swpN_mem h hl)
    · rw [if_neg (by simpa using hc), if_neg hc]
      exact ⟨rfl, hl⟩
theorem downs_nm (f i : Nat) (l : List Nat) (h : i + f ≤ l.length) (hl : ∀ x, x ∈ l → x < 7) : downsS f i (l.map nm) = (downsN f i l).map nm := by
  induction f generalizing i l with
  | zero => rfl
  | succ f ih =>
    rw [downsS, downsN]
    obtain ⟨e, m⟩ := down_nm i l (by omega) hl
    rw [e]
    exact ih _ _ (by rw [downN_len]; omega) m
def permB : Nat → List Nat → List Nat → Bool
  | 0, _, acc => decide (downsN 6 1 acc.reverse = [0, 1, 2, 3, 4, 5, 6])
  | f + 1, rem, acc => rem.all fun i => permB f (rem.erase i) (i :: acc)
theorem permB_0 : permB 6 ([0, 1, 2, 3, 4, 5, 6].erase 0) [0] = true := by decide +kernel
theorem permB_1 : permB 6 ([0, 1, 2, 3, 4, 5, 6].erase 1) [1] = true := by decide +kernel
theorem permB_2 : permB 6 ([0, 1, 2, 3, 4, 5, 6].erase 2) [2] = true := by decide +kernel
theorem permB_3 : permB 6 ([0, 1, 2, 3, 4, 5, 6].erase 3) [3] = true := by decide +kernel
theorem permB_4 : permB 6 ([0, 1, 2, 3, 4, 5, 6].erase 4) [4] = true := by decide +kernel
theorem permB_5 : permB 6 ([0, 1, 2, 3, 4, 5, 6].erase 5) [5] = true := by decide +kernel
theorem permB_6 : permB 6 ([0, 1, 2, 3, 4, 5, 6].erase 6) [6] = true := by decide +kernel
theorem permB_all : permB 7 [0, 1, 2, 3, 4, 5, 6] [] = true := by
  rw [permB, List.all_eq_true]
  intro i hi
  have h7 : i = 0 ∨ i = 1 ∨ i = 2 ∨ i = 3 ∨ i = 4 ∨ i = 5 ∨ i = 6 := by simpa using hi
  rcases h7 with rfl | rfl | rfl | rfl | rfl | rfl | rfl
  · exact permB_0
  · exact permB_1
  · exact permB_2
  · exact permB_3
  · exact permB_4
  · exact permB_5
  · exact permB_6
theorem permB_get (f : Nat) (rem acc S : List Nat) (h : permB f rem acc = true) (hl : S.length = f) (hp : S.Perm rem) : downsN 6 1 (acc.reverse ++ S) = [0, 1, 2, 3, 4, 5, 6] := by
  induction f generalizing rem acc S with
  | zero =>
    obtain rfl := List.eq_nil_of_length_eq_zero hl
    rw [List.append_nil]
    exact of_decide_eq_true h
  | succ f ih =>
    cases S with
    | nil => simp at hl
    | cons i S =>
      rw [permB, List.all_eq_true] at h
      obtain ⟨hi, hp'⟩ := List.cons_perm_iff_perm_erase.1 hp
      have := ih (rem.erase i) (i :: acc) S (h i hi) (by simpa using hl) hp'
      simpa using this
theorem sorted_names (S : List Nat) (h1 : S.Nodup) (h2 : ∀ i, i ∈ S → i < 7) (h3 : ∀ i, i < 7 → i ∈ S) : sortedS (S.map nm) = nameL := by
  have hp : S.Perm [0, 1, 2, 3, 4, 5, 6] := (List.perm_ext_iff_of_nodup h1 (by decide)).2 fun i => by
    refine ⟨fun h => ?_, fun h => h3 i ?_⟩
    · have := h2 i h
      simp; omega
    · simp at h; omega
  have hl : S.length = 7 := hp.length_eq
  unfold sortedS
  rw [List.length_map, hl, downs_nm 6 1 S (by omega) h2, show downsN 6 1 S = [0, 1, 2, 3, 4, 5, 6] from permB_get 7 _ [] S permB_all hl hp]
  rfl
end Go.Proofs.Ytcbkggfipdldaaa

/- P39: contracts of functions and plain laws; for all inputs that the theorems name. -/
namespace Go.Proofs.Ytcbkggfipdldaaa
open Go Go.Abs
open Nat (reduceEqDiff reduceAdd reduceLeDiff)
attribute [local irreducible] awp2 aops2 ains aloop athen bbind obind gbind acond res1 Go.Abs.Fn PCall Go.Abs.Pure SnapArgs SnapL Yl

theorem keys_c (b : Nat) (H : Hp) (nx : Nat) : Abs.Fn Try.prog 80 [.mp b] H nx fun r H' nx' => r = .func 112 [.ptr nx 1 0] ∧ H' = hupd H nx [.mp b] ∧ nx' = nx + 1 := by
  refine Abs.Fn.of_c2 follows is80 (Nat.le_of_ble_eq_true rfl) ?_
  simp only [b80, O, G, N, M, D, F, B2, cFal, cTru]
  repeat' (first | apply w_seq | apply w_ops0 | apply w_ret | apply a_n | apply o_nil | (apply o_val rfl rfl; (focus ((try simp (disch := omega) only [simB0, ZA, reduceEqDiff, ↓reduceIte, reduceAdd, reduceLeDiff, ZV, reduceCtorEq]); first | with_reducible rfl | (apply s_ite; (focus omega); with_reducible rfl)))) | (apply e_box rfl; (iterate 2 (focus ((try simp only [simB0, ZA, reduceEqDiff, ↓reduceIte, reduceAdd, reduceLeDiff]); (try with_reducible rfl); done))); (focus (simp only [SO, Bool.and_self, one_encV, one_encVV]))) | (refine e_ends rfl ?_) | (apply r_1; (focus (simp only [rv, simB0, ZA, reduceEqDiff, ↓reduceIte, reduceAdd, reduceLeDiff]; with_reducible rfl))))
  exact ⟨rfl, rfl, rfl⟩

theorem collect_c {p b : Nat} {H : Hp} {nx : Nat} (gp : H p = some [.mp b]) (gb : H b = some [.omap taskNames taskFuncs]) (hp : p < nx) (hb : b < nx) :
    Abs.Fn Try.prog 110 [.func 112 [.ptr p 1 0]] H nx fun r H' nx' => ∃ (S : List Nat) (B : Nat), S.Nodup ∧ (∀ i, i ∈ S → i < 7) ∧ (∀ i, i < 7 → i ∈ S) ∧ S.length = 7 ∧ r = .msl B 7 1 0 7 ∧ H' B = some ((S.map nm).map AV.str) ∧ B < nx' := by
  refine Abs.Fn.of_c2 follows is110 (Nat.le_of_ble_eq_true rfl) ?_
  simp only [b110, O, G, N, M, D, F, B2, cFal, cTru]
  repeat' (first | apply w_seq | apply w_ops0 | apply a_n | apply o_nil | (apply o_val rfl rfl; (focus ((try simp (disch := omega) only [simB0, ZA, reduceEqDiff, ↓reduceIte, reduceAdd, reduceLeDiff, ZV, reduceCtorEq]); first | with_reducible rfl | (apply s_ite; (focus omega); with_reducible rfl)))))
  refine o_callE (by ((try simp only [simB0, ZA, reduceEqDiff, ↓reduceIte, reduceAdd, reduceLeDiff]); (try with_reducible rfl))) (by ((try simp only [simB0, ZA, reduceEqDiff, ↓reduceIte, reduceAdd, reduceLeDiff]); (try with_reducible rfl))) (appendSeq_c (p := p) (b := b) (ks := taskNames) (vs := taskFuncs) gp gb hp hb (by decide) (fun i hi => by
    have : i = 0 ∨ i = 1 ∨ i = 2 ∨ i = 3 ∨ i = 4 ∨ i = 5 ∨ i = 6 := by
      have h7 : i < 7 := hi
      omega
    rcases this with rfl | rfl | rfl | rfl | rfl | rfl | rfl <;> exact ⟨rfl, rfl⟩)) ?_
  rintro r H' nx' ⟨S, s1, s2, s3, hrow, hle, hB⟩
  have hl : S.length = 7 := by
    have h1 := List.Nodup.length_le_of_subset s1 (l₂ := List.range 7) (fun i hi => List.mem_range.2 (s2 i hi))
    have h2 := List.Nodup.length_le_of_subset (List.nodup_range (n := 7)) (l₂ := S) (fun i hi => s3 i (List.mem_range.1 hi))
    simp at h1 h2
    omega
  have hm : S.map (taskNames.getD · .undef) = (S.map nm).map AV.str := by
    rw [List.map_map]
    refine List.map_congr_left fun i hi => ?_
    have : i < 7 := s2 i hi
    have : i = 0 ∨ i = 1 ∨ i = 2 ∨ i = 3 ∨ i = 4 ∨ i = 5 ∨ i = 6 := by omega
    rcases this with rfl | rfl | rfl | rfl | rfl | rfl | rfl <;> rfl
  rw [hm] at hrow
  repeat' (first | apply w_ret | apply a_n | apply o_nil | (apply o_val rfl rfl; (focus ((try simp (disch := omega) only [simB0, ZA, reduceEqDiff, ↓reduceIte, reduceAdd, reduceLeDiff, ZV, reduceCtorEq]); first | with_reducible rfl | (apply s_ite; (focus omega); with_reducible rfl)))) | (refine e_ends rfl ?_) | (apply r_1; (focus (simp only [rv, simB0, ZA, reduceEqDiff, ↓reduceIte, reduceAdd, reduceLeDiff]; with_reducible rfl))))
  generalize hcs : (S.map nm).map AV.str = cs at hrow
  have hcl : cs.length = 7 := by rw [← hcs]; simp [hl]
  cases hrow with
  | nil => simp at hcl
  | box B len _ hb' hl' =>
    obtain rfl : len = 7 := by omega
    exact ⟨S, B, s1, s2, s3, hl, rfl, by rw [hb', ← hcs], (hB B rfl).2⟩

theorem sortedNames_c {p b : Nat} {H : Hp} {nx : Nat} (gp : H p = some [.mp b]) (gb : H b = some [.omap taskNames taskFuncs]) (hp : p < nx) (hb : b < nx) :
    Abs.Fn Try.prog 79 [.func 112 [.ptr p 1 0]] H nx fun r H' nx' => ∃ B : Nat, r = .msl B 7 1 0 7 ∧ H' B = some (nameL.map AV.str) ∧ B < nx' := by
  refine Abs.Fn.of_c2 follows is79 (Nat.le_of_ble_eq_true rfl) ?_
  simp only [b79, O, G, N, M, D, F, B2, cFal, cTru]
  repeat' (first | apply w_seq | apply w_ops0 | apply a_n | apply o_nil | (apply o_val rfl rfl; (focus ((try simp (disch := omega) only [simB0, ZA, reduceEqDiff, ↓reduceIte, reduceAdd, reduceLeDiff, ZV, reduceCtorEq]); first | with_reducible rfl | (apply s_ite; (focus omega); with_reducible rfl)))))
  refine o_callE (by ((try simp only [simB0, ZA, reduceEqDiff, ↓reduceIte, reduceAdd, reduceLeDiff]); (try with_reducible rfl))) (by ((try simp only [simB0, ZA, reduceEqDiff, ↓reduceIte, reduceAdd, reduceLeDiff]); (try with_reducible rfl))) (collect_c gp gb hp hb) ?_
  rintro r H' nx' ⟨S, B, s1, s2, s3, hl, rfl, hB, hlt⟩
  repeat' (first | apply w_seq | apply w_ops0 | apply a_n | apply o_nil | (apply o_val rfl rfl; (focus ((try simp (disch := omega) only [simB0, ZA, reduceEqDiff, ↓reduceIte, reduceAdd, reduceLeDiff, ZV, reduceCtorEq]); first | with_reducible rfl | (apply s_ite; (focus omega); with_reducible rfl)))))
  have hsl : (S.map nm).length = 7 := by simp [hl]
  have hs := sortS_c (S.map nm) (by omega) (by intro h; rw [h] at hsl; simp at hsl) H' B nx' hB hlt
  rw [hsl] at hs
  refine o_callE (by ((try simp only [simB0, ZA, reduceEqDiff, ↓reduceIte, reduceAdd, reduceLeDiff]); (try with_reducible rfl))) (by ((try simp only [simB0, ZA, reduceEqDiff, ↓reduceIte, reduceAdd, reduceLeDiff]); (try with_reducible rfl))) hs ?_
  rintro r H2 nx2 ⟨rfl, rfl⟩
  repeat' (first | apply w_seq | apply w_ops0 | apply w_ret | apply a_n | apply o_nil | (apply o_val rfl rfl; (focus ((try simp (disch := omega) only [simB0, ZA, reduceEqDiff, ↓reduceIte, reduceAdd, reduceLeDiff, ZV, reduceCtorEq]); first | with_reducible rfl | (apply s_ite; (focus omega); with_reducible rfl)))) | (refine e_ends rfl ?_) | (apply r_1; (focus (simp only [rv, simB0, ZA, reduceEqDiff, ↓reduceIte, reduceAdd, reduceLeDiff]; with_reducible rfl))))
  exact ⟨B, rfl, by rw [hupd_self', sorted_names S s1 s2 s3], hlt⟩

theorem names_c (H : Hp) (nx : Nat) : Abs.Fn Try.prog 41 [] H nx fun r H' nx' => ∃ B : Nat, r = .msl B 7 1 0 7 ∧ H' B = some (nameL.map AV.str) ∧ B < nx' := by
  refine Abs.Fn.of_c2 follows is41 (Nat.le_of_ble_eq_true rfl) ?_
  simp only [b41, O, G, N, M, D, F, B2, cFal, cTru]
  repeat' (first | apply w_seq | apply w_ops0 | apply a_n | apply o_nil | (apply o_val rfl rfl; (focus ((try simp (disch := omega) only [simB0, ZA, reduceEqDiff, ↓reduceIte, reduceAdd, reduceLeDiff, ZV, reduceCtorEq]); first | with_reducible rfl | (apply s_ite; (focus omega); with_reducible rfl)))))
  refine o_callE (by ((try simp only [simB0, ZA, reduceEqDiff, ↓reduceIte, reduceAdd, reduceLeDiff]); (try with_reducible rfl))) (by ((try simp only [simB0, ZA, reduceEqDiff, ↓reduceIte, reduceAdd, reduceLeDiff]); (try with_reducible rfl))) (tasks_c H nx) ?_
  rintro r H' nx' ⟨rfl, h1, rfl, h2⟩
  refine o_callE (by ((try simp only [simB0, ZA, reduceEqDiff, ↓reduceIte, reduceAdd, reduceLeDiff]); (try with_reducible rfl))) (by ((try simp only [simB0, ZA, reduceEqDiff, ↓reduceIte, reduceAdd, reduceLeDiff]); (try with_reducible rfl))) (keys_c nx H' (nx + 1)) ?_
  rintro r H2 nx2 ⟨rfl, rfl, rfl⟩
  refine o_callE (by ((try simp only [simB0, ZA, reduceEqDiff, ↓reduceIte, reduceAdd, reduceLeDiff]); (try with_reducible rfl))) (by ((try simp only [simB0, ZA, reduceEqDiff, ↓reduceIte, reduceAdd, reduceLeDiff]); (try with_reducible rfl))) (sortedNames_c (p := nx + 1) (b := nx) hupd_self' (by rw [hupd_ne (by omega)]; exact h1) (by omega) (by omega)) ?_
  rintro r H3 nx3 ⟨B, rfl, h3, h4⟩
  repeat' (first | apply w_ret | apply a_n | apply o_nil | (apply o_val rfl rfl; (focus ((try simp (disch := omega) only [simB0, ZA, reduceEqDiff, ↓reduceIte, reduceAdd, reduceLeDiff, ZV, reduceCtorEq]); first | with_reducible rfl | (apply s_ite; (focus omega); with_reducible rfl)))) | (refine e_ends rfl ?_) | (apply r_1; (focus (simp only [rv, simB0, ZA, reduceEqDiff, ↓reduceIte, reduceAdd, reduceLeDiff]; with_reducible rfl))))
  exact ⟨B, rfl, h3, h4⟩
end Go.Proofs.Ytcbkggfipdldaaa

/- P40: contracts of functions and plain laws; for all inputs that the theorems name. -/
namespace Go.Proofs.Ytcbkggfipdldaaa
open Go Go.Abs
open Nat (reduceEqDiff reduceAdd reduceLeDiff)
attribute [local irreducible] awp2 aops2 ains aloop athen bbind obind gbind acond res1 Go.Abs.Fn PCall Go.Abs.Pure SnapArgs SnapL Yl

theorem equalS_c (l : List ByteArray) (hl : Sh l) : Pure Try.prog 40 [encL 1 AV.str l, encL 1 AV.str l] (.bool true) := by
  refine Pure.of_c2 follows is40 (Nat.le_of_ble_eq_true rfl) ?_
  simp only [b40, O, G, N, M, D, F, B2, cFal, cTru]
  repeat' (first | apply w_seq | apply w_ops0 | apply w_block | apply w_skip | apply a_n | apply o_nil | (apply o_val rfl rfl; (focus ((try simp (disch := omega) only [simB0, ZA, reduceEqDiff, ↓reduceIte, reduceAdd, reduceLeDiff, ZV, reduceCtorEq, alenS_encL, aixS_encL]); first | with_reducible rfl | (apply s_ite; (focus omega); with_reducible rfl)))) | (apply w_cond; (focus ((try simp only [simB0, ZA, reduceEqDiff, ↓reduceIte, reduceAdd, reduceLeDiff, alenS_encL, aixS_encL]); (try with_reducible rfl); done)); all_goals (intro _hg; (try simp only [ZB] at _hg); try first | exact absurd trivial _hg | (exfalso; omega))) | apply w_loop)
  refine loop0 (X := Nat) (fun k => [(0, encL 1 AV.str l), (1, encL 1 AV.str l), (12, .int .i64 l.length), (13, .int .i64 k)]) (fun k => k ≤ l.length) (fun k => l.length - k) 0 (Nat.zero_le _) (by simp (disch := omega) only [agr, ZG, reduceEqDiff, ↓reduceIte, alenS_encL]) ?_
  rintro k h1
  repeat' (first | apply w_seq | apply w_ops0 | apply w_ops1 | apply w_block | apply w_skip | apply w_exit | apply w_ret | apply a_n | apply a_x | apply o_nil | (apply o_val rfl rfl; (focus ((try simp (disch := omega) only [simB0, ZA, reduceEqDiff, ↓reduceIte, reduceAdd, reduceLeDiff, ZV, reduceCtorEq, alenS_encL, aixS_encL, str_neq, beq_self_eq_true]); first | with_reducible rfl | (apply s_ite; (focus omega); with_reducible rfl)))) | (apply w_condF; (focus (simp only [simB0, ZA, reduceEqDiff, ↓reduceIte, reduceAdd, reduceLeDiff, alenS_encL, aixS_encL, str_neq, beq_self_eq_true]; done))) | (apply w_cond; (focus ((try simp only [simB0, ZA, reduceEqDiff, ↓reduceIte, reduceAdd, reduceLeDiff, alenS_encL, aixS_encL, str_neq, beq_self_eq_true]); (try with_reducible rfl); done)); all_goals (intro _hg; (try simp only [ZB] at _hg); try first | exact absurd trivial _hg | (exfalso; omega))) | (refine e_ends rfl ?_) | (apply r_1; (focus (simp only [rv, simB0, ZA, reduceEqDiff, ↓reduceIte, reduceAdd, reduceLeDiff, alenS_encL, aixS_encL, str_neq, beq_self_eq_true]; with_reducible rfl))))
  all_goals first | exact .bool _ | exact ⟨k + 1, by omega, by omega, by simp (disch := omega) only [agr, ZG, reduceEqDiff, ↓reduceIte], rfl, rfl⟩
end Go.Proofs.Ytcbkggfipdldaaa

/- P41: contracts of functions and plain laws; for all inputs that the theorems name. -/
namespace Go.Proofs.Ytcbkggfipdldaaa
open Go Go.Abs
open Nat (reduceEqDiff reduceAdd reduceLeDiff)
attribute [local irreducible] awp2 aops2 ains aloop athen bbind obind gbind acond res1 Go.Abs.Fn PCall Go.Abs.Pure SnapArgs SnapL Yl

theorem refNames_c (H : Hp) (nx : Nat) : Abs.Fn Try.prog 42 [] H nx fun r H' nx' => r = .msl nx 7 1 0 7 ∧ H' = hupd H nx (nameL.map AV.str) ∧ nx' = nx + 1 := by
  refine Abs.Fn.of_c2 follows is42 (Nat.le_of_ble_eq_true rfl) ?_
  simp only [b42, O, G, N, M, D, F, B2, cFal, cTru]
  repeat' (first | apply w_seq | apply w_ops0 | apply w_ret | apply a_n | apply o_nil | (apply o_val rfl rfl; (focus ((try simp (disch := omega) only [simB0, ZA, reduceEqDiff, ↓reduceIte, reduceAdd, reduceLeDiff, ZV, reduceCtorEq]); first | with_reducible rfl | (apply s_ite; (focus omega); with_reducible rfl)))) | (apply e_bld rfl; (focus (exact Nat.succ_ne_zero _)); (focus ((try simp only [simB0, ZA, reduceEqDiff, ↓reduceIte, reduceAdd, reduceLeDiff]); (try with_reducible rfl); done)); (focus ((try simp only [simB0, ZA, reduceEqDiff, ↓reduceIte, reduceAdd, reduceLeDiff, SO, Bool.and_self, one_encV, one_encVV]); (try with_reducible rfl); done))) | (refine e_ends rfl ?_) | (apply r_1; (focus (simp only [rv, simB0, ZA, reduceEqDiff, ↓reduceIte, reduceAdd, reduceLeDiff]; with_reducible rfl))))
  exact ⟨rfl, rfl, rfl⟩
end Go.Proofs.Ytcbkggfipdldaaa

/- P42: contracts of functions and plain laws; for all inputs that the theorems name. -/
namespace Go.Proofs.Ytcbkggfipdldaaa
open Go Go.Abs
open Nat (reduceEqDiff reduceAdd reduceLeDiff)
attribute [local irreducible] awp2 aops2 ains aloop athen bbind obind gbind acond res1 Go.Abs.Fn PCall Go.Abs.Pure SnapArgs SnapL Yl

theorem law8_c (n v k : Int) : Pure Try.prog 8 [.int .i64 n, .int .i64 v, .int .i64 k] (.bool true) := by
  refine Pure.of_c2 follows is8 (Nat.le_of_ble_eq_true rfl) ?_
  simp only [b8, O, G, N, M, D, F, B2, cFal, cTru]
  have f1 := few_r n v k
  generalize hg : fewB n v k = g1 at *
  refine w_seq ?_
  repeat' (first | apply w_ops0 | apply a_n | apply o_nil | (apply o_val rfl rfl; (focus ((try simp (disch := omega) only [simB0, ZA, reduceEqDiff, ↓reduceIte, reduceAdd, reduceLeDiff, ZV, reduceCtorEq]); first | with_reducible rfl | (apply s_ite; (focus omega); with_reducible rfl)))))
  refine w_seqC (fun T H nx => H = noBoxes ∧ nx = 0 ∧ T 0 = .int .i64 n ∧ T 1 = .int .i64 v ∧ T 2 = .int .i64 k ∧ g1 = true) ?_ ?_
  · repeat' (first | apply w_seq | apply w_ops0 | apply w_skip | apply w_ret | apply a_n | apply a_r | apply o_nil | (apply o_val rfl rfl; (focus ((try simp (disch := omega) only [simB0, ZA, reduceEqDiff, ↓reduceIte, reduceAdd, reduceLeDiff, ZV, reduceCtorEq]); first | with_reducible rfl | (apply s_ite; (focus omega); with_reducible rfl)))) | (apply o_callD; (iterate 2 (focus ((try simp only [simB0, ZA, reduceEqDiff, ↓reduceIte, reduceAdd, reduceLeDiff]); (try with_reducible rfl); done))); (focus (first | (exact f1) | (exact awake_c))); (focus ((first | refine snap_plain ?_ rfl | apply snap_data); repeat' (first | exact snapL_nil | apply snapL_i | apply snapL_dat)))) | (apply w_cond; (focus ((try simp only [simB0, ZA, reduceEqDiff, ↓reduceIte, reduceAdd, reduceLeDiff]); (try with_reducible rfl); done)); all_goals (intro _hg; (try simp only [ZB] at _hg); try first | exact absurd trivial _hg | (exfalso; omega))) | (refine e_ends rfl ?_) | (apply r_1; (focus (simp only [rv, simB0, ZA, reduceEqDiff, ↓reduceIte, reduceAdd, reduceLeDiff]; with_reducible rfl))))
    all_goals first | exact .bool _ | exact ⟨rfl, rfl, rfl, rfl, rfl, by simp_all⟩
  rintro T H nx ⟨rfl, rfl, t0, t1, t2, hgt⟩
  rw [hgt] at hg
  have c1 := ren_c n v k
  have c2 := rren_r n v k
  have c3 := com_c n
  have c4 := rcom_r n
  have c5 := lead_c n
  have c6 := rlead_r n
  rw [ren_eq n v k hg] at c1
  rw [com_eq n] at c3
  rw [lead_eq n] at c5
  obtain ⟨s1, s2⟩ := makeT_sh 5 n v k 0
  obtain ⟨s3, s4⟩ := makeT_sh 1 n 2 2 0
  obtain ⟨s5, s6⟩ := makeT_sh 4 n 1 2 0
  generalize makeT 5 n v k 0 = A at *
  generalize makeT 1 n 2 2 0 = B at *
  generalize makeT 4 n 1 2 0 = C at *
  have q1 := same_r _ s1 s2
  have q2 := same_r _ s3 s4
  have q3 := same_r _ s5 s6
  have d1 := encT_dat A.1
  have d2 := encT_dat B.1
  have d3 := encT_dat C.1
  have z1 : decide (A.2 = A.2) = true := decide_eq_true rfl
  have z2 : decide (B.2 = B.2) = true := decide_eq_true rfl
  have z3 : decide (C.2 = C.2) = true := decide_eq_true rfl
  unfold encT at q1 q2 q3 d1 d2 d3
  repeat' (first | apply w_seq | apply w_ops0 | apply a_n | apply o_nil | (apply o_val rfl rfl; (focus ((try simp (disch := omega) only [simB0, ZA, reduceEqDiff, ↓reduceIte, reduceAdd, reduceLeDiff, ZV, reduceCtorEq, t0, t1, t2, encT_cells, encCs_one, encCs_cells, z1, z2, z3]); first | with_reducible rfl | (apply s_ite; (focus omega); with_reducible rfl)))) | (apply o_callD; (iterate 2 (focus ((try simp only [simB0, ZA, reduceEqDiff, ↓reduceIte, reduceAdd, reduceLeDiff, t0, t1, t2, encT_cells, encCs_one, encCs_cells, z1, z2, z3]); (try with_reducible rfl); done))); (focus (first | (exact c1) | (exact c2) | (exact c3) | (exact c4) | (exact c5) | (exact c6) | (exact q1) | (exact q2) | (exact q3))); (focus ((first | refine snap_plain ?_ rfl | apply snap_data); repeat' (first | exact snapL_nil | apply snapL_i | apply snapL_dat | exact d1 | exact d2 | exact d3)))) | (apply e_alloc rfl; (focus ((try simp only [simB0, ZA, reduceEqDiff, ↓reduceIte, reduceAdd, reduceLeDiff, t0, t1, t2, encT_cells, encCs_one, encCs_cells, z1, z2, z3]); (try with_reducible rfl); done)); (focus (simp only [SO, Bool.and_self, one_encV, one_encVV, t0, t1, t2, encT_cells, encCs_one, encCs_cells, z1, z2, z3]))) | (apply e_st rfl; (iterate 4 (focus ((try simp only [simB0, ZA, reduceEqDiff, ↓reduceIte, reduceAdd, reduceLeDiff, t0, t1, t2, encT_cells, encCs_one, encCs_cells, z1, z2, z3]); (try with_reducible rfl); done))); (focus (simp only [SO, Bool.and_self, one_encV, one_encVV, t0, t1, t2, encT_cells, encCs_one, encCs_cells, z1, z2, z3])); (iterate 3 (focus ((try simp only [SL, reduceAdd, Nat.reduceMul, List.length_map]); first | done | omega)))) | (apply o_gT; (focus (simp only [simB0, ZA, reduceEqDiff, ↓reduceIte, reduceAdd, reduceLeDiff, t0, t1, t2, encT_cells, encCs_one, encCs_cells, z1, z2, z3]; done))) | (apply o_gB; (focus ((try simp only [simB0, ZA, reduceEqDiff, ↓reduceIte, reduceAdd, reduceLeDiff, t0, t1, t2, encT_cells, encCs_one, encCs_cells, z1, z2, z3]); (try with_reducible rfl); done)); all_goals (intro _hg; (try simp only [ZB] at _hg); try first | exact absurd trivial _hg | (exfalso; omega))))
  refine o_callE (by ((try simp only [simB0, ZA, reduceEqDiff, ↓reduceIte, reduceAdd, reduceLeDiff]); (try with_reducible rfl))) (by ((try simp only [simB0, ZA, reduceEqDiff, ↓reduceIte, reduceAdd, reduceLeDiff]); (try with_reducible rfl))) (names_c _ _) ?_
  rintro r H' nx' ⟨P, rfl, hP, hlt⟩
  repeat' (first | (apply o_gT; (focus (simp only [simB0, ZA, reduceEqDiff, ↓reduceIte, reduceAdd, reduceLeDiff]; done))))
  refine o_callE (by ((try simp only [simB0, ZA, reduceEqDiff, ↓reduceIte, reduceAdd, reduceLeDiff]); (try with_reducible rfl))) (by ((try simp only [simB0, ZA, reduceEqDiff, ↓reduceIte, reduceAdd, reduceLeDiff]); (try with_reducible rfl))) (refNames_c _ _) ?_
  rintro r H2 nx2 ⟨rfl, rfl, rfl⟩
  repeat' (first | (apply o_gT; (focus (simp only [simB0, ZA, reduceEqDiff, ↓reduceIte, reduceAdd, reduceLeDiff]; done))))
  have hrow : ∀ {H : Hp} {b : Nat}, H b = some (nameL.map AV.str) → Snap H (.msl b 7 1 0 7) (encL 1 AV.str nameL) := fun h => snap_rowD h rfl rfl (fun y hy => by
    obtain ⟨x, _, rfl⟩ := List.mem_map.1 hy
    exact ⟨rfl, .str⟩)
  refine o_callP (by ((try simp only [simB0, ZA, reduceEqDiff, ↓reduceIte, reduceAdd, reduceLeDiff]); (try with_reducible rfl))) (by ((try simp only [simB0, ZA, reduceEqDiff, ↓reduceIte, reduceAdd, reduceLeDiff]); (try with_reducible rfl))) (equalS_c nameL (by decide)) (snap_plain (snapL_cons (hrow (by rw [hupd_ne (by omega)]; exact hP)) (snapL_cons (hrow hupd_self') snapL_nil)) rfl) ?_
  repeat' (first | apply w_ret | apply a_n | apply o_nil | (apply o_val rfl rfl; (focus ((try simp (disch := omega) only [simB0, ZA, reduceEqDiff, ↓reduceIte, reduceAdd, reduceLeDiff, ZV, reduceCtorEq]); first | with_reducible rfl | (apply s_ite; (focus omega); with_reducible rfl)))) | (apply o_callD; (iterate 2 (focus ((try simp only [simB0, ZA, reduceEqDiff, ↓reduceIte, reduceAdd, reduceLeDiff]); (try with_reducible rfl); done))); (focus (first | (exact awake_c))); (focus ((first | refine snap_plain ?_ rfl | apply snap_data); repeat' (first | exact snapL_nil | apply snapL_i | apply snapL_dat)))) | (apply o_gT; (focus (simp only [simB0, ZA, reduceEqDiff, ↓reduceIte, reduceAdd, reduceLeDiff]; done))) | (refine e_ends rfl ?_) | (apply r_1; (focus (simp only [rv, simB0, ZA, reduceEqDiff, ↓reduceIte, reduceAdd, reduceLeDiff]; with_reducible rfl))))
  all_goals exact .bool _
end Go.Proofs.Ytcbkggfipdldaaa
