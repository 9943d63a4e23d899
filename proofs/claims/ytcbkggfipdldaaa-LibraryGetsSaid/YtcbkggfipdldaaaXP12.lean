/- P12: contracts of functions and plain laws; for all inputs that the theorems name. -/
import Derived.Test.YtcbkggfipdldaaaXP11
set_option linter.unusedSimpArgs false
set_option linter.unusedVariables false
namespace Go.Proofs.Ytcbkggfipdldaaa
open Go Go.Abs
attribute [local irreducible] awp2 aops2 ains aloop athen bbind obind gbind acond res1 Go.Abs.Fn PCall Go.Abs.Pure SnapArgs SnapL Yl

/-- powers, up to a limit -/
def powL (base lim : Nat) : Nat → Nat
  | 0 => 1
  | i + 1 => if powL base lim i ≤ lim then powL base lim i * base else powL base lim i
theorem powL_le {base lim : Nat} (hb : base ≤ 8) (h1 : 1 ≤ lim) : ∀ i, powL base lim i ≤ lim * 8
  | 0 => by unfold powL; omega
  | i + 1 => by
    unfold powL
    split
    · exact Nat.mul_le_mul (by assumption) hb
    · exact powL_le hb h1 i
theorem powL_stop {base lim i : Nat} (h : lim < powL base lim i) : ∀ n, i ≤ n → powL base lim n = powL base lim i
  | 0, hn => by rw [show i = 0 by omega]
  | n + 1, hn => by
    by_cases e : i = n + 1
    · rw [e]
    · have := powL_stop h n (by omega)
      show (if powL base lim n ≤ lim then powL base lim n * base else powL base lim n) = _
      rw [this, if_neg (by omega)]
theorem power_r (base n lim : Nat) (hb : base ≤ 8) (hn : n ≤ 5) (h1 : 1 ≤ lim ∧ lim ≤ 2000) : Pure Try.prog 43 [.int .i64 base, .int .i64 n, .int .i64 lim] (.int .i64 (powL base lim n)) := by
  refine Pure.of_c2 follows is43 (Nat.le_of_ble_eq_true rfl) ?_
  simp only [b43]
  repeat' (first | refine w_seq ?_ | refine w_ops0 ?_ | refine w_block ?_ | refine a_n ?_ | refine o_nil ?_ | (apply o_val rfl rfl; (focus ((try simp (disch := omega) only [simB0, simB1, SA, SV, SN, SR, SL, pick_bool, Nat.reduceEqDiff, ↓reduceIte, Nat.reduceAdd, Nat.reduceLeDiff, SO, one_encV, one_encVV, Bool.and_self, Bool.false_eq_true, reduceCtorEq, wrap64, aixS_encV, aixS_encVV, alenS_encV, alenS_encVV, Int.toNat_natCast, List.length_map, aixS_msl, getElem?_map_lt, Nat.mul_one]); first | with_reducible rfl | (apply s_ite; (focus omega); with_reducible rfl)))) | refine w_loop ?_)
  refine loop0 (X := Nat) (fun k => [(0, .int .i64 base), (1, .int .i64 n), (2, .int .i64 lim), (7, .int .i64 (powL base lim k)), (8, .int .i64 k)]) (fun k => k ≤ n) (fun k => n - k) 0 (Nat.zero_le _) (by simp (disch := omega) only [agr, SA, Nat.reduceEqDiff, ↓reduceIte, wrap64, Int.natCast_add, Int.natCast_one, Int.natCast_zero, and_true, and_self, powL]) ?_
  rintro k hk
  have hp := powL_le hb h1.1 k
  repeat' (first | refine w_seq ?_ | refine w_ops0 ?_ | refine w_block ?_ | refine w_skip ?_ | refine w_exit ?_ | refine w_ret ?_ | refine a_n ?_ | refine a_x ?_ | refine o_nil ?_ | (apply o_val rfl rfl; (focus ((try simp (disch := omega) only [simB0, simB1, SA, SV, SN, SR, SL, pick_bool, Nat.reduceEqDiff, ↓reduceIte, Nat.reduceAdd, Nat.reduceLeDiff, SO, one_encV, one_encVV, Bool.and_self, Bool.false_eq_true, reduceCtorEq, wrap64, aixS_encV, aixS_encVV, alenS_encV, alenS_encVV, Int.toNat_natCast, List.length_map, aixS_msl, getElem?_map_lt, Nat.mul_one]); first | with_reducible rfl | (apply s_ite; (focus omega); with_reducible rfl)))) | (apply o_gT; (focus (simp only [simB0, simB1, SA, SV, SN, SR, SL, pick_bool, Nat.reduceEqDiff, ↓reduceIte, Nat.reduceAdd, Nat.reduceLeDiff]; done))) | (apply o_gF; (focus (simp only [simB0, simB1, SA, SV, SN, SR, SL, pick_bool, Nat.reduceEqDiff, ↓reduceIte, Nat.reduceAdd, Nat.reduceLeDiff, or_true, true_or]; done))) | (apply o_gB; (focus ((try simp only [simB0, simB1, SA, SV, SN, SR, SL, pick_bool, Nat.reduceEqDiff, ↓reduceIte, Nat.reduceAdd, Nat.reduceLeDiff]); (try with_reducible rfl); done)); all_goals (intro _hg; (try simp only [Bool.not_true, Bool.not_false, Bool.not_eq_true', Bool.not_eq_false', Bool.not_not, decide_eq_true_eq, decide_eq_false_iff_not] at _hg); try (exfalso; omega))) | (apply w_condF; (focus (simp only [simB0, simB1, SA, SV, SN, SR, SL, pick_bool, Nat.reduceEqDiff, ↓reduceIte, Nat.reduceAdd, Nat.reduceLeDiff]; done))) | (apply w_cond; (focus ((try simp only [simB0, simB1, SA, SV, SN, SR, SL, pick_bool, Nat.reduceEqDiff, ↓reduceIte, Nat.reduceAdd, Nat.reduceLeDiff]); (try with_reducible rfl); done)); all_goals (intro _hg; (try simp only [Bool.not_eq_true', Bool.not_eq_false', Bool.not_not, decide_eq_true_eq, decide_eq_false_iff_not] at _hg); try (exfalso; omega))) | (refine e_ends rfl ?_) | (apply r_1; (focus (simp only [rv, simB0, simB1, SA, SV, SN, SR, SL, pick_bool, Nat.reduceEqDiff, ↓reduceIte, Nat.reduceAdd, Nat.reduceLeDiff]; with_reducible rfl))))
  · have hpb : powL base lim k * base ≤ 2000 * 8 := Nat.mul_le_mul (by omega) hb
    refine ⟨k + 1, by omega, by omega, ?_, rfl, rfl⟩
    rw [powL, if_pos (by omega)]
    simp (disch := omega) only [agr, SA, Nat.reduceEqDiff, ↓reduceIte, wrap64, Int.natCast_add, Int.natCast_one, Int.natCast_zero, and_true, and_self, ← Int.natCast_mul]
  · refine snap_int ?_
    rw [powL_stop (by omega) n hk]
  · refine snap_int ?_
    rw [show k = n by omega]

/-- the number of cases of a renaming, up to the limit -/
def fallL (ins : Nat) : Nat → Nat
  | 0 => 1
  | i + 1 => if fallL ins i ≤ 1024 then fallL ins i * (ins - i) else fallL ins i
theorem fallL_le {ins : Nat} (hb : ins ≤ 8) : ∀ i, fallL ins i ≤ 1024 * 8
  | 0 => by unfold fallL; omega
  | i + 1 => by
    show (if fallL ins i ≤ 1024 then fallL ins i * (ins - i) else fallL ins i) ≤ _
    split
    · exact Nat.mul_le_mul (by assumption) (by omega)
    · exact fallL_le hb i
theorem fallL_stop {ins i : Nat} (h : 1024 < fallL ins i) : ∀ n, i ≤ n → fallL ins n = fallL ins i
  | 0, hn => by rw [show i = 0 by omega]
  | n + 1, hn => by
    by_cases e : i = n + 1
    · rw [e]
    · have := fallL_stop h n (by omega)
      show (if fallL ins n ≤ 1024 then fallL ins n * (ins - n) else fallL ins n) = _
      rw [this, if_neg (by omega)]
def casesN (task : Int) (n ins : Nat) : Nat := if task = 5 then fallL ins n else powL ins 1024 n
theorem cases_r (task k outs : Int) (n ins : Nat) (hb : ins ≤ 8) (hn : n ≤ 5) : Pure Try.prog 84 [encK task n ins outs k] (.int .i64 (casesN task n ins)) := by
  refine Pure.of_c2 follows is84 (Nat.le_of_ble_eq_true rfl) ?_
  simp only [b84]
  unfold encK
  repeat' (first | refine w_seq ?_ | refine w_ops0 ?_ | refine w_block ?_ | refine w_skip ?_ | refine w_ret ?_ | refine a_n ?_ | refine a_r ?_ | refine o_nil ?_ | (apply o_val rfl rfl; (focus ((try simp (disch := omega) only [simB0, simB1, SA, SV, SN, SR, SL, pick_bool, Nat.reduceEqDiff, ↓reduceIte, Nat.reduceAdd, Nat.reduceLeDiff, SO, one_encV, one_encVV, Bool.and_self, Bool.false_eq_true, reduceCtorEq, wrap64, aixS_encV, aixS_encVV, alenS_encV, alenS_encVV, Int.toNat_natCast, List.length_map, aixS_msl, getElem?_map_lt, Nat.mul_one]); first | with_reducible rfl | (apply s_ite; (focus omega); with_reducible rfl)))) | (apply o_callD; (focus ((try simp only [simB0, simB1, SA, SV, SN, SR, SL, pick_bool, Nat.reduceEqDiff, ↓reduceIte, Nat.reduceAdd, Nat.reduceLeDiff]); (try with_reducible rfl); done)); (focus ((try simp only [simB0, simB1, SA, SV, SN, SR, SL, pick_bool, Nat.reduceEqDiff, ↓reduceIte, Nat.reduceAdd, Nat.reduceLeDiff]); (try with_reducible rfl); done)); (focus (first | (exact power_r ins n 1024 hb hn (by omega)))); (focus (first | (apply snap_data; repeat' (first | exact snapL_nil | apply snapL_dat | exact Dat.int | exact Dat.bool | exact Dat.str | exact Dat.esl | exact Dat.nilf | exact encV_dat _ | exact encVV_dat _)) | (apply snap_plain; (focus (repeat' (first | exact snapL_nil | apply snapL_dat | exact Dat.int | exact Dat.bool | exact Dat.str | exact encV_dat _ | exact encVV_dat _))); rfl)))) | (apply e_box rfl; (focus ((try simp only [simB0, simB1, SA, SV, SN, SR, SL, pick_bool, Nat.reduceEqDiff, ↓reduceIte, Nat.reduceAdd, Nat.reduceLeDiff]); (try with_reducible rfl); done)); (focus ((try simp only [simB0, simB1, SA, SV, SN, SR, SL, pick_bool, Nat.reduceEqDiff, ↓reduceIte, Nat.reduceAdd, Nat.reduceLeDiff]); (try with_reducible rfl); done)); (focus (simp only [SO, Bool.and_self, one_encV, one_encVV]))) | (apply w_cond; (focus ((try simp only [simB0, simB1, SA, SV, SN, SR, SL, pick_bool, Nat.reduceEqDiff, ↓reduceIte, Nat.reduceAdd, Nat.reduceLeDiff]); (try with_reducible rfl); done)); all_goals (intro _hg; (try simp only [Bool.not_eq_true', Bool.not_eq_false', Bool.not_not, decide_eq_true_eq, decide_eq_false_iff_not] at _hg); try (exfalso; omega))) | (refine e_ends rfl ?_) | (apply r_1; (focus (simp only [rv, simB0, simB1, SA, SV, SN, SR, SL, pick_bool, Nat.reduceEqDiff, ↓reduceIte, Nat.reduceAdd, Nat.reduceLeDiff]; with_reducible rfl))) | refine w_loop ?_)
  · refine snap_int ?_
    unfold casesN; rw [if_neg (by omega)]
  · refine loop0 (X := Nat) (fun k => [(1, .ptr 0 5 0), (3, .int .i64 (fallL ins k)), (4, .int .i64 k)]) (fun k => k ≤ n) (fun k => n - k) 0 (Nat.zero_le _) (by simp (disch := omega) only [agr, SA, Nat.reduceEqDiff, ↓reduceIte, wrap64, Int.natCast_add, Int.natCast_one, Int.natCast_zero, and_true, and_self, fallL, List.length_cons, List.length_nil, Nat.reduceAdd]) ?_
    rintro q hq
    have hp := fallL_le hb q
    repeat' (first | refine w_seq ?_ | refine w_ops0 ?_ | refine w_block ?_ | refine w_skip ?_ | refine w_exit ?_ | refine w_ret ?_ | refine a_n ?_ | refine a_x ?_ | refine o_nil ?_ | (apply o_val rfl rfl; (focus ((try simp (disch := omega) only [simB0, simB1, SA, SV, SN, SR, SL, pick_bool, Nat.reduceEqDiff, ↓reduceIte, Nat.reduceAdd, Nat.reduceLeDiff, SO, one_encV, one_encVV, Bool.and_self, Bool.false_eq_true, reduceCtorEq, wrap64, aixS_encV, aixS_encVV, alenS_encV, alenS_encVV, Int.toNat_natCast, List.length_map, aixS_msl, getElem?_map_lt, Nat.mul_one]); first | with_reducible rfl | (apply s_ite; (focus omega); with_reducible rfl)))) | (apply o_gT; (focus (simp only [simB0, simB1, SA, SV, SN, SR, SL, pick_bool, Nat.reduceEqDiff, ↓reduceIte, Nat.reduceAdd, Nat.reduceLeDiff]; done))) | (apply o_gF; (focus (simp only [simB0, simB1, SA, SV, SN, SR, SL, pick_bool, Nat.reduceEqDiff, ↓reduceIte, Nat.reduceAdd, Nat.reduceLeDiff, or_true, true_or]; done))) | (apply o_gB; (focus ((try simp only [simB0, simB1, SA, SV, SN, SR, SL, pick_bool, Nat.reduceEqDiff, ↓reduceIte, Nat.reduceAdd, Nat.reduceLeDiff]); (try with_reducible rfl); done)); all_goals (intro _hg; (try simp only [Bool.not_true, Bool.not_false, Bool.not_eq_true', Bool.not_eq_false', Bool.not_not, decide_eq_true_eq, decide_eq_false_iff_not] at _hg); try (exfalso; omega))) | (apply w_condF; (focus (simp only [simB0, simB1, SA, SV, SN, SR, SL, pick_bool, Nat.reduceEqDiff, ↓reduceIte, Nat.reduceAdd, Nat.reduceLeDiff]; done))) | (apply w_cond; (focus ((try simp only [simB0, simB1, SA, SV, SN, SR, SL, pick_bool, Nat.reduceEqDiff, ↓reduceIte, Nat.reduceAdd, Nat.reduceLeDiff]); (try with_reducible rfl); done)); all_goals (intro _hg; (try simp only [Bool.not_eq_true', Bool.not_eq_false', Bool.not_not, decide_eq_true_eq, decide_eq_false_iff_not] at _hg); try (exfalso; omega))) | (refine e_ends rfl ?_) | (apply r_1; (focus (simp only [rv, simB0, simB1, SA, SV, SN, SR, SL, pick_bool, Nat.reduceEqDiff, ↓reduceIte, Nat.reduceAdd, Nat.reduceLeDiff]; with_reducible rfl))))
    · have hpb : fallL ins q * (ins - q) ≤ 1024 * 8 := Nat.mul_le_mul (by omega) (by omega)
      refine ⟨q + 1, by omega, by omega, ?_, rfl, rfl⟩
      rw [fallL, if_pos (by omega)]
      have e1 : max (0 : Int) ((ins : Int) - q) = ((ins - q : Nat) : Int) := by omega
      simp (disch := omega) only [agr, SA, Nat.reduceEqDiff, ↓reduceIte, wrap64, Int.natCast_add, Int.natCast_one, Int.natCast_zero, and_true, and_self, e1, ← Int.natCast_mul]
    · refine snap_int ?_
      unfold casesN
      rw [if_pos (by omega), fallL_stop (by omega) n hq]
    · refine snap_int ?_
      unfold casesN
      rw [if_pos (by omega), show q = n by omega]

/-! ### the vectors of a case -/
structure Two (H : Hp) (nx lo : Nat) (so sc : AV) (A C : List AV) : Prop where
  r1 : Row H 1 so A
  r2 : Row H 1 sc C
  b1 : ∀ b, rowB so = some b → lo ≤ b ∧ b < nx
  b2 : ∀ b, rowB sc = some b → lo ≤ b ∧ b < nx
  ne : ∀ b, rowB so = some b → rowB sc ≠ some b
theorem Two.swap {H : Hp} {nx lo : Nat} {so sc : AV} {A C : List AV} (h : Two H nx lo so sc A C) : Two H nx lo sc so C A := ⟨h.r2, h.r1, h.b2, h.b1, fun b h1 h2 => h.ne b h2 h1⟩
theorem Two.put1 {H E : Hp} {nx e lo : Nat} {so sc s2 : AV} {A C new : List AV} (h : Two H nx lo so sc A C) (hlo : lo ≤ nx) (hrow : Row E 1 s2 (A ++ new)) (hle : nx ≤ e) (hs : ∀ i, i < nx → rowB so ≠ some i → E i = H i)
    (hb : ∀ b, rowB s2 = some b → rowB so = some b ∨ nx ≤ b ∧ b < e) : Two E e lo s2 sc (A ++ new) C := by
  refine ⟨hrow, h.r2.same fun b hb' => hs b (h.b2 b hb').2 (fun h1 => h.ne b h1 hb'), fun b hb' => ?_, fun b hb' => ?_, fun b hb' h2 => ?_⟩
  · rcases hb b hb' with h1 | h1
    · have := h.b1 b h1; omega
    · omega
  · have := h.b2 b hb'; omega
  · rcases hb b hb' with h1 | h1
    · exact h.ne b h1 h2
    · have := h.b2 b h2; omega

theorem filter_snoc {α : Type} [Inhabited α] {l : List α} {p : α → Bool} {k : Nat} (h : k < l.length) : (l.take (k + 1)).filter p = (l.take k).filter p ++ (if p (l.getD k default) = true then [l.getD k default] else []) := by
  rw [take_succ' h, List.filter_append, List.filter_cons, List.filter_nil]
theorem filter_le {α : Type} {l : List α} {p : α → Bool} {k : Nat} : ((l.take k).filter p).length ≤ l.length := Nat.le_trans (List.length_filter_le _ _) (by rw [List.length_take]; omega)

theorem vectors_r (task k ins : Int) (n outs : Nat) (hn : 1 ≤ n ∧ n ≤ 5) (ho : outs ≤ 8) (l : List Int) (hl : Sh l) (h0 : l ≠ []) :
    Pure Try.prog 87 [encK task n ins outs k, encV l] (.tup [encVV ((every n outs).filter (allowB task ins outs k l)), encVV ((every n outs).filter fun o => allowB task ins outs k l o && calmB task l o)]) := by
  refine Pure.of_c2 follows is87 (Nat.le_of_ble_eq_true rfl) ?_
  simp only [b87]
  have hlen : (every n outs).length ≤ 32768 := by
    rw [every_count]
    exact Nat.le_trans (Nat.pow_le_pow_left ho n) (Nat.pow_le_pow_right (by omega) hn.2)
  have hA : ∀ m ∈ every n outs, Pure Try.prog 115 [encK task n ins outs k, encV l, encV m] (.bool (allowB task ins outs k l m)) := fun m hm =>
    allowed_r task n ins outs k l m hl (every_sh hn.2 hm) h0 (every_ne (by omega) hm) (fun x hx => by have := every_mem n outs m hm x hx; omega)
  have hC : ∀ m ∈ every n outs, Pure Try.prog 116 [encK task n ins outs k, encV l, encV m] (.bool (calmB task l m)) := fun m hm =>
    calm_r task n ins outs k l m hl (every_sh hn.2 hm) h0
  have hev := every_r outs ho n hn.2
  unfold encK at *
  repeat' (first | refine w_seq ?_ | refine w_ops0 ?_ | refine w_block ?_ | refine a_n ?_ | refine o_nil ?_ | (apply o_val rfl rfl; (focus ((try simp (disch := omega) only [simB0, simB1, SA, SV, SN, SR, SL, pick_bool, Nat.reduceEqDiff, ↓reduceIte, Nat.reduceAdd, Nat.reduceLeDiff, SO, one_encV, one_encVV, Bool.and_self, Bool.false_eq_true, reduceCtorEq, wrap64, aixS_encV, aixS_encVV, alenS_encV, alenS_encVV, Int.toNat_natCast, List.length_map, aixS_msl, getElem?_map_lt, Nat.mul_one]); first | with_reducible rfl | (apply s_ite; (focus omega); with_reducible rfl)))) | (apply o_callD; (focus ((try simp only [simB0, simB1, SA, SV, SN, SR, SL, pick_bool, Nat.reduceEqDiff, ↓reduceIte, Nat.reduceAdd, Nat.reduceLeDiff]); (try with_reducible rfl); done)); (focus ((try simp only [simB0, simB1, SA, SV, SN, SR, SL, pick_bool, Nat.reduceEqDiff, ↓reduceIte, Nat.reduceAdd, Nat.reduceLeDiff]); (try with_reducible rfl); done)); (focus (first | (exact hev))); (focus (first | (apply snap_data; repeat' (first | exact snapL_nil | apply snapL_dat | exact Dat.int | exact Dat.bool | exact Dat.str | exact Dat.esl | exact Dat.nilf | exact encV_dat _ | exact encVV_dat _)) | (apply snap_plain; (focus (repeat' (first | exact snapL_nil | apply snapL_dat | exact Dat.int | exact Dat.bool | exact Dat.str | exact encV_dat _ | exact encVV_dat _))); rfl)))) | (apply e_box rfl; (focus ((try simp only [simB0, simB1, SA, SV, SN, SR, SL, pick_bool, Nat.reduceEqDiff, ↓reduceIte, Nat.reduceAdd, Nat.reduceLeDiff]); (try with_reducible rfl); done)); (focus ((try simp only [simB0, simB1, SA, SV, SN, SR, SL, pick_bool, Nat.reduceEqDiff, ↓reduceIte, Nat.reduceAdd, Nat.reduceLeDiff]); (try with_reducible rfl); done)); (focus (simp only [SO, Bool.and_self, one_encV, one_encVV]))) | refine w_loop ?_)
  generalize every n outs = L at *
  refine loopI (X := AV × AV × Nat) (fun x => [(1, encV l), (2, .ptr 0 5 0), (6, x.1), (7, x.2.1), (8, encVV L), (9, .int .i64 x.2.2)])
    (fun x H nx => x.2.2 ≤ L.length ∧ 1 ≤ nx ∧ H 0 = some [.int .i64 task, .int .i64 n, .int .i64 ins, .int .i64 outs, .int .i64 k] ∧ Two H nx 1 x.1 x.2.1 (((L.take x.2.2).filter (allowB task ins outs k l)).map encV) (((L.take x.2.2).filter fun o => allowB task ins outs k l o && calmB task l o).map encV)) (fun x => L.length - x.2.2) (.esl, .esl, 0)
    ⟨Nat.zero_le _, Nat.le_refl _, rfl, Row.nil, Row.nil, fun b hb => (by cases hb), fun b hb => (by cases hb), fun b hb => (by cases hb)⟩ (by simp (disch := omega) only [agr, SA, Nat.reduceEqDiff, ↓reduceIte, wrap64, Int.natCast_add, Int.natCast_one, Int.natCast_zero, and_true, and_self, List.length_cons, List.length_nil, Nat.reduceAdd]) ?_
  rintro ⟨so, sc, j⟩ H nx ⟨h1, h2, h3, h4⟩
  dsimp only at h1 h2 h3 h4 ⊢
  by_cases hj : j < L.length
  · have hw := mem_getD (l := L) (k := j) hj
    have hA := hA _ hw
    have hC := hC _ hw
    have f1 := filter_snoc (p := allowB task ins outs k l) hj
    have f2 := filter_snoc (p := fun o => allowB task ins outs k l o && calmB task l o) hj
    have g1 := filter_le (l := L) (p := allowB task ins outs k l) (k := j)
    have g2 := filter_le (l := L) (p := fun o => allowB task ins outs k l o && calmB task l o) (k := j)
    generalize hwe : L.getD j default = w at *
    generalize (L.take j).filter (allowB task ins outs k l) = A at *
    generalize (L.take j).filter (fun o => allowB task ins outs k l o && calmB task l o) = C at *
    repeat' (first | refine w_seq ?_ | refine w_ops0 ?_ | refine w_ops1 ?_ | refine w_block ?_ | refine w_skip ?_ | refine a_n ?_ | refine o_nil ?_ | (apply o_val rfl; (focus (first | rfl | (simp (disch := omega) only [dm2, oldP, newP, simB0, simB1, SA, SV, SN, SR, SL, pick_bool, Nat.reduceEqDiff, ↓reduceIte, Nat.reduceAdd, Nat.reduceLeDiff, decide_eq_true_eq]; first | done | omega))); (focus ((try simp (disch := omega) only [simB2, simB1, SA, SV, SN, SR, SL, pick_bool, Nat.reduceEqDiff, ↓reduceIte, Nat.reduceAdd, Nat.reduceLeDiff, SO, one_encV, one_encVV, Bool.and_self, Bool.false_eq_true, reduceCtorEq, wrap64, aixS_encV, aixS_encVV, alenS_encV, alenS_encVV, Int.toNat_natCast, List.length_map, aixS_msl, getElem?_map_lt, Nat.mul_one, h3, hwe]); first | with_reducible rfl | (apply s_ite; (focus omega); with_reducible rfl)))) | (apply o_callD; (focus ((try simp (disch := omega) only [simB2, simB1, SA, SV, SN, SR, SL, pick_bool, Nat.reduceEqDiff, ↓reduceIte, Nat.reduceAdd, Nat.reduceLeDiff, h3, hwe]); (try with_reducible rfl); done)); (focus ((try simp (disch := omega) only [simB2, simB1, SA, SV, SN, SR, SL, pick_bool, Nat.reduceEqDiff, ↓reduceIte, Nat.reduceAdd, Nat.reduceLeDiff, h3, hwe]); (try with_reducible rfl); done)); (focus (first | (exact hA) | (exact hC))); (focus (first | (apply snap_data; repeat' (first | exact snapL_nil | apply snapL_dat | exact Dat.int | exact Dat.bool | exact Dat.str | exact Dat.esl | exact Dat.nilf | exact encV_dat _ | exact encVV_dat _ | exact encK_dat _ _ _ _ _)) | (apply snap_plain; (focus (repeat' (first | exact snapL_nil | apply snapL_dat | exact Dat.int | exact Dat.bool | exact Dat.str | exact encV_dat _ | exact encVV_dat _ | exact encK_dat _ _ _ _ _))); rfl)))) | (apply e_bld rfl; (focus (exact Nat.succ_ne_zero _)); (focus ((try simp (disch := omega) only [simB2, simB1, SA, SV, SN, SR, SL, pick_bool, Nat.reduceEqDiff, ↓reduceIte, Nat.reduceAdd, Nat.reduceLeDiff, h3, hwe]); (try with_reducible rfl); done)); (focus ((try simp (disch := omega) only [simB2, simB1, SA, SV, SN, SR, SL, pick_bool, Nat.reduceEqDiff, ↓reduceIte, Nat.reduceAdd, Nat.reduceLeDiff, SO, Bool.and_self, one_encV, one_encVV, h3, hwe]); (try with_reducible rfl); done))) | (apply w_cond; (focus ((try simp (disch := omega) only [simB2, simB1, SA, SV, SN, SR, SL, pick_bool, Nat.reduceEqDiff, ↓reduceIte, Nat.reduceAdd, Nat.reduceLeDiff, h3, hwe]); (try with_reducible rfl); done)); all_goals (intro _hg; (try simp (disch := omega) only [Bool.not_eq_true', Bool.not_eq_false', Bool.not_not, decide_eq_true_eq, decide_eq_false_iff_not] at _hg); try (exfalso; omega))))
    · refine e_row rfl (by ((try simp only [simB0, simB1, SA, SV, SN, SR, SL, pick_bool, Nat.reduceEqDiff, ↓reduceIte, Nat.reduceAdd, Nat.reduceLeDiff]); (try with_reducible rfl))) (h4.r1.same fun b hb => ?_) (by ((try simp only [simB0, simB1, SA, SV, SN, SR, SL, pick_bool, Nat.reduceEqDiff, ↓reduceIte, Nat.reduceAdd, Nat.reduceLeDiff]); (try with_reducible rfl))) asrc_one rfl rfl Nat.one_pos (by simp; omega) (by simp; omega) ?_
      · have := h4.b1 b hb
        rw [hupd_ne (by omega)]
      rintro s2 E e hrow hle1 hle2 hsame hb2
      have h5 := h4.put1 (e := e) h2 hrow (by omega) (fun i h1 h2 => by rw [hsame i (by omega) h2, hupd_ne (by omega)]) (fun b hb => (hb2 b hb).imp id (fun h => by omega))
      have e0 : E 0 = some [.int .i64 task, .int .i64 n, .int .i64 ins, .int .i64 outs, .int .i64 k] := by
        rw [hsame 0 (by omega) (fun h => by have := h4.b1 _ h; omega), hupd_ne (by omega), h3]
      repeat' (first | refine w_seq ?_ | refine w_ops0 ?_ | refine w_ops1 ?_ | refine w_skip ?_ | refine a_n ?_ | refine o_nil ?_ | (apply o_val rfl; (focus (first | rfl | (simp (disch := omega) only [dm2, oldP, newP, simB0, simB1, SA, SV, SN, SR, SL, pick_bool, Nat.reduceEqDiff, ↓reduceIte, Nat.reduceAdd, Nat.reduceLeDiff, decide_eq_true_eq]; first | done | omega))); (focus ((try simp (disch := omega) only [simB2, simB1, SA, SV, SN, SR, SL, pick_bool, Nat.reduceEqDiff, ↓reduceIte, Nat.reduceAdd, Nat.reduceLeDiff, SO, one_encV, one_encVV, Bool.and_self, Bool.false_eq_true, reduceCtorEq, wrap64, aixS_encV, aixS_encVV, alenS_encV, alenS_encVV, Int.toNat_natCast, List.length_map, aixS_msl, getElem?_map_lt, Nat.mul_one, e0, hwe]); first | with_reducible rfl | (apply s_ite; (focus omega); with_reducible rfl)))) | (apply o_callD; (focus ((try simp (disch := omega) only [simB2, simB1, SA, SV, SN, SR, SL, pick_bool, Nat.reduceEqDiff, ↓reduceIte, Nat.reduceAdd, Nat.reduceLeDiff, e0, hwe]); (try with_reducible rfl); done)); (focus ((try simp (disch := omega) only [simB2, simB1, SA, SV, SN, SR, SL, pick_bool, Nat.reduceEqDiff, ↓reduceIte, Nat.reduceAdd, Nat.reduceLeDiff, e0, hwe]); (try with_reducible rfl); done)); (focus (first | (exact hA) | (exact hC))); (focus (first | (apply snap_data; repeat' (first | exact snapL_nil | apply snapL_dat | exact Dat.int | exact Dat.bool | exact Dat.str | exact Dat.esl | exact Dat.nilf | exact encV_dat _ | exact encVV_dat _ | exact encK_dat _ _ _ _ _)) | (apply snap_plain; (focus (repeat' (first | exact snapL_nil | apply snapL_dat | exact Dat.int | exact Dat.bool | exact Dat.str | exact encV_dat _ | exact encVV_dat _ | exact encK_dat _ _ _ _ _))); rfl)))) | (apply e_bld rfl; (focus (exact Nat.succ_ne_zero _)); (focus ((try simp (disch := omega) only [simB2, simB1, SA, SV, SN, SR, SL, pick_bool, Nat.reduceEqDiff, ↓reduceIte, Nat.reduceAdd, Nat.reduceLeDiff, e0, hwe]); (try with_reducible rfl); done)); (focus ((try simp (disch := omega) only [simB2, simB1, SA, SV, SN, SR, SL, pick_bool, Nat.reduceEqDiff, ↓reduceIte, Nat.reduceAdd, Nat.reduceLeDiff, SO, Bool.and_self, one_encV, one_encVV, e0, hwe]); (try with_reducible rfl); done))) | (apply w_cond; (focus ((try simp (disch := omega) only [simB2, simB1, SA, SV, SN, SR, SL, pick_bool, Nat.reduceEqDiff, ↓reduceIte, Nat.reduceAdd, Nat.reduceLeDiff, e0, hwe]); (try with_reducible rfl); done)); all_goals (intro _hg; (try simp (disch := omega) only [Bool.not_eq_true', Bool.not_eq_false', Bool.not_not, decide_eq_true_eq, decide_eq_false_iff_not] at _hg); try (exfalso; omega))))
      · refine e_row rfl (by ((try simp only [simB0, simB1, SA, SV, SN, SR, SL, pick_bool, Nat.reduceEqDiff, ↓reduceIte, Nat.reduceAdd, Nat.reduceLeDiff]); (try with_reducible rfl))) (h5.r2.same fun b hb => ?_) (by ((try simp only [simB0, simB1, SA, SV, SN, SR, SL, pick_bool, Nat.reduceEqDiff, ↓reduceIte, Nat.reduceAdd, Nat.reduceLeDiff]); (try with_reducible rfl))) asrc_one rfl rfl Nat.one_pos (by simp; omega) (by simp; omega) ?_
        · have := h5.b2 b hb
          rw [hupd_ne (by omega)]
        rintro s3 F f hrow3 hle3 hle4 hsame3 hb3
        have h6 := (h5.swap.put1 (e := f) (by omega) hrow3 (by omega) (fun i h1 h2 => by rw [hsame3 i (by omega) h2, hupd_ne (by omega)]) (fun b hb => (hb3 b hb).imp id (fun h => by omega))).swap
        have f0 : F 0 = some [.int .i64 task, .int .i64 n, .int .i64 ins, .int .i64 outs, .int .i64 k] := by
          rw [hsame3 0 (by omega) (fun h => by have := h5.b2 _ h; omega), hupd_ne (by omega), e0]
        repeat' (first | refine w_ops0 ?_ | refine a_n ?_ | refine o_nil ?_ | (apply o_val rfl rfl; (focus ((try simp (disch := omega) only [simB0, simB1, SA, SV, SN, SR, SL, pick_bool, Nat.reduceEqDiff, ↓reduceIte, Nat.reduceAdd, Nat.reduceLeDiff, SO, one_encV, one_encVV, Bool.and_self, Bool.false_eq_true, reduceCtorEq, wrap64, aixS_encV, aixS_encVV, alenS_encV, alenS_encVV, Int.toNat_natCast, List.length_map, aixS_msl, getElem?_map_lt, Nat.mul_one]); first | with_reducible rfl | (apply s_ite; (focus omega); with_reducible rfl)))))
        refine ⟨(s2, s3, j + 1), by dsimp only; omega, ⟨by dsimp only; omega, by omega, f0, ?_⟩, by simp (disch := omega) only [agr, SA, Nat.reduceEqDiff, ↓reduceIte, wrap64, Int.natCast_add, Int.natCast_one, Int.natCast_zero, and_true, and_self]⟩
        dsimp only
        rw [f1, f2]
        simp only [*, Bool.and_self, if_true, List.map_append]
        exact h6
      · refine ⟨(s2, sc, j + 1), by dsimp only; omega, ⟨by dsimp only; omega, by omega, e0, ?_⟩, by simp (disch := omega) only [agr, SA, Nat.reduceEqDiff, ↓reduceIte, wrap64, Int.natCast_add, Int.natCast_one, Int.natCast_zero, and_true, and_self]⟩
        dsimp only
        rw [f1, f2]
        simp only [*, Bool.and_false, Bool.false_eq_true, if_true, if_false, List.map_append, List.append_nil]
        exact h5
    · refine ⟨(so, sc, j + 1), by dsimp only; omega, ⟨by dsimp only; omega, by omega, h3, ?_⟩, by simp (disch := omega) only [agr, SA, Nat.reduceEqDiff, ↓reduceIte, wrap64, Int.natCast_add, Int.natCast_one, Int.natCast_zero, and_true, and_self]⟩
      dsimp only
      rw [f1, f2]
      simp only [*, Bool.false_and, Bool.false_eq_true, if_false, List.append_nil]
  · repeat' (first | refine w_seq ?_ | refine w_ops0 ?_ | refine w_exit ?_ | refine w_ret ?_ | refine a_n ?_ | refine a_x ?_ | refine o_nil ?_ | (apply o_val rfl; (focus (first | rfl | (simp (disch := omega) only [dm2, oldP, newP, simB0, simB1, SA, SV, SN, SR, SL, pick_bool, Nat.reduceEqDiff, ↓reduceIte, Nat.reduceAdd, Nat.reduceLeDiff, decide_eq_true_eq]; first | done | omega))); (focus ((try simp (disch := omega) only [simB2, simB1, SA, SV, SN, SR, SL, pick_bool, Nat.reduceEqDiff, ↓reduceIte, Nat.reduceAdd, Nat.reduceLeDiff, SO, one_encV, one_encVV, Bool.and_self, Bool.false_eq_true, reduceCtorEq, wrap64, aixS_encV, aixS_encVV, alenS_encV, alenS_encVV, Int.toNat_natCast, List.length_map, aixS_msl, getElem?_map_lt, Nat.mul_one, h3]); first | with_reducible rfl | (apply s_ite; (focus omega); with_reducible rfl)))) | (apply w_cond; (focus ((try simp (disch := omega) only [simB2, simB1, SA, SV, SN, SR, SL, pick_bool, Nat.reduceEqDiff, ↓reduceIte, Nat.reduceAdd, Nat.reduceLeDiff, h3]); (try with_reducible rfl); done)); all_goals (intro _hg; (try simp (disch := omega) only [Bool.not_eq_true', Bool.not_eq_false', Bool.not_not, decide_eq_true_eq, decide_eq_false_iff_not] at _hg); try (exfalso; omega))) | (refine e_ends rfl ?_) | (apply r_2; (focus (simp (disch := omega) only [rv, simB2, simB1, SA, SV, SN, SR, SL, pick_bool, Nat.reduceEqDiff, ↓reduceIte, Nat.reduceAdd, Nat.reduceLeDiff, h3]; with_reducible rfl)); (focus (simp (disch := omega) only [rv, simB2, simB1, SA, SV, SN, SR, SL, pick_bool, Nat.reduceEqDiff, ↓reduceIte, Nat.reduceAdd, Nat.reduceLeDiff, h3]; with_reducible rfl))))
    rw [List.take_of_length_le (by omega)] at h4
    exact snap_tup (snapL_cons (Row.snapV h4.r1) (snapL_cons (Row.snapV h4.r2) snapL_nil))

end Go.Proofs.Ytcbkggfipdldaaa
