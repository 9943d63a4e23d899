/- Texts of this claim, one after the other: T1, T2, T3, T4, T5, T6, A11, T7, T8, T9, T10. -/
import Derived.Test.YtbiikomnhkbblaaGreatXG4
import Derived.Test.YtbiikomnhkbblaaGreatRows
import Derived.WalkKit
import Derived.ProofKit
import Derived.OpenShut

set_option linter.unusedSimpArgs false
set_option linter.unusedVariables false

/- T1: contracts of functions and plain laws; for all inputs that the theorems name. -/
namespace Go.Proofs.YtbiikomnhkbblaaGreat
open Go Go.Abs
open Nat (reduceEqDiff reduceAdd reduceLeDiff)
attribute [local irreducible] awp2 aops2 ains aloop athen bbind obind gbind acond res1 Go.Abs.Fn PCall Go.Abs.Pure SnapArgs SnapL Yl
theorem has1_c (v x : List Int) (hv : Sh v) (hx : Sh x) : Pure Tryz.prog 97 [encV x, .iptr [encV v] 0] (.bool (decide (x = v))) := by
  refine Pure.of_c2 follows is97 (Nat.le_of_ble_eq_true rfl) ?_
  simp only [b97, O, G, N, M, D, F, B2, cFal, cTru]
  repeat' (first | apply w_seq | apply w_ops0 | apply w_ret | apply a_n | apply o_nil | (apply o_val rfl rfl; (focus ((try simp (disch := omega) only [simB0, ZA, reduceEqDiff, ↓reduceIte, reduceAdd, reduceLeDiff, ZV, reduceCtorEq]); first | with_reducible rfl | (apply s_ite; (focus omega); with_reducible rfl)))) | (apply o_callD; (iterate 2 (focus ((try simp only [simB0, ZA, reduceEqDiff, ↓reduceIte, reduceAdd, reduceLeDiff]); (try with_reducible rfl); done))); (focus (first | (exact equalV_c _ _ hx hv))); (focus ((first | refine snap_plain ?_ rfl | apply snap_data); repeat' (first | exact snapL_nil | apply snapL_i | apply snapL_dat)))) | (refine e_ends rfl ?_) | (apply r_1; (focus (simp only [rv, simB0, ZA, reduceEqDiff, ↓reduceIte, reduceAdd, reduceLeDiff]; with_reducible rfl))))
  exact .bool _

theorem has_c (l : List (List Int)) (v : List Int) (hl : Sh l) (hs : ∀ x ∈ l, Sh x) (hv : Sh v) : Pure Tryz.prog 79 [encVV l, encV v] (.bool (l.any fun x => decide (x = v))) := by
  refine Pure.of_c2 follows is79 (Nat.le_of_ble_eq_true rfl) ?_
  simp only [b79, O, G, N, M, D, F, B2, cFal, cTru]
  repeat' (first | apply w_seq | apply w_ops0 | apply a_n | apply o_nil | (apply o_val rfl rfl; (focus ((try simp (disch := omega) only [simB0, ZA, reduceEqDiff, ↓reduceIte, reduceAdd, reduceLeDiff, ZV, reduceCtorEq]); first | with_reducible rfl | (apply s_ite; (focus omega); with_reducible rfl)))) | (apply e_box rfl; (iterate 2 (focus ((try simp only [simB0, ZA, reduceEqDiff, ↓reduceIte, reduceAdd, reduceLeDiff]); (try with_reducible rfl); done))); (focus (simp only [SO, Bool.and_self, one_encV, one_encVV]))))
  refine o_callP (by ((try simp only [simB0, ZA, reduceEqDiff, ↓reduceIte, reduceAdd, reduceLeDiff]); (try with_reducible rfl))) (by ((try simp only [simB0, ZA, reduceEqDiff, ↓reduceIte, reduceAdd, reduceLeDiff]); (try with_reducible rfl))) (containsFV_c l (fun x => decide (x = v)) 97 [.iptr [encV v] 0] (DatL.cons (Dat.iptr (DatL.cons (encV_dat _) DatL.nil)) DatL.nil) (fun x hx => has1_c v x hv (hs x hx)) hl) (snap_plain (by (repeat' (first | exact snapL_nil | exact Dat.snap Dat.int | exact Dat.snap Dat.bool | exact Dat.snap Dat.str | exact Dat.snap Dat.esl | exact Dat.snap Dat.nilf | exact Dat.snap (encV_dat _) | exact Dat.snap (encVV_dat _) | apply snapL_cons | apply snap_func | apply snap_iptr | (apply snap_ptr; (focus ((try simp only [simB0, ZA, reduceEqDiff, ↓reduceIte, reduceAdd, reduceLeDiff]); with_reducible rfl)); (focus rfl))))) rfl) ?_
  repeat' (first | apply w_ret | apply a_n | apply o_nil | (apply o_val rfl rfl; (focus ((try simp (disch := omega) only [simB0, ZA, reduceEqDiff, ↓reduceIte, reduceAdd, reduceLeDiff, ZV, reduceCtorEq]); first | with_reducible rfl | (apply s_ite; (focus omega); with_reducible rfl)))) | (refine e_ends rfl ?_) | (apply r_1; (focus (simp only [rv, simB0, ZA, reduceEqDiff, ↓reduceIte, reduceAdd, reduceLeDiff]; with_reducible rfl))))
  exact .bool _

theorem vector1_c (x most : Int) : Pure Tryz.prog 77 [.int .i64 x, .iptr [.int .i64 most] 0] (.bool (decide (x < 0 ∨ most ≤ x))) := by
  refine Pure.of_c2 follows is77 (Nat.le_of_ble_eq_true rfl) ?_
  simp only [b77, O, G, N, M, D, F, B2, cFal, cTru]
  repeat' (first | apply w_seq | apply w_ops0 | apply w_ret | apply a_n | apply o_nil | (apply o_val rfl rfl; (focus ((try simp (disch := omega) only [simB0, ZA, reduceEqDiff, ↓reduceIte, reduceAdd, reduceLeDiff, ZV, reduceCtorEq]); first | with_reducible rfl | (apply s_ite; (focus omega); with_reducible rfl)))) | (apply o_gT; (focus (simp only [simB0, ZA, reduceEqDiff, ↓reduceIte, reduceAdd, reduceLeDiff]; done))) | (apply o_gF; (focus (simp only [simB0, ZA, reduceEqDiff, ↓reduceIte, reduceAdd, reduceLeDiff, or_true, true_or]; done))) | (apply o_gB; (focus ((try simp only [simB0, ZA, reduceEqDiff, ↓reduceIte, reduceAdd, reduceLeDiff]); (try with_reducible rfl); done)); all_goals (intro _hg; (try simp only [ZB] at _hg); try first | exact absurd trivial _hg | (exfalso; omega))) | (refine e_ends rfl ?_) | (apply r_1; (focus (simp only [rv, simB0, ZA, reduceEqDiff, ↓reduceIte, reduceAdd, reduceLeDiff]; with_reducible rfl))))
  all_goals (refine snap_bool ?_)
  · exact decide_eq_decide.2 (by omega)
  · rw [decide_eq_true (by omega)]

theorem unordered_c (l : List (List Int)) (i : Nat) (hi : i < l.length) (hl : Sh l) (hs : ∀ x ∈ l, Sh x) : Pure Tryz.prog 78 [encVV l, .int .i64 i] (.bool (decide (0 < i) && decide (0 ≤ order (l.getD (i - 1) default) (l.getD i default)))) := by
  refine Pure.of_c2 follows is78 (Nat.le_of_ble_eq_true rfl) ?_
  simp only [b78, O, G, N, M, D, F, B2, cFal, cTru]
  by_cases h0 : i = 0
  · subst h0
    repeat' (first | apply w_seq | apply w_ops0 | apply w_mixS1 | apply w_ret | apply a_n | apply o_nil | (apply o_val rfl rfl; (focus ((try simp (disch := omega) only [simB0, ZA, reduceEqDiff, ↓reduceIte, reduceAdd, reduceLeDiff, ZV, reduceCtorEq, show ((0 : Nat) : Int) = 0 from rfl]); first | with_reducible rfl | (apply s_ite; (focus omega); with_reducible rfl)))) | (apply o_gF; (focus (simp only [simB0, ZA, reduceEqDiff, ↓reduceIte, reduceAdd, reduceLeDiff, or_true, true_or, show ((0 : Nat) : Int) = 0 from rfl]; done))) | (apply o_gB; (focus ((try simp only [simB0, ZA, reduceEqDiff, ↓reduceIte, reduceAdd, reduceLeDiff, show ((0 : Nat) : Int) = 0 from rfl]); (try with_reducible rfl); done)); all_goals (intro _hg; (try simp only [ZB] at _hg); try first | exact absurd trivial _hg | (exfalso; omega))) | (refine e_ends rfl ?_) | (apply r_1; (focus (simp only [rv, simB0, ZA, reduceEqDiff, ↓reduceIte, reduceAdd, reduceLeDiff, show ((0 : Nat) : Int) = 0 from rfl]; with_reducible rfl))))
    exact snap_bool (by simp)
  · have e : ((i : Int) - 1).toNat = i - 1 := by omega
    have hc := compare_c (l.getD (i - 1) default) (l.getD i default) (hs _ (mem_getD (by omega))) (hs _ (mem_getD (by omega)))
    repeat' (first | apply w_seq | apply w_ops0 | apply w_mixS1 | apply w_ret | apply a_n | apply o_nil | (apply o_val rfl rfl; (focus ((try simp (disch := omega) only [simB0, ZA, reduceEqDiff, ↓reduceIte, reduceAdd, reduceLeDiff, ZV, reduceCtorEq, e]); first | with_reducible rfl | (apply s_ite; (focus omega); with_reducible rfl)))) | (apply o_callD; (iterate 2 (focus ((try simp only [simB0, ZA, reduceEqDiff, ↓reduceIte, reduceAdd, reduceLeDiff, e]); (try with_reducible rfl); done))); (focus (first | (exact hc))); (focus ((first | refine snap_plain ?_ rfl | apply snap_data); repeat' (first | exact snapL_nil | apply snapL_i | apply snapL_dat)))) | (apply o_gT; (focus (simp only [simB0, ZA, reduceEqDiff, ↓reduceIte, reduceAdd, reduceLeDiff, e]; done))) | (apply o_gB; (focus ((try simp only [simB0, ZA, reduceEqDiff, ↓reduceIte, reduceAdd, reduceLeDiff, e]); (try with_reducible rfl); done)); all_goals (intro _hg; (try simp only [ZB] at _hg); try first | exact absurd trivial _hg | (exfalso; omega))) | (refine e_ends rfl ?_) | (apply r_1; (focus (simp only [rv, simB0, ZA, reduceEqDiff, ↓reduceIte, reduceAdd, reduceLeDiff, e]; with_reducible rfl))))
    refine snap_bool ?_
    rw [decide_eq_true (show 0 < i by omega), Bool.true_and]

theorem copied_c (l : List (List Int)) (hl : l.length ≤ 100000) (hs : ∀ x ∈ l, Sh x) : Pure Tryz.prog 52 [encVV l] (encVV l) := by
  refine Pure.of_c2 follows is52 (Nat.le_of_ble_eq_true rfl) ?_
  simp only [b52, O, G, N, M, D, F, B2, cFal, cTru]
  repeat' (first | apply w_seq | apply w_ops0 | apply w_block | apply a_n | apply o_nil | (apply o_val rfl rfl; (focus ((try simp (disch := omega) only [simB0, ZA, reduceEqDiff, ↓reduceIte, reduceAdd, reduceLeDiff, ZV, reduceCtorEq]); first | with_reducible rfl | (apply s_ite; (focus omega); with_reducible rfl)))) | apply w_loop)
  refine loopI (X := AV × Nat) (fun x => [(3, x.1), (6, encVV l), (7, .int .i64 l.length), (8, .int .i64 x.2)]) (fun x H nx => x.2 ≤ l.length ∧ Row H 1 x.1 ((l.take x.2).map encV) ∧ ∀ b, rowB x.1 = some b → b < nx) (fun x => l.length - x.2) (.esl, 0) ⟨Nat.zero_le _, Row.nil, fun b hb => (by cases hb)⟩ (by simp (disch := omega) only [agr, ZG, reduceEqDiff, ↓reduceIte]) ?_
  rintro ⟨s, j⟩ H nx ⟨h1, h2, h3⟩
  dsimp only at h1 h2 h3 ⊢
  by_cases hj : j < l.length
  · have hw := mem_getD hj
    have hcl := cloneF_c _ (hs _ hw)
    repeat' (first | apply w_seq | apply w_ops0 | apply w_block | apply w_skip | apply a_n | apply o_nil | (apply o_val rfl; (focus (first | rfl | (simp (disch := omega) only [dm2, oldP, newP, simB0, ZA, reduceEqDiff, ↓reduceIte, reduceAdd, reduceLeDiff, decide_eq_true_eq]; first | done | omega))); (focus ((try simp (disch := omega) only [simB2, ZA, reduceEqDiff, ↓reduceIte, reduceAdd, reduceLeDiff, ZV, reduceCtorEq, h1]); first | with_reducible rfl | (apply s_ite; (focus omega); with_reducible rfl)))) | (apply w_cond; (focus ((try simp (disch := omega) only [simB2, ZA, reduceEqDiff, ↓reduceIte, reduceAdd, reduceLeDiff, h1]); (try with_reducible rfl); done)); all_goals (intro _hg; (try simp (disch := omega) only [ZB] at _hg); try first | exact absurd trivial _hg | (exfalso; omega))))
    refine o_callF (by ((try simp only [simB0, ZA, reduceEqDiff, ↓reduceIte, reduceAdd, reduceLeDiff]); (try with_reducible rfl))) (by ((try simp only [simB0, ZA, reduceEqDiff, ↓reduceIte, reduceAdd, reduceLeDiff]); (try with_reducible rfl))) hcl (snapL_cons (encV_dat _ _) snapL_nil) ?_
    repeat' (first | (apply e_bld rfl; (focus (exact Nat.succ_ne_zero _)); (focus ((try simp (disch := omega) only [simB2, ZA, reduceEqDiff, ↓reduceIte, reduceAdd, reduceLeDiff, h1]); (try with_reducible rfl); done)); (focus ((try simp (disch := omega) only [simB2, ZA, reduceEqDiff, ↓reduceIte, reduceAdd, reduceLeDiff, SO, Bool.and_self, one_encV, one_encVV, h1]); (try with_reducible rfl); done))))
    refine e_row rfl (by ((try simp only [simB0, ZA, reduceEqDiff, ↓reduceIte, reduceAdd, reduceLeDiff]); (try with_reducible rfl))) (h2.same fun b hb => ?_) (by ((try simp only [simB0, ZA, reduceEqDiff, ↓reduceIte, reduceAdd, reduceLeDiff]); (try with_reducible rfl))) asrc_one rfl rfl Nat.one_pos (by simp; omega) (by simp; omega) ?_
    · have := h3 b hb
      rw [hupd_ne (by omega)]
    rintro s2 E e hrow hle1 hle2 hsame hb2
    repeat' (first | apply w_ops0 | apply a_n | apply o_nil | (apply o_val rfl rfl; (focus ((try simp (disch := omega) only [simB0, ZA, reduceEqDiff, ↓reduceIte, reduceAdd, reduceLeDiff, ZV, reduceCtorEq]); first | with_reducible rfl | (apply s_ite; (focus omega); with_reducible rfl)))))
    refine ⟨(s2, j + 1), by dsimp only; omega, ⟨by dsimp only; omega, ?_, fun b hb => ?_⟩, by simp (disch := omega) only [agr, ZG, reduceEqDiff, ↓reduceIte]⟩
    · dsimp only
      rw [take_succ' hj, List.map_append]
      exact hrow
    · rcases hb2 b hb with h | h
      · have := h3 b h; omega
      · omega
  · repeat' (first | apply w_seq | apply w_ops0 | apply w_exit | apply w_ret | apply a_n | apply a_x | apply o_nil | (apply o_val rfl; (focus (first | rfl | (simp (disch := omega) only [dm2, oldP, newP, simB0, ZA, reduceEqDiff, ↓reduceIte, reduceAdd, reduceLeDiff, decide_eq_true_eq]; first | done | omega))); (focus ((try simp (disch := omega) only [simB2, ZA, reduceEqDiff, ↓reduceIte, reduceAdd, reduceLeDiff, ZV, reduceCtorEq, h1]); first | with_reducible rfl | (apply s_ite; (focus omega); with_reducible rfl)))) | (apply w_cond; (focus ((try simp (disch := omega) only [simB2, ZA, reduceEqDiff, ↓reduceIte, reduceAdd, reduceLeDiff, h1]); (try with_reducible rfl); done)); all_goals (intro _hg; (try simp (disch := omega) only [ZB] at _hg); try first | exact absurd trivial _hg | (exfalso; omega))) | (refine e_ends rfl ?_) | (apply r_1; (focus (simp (disch := omega) only [rv, simB2, ZA, reduceEqDiff, ↓reduceIte, reduceAdd, reduceLeDiff, h1]; with_reducible rfl))))
    rw [List.take_of_length_le (by omega)] at h2
    exact h2.snapV

end Go.Proofs.YtbiikomnhkbblaaGreat

/- T2: contracts of functions and plain laws; for all inputs that the theorems name. -/
namespace Go.Proofs.YtbiikomnhkbblaaGreat
open Go Go.Abs
open Nat (reduceEqDiff reduceAdd reduceLeDiff)
theorem inp_getD {t : TaskV} {k : Nat} (h : k < t.cases.length) : (t.cases.map CaseV.inp).getD k default = (t.cases.getD k default).inp := by simp [List.getD, h]
theorem any_mem (l : List (List Int)) (v : List Int) : (l.any fun x => decide (x = v)) = decide (v ∈ l) := by
  by_cases h : v ∈ l
  · rw [decide_eq_true h, List.any_eq_true]
    exact ⟨v, h, by simp⟩
  · rw [decide_eq_false h, List.any_eq_false]
    intro x hx e
    rw [decide_eq_true_iff] at e
    subst e; exact h hx
attribute [local irreducible] awp2 aops2 ains aloop athen bbind obind gbind acond res1 Go.Abs.Fn PCall Go.Abs.Pure SnapArgs SnapL Yl

/-! ### Check of any task -/
theorem vector_c (v : List Int) (n most : Int) (hv : Sh v) : Pure Tryz.prog 48 [encV v, .int .i64 n, .int .i64 most] (.int .i64 (vectorE v n most)) := by
  refine Pure.of_c2 follows is48 (Nat.le_of_ble_eq_true rfl) ?_
  simp only [b48, O, G, N, M, D, F, B2, cFal, cTru]
  have hv' : v.length ≤ 17592186044416 := hv
  by_cases hn : (v.length : Int) = n
  rotate_left
  · have e : vectorE v n most = 15 := by unfold vectorE; rw [if_pos hn]
    rw [e]
    repeat' (first | apply w_seq | apply w_ops0 | apply w_ret | apply a_n | apply a_r | apply o_nil | (apply o_val rfl rfl; (focus ((try simp (disch := omega) only [simB0, ZA, reduceEqDiff, ↓reduceIte, reduceAdd, reduceLeDiff, ZV, reduceCtorEq]); first | with_reducible rfl | (apply s_ite; (focus omega); with_reducible rfl)))) | (apply e_box rfl; (iterate 2 (focus ((try simp only [simB0, ZA, reduceEqDiff, ↓reduceIte, reduceAdd, reduceLeDiff]); (try with_reducible rfl); done))); (focus (simp only [SO, Bool.and_self, one_encV, one_encVV]))) | (apply w_cond; (focus ((try simp only [simB0, ZA, reduceEqDiff, ↓reduceIte, reduceAdd, reduceLeDiff]); (try with_reducible rfl); done)); all_goals (intro _hg; (try simp only [ZB] at _hg); try first | exact absurd trivial _hg | (exfalso; omega))) | (refine e_ends rfl ?_) | (apply r_1; (focus (simp only [rv, simB0, ZA, reduceEqDiff, ↓reduceIte, reduceAdd, reduceLeDiff]; with_reducible rfl))))
    all_goals exact .int _ _
  have e : vectorE v n most = if v.any (fun x => decide (x < 0 ∨ most ≤ x)) then 2 else 0 := by unfold vectorE; rw [if_neg (fun h => h hn)]
  rw [e]
  have hc := containsF_c v (fun x => decide (x < 0 ∨ most ≤ x)) 77 [.iptr [.int .i64 most] 0] (DatL.cons (Dat.iptr (DatL.cons .int DatL.nil)) DatL.nil) (fun x _ => vector1_c x most) hv
  repeat' (first | apply w_seq | apply w_ops0 | apply w_skip | apply a_n | apply o_nil | (apply o_val rfl rfl; (focus ((try simp (disch := omega) only [simB0, ZA, reduceEqDiff, ↓reduceIte, reduceAdd, reduceLeDiff, ZV, reduceCtorEq]); first | with_reducible rfl | (apply s_ite; (focus omega); with_reducible rfl)))) | (apply e_box rfl; (iterate 2 (focus ((try simp only [simB0, ZA, reduceEqDiff, ↓reduceIte, reduceAdd, reduceLeDiff]); (try with_reducible rfl); done))); (focus (simp only [SO, Bool.and_self, one_encV, one_encVV]))) | (apply w_cond; (focus ((try simp only [simB0, ZA, reduceEqDiff, ↓reduceIte, reduceAdd, reduceLeDiff]); (try with_reducible rfl); done)); all_goals (intro _hg; (try simp only [ZB] at _hg); try first | exact absurd trivial _hg | (exfalso; omega))))
  refine o_callP (by ((try simp only [simB0, ZA, reduceEqDiff, ↓reduceIte, reduceAdd, reduceLeDiff]); (try with_reducible rfl))) (by ((try simp only [simB0, ZA, reduceEqDiff, ↓reduceIte, reduceAdd, reduceLeDiff]); (try with_reducible rfl))) hc (snap_plain (by (repeat' (first | exact snapL_nil | exact Dat.snap Dat.int | exact Dat.snap Dat.bool | exact Dat.snap Dat.str | exact Dat.snap Dat.esl | exact Dat.snap Dat.nilf | exact Dat.snap (encV_dat _) | exact Dat.snap (encVV_dat _) | apply snapL_cons | apply snap_func | apply snap_iptr | (apply snap_ptr; (focus ((try simp only [simB0, ZA, reduceEqDiff, ↓reduceIte, reduceAdd, reduceLeDiff]); with_reducible rfl)); (focus rfl))))) rfl) ?_
  cases hb : v.any (fun x => decide (x < 0 ∨ most ≤ x))
  · repeat' (first | apply w_seq | apply w_ops0 | apply w_skip | apply w_ret | apply a_n | apply o_nil | (apply o_val rfl rfl; (focus ((try simp (disch := omega) only [simB0, ZA, reduceEqDiff, ↓reduceIte, reduceAdd, reduceLeDiff, ZV, reduceCtorEq, Bool.false_eq_true]); first | with_reducible rfl | (apply s_ite; (focus omega); with_reducible rfl)))) | (apply w_condF; (focus (simp only [simB0, ZA, reduceEqDiff, ↓reduceIte, reduceAdd, reduceLeDiff, Bool.false_eq_true]; done))) | (refine e_ends rfl ?_) | (apply r_1; (focus (simp only [rv, simB0, ZA, reduceEqDiff, ↓reduceIte, reduceAdd, reduceLeDiff, Bool.false_eq_true]; with_reducible rfl))))
    all_goals exact .int _ _
  · repeat' (first | apply w_seq | apply w_ops0 | apply w_ret | apply a_n | apply a_r | apply o_nil | (apply o_val rfl rfl; (focus ((try simp (disch := omega) only [simB0, ZA, reduceEqDiff, ↓reduceIte, reduceAdd, reduceLeDiff, ZV, reduceCtorEq, Bool.false_eq_true]); first | with_reducible rfl | (apply s_ite; (focus omega); with_reducible rfl)))) | (apply w_condT; (focus (simp only [simB0, ZA, reduceEqDiff, ↓reduceIte, reduceAdd, reduceLeDiff, Bool.false_eq_true]; done))) | (refine e_ends rfl ?_) | (apply r_1; (focus (simp only [rv, simB0, ZA, reduceEqDiff, ↓reduceIte, reduceAdd, reduceLeDiff, Bool.false_eq_true]; with_reducible rfl))))
    all_goals exact .int _ _

theorem vectors_c (n ins outs : Int) (cs : AV) (hcs : Dat cs ∧ cs.cells = [cs] ∧ cs.one = true) (c : CaseV) (hs : ShC c) : Pure Tryz.prog 49 [.agg [.int .i64 n, .int .i64 ins, .int .i64 outs, cs], .agg [encV c.inp, encVV c.out, encVV c.calm]] (.int .i64 (vectorsE n outs c)) := by
  refine Pure.of_c2 follows is49 (Nat.le_of_ble_eq_true rfl) ?_
  simp only [b49, O, G, N, M, D, F, B2, cFal, cTru]
  obtain ⟨hc1, hc2, hc3⟩ := hcs
  obtain ⟨s1, s2, s3, s4, s5⟩ := hs
  have s2' : c.out.length ≤ 17592186044416 := s2
  have s4' : c.calm.length ≤ 17592186044416 := s4
  by_cases h0 : c.out.length < 1 ∨ 1024 < c.out.length
  · have e : vectorsE n outs c = 5 := by unfold vectorsE; rw [if_pos h0]
    rw [e]
    repeat' (first | apply w_seq | apply w_ops0 | apply w_ret | apply a_n | apply a_r | apply o_nil | (apply o_val rfl rfl; (focus ((try simp (disch := omega) only [simB0, ZA, reduceEqDiff, ↓reduceIte, reduceAdd, reduceLeDiff, ZV, reduceCtorEq, hc2, hc3]); first | with_reducible rfl | (apply s_ite; (focus omega); with_reducible rfl)))) | (apply e_box rfl; (iterate 2 (focus ((try simp only [simB0, ZA, reduceEqDiff, ↓reduceIte, reduceAdd, reduceLeDiff, hc2, hc3]); (try with_reducible rfl); done))); (focus (simp only [SO, Bool.and_self, one_encV, one_encVV, hc2, hc3]))) | (apply o_gT; (focus (simp only [simB0, ZA, reduceEqDiff, ↓reduceIte, reduceAdd, reduceLeDiff, hc2, hc3]; done))) | (apply o_gF; (focus (simp only [simB0, ZA, reduceEqDiff, ↓reduceIte, reduceAdd, reduceLeDiff, or_true, true_or, hc2, hc3]; done))) | (apply w_condT; (focus (simp only [simB0, ZA, reduceEqDiff, ↓reduceIte, reduceAdd, reduceLeDiff, hc2, hc3]; done))) | ((first | apply o_gB | apply w_cond); (focus ((try simp only [simB0, ZA, reduceEqDiff, ↓reduceIte, reduceAdd, reduceLeDiff, hc2, hc3]); (try with_reducible rfl); done)); all_goals (intro _hg; (try simp only [ZB] at _hg); try first | exact absurd trivial _hg | (exfalso; omega))) | (refine e_ends rfl ?_) | (apply r_1; (focus (simp only [rv, simB0, ZA, reduceEqDiff, ↓reduceIte, reduceAdd, reduceLeDiff, hc2, hc3]; with_reducible rfl))))
    all_goals exact .int _ _
  have e : vectorsE n outs c = if firstI (outE n outs c.out) c.out.length ≠ 0 then firstI (outE n outs c.out) c.out.length else firstI (calmE c.out c.calm) c.calm.length := by unfold vectorsE; rw [if_neg h0]
  rw [e]
  repeat' (first | apply w_seq | apply w_ops0 | apply w_block | apply w_skip | apply a_n | apply o_nil | (apply o_val rfl rfl; (focus ((try simp (disch := omega) only [simB0, ZA, reduceEqDiff, ↓reduceIte, reduceAdd, reduceLeDiff, ZV, reduceCtorEq, hc2, hc3]); first | with_reducible rfl | (apply s_ite; (focus omega); with_reducible rfl)))) | (apply e_box rfl; (iterate 2 (focus ((try simp only [simB0, ZA, reduceEqDiff, ↓reduceIte, reduceAdd, reduceLeDiff, hc2, hc3]); (try with_reducible rfl); done))); (focus (simp only [SO, Bool.and_self, one_encV, one_encVV, hc2, hc3]))) | (apply o_gT; (focus (simp only [simB0, ZA, reduceEqDiff, ↓reduceIte, reduceAdd, reduceLeDiff, hc2, hc3]; done))) | ((first | apply o_gB | apply w_cond); (focus ((try simp only [simB0, ZA, reduceEqDiff, ↓reduceIte, reduceAdd, reduceLeDiff, hc2, hc3]); (try with_reducible rfl); done)); all_goals (intro _hg; (try simp only [ZB] at _hg); try first | exact absurd trivial _hg | (exfalso; omega))) | apply w_loop)
  refine loop0 (X := Nat) (fun k => [(2, .ptr 0 4 0), (3, .ptr 1 3 0), (21, encVV c.out), (22, .int .i64 c.out.length), (23, .int .i64 k)]) (fun k => k ≤ c.out.length ∧ ∀ i, i < k → outE n outs c.out i = 0) (fun k => c.out.length - k) 0 ⟨Nat.zero_le _, fun i h => absurd h (by omega)⟩ (by simp (disch := omega) only [agr, ZG, reduceEqDiff, ↓reduceIte, List.length_cons, List.length_nil, reduceAdd, Nat.zero_add]) ?_
  rintro k ⟨hk, hz⟩
  by_cases hj : k < c.out.length
  · have hm := mem_getD hj
    have hv := vector_c (c.out.getD k default) n outs (s3 _ hm)
    have hu := unordered_c c.out k hj s2 s3
    have ho : outE n outs c.out k = if vectorE (c.out.getD k default) n outs ≠ 0 then vectorE (c.out.getD k default) n outs else if unordB c.out k then 14 else 0 := rfl
    change Pure _ _ _ (.bool (unordB c.out k)) at hu
    generalize vectorE (c.out.getD k default) n outs = V at *
    by_cases hV : V = 0
    · subst hV
      cases hub : unordB c.out k
      · rw [hub] at hu ho
        repeat' (first | apply w_seq | apply w_ops0 | apply w_block | apply w_skip | apply a_n | apply o_nil | (apply o_val rfl rfl; (focus ((try simp (disch := omega) only [simB0, ZA, reduceEqDiff, ↓reduceIte, reduceAdd, reduceLeDiff, ZV, reduceCtorEq, hc2, hc3, Bool.false_eq_true]); first | with_reducible rfl | (apply s_ite; (focus omega); with_reducible rfl)))) | (apply o_callD; (iterate 2 (focus ((try simp only [simB0, ZA, reduceEqDiff, ↓reduceIte, reduceAdd, reduceLeDiff, hc2, hc3, Bool.false_eq_true]); (try with_reducible rfl); done))); (focus (first | (exact hv) | (exact hu))); (focus ((first | refine snap_plain ?_ rfl | apply snap_data); repeat' (first | exact snapL_nil | apply snapL_i | apply snapL_dat)))) | (apply w_condF; (focus (simp only [simB0, ZA, reduceEqDiff, ↓reduceIte, reduceAdd, reduceLeDiff, hc2, hc3, Bool.false_eq_true]; done))) | (apply w_cond; (focus ((try simp only [simB0, ZA, reduceEqDiff, ↓reduceIte, reduceAdd, reduceLeDiff, hc2, hc3, Bool.false_eq_true]); (try with_reducible rfl); done)); all_goals (intro _hg; (try simp only [ZB] at _hg); try first | exact absurd trivial _hg | (exfalso; omega))))
        refine ⟨k + 1, ⟨by omega, fun i hi => ?_⟩, by omega, by simp (disch := omega) only [agr, ZG, reduceEqDiff, ↓reduceIte], rfl, rfl⟩
        rcases Nat.lt_succ_iff_lt_or_eq.1 hi with h | rfl
        · exact hz i h
        · exact ho
      · rw [hub] at hu ho
        repeat' (first | apply w_seq | apply w_ops0 | apply w_block | apply w_skip | apply w_ret | apply a_n | apply a_r | apply o_nil | (apply o_val rfl rfl; (focus ((try simp (disch := omega) only [simB0, ZA, reduceEqDiff, ↓reduceIte, reduceAdd, reduceLeDiff, ZV, reduceCtorEq, hc2, hc3, Bool.false_eq_true]); first | with_reducible rfl | (apply s_ite; (focus omega); with_reducible rfl)))) | (apply o_callD; (iterate 2 (focus ((try simp only [simB0, ZA, reduceEqDiff, ↓reduceIte, reduceAdd, reduceLeDiff, hc2, hc3, Bool.false_eq_true]); (try with_reducible rfl); done))); (focus (first | (exact hv) | (exact hu))); (focus ((first | refine snap_plain ?_ rfl | apply snap_data); repeat' (first | exact snapL_nil | apply snapL_i | apply snapL_dat)))) | (apply w_condT; (focus (simp only [simB0, ZA, reduceEqDiff, ↓reduceIte, reduceAdd, reduceLeDiff, hc2, hc3, Bool.false_eq_true]; done))) | (apply w_cond; (focus ((try simp only [simB0, ZA, reduceEqDiff, ↓reduceIte, reduceAdd, reduceLeDiff, hc2, hc3, Bool.false_eq_true]); (try with_reducible rfl); done)); all_goals (intro _hg; (try simp only [ZB] at _hg); try first | exact absurd trivial _hg | (exfalso; omega))) | (refine e_ends rfl ?_) | (apply r_1; (focus (simp only [rv, simB0, ZA, reduceEqDiff, ↓reduceIte, reduceAdd, reduceLeDiff, hc2, hc3, Bool.false_eq_true]; with_reducible rfl))))
        refine snap_int ?_
        rw [firstI_hit hj hz (by rw [ho]; decide), if_pos (by rw [ho]; decide), ho]; rfl
    · have ho' : outE n outs c.out k = V := by rw [ho, if_pos hV]
      repeat' (first | apply w_seq | apply w_ops0 | apply w_block | apply w_skip | apply w_ret | apply a_n | apply a_r | apply o_nil | (apply o_val rfl rfl; (focus ((try simp (disch := omega) only [simB0, ZA, reduceEqDiff, ↓reduceIte, reduceAdd, reduceLeDiff, ZV, reduceCtorEq, hc2, hc3, Bool.false_eq_true]); first | with_reducible rfl | (apply s_ite; (focus omega); with_reducible rfl)))) | (apply o_callD; (iterate 2 (focus ((try simp only [simB0, ZA, reduceEqDiff, ↓reduceIte, reduceAdd, reduceLeDiff, hc2, hc3, Bool.false_eq_true]); (try with_reducible rfl); done))); (focus (first | (exact hv) | (exact hu))); (focus ((first | refine snap_plain ?_ rfl | apply snap_data); repeat' (first | exact snapL_nil | apply snapL_i | apply snapL_dat)))) | (apply w_cond; (focus ((try simp only [simB0, ZA, reduceEqDiff, ↓reduceIte, reduceAdd, reduceLeDiff, hc2, hc3, Bool.false_eq_true]); (try with_reducible rfl); done)); all_goals (intro _hg; (try simp only [ZB] at _hg); try first | exact absurd trivial _hg | (exfalso; omega))) | (refine e_ends rfl ?_) | (apply r_1; (focus (simp only [rv, simB0, ZA, reduceEqDiff, ↓reduceIte, reduceAdd, reduceLeDiff, hc2, hc3, Bool.false_eq_true]; with_reducible rfl))))
      refine snap_int ?_
      rw [firstI_hit hj hz (by rw [ho']; exact hV), if_pos (by rw [ho']; exact hV), ho']
  · have hz0 := firstI_zero (f := outE n outs c.out) (n := c.out.length) (fun i hi => hz i (by omega))
    rw [hz0, if_neg (fun h => h rfl)]
    repeat' (first | apply w_seq | apply w_ops0 | apply w_block | apply w_exit | apply a_n | apply a_x | apply o_nil | (apply o_val rfl rfl; (focus ((try simp (disch := omega) only [simB0, ZA, reduceEqDiff, ↓reduceIte, reduceAdd, reduceLeDiff, ZV, reduceCtorEq, hc2, hc3]); first | with_reducible rfl | (apply s_ite; (focus omega); with_reducible rfl)))) | (apply w_cond; (focus ((try simp only [simB0, ZA, reduceEqDiff, ↓reduceIte, reduceAdd, reduceLeDiff, hc2, hc3]); (try with_reducible rfl); done)); all_goals (intro _hg; (try simp only [ZB] at _hg); try first | exact absurd trivial _hg | (exfalso; omega))) | apply w_loop)
    refine loop0 (X := Nat) (fun k => [(2, .ptr 0 4 0), (3, .ptr 1 3 0), (43, encVV c.calm), (44, .int .i64 c.calm.length), (45, .int .i64 k)]) (fun k => k ≤ c.calm.length ∧ ∀ i, i < k → calmE c.out c.calm i = 0) (fun k => c.calm.length - k) 0 ⟨Nat.zero_le _, fun i h => absurd h (by omega)⟩ (by simp (disch := omega) only [agr, ZG, reduceEqDiff, ↓reduceIte]) ?_
    rintro k ⟨hk, hz⟩
    by_cases hj : k < c.calm.length
    · have hm := mem_getD hj
      have hv := has_c c.out (c.calm.getD k default) s2 s3 (s5 _ hm)
      rw [any_mem] at hv
      have hu := unordered_c c.calm k hj s4 s5
      have ho : calmE c.out c.calm k = if c.calm.getD k default ∈ c.out then (if unordB c.calm k then 14 else 0) else 6 := rfl
      change Pure _ _ _ (.bool (unordB c.calm k)) at hu
      by_cases hh : c.calm.getD k default ∈ c.out
      · rw [decide_eq_true hh] at hv
        rw [if_pos hh] at ho
        cases hub : unordB c.calm k
        · rw [hub] at hu ho
          repeat' (first | apply w_seq | apply w_ops0 | apply w_block | apply w_skip | apply a_n | apply o_nil | (apply o_val rfl rfl; (focus ((try simp (disch := omega) only [simB0, ZA, reduceEqDiff, ↓reduceIte, reduceAdd, reduceLeDiff, ZV, reduceCtorEq, hc2, hc3, Bool.false_eq_true]); first | with_reducible rfl | (apply s_ite; (focus omega); with_reducible rfl)))) | (apply o_callD; (iterate 2 (focus ((try simp only [simB0, ZA, reduceEqDiff, ↓reduceIte, reduceAdd, reduceLeDiff, hc2, hc3, Bool.false_eq_true]); (try with_reducible rfl); done))); (focus (first | (exact hv) | (exact hu))); (focus ((first | refine snap_plain ?_ rfl | apply snap_data); repeat' (first | exact snapL_nil | apply snapL_i | apply snapL_dat)))) | (apply w_condF; (focus (simp only [simB0, ZA, reduceEqDiff, ↓reduceIte, reduceAdd, reduceLeDiff, hc2, hc3, Bool.false_eq_true]; done))) | (apply w_cond; (focus ((try simp only [simB0, ZA, reduceEqDiff, ↓reduceIte, reduceAdd, reduceLeDiff, hc2, hc3, Bool.false_eq_true]); (try with_reducible rfl); done)); all_goals (intro _hg; (try simp only [ZB] at _hg); try first | exact absurd trivial _hg | (exfalso; omega))))
          refine ⟨k + 1, ⟨by omega, fun i hi => ?_⟩, by omega, by simp (disch := omega) only [agr, ZG, reduceEqDiff, ↓reduceIte], rfl, rfl⟩
          rcases Nat.lt_succ_iff_lt_or_eq.1 hi with h | rfl
          · exact hz i h
          · exact ho
        · rw [hub] at hu ho
          repeat' (first | apply w_seq | apply w_ops0 | apply w_block | apply w_skip | apply w_ret | apply a_n | apply a_r | apply o_nil | (apply o_val rfl rfl; (focus ((try simp (disch := omega) only [simB0, ZA, reduceEqDiff, ↓reduceIte, reduceAdd, reduceLeDiff, ZV, reduceCtorEq, hc2, hc3, Bool.false_eq_true]); first | with_reducible rfl | (apply s_ite; (focus omega); with_reducible rfl)))) | (apply o_callD; (iterate 2 (focus ((try simp only [simB0, ZA, reduceEqDiff, ↓reduceIte, reduceAdd, reduceLeDiff, hc2, hc3, Bool.false_eq_true]); (try with_reducible rfl); done))); (focus (first | (exact hv) | (exact hu))); (focus ((first | refine snap_plain ?_ rfl | apply snap_data); repeat' (first | exact snapL_nil | apply snapL_i | apply snapL_dat)))) | (apply w_condT; (focus (simp only [simB0, ZA, reduceEqDiff, ↓reduceIte, reduceAdd, reduceLeDiff, hc2, hc3, Bool.false_eq_true]; done))) | (apply w_condF; (focus (simp only [simB0, ZA, reduceEqDiff, ↓reduceIte, reduceAdd, reduceLeDiff, hc2, hc3, Bool.false_eq_true]; done))) | (apply w_cond; (focus ((try simp only [simB0, ZA, reduceEqDiff, ↓reduceIte, reduceAdd, reduceLeDiff, hc2, hc3, Bool.false_eq_true]); (try with_reducible rfl); done)); all_goals (intro _hg; (try simp only [ZB] at _hg); try first | exact absurd trivial _hg | (exfalso; omega))) | (refine e_ends rfl ?_) | (apply r_1; (focus (simp only [rv, simB0, ZA, reduceEqDiff, ↓reduceIte, reduceAdd, reduceLeDiff, hc2, hc3, Bool.false_eq_true]; with_reducible rfl))))
          refine snap_int ?_
          rw [firstI_hit hj hz (by rw [ho]; decide), ho]; rfl
      · rw [decide_eq_false hh] at hv
        rw [if_neg hh] at ho
        repeat' (first | apply w_seq | apply w_ops0 | apply w_block | apply w_skip | apply w_ret | apply a_n | apply a_r | apply o_nil | (apply o_val rfl rfl; (focus ((try simp (disch := omega) only [simB0, ZA, reduceEqDiff, ↓reduceIte, reduceAdd, reduceLeDiff, ZV, reduceCtorEq, hc2, hc3, Bool.false_eq_true]); first | with_reducible rfl | (apply s_ite; (focus omega); with_reducible rfl)))) | (apply o_callD; (iterate 2 (focus ((try simp only [simB0, ZA, reduceEqDiff, ↓reduceIte, reduceAdd, reduceLeDiff, hc2, hc3, Bool.false_eq_true]); (try with_reducible rfl); done))); (focus (first | (exact hv) | (exact hu))); (focus ((first | refine snap_plain ?_ rfl | apply snap_data); repeat' (first | exact snapL_nil | apply snapL_i | apply snapL_dat)))) | (apply w_condT; (focus (simp only [simB0, ZA, reduceEqDiff, ↓reduceIte, reduceAdd, reduceLeDiff, hc2, hc3, Bool.false_eq_true]; done))) | (apply w_cond; (focus ((try simp only [simB0, ZA, reduceEqDiff, ↓reduceIte, reduceAdd, reduceLeDiff, hc2, hc3, Bool.false_eq_true]); (try with_reducible rfl); done)); all_goals (intro _hg; (try simp only [ZB] at _hg); try first | exact absurd trivial _hg | (exfalso; omega))) | (refine e_ends rfl ?_) | (apply r_1; (focus (simp only [rv, simB0, ZA, reduceEqDiff, ↓reduceIte, reduceAdd, reduceLeDiff, hc2, hc3, Bool.false_eq_true]; with_reducible rfl))))
        refine snap_int ?_
        rw [firstI_hit hj hz (by rw [ho]; decide), ho]
    · repeat' (first | apply w_seq | apply w_ops0 | apply w_exit | apply w_ret | apply a_n | apply a_x | apply o_nil | (apply o_val rfl rfl; (focus ((try simp (disch := omega) only [simB0, ZA, reduceEqDiff, ↓reduceIte, reduceAdd, reduceLeDiff, ZV, reduceCtorEq, hc2, hc3]); first | with_reducible rfl | (apply s_ite; (focus omega); with_reducible rfl)))) | (apply w_cond; (focus ((try simp only [simB0, ZA, reduceEqDiff, ↓reduceIte, reduceAdd, reduceLeDiff, hc2, hc3]); (try with_reducible rfl); done)); all_goals (intro _hg; (try simp only [ZB] at _hg); try first | exact absurd trivial _hg | (exfalso; omega))) | (refine e_ends rfl ?_) | (apply r_1; (focus (simp only [rv, simB0, ZA, reduceEqDiff, ↓reduceIte, reduceAdd, reduceLeDiff, hc2, hc3]; with_reducible rfl))))
      refine snap_int ?_
      rw [firstI_zero fun i hi => hz i (by omega)]

end Go.Proofs.YtbiikomnhkbblaaGreat

/- T3: contracts of functions and plain laws; for all inputs that the theorems name. -/
namespace Go.Proofs.YtbiikomnhkbblaaGreat
open Go Go.Abs
open Nat (reduceEqDiff reduceAdd reduceLeDiff)
attribute [local irreducible] awp2 aops2 ains aloop athen bbind obind gbind acond res1 Go.Abs.Fn PCall Go.Abs.Pure SnapArgs SnapL Yl

set_option maxHeartbeats 2000000 in
theorem check_c (t : TaskV) (hs : ∀ c ∈ t.cases, ShC c) (hsc : Sh t.cases) : Pure Tryz.prog 14 [encT t] (.int .i64 (checkE t)) := by
  refine Pure.of_c2 follows is14 (Nat.le_of_ble_eq_true rfl) ?_
  simp only [b14, O, G, N, M, D, F, B2, cFal, cTru]
  have hsc' : t.cases.length ≤ 17592186044416 := hsc
  unfold encT
  by_cases h0 : t.n < 1 ∨ 5 < t.n ∨ t.ins < 1 ∨ 8 < t.ins ∨ t.outs < 1 ∨ 8 < t.outs
  · have e : checkE t = 2 := by unfold checkE; rw [if_pos h0]
    rw [e]
    repeat' (first | apply w_seq | apply w_ops0 | apply w_block | apply w_skip | apply w_ret | apply a_n | apply a_r | apply o_nil | (apply o_val rfl rfl; (focus ((try simp (disch := omega) only [simB0, ZA, reduceEqDiff, ↓reduceIte, reduceAdd, reduceLeDiff, ZV, reduceCtorEq, encCs_one, encCs_cells, alenS_encCs]); first | with_reducible rfl | (apply s_ite; (focus omega); with_reducible rfl)))) | (apply e_box rfl; (iterate 2 (focus ((try simp only [simB0, ZA, reduceEqDiff, ↓reduceIte, reduceAdd, reduceLeDiff, encCs_one, encCs_cells, alenS_encCs]); (try with_reducible rfl); done))); (focus (simp only [SO, Bool.and_self, one_encV, one_encVV, encCs_one, encCs_cells, alenS_encCs]))) | (apply o_gT; (focus (simp only [simB0, ZA, reduceEqDiff, ↓reduceIte, reduceAdd, reduceLeDiff, encCs_one, encCs_cells, alenS_encCs]; done))) | (apply o_gF; (focus (simp only [simB0, ZA, reduceEqDiff, ↓reduceIte, reduceAdd, reduceLeDiff, or_true, true_or, encCs_one, encCs_cells, alenS_encCs]; done))) | (apply w_condT; (focus (simp only [simB0, ZA, reduceEqDiff, ↓reduceIte, reduceAdd, reduceLeDiff, encCs_one, encCs_cells, alenS_encCs]; done))) | ((first | apply o_gB | apply w_cond); (focus ((try simp only [simB0, ZA, reduceEqDiff, ↓reduceIte, reduceAdd, reduceLeDiff, encCs_one, encCs_cells, alenS_encCs]); (try with_reducible rfl); done)); all_goals (intro _hg; (try simp only [ZB] at _hg); try first | exact absurd trivial _hg | (exfalso; omega))) | (refine e_ends rfl ?_) | (apply r_1; (focus (simp only [rv, simB0, ZA, reduceEqDiff, ↓reduceIte, reduceAdd, reduceLeDiff, encCs_one, encCs_cells, alenS_encCs]; with_reducible rfl))))
    all_goals exact .int _ _
  by_cases h1 : t.cases.length < 1 ∨ 1024 < t.cases.length
  · have e : checkE t = 5 := by unfold checkE; rw [if_neg h0, if_pos h1]
    rw [e]
    repeat' (first | apply w_seq | apply w_ops0 | apply w_block | apply w_ret | apply a_n | apply a_r | apply o_nil | (apply o_val rfl rfl; (focus ((try simp (disch := omega) only [simB0, ZA, reduceEqDiff, ↓reduceIte, reduceAdd, reduceLeDiff, ZV, reduceCtorEq, encCs_one, encCs_cells, alenS_encCs]); first | with_reducible rfl | (apply s_ite; (focus omega); with_reducible rfl)))) | (apply e_box rfl; (iterate 2 (focus ((try simp only [simB0, ZA, reduceEqDiff, ↓reduceIte, reduceAdd, reduceLeDiff, encCs_one, encCs_cells, alenS_encCs]); (try with_reducible rfl); done))); (focus (simp only [SO, Bool.and_self, one_encV, one_encVV, encCs_one, encCs_cells, alenS_encCs]))) | (apply o_gT; (focus (simp only [simB0, ZA, reduceEqDiff, ↓reduceIte, reduceAdd, reduceLeDiff, encCs_one, encCs_cells, alenS_encCs]; done))) | (apply o_gF; (focus (simp only [simB0, ZA, reduceEqDiff, ↓reduceIte, reduceAdd, reduceLeDiff, or_true, true_or, encCs_one, encCs_cells, alenS_encCs]; done))) | (apply w_condT; (focus (simp only [simB0, ZA, reduceEqDiff, ↓reduceIte, reduceAdd, reduceLeDiff, encCs_one, encCs_cells, alenS_encCs]; done))) | ((first | apply o_gB | apply w_cond); (focus ((try simp only [simB0, ZA, reduceEqDiff, ↓reduceIte, reduceAdd, reduceLeDiff, encCs_one, encCs_cells, alenS_encCs]); (try with_reducible rfl); done)); all_goals (intro _hg; (try simp only [ZB] at _hg); try first | exact absurd trivial _hg | (exfalso; omega))) | (refine e_ends rfl ?_) | (apply r_1; (focus (simp only [rv, simB0, ZA, reduceEqDiff, ↓reduceIte, reduceAdd, reduceLeDiff, encCs_one, encCs_cells, alenS_encCs]; with_reducible rfl))))
    all_goals exact .int _ _
  have e : checkE t = firstI (caseE t) t.cases.length := by unfold checkE; rw [if_neg h0, if_neg h1]
  rw [e]
  repeat' (first | apply w_seq | apply w_ops0 | apply w_block | apply w_skip | apply a_n | apply o_nil | (apply o_val rfl rfl; (focus ((try simp (disch := omega) only [simB0, ZA, reduceEqDiff, ↓reduceIte, reduceAdd, reduceLeDiff, ZV, reduceCtorEq, encCs_one, encCs_cells, alenS_encCs]); first | with_reducible rfl | (apply s_ite; (focus omega); with_reducible rfl)))) | (apply e_box rfl; (iterate 2 (focus ((try simp only [simB0, ZA, reduceEqDiff, ↓reduceIte, reduceAdd, reduceLeDiff, encCs_one, encCs_cells, alenS_encCs]); (try with_reducible rfl); done))); (focus (simp only [SO, Bool.and_self, one_encV, one_encVV, encCs_one, encCs_cells, alenS_encCs]))) | (apply o_gT; (focus (simp only [simB0, ZA, reduceEqDiff, ↓reduceIte, reduceAdd, reduceLeDiff, encCs_one, encCs_cells, alenS_encCs]; done))) | ((first | apply o_gB | apply w_cond); (focus ((try simp only [simB0, ZA, reduceEqDiff, ↓reduceIte, reduceAdd, reduceLeDiff, encCs_one, encCs_cells, alenS_encCs]); (try with_reducible rfl); done)); all_goals (intro _hg; (try simp only [ZB] at _hg); try first | exact absurd trivial _hg | (exfalso; omega))) | apply w_loop)
  refine loopI (X := Nat) (fun k => [(1, .ptr 0 4 0), (44, encCs t.cases), (45, .int .i64 t.cases.length), (46, .int .i64 k)]) (fun k H nx => k ≤ t.cases.length ∧ (∀ i, i < k → caseE t i = 0) ∧ 1 ≤ nx ∧ H 0 = some [.int .i64 t.n, .int .i64 t.ins, .int .i64 t.outs, encCs t.cases]) (fun k => t.cases.length - k) 0 ⟨Nat.zero_le _, fun i h => absurd h (by omega), Nat.le_refl _, rfl⟩ (by simp (disch := omega) only [agr, ZG, reduceEqDiff, ↓reduceIte, List.length_cons, List.length_nil, reduceAdd]) ?_
  rintro k H nx ⟨hk, hz, hn, g0⟩
  by_cases hj : k < t.cases.length
  rotate_left
  · repeat' (first | apply w_seq | apply w_ops0 | apply w_exit | apply w_ret | apply a_n | apply a_x | apply o_nil | (apply o_val rfl; (focus (first | rfl | (simp (disch := omega) only [dm2, oldP, newP, simB0, ZA, reduceEqDiff, ↓reduceIte, reduceAdd, reduceLeDiff, decide_eq_true_eq]; first | done | omega))); (focus ((try simp (disch := omega) only [simB2, ZA, reduceEqDiff, ↓reduceIte, reduceAdd, reduceLeDiff, ZV, reduceCtorEq, g0, encCs_one, encCs_cells, alenS_encCs, aixS_encCs, Bool.false_eq_true]); first | with_reducible rfl | (apply s_ite; (focus omega); with_reducible rfl)))) | (apply w_cond; (focus ((try simp (disch := omega) only [simB2, ZA, reduceEqDiff, ↓reduceIte, reduceAdd, reduceLeDiff, g0, encCs_one, encCs_cells, alenS_encCs, aixS_encCs, Bool.false_eq_true]); (try with_reducible rfl); done)); all_goals (intro _hg; (try simp (disch := omega) only [ZB] at _hg); try first | exact absurd trivial _hg | (exfalso; omega))) | (refine e_ends rfl ?_) | (apply r_1; (focus (simp (disch := omega) only [rv, simB2, ZA, reduceEqDiff, ↓reduceIte, reduceAdd, reduceLeDiff, g0, encCs_one, encCs_cells, alenS_encCs, aixS_encCs, Bool.false_eq_true]; with_reducible rfl))))
    refine snap_int ?_
    rw [firstI_zero fun i hi => hz i (by omega)]
  have hm := mem_getD hj
  have hsh := hs _ hm
  have hv := vector_c _ t.n t.ins hsh.1
  have hvs := vectors_c t.n t.ins t.outs (encCs t.cases) ⟨encCs_dat _, rfl, rfl⟩ _ hsh
  have d1 : Dat (encC (t.cases.getD k default)) := Dat.agg (DatL.cons (encV_dat _) (DatL.cons (encVV_dat _) (DatL.cons (encVV_dat _) DatL.nil)))
  have d2 := encT_dat t
  unfold encC at d1
  unfold encT at d2
  have hce : caseE t k = if vectorE (t.cases.getD k default).inp t.n t.ins ≠ 0 then vectorE (t.cases.getD k default).inp t.n t.ins else if unordB (t.cases.map CaseV.inp) k then 14 else vectorsE t.n t.outs (t.cases.getD k default) := rfl
  have fin : caseE t k ≠ 0 → firstI (caseE t) t.cases.length = caseE t k := fun h => firstI_hit hj hz h
  have hnext : caseE t k = 0 → ∀ i, i < k + 1 → caseE t i = 0 := fun h i hi => by
    rcases Nat.lt_succ_iff_lt_or_eq.1 hi with h' | rfl
    · exact hz i h'
    · exact h
  by_cases hk0 : k = 0
  · subst hk0
    have hu : unordB (t.cases.map CaseV.inp) 0 = false := rfl
    rw [hu] at hce
    have hi0 : aixS 3 (encCs t.cases) (.int .i64 0) = _ := aixS_encCs (l := t.cases) (k := 0) hj
    generalize vectorE (t.cases.getD 0 default).inp t.n t.ins = V at *
    generalize vectorsE t.n t.outs (t.cases.getD 0 default) = W at *
    by_cases hV : V = 0
    · subst hV
      rw [if_neg (fun h => h rfl), if_neg (by simp)] at hce
      by_cases hW : W = 0
      · subst hW
        repeat' (first | apply w_seq | apply w_ops0 | apply w_mixS1 | apply w_block | apply w_skip | apply a_n | apply o_nil | (apply o_val rfl; (focus (first | rfl | (simp (disch := omega) only [dm2, oldP, newP, simB0, ZA, reduceEqDiff, ↓reduceIte, reduceAdd, reduceLeDiff, decide_eq_true_eq]; first | done | omega))); (focus ((try simp (disch := omega) only [simB2, ZA, reduceEqDiff, ↓reduceIte, reduceAdd, reduceLeDiff, ZV, reduceCtorEq, g0, encCs_one, encCs_cells, alenS_encCs, aixS_encCs, Bool.false_eq_true, show ((0 : Nat) : Int) = 0 from rfl, hi0]); first | with_reducible rfl | (apply s_ite; (focus omega); with_reducible rfl)))) | (apply o_callD; (iterate 2 (focus ((try simp (disch := omega) only [simB2, ZA, reduceEqDiff, ↓reduceIte, reduceAdd, reduceLeDiff, g0, encCs_one, encCs_cells, alenS_encCs, aixS_encCs, Bool.false_eq_true, show ((0 : Nat) : Int) = 0 from rfl, hi0]); (try with_reducible rfl); done))); (focus (first | (exact hv) | (exact hvs))); (focus ((first | refine snap_plain ?_ rfl | apply snap_data); repeat' (first | exact snapL_nil | apply snapL_i | apply snapL_dat | exact d1 | exact d2)))) | (apply e_alloc rfl; (focus ((try simp (disch := omega) only [simB2, ZA, reduceEqDiff, ↓reduceIte, reduceAdd, reduceLeDiff, g0, encCs_one, encCs_cells, alenS_encCs, aixS_encCs, Bool.false_eq_true, show ((0 : Nat) : Int) = 0 from rfl, hi0]); (try with_reducible rfl); done)); (focus (simp (disch := omega) only [SO, Bool.and_self, one_encV, one_encVV, g0, encCs_one, encCs_cells, alenS_encCs, aixS_encCs, Bool.false_eq_true, show ((0 : Nat) : Int) = 0 from rfl, hi0]))) | (apply e_st; (focus (first | rfl | (simp (disch := omega) only [dm2, oldP, newP, simB0, ZA, reduceEqDiff, ↓reduceIte, reduceAdd, reduceLeDiff, decide_eq_true_eq]; first | done | omega))); (iterate 4 (focus ((try simp (disch := omega) only [simB2, ZA, reduceEqDiff, ↓reduceIte, reduceAdd, reduceLeDiff, g0, encCs_one, encCs_cells, alenS_encCs, aixS_encCs, Bool.false_eq_true, show ((0 : Nat) : Int) = 0 from rfl, hi0]); (try with_reducible rfl); done))); (focus (simp (disch := omega) only [SO, Bool.and_self, one_encV, one_encVV, g0, encCs_one, encCs_cells, alenS_encCs, aixS_encCs, Bool.false_eq_true, show ((0 : Nat) : Int) = 0 from rfl, hi0])); (iterate 3 (focus ((try simp (disch := omega) only [SL, reduceAdd, Nat.reduceMul, List.length_map]); first | done | omega)))) | (apply o_gF; (focus (simp (disch := omega) only [simB2, ZA, reduceEqDiff, ↓reduceIte, reduceAdd, reduceLeDiff, or_true, true_or, g0, encCs_one, encCs_cells, alenS_encCs, aixS_encCs, Bool.false_eq_true, show ((0 : Nat) : Int) = 0 from rfl, hi0]; done))) | (apply w_condF; (focus (simp (disch := omega) only [simB2, ZA, reduceEqDiff, ↓reduceIte, reduceAdd, reduceLeDiff, g0, encCs_one, encCs_cells, alenS_encCs, aixS_encCs, Bool.false_eq_true, show ((0 : Nat) : Int) = 0 from rfl, hi0]; done))) | ((first | apply o_gB | apply w_cond); (focus ((try simp (disch := omega) only [simB2, ZA, reduceEqDiff, ↓reduceIte, reduceAdd, reduceLeDiff, g0, encCs_one, encCs_cells, alenS_encCs, aixS_encCs, Bool.false_eq_true, show ((0 : Nat) : Int) = 0 from rfl, hi0]); (try with_reducible rfl); done)); all_goals (intro _hg; (try simp (disch := omega) only [ZB] at _hg); try first | exact absurd trivial _hg | (exfalso; omega))))
        refine ⟨0 + 1, by omega, ⟨by omega, hnext hce, by omega, ?_⟩, by simp (disch := omega) only [agr, ZG, reduceEqDiff, ↓reduceIte]⟩
        rw [hupd_ne (by omega), hupd_ne (by omega), g0]
      · repeat' (first | apply w_seq | apply w_ops0 | apply w_mixS1 | apply w_block | apply w_skip | apply w_ret | apply a_n | apply a_r | apply o_nil | (apply o_val rfl; (focus (first | rfl | (simp (disch := omega) only [dm2, oldP, newP, simB0, ZA, reduceEqDiff, ↓reduceIte, reduceAdd, reduceLeDiff, decide_eq_true_eq]; first | done | omega))); (focus ((try simp (disch := omega) only [simB2, ZA, reduceEqDiff, ↓reduceIte, reduceAdd, reduceLeDiff, ZV, reduceCtorEq, g0, encCs_one, encCs_cells, alenS_encCs, aixS_encCs, Bool.false_eq_true, show ((0 : Nat) : Int) = 0 from rfl, hi0]); first | with_reducible rfl | (apply s_ite; (focus omega); with_reducible rfl)))) | (apply o_callD; (iterate 2 (focus ((try simp (disch := omega) only [simB2, ZA, reduceEqDiff, ↓reduceIte, reduceAdd, reduceLeDiff, g0, encCs_one, encCs_cells, alenS_encCs, aixS_encCs, Bool.false_eq_true, show ((0 : Nat) : Int) = 0 from rfl, hi0]); (try with_reducible rfl); done))); (focus (first | (exact hv) | (exact hvs))); (focus ((first | refine snap_plain ?_ rfl | apply snap_data); repeat' (first | exact snapL_nil | apply snapL_i | apply snapL_dat | exact d1 | exact d2)))) | (apply e_alloc rfl; (focus ((try simp (disch := omega) only [simB2, ZA, reduceEqDiff, ↓reduceIte, reduceAdd, reduceLeDiff, g0, encCs_one, encCs_cells, alenS_encCs, aixS_encCs, Bool.false_eq_true, show ((0 : Nat) : Int) = 0 from rfl, hi0]); (try with_reducible rfl); done)); (focus (simp (disch := omega) only [SO, Bool.and_self, one_encV, one_encVV, g0, encCs_one, encCs_cells, alenS_encCs, aixS_encCs, Bool.false_eq_true, show ((0 : Nat) : Int) = 0 from rfl, hi0]))) | (apply e_st; (focus (first | rfl | (simp (disch := omega) only [dm2, oldP, newP, simB0, ZA, reduceEqDiff, ↓reduceIte, reduceAdd, reduceLeDiff, decide_eq_true_eq]; first | done | omega))); (iterate 4 (focus ((try simp (disch := omega) only [simB2, ZA, reduceEqDiff, ↓reduceIte, reduceAdd, reduceLeDiff, g0, encCs_one, encCs_cells, alenS_encCs, aixS_encCs, Bool.false_eq_true, show ((0 : Nat) : Int) = 0 from rfl, hi0]); (try with_reducible rfl); done))); (focus (simp (disch := omega) only [SO, Bool.and_self, one_encV, one_encVV, g0, encCs_one, encCs_cells, alenS_encCs, aixS_encCs, Bool.false_eq_true, show ((0 : Nat) : Int) = 0 from rfl, hi0])); (iterate 3 (focus ((try simp (disch := omega) only [SL, reduceAdd, Nat.reduceMul, List.length_map]); first | done | omega)))) | (apply o_gF; (focus (simp (disch := omega) only [simB2, ZA, reduceEqDiff, ↓reduceIte, reduceAdd, reduceLeDiff, or_true, true_or, g0, encCs_one, encCs_cells, alenS_encCs, aixS_encCs, Bool.false_eq_true, show ((0 : Nat) : Int) = 0 from rfl, hi0]; done))) | (apply w_condF; (focus (simp (disch := omega) only [simB2, ZA, reduceEqDiff, ↓reduceIte, reduceAdd, reduceLeDiff, g0, encCs_one, encCs_cells, alenS_encCs, aixS_encCs, Bool.false_eq_true, show ((0 : Nat) : Int) = 0 from rfl, hi0]; done))) | ((first | apply o_gB | apply w_cond); (focus ((try simp (disch := omega) only [simB2, ZA, reduceEqDiff, ↓reduceIte, reduceAdd, reduceLeDiff, g0, encCs_one, encCs_cells, alenS_encCs, aixS_encCs, Bool.false_eq_true, show ((0 : Nat) : Int) = 0 from rfl, hi0]); (try with_reducible rfl); done)); all_goals (intro _hg; (try simp (disch := omega) only [ZB] at _hg); try first | exact absurd trivial _hg | (exfalso; omega))) | (refine e_ends rfl ?_) | (apply r_1; (focus (simp (disch := omega) only [rv, simB2, ZA, reduceEqDiff, ↓reduceIte, reduceAdd, reduceLeDiff, g0, encCs_one, encCs_cells, alenS_encCs, aixS_encCs, Bool.false_eq_true, show ((0 : Nat) : Int) = 0 from rfl, hi0]; with_reducible rfl))))
        refine snap_int ?_
        rw [fin (by rw [hce]; exact hW), hce]
    · rw [if_pos hV] at hce
      repeat' (first | apply w_seq | apply w_ops0 | apply w_block | apply w_skip | apply w_ret | apply a_n | apply a_r | apply o_nil | (apply o_val rfl; (focus (first | rfl | (simp (disch := omega) only [dm2, oldP, newP, simB0, ZA, reduceEqDiff, ↓reduceIte, reduceAdd, reduceLeDiff, decide_eq_true_eq]; first | done | omega))); (focus ((try simp (disch := omega) only [simB2, ZA, reduceEqDiff, ↓reduceIte, reduceAdd, reduceLeDiff, ZV, reduceCtorEq, g0, encCs_one, encCs_cells, alenS_encCs, aixS_encCs, Bool.false_eq_true, show ((0 : Nat) : Int) = 0 from rfl, hi0]); first | with_reducible rfl | (apply s_ite; (focus omega); with_reducible rfl)))) | (apply o_callD; (iterate 2 (focus ((try simp (disch := omega) only [simB2, ZA, reduceEqDiff, ↓reduceIte, reduceAdd, reduceLeDiff, g0, encCs_one, encCs_cells, alenS_encCs, aixS_encCs, Bool.false_eq_true, show ((0 : Nat) : Int) = 0 from rfl, hi0]); (try with_reducible rfl); done))); (focus (first | (exact hv) | (exact hvs))); (focus ((first | refine snap_plain ?_ rfl | apply snap_data); repeat' (first | exact snapL_nil | apply snapL_i | apply snapL_dat | exact d1 | exact d2)))) | (apply e_alloc rfl; (focus ((try simp (disch := omega) only [simB2, ZA, reduceEqDiff, ↓reduceIte, reduceAdd, reduceLeDiff, g0, encCs_one, encCs_cells, alenS_encCs, aixS_encCs, Bool.false_eq_true, show ((0 : Nat) : Int) = 0 from rfl, hi0]); (try with_reducible rfl); done)); (focus (simp (disch := omega) only [SO, Bool.and_self, one_encV, one_encVV, g0, encCs_one, encCs_cells, alenS_encCs, aixS_encCs, Bool.false_eq_true, show ((0 : Nat) : Int) = 0 from rfl, hi0]))) | (apply e_st; (focus (first | rfl | (simp (disch := omega) only [dm2, oldP, newP, simB0, ZA, reduceEqDiff, ↓reduceIte, reduceAdd, reduceLeDiff, decide_eq_true_eq]; first | done | omega))); (iterate 4 (focus ((try simp (disch := omega) only [simB2, ZA, reduceEqDiff, ↓reduceIte, reduceAdd, reduceLeDiff, g0, encCs_one, encCs_cells, alenS_encCs, aixS_encCs, Bool.false_eq_true, show ((0 : Nat) : Int) = 0 from rfl, hi0]); (try with_reducible rfl); done))); (focus (simp (disch := omega) only [SO, Bool.and_self, one_encV, one_encVV, g0, encCs_one, encCs_cells, alenS_encCs, aixS_encCs, Bool.false_eq_true, show ((0 : Nat) : Int) = 0 from rfl, hi0])); (iterate 3 (focus ((try simp (disch := omega) only [SL, reduceAdd, Nat.reduceMul, List.length_map]); first | done | omega)))) | (apply w_cond; (focus ((try simp (disch := omega) only [simB2, ZA, reduceEqDiff, ↓reduceIte, reduceAdd, reduceLeDiff, g0, encCs_one, encCs_cells, alenS_encCs, aixS_encCs, Bool.false_eq_true, show ((0 : Nat) : Int) = 0 from rfl, hi0]); (try with_reducible rfl); done)); all_goals (intro _hg; (try simp (disch := omega) only [ZB] at _hg); try first | exact absurd trivial _hg | (exfalso; omega))) | (refine e_ends rfl ?_) | (apply r_1; (focus (simp (disch := omega) only [rv, simB2, ZA, reduceEqDiff, ↓reduceIte, reduceAdd, reduceLeDiff, g0, encCs_one, encCs_cells, alenS_encCs, aixS_encCs, Bool.false_eq_true, show ((0 : Nat) : Int) = 0 from rfl, hi0]; with_reducible rfl))))
      refine snap_int ?_
      rw [fin (by rw [hce]; exact hV), hce]
  · have e1 : (k : Int) - 1 = ((k - 1 : Nat) : Int) := by omega
    have ho := compare_c (t.cases.getD (k - 1) default).inp (t.cases.getD k default).inp (hs _ (mem_getD (by omega))).1 hsh.1
    have hi1 := aixS_encCs (l := t.cases) (k := k - 1) (by omega)
    rw [← e1] at hi1
    have hu : unordB (t.cases.map CaseV.inp) k = decide (0 ≤ order (t.cases.getD (k - 1) default).inp (t.cases.getD k default).inp) := by
      unfold unordB
      rw [inp_getD hj, inp_getD (by omega), decide_eq_true (show 0 < k by omega), Bool.true_and]
    rw [hu] at hce
    generalize order (t.cases.getD (k - 1) default).inp (t.cases.getD k default).inp = O at *
    generalize vectorE (t.cases.getD k default).inp t.n t.ins = V at *
    generalize vectorsE t.n t.outs (t.cases.getD k default) = W at *
    by_cases hV : V = 0
    · subst hV
      rw [if_neg (fun h => h rfl)] at hce
      by_cases hO : 0 ≤ O
      · rw [decide_eq_true hO, if_pos rfl] at hce
        repeat' (first | apply w_seq | apply w_ops0 | apply w_mixS1 | apply w_block | apply w_skip | apply w_ret | apply a_n | apply a_r | apply o_nil | (apply o_val rfl; (focus (first | rfl | (simp (disch := omega) only [dm2, oldP, newP, simB0, ZA, reduceEqDiff, ↓reduceIte, reduceAdd, reduceLeDiff, decide_eq_true_eq]; first | done | omega))); (focus ((try simp (disch := omega) only [simB2, ZA, reduceEqDiff, ↓reduceIte, reduceAdd, reduceLeDiff, ZV, reduceCtorEq, g0, encCs_one, encCs_cells, alenS_encCs, aixS_encCs, Bool.false_eq_true, hi1]); first | with_reducible rfl | (apply s_ite; (focus omega); with_reducible rfl)))) | (apply o_callD; (iterate 2 (focus ((try simp (disch := omega) only [simB2, ZA, reduceEqDiff, ↓reduceIte, reduceAdd, reduceLeDiff, g0, encCs_one, encCs_cells, alenS_encCs, aixS_encCs, Bool.false_eq_true, hi1]); (try with_reducible rfl); done))); (focus (first | (exact hv) | (exact hvs) | (exact ho))); (focus ((first | refine snap_plain ?_ rfl | apply snap_data); repeat' (first | exact snapL_nil | apply snapL_i | apply snapL_dat | exact d1 | exact d2)))) | (apply e_alloc rfl; (focus ((try simp (disch := omega) only [simB2, ZA, reduceEqDiff, ↓reduceIte, reduceAdd, reduceLeDiff, g0, encCs_one, encCs_cells, alenS_encCs, aixS_encCs, Bool.false_eq_true, hi1]); (try with_reducible rfl); done)); (focus (simp (disch := omega) only [SO, Bool.and_self, one_encV, one_encVV, g0, encCs_one, encCs_cells, alenS_encCs, aixS_encCs, Bool.false_eq_true, hi1]))) | (apply e_st; (focus (first | rfl | (simp (disch := omega) only [dm2, oldP, newP, simB0, ZA, reduceEqDiff, ↓reduceIte, reduceAdd, reduceLeDiff, decide_eq_true_eq]; first | done | omega))); (iterate 4 (focus ((try simp (disch := omega) only [simB2, ZA, reduceEqDiff, ↓reduceIte, reduceAdd, reduceLeDiff, g0, encCs_one, encCs_cells, alenS_encCs, aixS_encCs, Bool.false_eq_true, hi1]); (try with_reducible rfl); done))); (focus (simp (disch := omega) only [SO, Bool.and_self, one_encV, one_encVV, g0, encCs_one, encCs_cells, alenS_encCs, aixS_encCs, Bool.false_eq_true, hi1])); (iterate 3 (focus ((try simp (disch := omega) only [SL, reduceAdd, Nat.reduceMul, List.length_map]); first | done | omega)))) | (apply o_gT; (focus (simp (disch := omega) only [simB2, ZA, reduceEqDiff, ↓reduceIte, reduceAdd, reduceLeDiff, g0, encCs_one, encCs_cells, alenS_encCs, aixS_encCs, Bool.false_eq_true, hi1]; done))) | ((first | apply o_gB | apply w_cond); (focus ((try simp (disch := omega) only [simB2, ZA, reduceEqDiff, ↓reduceIte, reduceAdd, reduceLeDiff, g0, encCs_one, encCs_cells, alenS_encCs, aixS_encCs, Bool.false_eq_true, hi1]); (try with_reducible rfl); done)); all_goals (intro _hg; (try simp (disch := omega) only [ZB] at _hg); try first | exact absurd trivial _hg | (exfalso; omega))) | (refine e_ends rfl ?_) | (apply r_1; (focus (simp (disch := omega) only [rv, simB2, ZA, reduceEqDiff, ↓reduceIte, reduceAdd, reduceLeDiff, g0, encCs_one, encCs_cells, alenS_encCs, aixS_encCs, Bool.false_eq_true, hi1]; with_reducible rfl))))
        refine snap_int ?_
        rw [fin (by rw [hce]; decide), hce]
      · rw [decide_eq_false hO, if_neg (by simp)] at hce
        by_cases hW : W = 0
        · subst hW
          repeat' (first | apply w_seq | apply w_ops0 | apply w_mixS1 | apply w_block | apply w_skip | apply a_n | apply o_nil | (apply o_val rfl; (focus (first | rfl | (simp (disch := omega) only [dm2, oldP, newP, simB0, ZA, reduceEqDiff, ↓reduceIte, reduceAdd, reduceLeDiff, decide_eq_true_eq]; first | done | omega))); (focus ((try simp (disch := omega) only [simB2, ZA, reduceEqDiff, ↓reduceIte, reduceAdd, reduceLeDiff, ZV, reduceCtorEq, g0, encCs_one, encCs_cells, alenS_encCs, aixS_encCs, Bool.false_eq_true, hi1]); first | with_reducible rfl | (apply s_ite; (focus omega); with_reducible rfl)))) | (apply o_callD; (iterate 2 (focus ((try simp (disch := omega) only [simB2, ZA, reduceEqDiff, ↓reduceIte, reduceAdd, reduceLeDiff, g0, encCs_one, encCs_cells, alenS_encCs, aixS_encCs, Bool.false_eq_true, hi1]); (try with_reducible rfl); done))); (focus (first | (exact hv) | (exact hvs) | (exact ho))); (focus ((first | refine snap_plain ?_ rfl | apply snap_data); repeat' (first | exact snapL_nil | apply snapL_i | apply snapL_dat | exact d1 | exact d2)))) | (apply e_alloc rfl; (focus ((try simp (disch := omega) only [simB2, ZA, reduceEqDiff, ↓reduceIte, reduceAdd, reduceLeDiff, g0, encCs_one, encCs_cells, alenS_encCs, aixS_encCs, Bool.false_eq_true, hi1]); (try with_reducible rfl); done)); (focus (simp (disch := omega) only [SO, Bool.and_self, one_encV, one_encVV, g0, encCs_one, encCs_cells, alenS_encCs, aixS_encCs, Bool.false_eq_true, hi1]))) | (apply e_st; (focus (first | rfl | (simp (disch := omega) only [dm2, oldP, newP, simB0, ZA, reduceEqDiff, ↓reduceIte, reduceAdd, reduceLeDiff, decide_eq_true_eq]; first | done | omega))); (iterate 4 (focus ((try simp (disch := omega) only [simB2, ZA, reduceEqDiff, ↓reduceIte, reduceAdd, reduceLeDiff, g0, encCs_one, encCs_cells, alenS_encCs, aixS_encCs, Bool.false_eq_true, hi1]); (try with_reducible rfl); done))); (focus (simp (disch := omega) only [SO, Bool.and_self, one_encV, one_encVV, g0, encCs_one, encCs_cells, alenS_encCs, aixS_encCs, Bool.false_eq_true, hi1])); (iterate 3 (focus ((try simp (disch := omega) only [SL, reduceAdd, Nat.reduceMul, List.length_map]); first | done | omega)))) | (apply o_gT; (focus (simp (disch := omega) only [simB2, ZA, reduceEqDiff, ↓reduceIte, reduceAdd, reduceLeDiff, g0, encCs_one, encCs_cells, alenS_encCs, aixS_encCs, Bool.false_eq_true, hi1]; done))) | ((first | apply o_gB | apply w_cond); (focus ((try simp (disch := omega) only [simB2, ZA, reduceEqDiff, ↓reduceIte, reduceAdd, reduceLeDiff, g0, encCs_one, encCs_cells, alenS_encCs, aixS_encCs, Bool.false_eq_true, hi1]); (try with_reducible rfl); done)); all_goals (intro _hg; (try simp (disch := omega) only [ZB] at _hg); try first | exact absurd trivial _hg | (exfalso; omega))))
          refine ⟨k + 1, by omega, ⟨by omega, hnext hce, by omega, ?_⟩, by simp (disch := omega) only [agr, ZG, reduceEqDiff, ↓reduceIte]⟩
          rw [hupd_ne (by omega), hupd_ne (by omega), g0]
        · repeat' (first | apply w_seq | apply w_ops0 | apply w_mixS1 | apply w_block | apply w_skip | apply w_ret | apply a_n | apply a_r | apply o_nil | (apply o_val rfl; (focus (first | rfl | (simp (disch := omega) only [dm2, oldP, newP, simB0, ZA, reduceEqDiff, ↓reduceIte, reduceAdd, reduceLeDiff, decide_eq_true_eq]; first | done | omega))); (focus ((try simp (disch := omega) only [simB2, ZA, reduceEqDiff, ↓reduceIte, reduceAdd, reduceLeDiff, ZV, reduceCtorEq, g0, encCs_one, encCs_cells, alenS_encCs, aixS_encCs, Bool.false_eq_true, hi1]); first | with_reducible rfl | (apply s_ite; (focus omega); with_reducible rfl)))) | (apply o_callD; (iterate 2 (focus ((try simp (disch := omega) only [simB2, ZA, reduceEqDiff, ↓reduceIte, reduceAdd, reduceLeDiff, g0, encCs_one, encCs_cells, alenS_encCs, aixS_encCs, Bool.false_eq_true, hi1]); (try with_reducible rfl); done))); (focus (first | (exact hv) | (exact hvs) | (exact ho))); (focus ((first | refine snap_plain ?_ rfl | apply snap_data); repeat' (first | exact snapL_nil | apply snapL_i | apply snapL_dat | exact d1 | exact d2)))) | (apply e_alloc rfl; (focus ((try simp (disch := omega) only [simB2, ZA, reduceEqDiff, ↓reduceIte, reduceAdd, reduceLeDiff, g0, encCs_one, encCs_cells, alenS_encCs, aixS_encCs, Bool.false_eq_true, hi1]); (try with_reducible rfl); done)); (focus (simp (disch := omega) only [SO, Bool.and_self, one_encV, one_encVV, g0, encCs_one, encCs_cells, alenS_encCs, aixS_encCs, Bool.false_eq_true, hi1]))) | (apply e_st; (focus (first | rfl | (simp (disch := omega) only [dm2, oldP, newP, simB0, ZA, reduceEqDiff, ↓reduceIte, reduceAdd, reduceLeDiff, decide_eq_true_eq]; first | done | omega))); (iterate 4 (focus ((try simp (disch := omega) only [simB2, ZA, reduceEqDiff, ↓reduceIte, reduceAdd, reduceLeDiff, g0, encCs_one, encCs_cells, alenS_encCs, aixS_encCs, Bool.false_eq_true, hi1]); (try with_reducible rfl); done))); (focus (simp (disch := omega) only [SO, Bool.and_self, one_encV, one_encVV, g0, encCs_one, encCs_cells, alenS_encCs, aixS_encCs, Bool.false_eq_true, hi1])); (iterate 3 (focus ((try simp (disch := omega) only [SL, reduceAdd, Nat.reduceMul, List.length_map]); first | done | omega)))) | (apply o_gT; (focus (simp (disch := omega) only [simB2, ZA, reduceEqDiff, ↓reduceIte, reduceAdd, reduceLeDiff, g0, encCs_one, encCs_cells, alenS_encCs, aixS_encCs, Bool.false_eq_true, hi1]; done))) | ((first | apply o_gB | apply w_cond); (focus ((try simp (disch := omega) only [simB2, ZA, reduceEqDiff, ↓reduceIte, reduceAdd, reduceLeDiff, g0, encCs_one, encCs_cells, alenS_encCs, aixS_encCs, Bool.false_eq_true, hi1]); (try with_reducible rfl); done)); all_goals (intro _hg; (try simp (disch := omega) only [ZB] at _hg); try first | exact absurd trivial _hg | (exfalso; omega))) | (refine e_ends rfl ?_) | (apply r_1; (focus (simp (disch := omega) only [rv, simB2, ZA, reduceEqDiff, ↓reduceIte, reduceAdd, reduceLeDiff, g0, encCs_one, encCs_cells, alenS_encCs, aixS_encCs, Bool.false_eq_true, hi1]; with_reducible rfl))))
          refine snap_int ?_
          rw [fin (by rw [hce]; exact hW), hce]
    · rw [if_pos hV] at hce
      repeat' (first | apply w_seq | apply w_ops0 | apply w_block | apply w_skip | apply w_ret | apply a_n | apply a_r | apply o_nil | (apply o_val rfl; (focus (first | rfl | (simp (disch := omega) only [dm2, oldP, newP, simB0, ZA, reduceEqDiff, ↓reduceIte, reduceAdd, reduceLeDiff, decide_eq_true_eq]; first | done | omega))); (focus ((try simp (disch := omega) only [simB2, ZA, reduceEqDiff, ↓reduceIte, reduceAdd, reduceLeDiff, ZV, reduceCtorEq, g0, encCs_one, encCs_cells, alenS_encCs, aixS_encCs, Bool.false_eq_true, hi1]); first | with_reducible rfl | (apply s_ite; (focus omega); with_reducible rfl)))) | (apply o_callD; (iterate 2 (focus ((try simp (disch := omega) only [simB2, ZA, reduceEqDiff, ↓reduceIte, reduceAdd, reduceLeDiff, g0, encCs_one, encCs_cells, alenS_encCs, aixS_encCs, Bool.false_eq_true, hi1]); (try with_reducible rfl); done))); (focus (first | (exact hv) | (exact hvs) | (exact ho))); (focus ((first | refine snap_plain ?_ rfl | apply snap_data); repeat' (first | exact snapL_nil | apply snapL_i | apply snapL_dat | exact d1 | exact d2)))) | (apply e_alloc rfl; (focus ((try simp (disch := omega) only [simB2, ZA, reduceEqDiff, ↓reduceIte, reduceAdd, reduceLeDiff, g0, encCs_one, encCs_cells, alenS_encCs, aixS_encCs, Bool.false_eq_true, hi1]); (try with_reducible rfl); done)); (focus (simp (disch := omega) only [SO, Bool.and_self, one_encV, one_encVV, g0, encCs_one, encCs_cells, alenS_encCs, aixS_encCs, Bool.false_eq_true, hi1]))) | (apply e_st; (focus (first | rfl | (simp (disch := omega) only [dm2, oldP, newP, simB0, ZA, reduceEqDiff, ↓reduceIte, reduceAdd, reduceLeDiff, decide_eq_true_eq]; first | done | omega))); (iterate 4 (focus ((try simp (disch := omega) only [simB2, ZA, reduceEqDiff, ↓reduceIte, reduceAdd, reduceLeDiff, g0, encCs_one, encCs_cells, alenS_encCs, aixS_encCs, Bool.false_eq_true, hi1]); (try with_reducible rfl); done))); (focus (simp (disch := omega) only [SO, Bool.and_self, one_encV, one_encVV, g0, encCs_one, encCs_cells, alenS_encCs, aixS_encCs, Bool.false_eq_true, hi1])); (iterate 3 (focus ((try simp (disch := omega) only [SL, reduceAdd, Nat.reduceMul, List.length_map]); first | done | omega)))) | (apply w_cond; (focus ((try simp (disch := omega) only [simB2, ZA, reduceEqDiff, ↓reduceIte, reduceAdd, reduceLeDiff, g0, encCs_one, encCs_cells, alenS_encCs, aixS_encCs, Bool.false_eq_true, hi1]); (try with_reducible rfl); done)); all_goals (intro _hg; (try simp (disch := omega) only [ZB] at _hg); try first | exact absurd trivial _hg | (exfalso; omega))) | (refine e_ends rfl ?_) | (apply r_1; (focus (simp (disch := omega) only [rv, simB2, ZA, reduceEqDiff, ↓reduceIte, reduceAdd, reduceLeDiff, g0, encCs_one, encCs_cells, alenS_encCs, aixS_encCs, Bool.false_eq_true, hi1]; with_reducible rfl))))
      refine snap_int ?_
      rw [fin (by rw [hce]; exact hV), hce]

end Go.Proofs.YtbiikomnhkbblaaGreat

/- T4: contracts of functions and plain laws; for all inputs that the theorems name. -/
namespace Go.Proofs.YtbiikomnhkbblaaGreat
open Go Go.Abs
open Nat (reduceEqDiff reduceAdd reduceLeDiff)
theorem lb_exists (K : Nat → Int) : ∀ n, (∀ i j, i < j → j < n → K j < 0 → K i < 0) → ∃ b, b ≤ n ∧ (∀ i, i < b → K i < 0) ∧ ∀ i, b ≤ i → i < n → 0 ≤ K i
  | 0, _ => ⟨0, Nat.le_refl _, fun i h => absurd h (by omega), fun i _ h => absurd h (by omega)⟩
  | n + 1, hm => by
    by_cases h : K n < 0
    · refine ⟨n + 1, Nat.le_refl _, fun i hi => ?_, fun i h1 h2 => absurd h1 (by omega)⟩
      by_cases e : i = n
      · subst e; exact h
      · exact hm i n (by omega) (by omega) h
    · obtain ⟨b, h1, h2, h3⟩ := lb_exists K n (fun i j hi hj => hm i j hi (by omega))
      refine ⟨b, by omega, h2, fun i hi hi2 => ?_⟩
      by_cases e : i = n
      · subst e; omega
      · exact h3 i hi (by omega)
theorem shr2 {tb tf : Bool} {i j : Nat} : abin2 .shr tb tf (.int .u64 ((i : Int) + (j : Int))) (.int .u64 1) = some (.int .u64 (((i + j) / 2 : Nat) : Int)) := by
  have := shr_nat (k := .u64) (a := i + j) (b := 1) (tb := tb) (tf := tf) (k' := .u64) (by decide)
  simpa using this
def idxT (t : TaskV) (v : List Int) : Nat := (t.cases.map CaseV.inp).findIdx fun x => decide (x = v)
def findT (t : TaskV) (v : List Int) : Int × Int := if checkE t ≠ 0 then (0, checkE t) else if v ∈ t.cases.map CaseV.inp then (idxT t v, 0) else (0, 6)
def fewVs (l : List (List Int)) : Bool := decide (l.length ≤ 30) && l.all fun v => decide (v.length ≤ 10)
def fewC (c : CaseV) : Bool := decide (c.inp.length ≤ 10) && fewVs c.out && fewVs c.calm
def fewT (t : TaskV) : Bool := decide (t.cases.length ≤ 30) && t.cases.all fewC
theorem findIdx_at {l : List (List Int)} {v : List Int} {k : Nat} (hk : k < l.length) (h : ∀ i, i < k → l.getD i default ≠ v) (hv : l.getD k default = v) : l.findIdx (fun x => decide (x = v)) = k := by
  have e : ∀ i (hi : i < l.length), l.getD i default = l[i] := fun i hi => by simp [List.getD, hi]
  refine (List.findIdx_eq hk).2 ⟨by rw [decide_eq_true_iff, ← e k hk]; exact hv, fun j hj => ?_⟩
  rw [decide_eq_false_iff_not, ← e j (by omega)]; exact h j hj
theorem mem_getV {l : List (List Int)} {v : List Int} : v ∈ l ↔ ∃ i, i < l.length ∧ l.getD i default = v := by
  constructor
  · intro h
    obtain ⟨i, hi, e⟩ := List.getElem_of_mem h
    exact ⟨i, hi, by simp [List.getD, hi, e]⟩
  · rintro ⟨i, hi, rfl⟩
    exact mem_getD hi
theorem checkE_asc {t : TaskV} (h : checkE t = 0) : ∀ j i, i < j → j < t.cases.length → order (t.cases.getD i default).inp (t.cases.getD j default).inp < 0 := by
  intro j i hij hj
  have h2 : firstI (caseE t) t.cases.length = 0 := by
    unfold checkE at h
    split at h
    · omega
    · split at h
      · omega
      · exact h
  have := asc_of (l := t.cases.map CaseV.inp) (fun k hk => by
    rw [List.length_map] at hk
    have h3 := firstI_all h2 k hk
    unfold caseE at h3
    split at h3
    · exact absurd h3 ‹_›
    · split at h3
      · omega
      · simpa using ‹¬ unordB (t.cases.map CaseV.inp) k = true›) j i hij (by rw [List.length_map]; exact hj)
  rwa [inp_getD (by omega), inp_getD hj] at this
attribute [local irreducible] awp2 aops2 ains aloop athen bbind obind gbind acond res1 Go.Abs.Fn PCall Go.Abs.Pure SnapArgs SnapL Yl

/-! ### Find -/
theorem find1_c (c : CaseV) (v : List Int) (hc : Sh c.inp) (hv : Sh v) : Pure Tryz.prog 45 [.agg [encV c.inp, encVV c.out, encVV c.calm], encV v] (.int .i64 (order c.inp v)) := by
  refine Pure.of_c2 follows is45 (Nat.le_of_ble_eq_true rfl) ?_
  simp only [b45, O, G, N, M, D, F, B2, cFal, cTru]
  repeat' (first | apply w_seq | apply w_ops0 | apply w_ret | apply a_n | apply o_nil | (apply o_val rfl rfl; (focus ((try simp (disch := omega) only [simB0, ZA, reduceEqDiff, ↓reduceIte, reduceAdd, reduceLeDiff, ZV, reduceCtorEq]); first | with_reducible rfl | (apply s_ite; (focus omega); with_reducible rfl)))) | (apply o_callD; (iterate 2 (focus ((try simp only [simB0, ZA, reduceEqDiff, ↓reduceIte, reduceAdd, reduceLeDiff]); (try with_reducible rfl); done))); (focus (first | (exact compare_c _ _ hc hv))); (focus ((first | refine snap_plain ?_ rfl | apply snap_data); repeat' (first | exact snapL_nil | apply snapL_i | apply snapL_dat)))) | (apply e_box rfl; (iterate 2 (focus ((try simp only [simB0, ZA, reduceEqDiff, ↓reduceIte, reduceAdd, reduceLeDiff]); (try with_reducible rfl); done))); (focus (simp only [SO, Bool.and_self, one_encV, one_encVV]))) | (refine e_ends rfl ?_) | (apply r_1; (focus (simp only [rv, simB0, ZA, reduceEqDiff, ↓reduceIte, reduceAdd, reduceLeDiff]; with_reducible rfl))))
  exact .int _ _

theorem bsearch_c (l : List CaseV) (v : List Int) (hl : Sh l) (hs : ∀ c ∈ l, ShC c) (hv : Sh v) {b : Nat} (hb : b ≤ l.length) (h1 : ∀ i, i < b → order (l.getD i default).inp v < 0) (h2 : ∀ i, b ≤ i → i < l.length → 0 ≤ order (l.getD i default).inp v) :
    Pure Tryz.prog 44 [encCs l, encV v, .func 45 []] (.tup [.int .i64 b, .bool (decide (b < l.length) && decide (order (l.getD b default).inp v = 0))]) := by
  refine Pure.of_c2 follows is44 (Nat.le_of_ble_eq_true rfl) ?_
  simp only [b44, O, G, N, M, D, F, B2, cFal, cTru]
  have hl' : l.length ≤ 17592186044416 := hl
  have dC : ∀ c : CaseV, Dat (.agg [encV c.inp, encVV c.out, encVV c.calm]) := fun c => Dat.agg (DatL.cons (encV_dat _) (DatL.cons (encVV_dat _) (DatL.cons (encVV_dat _) DatL.nil)))
  repeat' (first | apply w_seq | apply w_ops0 | apply w_block | apply a_n | apply o_nil | (apply o_val rfl rfl; (focus ((try simp (disch := omega) only [simB0, ZA, reduceEqDiff, ↓reduceIte, reduceAdd, reduceLeDiff, ZV, reduceCtorEq, encCs_one, encCs_cells, alenS_encCs]); first | with_reducible rfl | (apply s_ite; (focus omega); with_reducible rfl)))) | apply w_loop)
  refine loop0 (X := Nat × Nat) (fun x => [(0, encCs l), (1, encV v), (2, .func 45 []), (8, .int .i64 l.length), (9, .int .i64 x.1), (10, .int .i64 x.2)]) (fun x => x.1 ≤ b ∧ b ≤ x.2 ∧ x.2 ≤ l.length) (fun x => x.2 - x.1) (0, l.length) ⟨Nat.zero_le _, hb, Nat.le_refl _⟩ (by simp (disch := omega) only [agr, ZG, reduceEqDiff, ↓reduceIte]) ?_
  rintro ⟨i, j⟩ ⟨g1, g2, g3⟩
  dsimp only at g1 g2 g3 ⊢
  by_cases hij : i < j
  · have hh : (i + j) / 2 < l.length := by omega
    have hc := find1_c (l.getD ((i + j) / 2) default) v (hs _ (mem_getD hh)).1 hv
    have ix := aixS_encCs hh
    by_cases hn : order (l.getD ((i + j) / 2) default).inp v < 0
    · have hbb : (i + j) / 2 < b := Nat.lt_of_not_le fun h => by have := h2 _ h hh; omega
      repeat' (first | apply w_seq | apply w_ops0 | apply w_block | apply w_skip | apply a_n | apply o_nil | (apply o_val rfl rfl; (focus ((try simp (disch := omega) only [simB0, ZA, reduceEqDiff, ↓reduceIte, reduceAdd, reduceLeDiff, ZV, reduceCtorEq, encCs_one, encCs_cells, alenS_encCs, wrapU64, shr2, ix]); first | with_reducible rfl | (apply s_ite; (focus omega); with_reducible rfl)))) | (apply o_callD; (iterate 2 (focus ((try simp only [simB0, ZA, reduceEqDiff, ↓reduceIte, reduceAdd, reduceLeDiff, encCs_one, encCs_cells, alenS_encCs, wrapU64, shr2, ix]); (try with_reducible rfl); done))); (focus (first | (exact hc))); (focus ((first | refine snap_plain ?_ rfl | apply snap_data); repeat' (first | exact snapL_nil | apply snapL_i | apply snapL_dat | exact dC _)))) | (apply w_cond; (focus ((try simp only [simB0, ZA, reduceEqDiff, ↓reduceIte, reduceAdd, reduceLeDiff, encCs_one, encCs_cells, alenS_encCs, wrapU64, shr2, ix]); (try with_reducible rfl); done)); all_goals (intro _hg; (try simp only [ZB] at _hg); try first | exact absurd trivial _hg | (exfalso; omega))))
      exact ⟨((i + j) / 2 + 1, j), ⟨by omega, by omega, by omega⟩, by dsimp only; omega, by simp (disch := omega) only [agr, ZG, reduceEqDiff, ↓reduceIte], rfl, rfl⟩
    · have hbb : b ≤ (i + j) / 2 := Nat.le_of_not_lt fun h => hn (h1 _ h)
      repeat' (first | apply w_seq | apply w_ops0 | apply w_block | apply w_skip | apply a_n | apply o_nil | (apply o_val rfl rfl; (focus ((try simp (disch := omega) only [simB0, ZA, reduceEqDiff, ↓reduceIte, reduceAdd, reduceLeDiff, ZV, reduceCtorEq, encCs_one, encCs_cells, alenS_encCs, wrapU64, shr2, ix]); first | with_reducible rfl | (apply s_ite; (focus omega); with_reducible rfl)))) | (apply o_callD; (iterate 2 (focus ((try simp only [simB0, ZA, reduceEqDiff, ↓reduceIte, reduceAdd, reduceLeDiff, encCs_one, encCs_cells, alenS_encCs, wrapU64, shr2, ix]); (try with_reducible rfl); done))); (focus (first | (exact hc))); (focus ((first | refine snap_plain ?_ rfl | apply snap_data); repeat' (first | exact snapL_nil | apply snapL_i | apply snapL_dat | exact dC _)))) | (apply w_cond; (focus ((try simp only [simB0, ZA, reduceEqDiff, ↓reduceIte, reduceAdd, reduceLeDiff, encCs_one, encCs_cells, alenS_encCs, wrapU64, shr2, ix]); (try with_reducible rfl); done)); all_goals (intro _hg; (try simp only [ZB] at _hg); try first | exact absurd trivial _hg | (exfalso; omega))))
      exact ⟨(i, (i + j) / 2), ⟨by omega, by omega, by omega⟩, by dsimp only; omega, by simp (disch := omega) only [agr, ZG, reduceEqDiff, ↓reduceIte], rfl, rfl⟩
  · have ei : i = b := by omega
    have ej : j = b := by omega
    clear hij g1 g2 g3
    subst ei
    by_cases hlt : i < l.length
    · have hc := find1_c (l.getD i default) v (hs _ (mem_getD hlt)).1 hv
      have ix := aixS_encCs hlt
      have dlt : decide ((i : Int) < (l.length : Int)) = true := decide_eq_true (by omega)
      have dij : decide ((i : Int) < (j : Int)) = false := decide_eq_false (by omega)
      repeat' (first | apply w_seq | apply w_ops0 | apply w_exit | apply w_ret | apply a_n | apply a_x | apply o_nil | (apply o_val rfl rfl; (focus ((try simp (disch := omega) only [simB0, ZA, reduceEqDiff, ↓reduceIte, reduceAdd, reduceLeDiff, ZV, reduceCtorEq, encCs_one, encCs_cells, alenS_encCs, ix, dlt, dij]); first | with_reducible rfl | (apply s_ite; (focus omega); with_reducible rfl)))) | (apply o_callD; (iterate 2 (focus ((try simp only [simB0, ZA, reduceEqDiff, ↓reduceIte, reduceAdd, reduceLeDiff, encCs_one, encCs_cells, alenS_encCs, ix, dlt, dij]); (try with_reducible rfl); done))); (focus (first | (exact hc))); (focus ((first | refine snap_plain ?_ rfl | apply snap_data); repeat' (first | exact snapL_nil | apply snapL_i | apply snapL_dat | exact dC _)))) | (apply o_gT; (focus (simp only [simB0, ZA, reduceEqDiff, ↓reduceIte, reduceAdd, reduceLeDiff, encCs_one, encCs_cells, alenS_encCs, ix, dlt, dij]; done))) | (apply w_condF; (focus (simp only [simB0, ZA, reduceEqDiff, ↓reduceIte, reduceAdd, reduceLeDiff, encCs_one, encCs_cells, alenS_encCs, ix, dlt, dij]; done))) | (refine e_ends rfl ?_) | (apply r_2; (iterate 2 (focus (simp only [rv, simB0, ZA, reduceEqDiff, ↓reduceIte, reduceAdd, reduceLeDiff, encCs_one, encCs_cells, alenS_encCs, ix, dlt, dij]; with_reducible rfl)))))
      refine snap_tup (snapL_cons (.int _ _) (snapL_cons (snap_bool ?_) snapL_nil))
      rw [decide_eq_true hlt, Bool.true_and]
    · have dlt : decide ((i : Int) < (l.length : Int)) = false := decide_eq_false (by omega)
      have dij : decide ((i : Int) < (j : Int)) = false := decide_eq_false (by omega)
      repeat' (first | apply w_seq | apply w_ops0 | apply w_exit | apply w_ret | apply a_n | apply a_x | apply o_nil | (apply o_val rfl rfl; (focus ((try simp (disch := omega) only [simB0, ZA, reduceEqDiff, ↓reduceIte, reduceAdd, reduceLeDiff, ZV, reduceCtorEq, encCs_one, encCs_cells, alenS_encCs, dlt, dij]); first | with_reducible rfl | (apply s_ite; (focus omega); with_reducible rfl)))) | (apply o_gF; (focus (simp only [simB0, ZA, reduceEqDiff, ↓reduceIte, reduceAdd, reduceLeDiff, or_true, true_or, encCs_one, encCs_cells, alenS_encCs, dlt, dij]; done))) | (apply w_condF; (focus (simp only [simB0, ZA, reduceEqDiff, ↓reduceIte, reduceAdd, reduceLeDiff, encCs_one, encCs_cells, alenS_encCs, dlt, dij]; done))) | (refine e_ends rfl ?_) | (apply r_2; (iterate 2 (focus (simp only [rv, simB0, ZA, reduceEqDiff, ↓reduceIte, reduceAdd, reduceLeDiff, encCs_one, encCs_cells, alenS_encCs, dlt, dij]; with_reducible rfl)))))
      refine snap_tup (snapL_cons (.int _ _) (snapL_cons (snap_bool ?_) snapL_nil))
      rw [decide_eq_false hlt, Bool.false_and]

theorem find_c (t : TaskV) (v : List Int) (hs : ∀ c ∈ t.cases, ShC c) (hsc : Sh t.cases) (hv : Sh v) : Pure Tryz.prog 12 [encT t, encV v] (.tup [.int .i64 (findT t v).1, .int .i64 (findT t v).2]) := by
  refine Pure.of_c2 follows is12 (Nat.le_of_ble_eq_true rfl) ?_
  simp only [b12, O, G, N, M, D, F, B2, cFal, cTru]
  have hc := check_c t hs hsc
  have d2 := encT_dat t
  by_cases he : checkE t = 0
  rotate_left
  · have e : findT t v = (0, checkE t) := by unfold findT; rw [if_pos he]
    rw [e]
    generalize checkE t = C at *
    unfold encT at hc d2 ⊢
    repeat' (first | apply w_seq | apply w_ops0 | apply w_ret | apply a_n | apply a_r | apply o_nil | (apply o_val rfl rfl; (focus ((try simp (disch := omega) only [simB0, ZA, reduceEqDiff, ↓reduceIte, reduceAdd, reduceLeDiff, ZV, reduceCtorEq, encCs_one, encCs_cells, alenS_encCs]); first | with_reducible rfl | (apply s_ite; (focus omega); with_reducible rfl)))) | (apply o_callD; (iterate 2 (focus ((try simp only [simB0, ZA, reduceEqDiff, ↓reduceIte, reduceAdd, reduceLeDiff, encCs_one, encCs_cells, alenS_encCs]); (try with_reducible rfl); done))); (focus (first | (exact hc))); (focus ((first | refine snap_plain ?_ rfl | apply snap_data); repeat' (first | exact snapL_nil | apply snapL_i | apply snapL_dat | exact d2)))) | (apply e_box rfl; (iterate 2 (focus ((try simp only [simB0, ZA, reduceEqDiff, ↓reduceIte, reduceAdd, reduceLeDiff, encCs_one, encCs_cells, alenS_encCs]); (try with_reducible rfl); done))); (focus (simp only [SO, Bool.and_self, one_encV, one_encVV, encCs_one, encCs_cells, alenS_encCs]))) | (apply w_cond; (focus ((try simp only [simB0, ZA, reduceEqDiff, ↓reduceIte, reduceAdd, reduceLeDiff, encCs_one, encCs_cells, alenS_encCs]); (try with_reducible rfl); done)); all_goals (intro _hg; (try simp only [ZB] at _hg); try first | exact absurd trivial _hg | (exfalso; omega))) | (refine e_ends rfl ?_) | (apply r_2; (iterate 2 (focus (simp only [rv, simB0, ZA, reduceEqDiff, ↓reduceIte, reduceAdd, reduceLeDiff, encCs_one, encCs_cells, alenS_encCs]; with_reducible rfl)))))
    exact snap_tup (snapL_cons (.int _ _) (snapL_cons (.int _ _) snapL_nil))
  have hasc := checkE_asc he
  have hval := fun i => order_vals (t.cases.getD i default).inp v
  obtain ⟨b, hb, h1, h2⟩ := lb_exists (fun i => order (t.cases.getD i default).inp v) t.cases.length (fun i j hij hj h => order_trans (hasc j i hij hj) h)
  have hbs := bsearch_c t.cases v hsc hs hv hb h1 h2
  rw [he] at hc
  by_cases hf : b < t.cases.length ∧ order (t.cases.getD b default).inp v = 0
  · have hm : v ∈ t.cases.map CaseV.inp := mem_getV.2 ⟨b, by rw [List.length_map]; exact hf.1, by rw [inp_getD hf.1]; exact order_eq hf.2⟩
    have e : findT t v = ((b : Int), 0) := by
      unfold findT
      rw [if_neg (fun h => h he), if_pos hm]
      have : idxT t v = b := findIdx_at (by rw [List.length_map]; exact hf.1) (fun i hi h => by
        rw [inp_getD (by omega)] at h
        have := h1 i hi
        rw [h, order_refl] at this; omega) (by rw [inp_getD hf.1]; exact order_eq hf.2)
      rw [this]
    rw [e]
    rw [decide_eq_true hf.1, decide_eq_true hf.2] at hbs
    unfold encT at hc d2 ⊢
    repeat' (first | apply w_seq | apply w_ops0 | apply w_skip | apply w_ret | apply a_n | apply o_nil | (apply o_val rfl rfl; (focus ((try simp (disch := omega) only [simB0, ZA, reduceEqDiff, ↓reduceIte, reduceAdd, reduceLeDiff, ZV, reduceCtorEq, encCs_one, encCs_cells, alenS_encCs, Bool.and_true]); first | with_reducible rfl | (apply s_ite; (focus omega); with_reducible rfl)))) | (apply o_callD; (iterate 2 (focus ((try simp only [simB0, ZA, reduceEqDiff, ↓reduceIte, reduceAdd, reduceLeDiff, encCs_one, encCs_cells, alenS_encCs, Bool.and_true]); (try with_reducible rfl); done))); (focus (first | (exact hc) | (exact hbs))); (focus ((first | refine snap_plain ?_ rfl | apply snap_data); repeat' (first | exact snapL_nil | apply snapL_i | apply snapL_dat | exact d2 | exact encCs_dat _ | exact Dat.func DatL.nil)))) | (apply e_box rfl; (iterate 2 (focus ((try simp only [simB0, ZA, reduceEqDiff, ↓reduceIte, reduceAdd, reduceLeDiff, encCs_one, encCs_cells, alenS_encCs, Bool.and_true]); (try with_reducible rfl); done))); (focus (simp only [SO, Bool.and_self, one_encV, one_encVV, encCs_one, encCs_cells, alenS_encCs, Bool.and_true]))) | (apply w_condF; (focus (simp only [simB0, ZA, reduceEqDiff, ↓reduceIte, reduceAdd, reduceLeDiff, encCs_one, encCs_cells, alenS_encCs, Bool.and_true]; done))) | (apply w_cond; (focus ((try simp only [simB0, ZA, reduceEqDiff, ↓reduceIte, reduceAdd, reduceLeDiff, encCs_one, encCs_cells, alenS_encCs, Bool.and_true]); (try with_reducible rfl); done)); all_goals (intro _hg; (try simp only [ZB] at _hg); try first | exact absurd trivial _hg | (exfalso; omega))) | (refine e_ends rfl ?_) | (apply r_2; (iterate 2 (focus (simp only [rv, simB0, ZA, reduceEqDiff, ↓reduceIte, reduceAdd, reduceLeDiff, encCs_one, encCs_cells, alenS_encCs, Bool.and_true]; with_reducible rfl)))))
    exact snap_tup (snapL_cons (.int _ _) (snapL_cons (.int _ _) snapL_nil))
  · have hm : ¬ v ∈ t.cases.map CaseV.inp := fun h => by
      obtain ⟨i, hi, e⟩ := mem_getV.1 h
      rw [List.length_map] at hi
      rw [inp_getD hi] at e
      have hz : order (t.cases.getD i default).inp v = 0 := by rw [e]; exact order_refl v
      have hbi : b ≤ i := Nat.le_of_not_lt fun h => by have := h1 i h; omega
      by_cases ebi : b = i
      · subst ebi; exact hf ⟨hi, hz⟩
      · have := hasc i b (by omega) hi
        rw [e] at this
        have := h2 b (Nat.le_refl _) (by omega)
        omega
    have e : findT t v = (0, 6) := by unfold findT; rw [if_neg (fun h => h he), if_neg hm]
    rw [e]
    have hfb : (decide (b < t.cases.length) && decide (order (t.cases.getD b default).inp v = 0)) = false := by
      rw [Bool.and_eq_false_iff]
      by_cases hb2 : b < t.cases.length
      · right; exact decide_eq_false (fun h => hf ⟨hb2, h⟩)
      · left; exact decide_eq_false hb2
    rw [hfb] at hbs
    unfold encT at hc d2 ⊢
    repeat' (first | apply w_seq | apply w_ops0 | apply w_skip | apply w_ret | apply a_n | apply a_r | apply o_nil | (apply o_val rfl rfl; (focus ((try simp (disch := omega) only [simB0, ZA, reduceEqDiff, ↓reduceIte, reduceAdd, reduceLeDiff, ZV, reduceCtorEq, encCs_one, encCs_cells, alenS_encCs]); first | with_reducible rfl | (apply s_ite; (focus omega); with_reducible rfl)))) | (apply o_callD; (iterate 2 (focus ((try simp only [simB0, ZA, reduceEqDiff, ↓reduceIte, reduceAdd, reduceLeDiff, encCs_one, encCs_cells, alenS_encCs]); (try with_reducible rfl); done))); (focus (first | (exact hc) | (exact hbs))); (focus ((first | refine snap_plain ?_ rfl | apply snap_data); repeat' (first | exact snapL_nil | apply snapL_i | apply snapL_dat | exact d2 | exact encCs_dat _ | exact Dat.func DatL.nil)))) | (apply e_box rfl; (iterate 2 (focus ((try simp only [simB0, ZA, reduceEqDiff, ↓reduceIte, reduceAdd, reduceLeDiff, encCs_one, encCs_cells, alenS_encCs]); (try with_reducible rfl); done))); (focus (simp only [SO, Bool.and_self, one_encV, one_encVV, encCs_one, encCs_cells, alenS_encCs]))) | (apply w_condT; (focus (simp only [simB0, ZA, reduceEqDiff, ↓reduceIte, reduceAdd, reduceLeDiff, encCs_one, encCs_cells, alenS_encCs]; done))) | (apply w_cond; (focus ((try simp only [simB0, ZA, reduceEqDiff, ↓reduceIte, reduceAdd, reduceLeDiff, encCs_one, encCs_cells, alenS_encCs]); (try with_reducible rfl); done)); all_goals (intro _hg; (try simp only [ZB] at _hg); try first | exact absurd trivial _hg | (exfalso; omega))) | (refine e_ends rfl ?_) | (apply r_2; (iterate 2 (focus (simp only [rv, simB0, ZA, reduceEqDiff, ↓reduceIte, reduceAdd, reduceLeDiff, encCs_one, encCs_cells, alenS_encCs]; with_reducible rfl)))))
    exact snap_tup (snapL_cons (.int _ _) (snapL_cons (.int _ _) snapL_nil))

end Go.Proofs.YtbiikomnhkbblaaGreat

/- T5: contracts of functions and plain laws; for all inputs that the theorems name. -/
namespace Go.Proofs.YtbiikomnhkbblaaGreat
open Go Go.Abs
open Nat (reduceEqDiff reduceAdd reduceLeDiff)
theorem caseE_eq (t : TaskV) (k : Nat) (hk : k < t.cases.length) : caseE t k = if vectorE (t.cases.getD k default).inp t.n t.ins ≠ 0 then vectorE (t.cases.getD k default).inp t.n t.ins else if (decide (0 < k) && decide (0 ≤ order (t.cases.getD (k - 1) default).inp (t.cases.getD k default).inp)) then 14 else vectorsE t.n t.outs (t.cases.getD k default) := by
  unfold caseE unordB
  rw [inp_getD hk, inp_getD (by omega)]
attribute [local irreducible] awp2 aops2 ains aloop athen bbind obind gbind acond res1 Go.Abs.Fn PCall Go.Abs.Pure SnapArgs SnapL Yl

/-! ### the reference's Check, Find and Few -/
theorem orderR (a b : List Int) (ha : Sh a) (hb : Sh b) : Pure Tryz.prog 61 [encV a, encV b] (.int .i64 (order a b)) := by
  refine Pure.of_c2 follows is61 (Nat.le_of_ble_eq_true rfl) ?_
  simp only [b61, O, G, N, M, D, F, B2, cFal, cTru]
  have ha' : a.length ≤ 17592186044416 := ha
  have hb' : b.length ≤ 17592186044416 := hb
  repeat' (first | apply w_seq | apply w_ops0 | apply w_block | apply a_n | apply o_nil | (apply o_val rfl rfl; (focus ((try simp (disch := omega) only [simB0, ZA, reduceEqDiff, ↓reduceIte, reduceAdd, reduceLeDiff, ZV, reduceCtorEq]); first | with_reducible rfl | (apply s_ite; (focus omega); with_reducible rfl)))) | apply w_loop)
  refine loop0 (X := Nat) (fun k => [(0, encV a), (1, encV b), (5, .int .i64 k)]) (fun k => k ≤ a.length ∧ k ≤ b.length ∧ order a b = order (a.drop k) (b.drop k)) (fun k => a.length - k) 0 ⟨Nat.zero_le _, Nat.zero_le _, rfl⟩ (by simp (disch := omega) only [agr, ZG, reduceEqDiff, ↓reduceIte]) ?_
  rintro k ⟨h1, h2, h3⟩
  by_cases hka : k < a.length
  · by_cases hkb : k < b.length
    · rw [drop_cons (l := a) hka, drop_cons (l := b) hkb, order] at h3
      by_cases c1 : a.getD k default < b.getD k default
      · rw [if_pos c1] at h3
        rw [h3]
        repeat' (first | apply w_seq | apply w_ops0 | apply w_ops1 | apply w_block | apply w_skip | apply w_ret | apply a_n | apply a_r | apply o_nil | (apply o_val rfl rfl; (focus ((try simp (disch := omega) only [simB0, ZA, reduceEqDiff, ↓reduceIte, reduceAdd, reduceLeDiff, ZV, reduceCtorEq]); first | with_reducible rfl | (apply s_ite; (focus omega); with_reducible rfl)))) | (apply o_gT; (focus (simp only [simB0, ZA, reduceEqDiff, ↓reduceIte, reduceAdd, reduceLeDiff]; done))) | ((first | apply o_gB | apply w_cond); (focus ((try simp only [simB0, ZA, reduceEqDiff, ↓reduceIte, reduceAdd, reduceLeDiff]); (try with_reducible rfl); done)); all_goals (intro _hg; (try simp only [ZB] at _hg); try first | exact absurd trivial _hg | (exfalso; omega))) | (refine e_ends rfl ?_) | (apply r_1; (focus (simp only [rv, simB0, ZA, reduceEqDiff, ↓reduceIte, reduceAdd, reduceLeDiff]; with_reducible rfl))))
        exact .int _ _
      · rw [if_neg c1] at h3
        by_cases c2 : a.getD k default > b.getD k default
        · rw [if_pos c2] at h3
          rw [h3]
          repeat' (first | apply w_seq | apply w_ops0 | apply w_ops1 | apply w_block | apply w_skip | apply w_ret | apply a_n | apply a_r | apply o_nil | (apply o_val rfl rfl; (focus ((try simp (disch := omega) only [simB0, ZA, reduceEqDiff, ↓reduceIte, reduceAdd, reduceLeDiff, ZV, reduceCtorEq]); first | with_reducible rfl | (apply s_ite; (focus omega); with_reducible rfl)))) | (apply o_gT; (focus (simp only [simB0, ZA, reduceEqDiff, ↓reduceIte, reduceAdd, reduceLeDiff]; done))) | ((first | apply o_gB | apply w_cond); (focus ((try simp only [simB0, ZA, reduceEqDiff, ↓reduceIte, reduceAdd, reduceLeDiff]); (try with_reducible rfl); done)); all_goals (intro _hg; (try simp only [ZB] at _hg); try first | exact absurd trivial _hg | (exfalso; omega))) | (refine e_ends rfl ?_) | (apply r_1; (focus (simp only [rv, simB0, ZA, reduceEqDiff, ↓reduceIte, reduceAdd, reduceLeDiff]; with_reducible rfl))))
          exact .int _ _
        · rw [if_neg c2] at h3
          repeat' (first | apply w_seq | apply w_ops0 | apply w_ops1 | apply w_block | apply w_skip | apply a_n | apply o_nil | (apply o_val rfl rfl; (focus ((try simp (disch := omega) only [simB0, ZA, reduceEqDiff, ↓reduceIte, reduceAdd, reduceLeDiff, ZV, reduceCtorEq]); first | with_reducible rfl | (apply s_ite; (focus omega); with_reducible rfl)))) | (apply o_gT; (focus (simp only [simB0, ZA, reduceEqDiff, ↓reduceIte, reduceAdd, reduceLeDiff]; done))) | ((first | apply o_gB | apply w_cond); (focus ((try simp only [simB0, ZA, reduceEqDiff, ↓reduceIte, reduceAdd, reduceLeDiff]); (try with_reducible rfl); done)); all_goals (intro _hg; (try simp only [ZB] at _hg); try first | exact absurd trivial _hg | (exfalso; omega))))
          exact ⟨k + 1, ⟨by omega, by omega, h3⟩, by omega, by simp (disch := omega) only [agr, ZG, reduceEqDiff, ↓reduceIte], rfl, rfl⟩
    · rw [List.drop_eq_nil_of_le (show b.length ≤ k by omega), drop_cons (l := a) hka] at h3
      have h3 : order a b = 1 := h3
      rw [h3]
      repeat' (first | apply w_seq | apply w_ops0 | apply w_skip | apply w_exit | apply w_ret | apply a_n | apply a_x | apply a_r | apply o_nil | (apply o_val rfl rfl; (focus ((try simp (disch := omega) only [simB0, ZA, reduceEqDiff, ↓reduceIte, reduceAdd, reduceLeDiff, ZV, reduceCtorEq]); first | with_reducible rfl | (apply s_ite; (focus omega); with_reducible rfl)))) | (apply o_gT; (focus (simp only [simB0, ZA, reduceEqDiff, ↓reduceIte, reduceAdd, reduceLeDiff]; done))) | ((first | apply o_gB | apply w_cond); (focus ((try simp only [simB0, ZA, reduceEqDiff, ↓reduceIte, reduceAdd, reduceLeDiff]); (try with_reducible rfl); done)); all_goals (intro _hg; (try simp only [ZB] at _hg); try first | exact absurd trivial _hg | (exfalso; omega))) | (refine e_ends rfl ?_) | (apply r_1; (focus (simp only [rv, simB0, ZA, reduceEqDiff, ↓reduceIte, reduceAdd, reduceLeDiff]; with_reducible rfl))))
      exact .int _ _
  · by_cases hkb : k < b.length
    · rw [List.drop_eq_nil_of_le (show a.length ≤ k by omega), drop_cons (l := b) hkb] at h3
      have h3 : order a b = -1 := h3
      rw [h3]
      repeat' (first | apply w_seq | apply w_ops0 | apply w_exit | apply w_ret | apply a_n | apply a_x | apply a_r | apply o_nil | (apply o_val rfl rfl; (focus ((try simp (disch := omega) only [simB0, ZA, reduceEqDiff, ↓reduceIte, reduceAdd, reduceLeDiff, ZV, reduceCtorEq]); first | with_reducible rfl | (apply s_ite; (focus omega); with_reducible rfl)))) | (apply o_gF; (focus (simp only [simB0, ZA, reduceEqDiff, ↓reduceIte, reduceAdd, reduceLeDiff, or_true, true_or]; done))) | (apply w_condF; (focus (simp only [simB0, ZA, reduceEqDiff, ↓reduceIte, reduceAdd, reduceLeDiff]; done))) | ((first | apply o_gB | apply w_cond); (focus ((try simp only [simB0, ZA, reduceEqDiff, ↓reduceIte, reduceAdd, reduceLeDiff]); (try with_reducible rfl); done)); all_goals (intro _hg; (try simp only [ZB] at _hg); try first | exact absurd trivial _hg | (exfalso; omega))) | (refine e_ends rfl ?_) | (apply r_1; (focus (simp only [rv, simB0, ZA, reduceEqDiff, ↓reduceIte, reduceAdd, reduceLeDiff]; with_reducible rfl))))
      exact .int _ _
    · rw [List.drop_eq_nil_of_le (show a.length ≤ k by omega), List.drop_eq_nil_of_le (show b.length ≤ k by omega)] at h3
      have h3 : order a b = 0 := h3
      rw [h3]
      repeat' (first | apply w_seq | apply w_ops0 | apply w_skip | apply w_exit | apply w_ret | apply a_n | apply a_x | apply o_nil | (apply o_val rfl rfl; (focus ((try simp (disch := omega) only [simB0, ZA, reduceEqDiff, ↓reduceIte, reduceAdd, reduceLeDiff, ZV, reduceCtorEq]); first | with_reducible rfl | (apply s_ite; (focus omega); with_reducible rfl)))) | (apply o_gF; (focus (simp only [simB0, ZA, reduceEqDiff, ↓reduceIte, reduceAdd, reduceLeDiff, or_true, true_or]; done))) | (apply w_condF; (focus (simp only [simB0, ZA, reduceEqDiff, ↓reduceIte, reduceAdd, reduceLeDiff]; done))) | ((first | apply o_gB | apply w_cond); (focus ((try simp only [simB0, ZA, reduceEqDiff, ↓reduceIte, reduceAdd, reduceLeDiff]); (try with_reducible rfl); done)); all_goals (intro _hg; (try simp only [ZB] at _hg); try first | exact absurd trivial _hg | (exfalso; omega))) | (refine e_ends rfl ?_) | (apply r_1; (focus (simp only [rv, simB0, ZA, reduceEqDiff, ↓reduceIte, reduceAdd, reduceLeDiff]; with_reducible rfl))))
      exact .int _ _

theorem hasR (l : List (List Int)) (v : List Int) (hl : Sh l) (hs : ∀ x ∈ l, Sh x) (hv : Sh v) : Pure Tryz.prog 81 [encVV l, encV v] (.bool (decide (v ∈ l))) := by
  refine Pure.of_c2 follows is81 (Nat.le_of_ble_eq_true rfl) ?_
  simp only [b81, O, G, N, M, D, F, B2, cFal, cTru]
  have hl' : l.length ≤ 17592186044416 := hl
  repeat' (first | apply w_seq | apply w_ops0 | apply w_block | apply a_n | apply o_nil | (apply o_val rfl rfl; (focus ((try simp (disch := omega) only [simB0, ZA, reduceEqDiff, ↓reduceIte, reduceAdd, reduceLeDiff, ZV, reduceCtorEq]); first | with_reducible rfl | (apply s_ite; (focus omega); with_reducible rfl)))) | apply w_loop)
  refine loopA (fun k => [(0, encVV l), (1, encV v), (5, .int .i64 k)]) l.length (fun k => l.getD k default ≠ v) (by simp (disch := omega) only [agr, ZG, reduceEqDiff, ↓reduceIte]) ?_
  intro k hk hp
  by_cases hk2 : k < l.length
  rotate_left
  · repeat' (first | apply w_seq | apply w_ops0 | apply w_exit | apply w_ret | apply a_n | apply a_x | apply o_nil | (apply o_val rfl rfl; (focus ((try simp (disch := omega) only [simB0, ZA, reduceEqDiff, ↓reduceIte, reduceAdd, reduceLeDiff, ZV, reduceCtorEq]); first | with_reducible rfl | (apply s_ite; (focus omega); with_reducible rfl)))) | (apply w_cond; (focus ((try simp only [simB0, ZA, reduceEqDiff, ↓reduceIte, reduceAdd, reduceLeDiff]); (try with_reducible rfl); done)); all_goals (intro _hg; (try simp only [ZB] at _hg); try first | exact absurd trivial _hg | (exfalso; omega))) | (refine e_ends rfl ?_) | (apply r_1; (focus (simp only [rv, simB0, ZA, reduceEqDiff, ↓reduceIte, reduceAdd, reduceLeDiff]; with_reducible rfl))))
    exact snap_bool (decide_eq_false (fun hm => by
      obtain ⟨i, hi, e⟩ := mem_getV.1 hm
      exact hp i (by omega) e)).symm
  have hc := orderR (l.getD k default) v (hs _ (mem_getD hk2)) hv
  by_cases he : order (l.getD k default) v = 0
  · repeat' (first | apply w_seq | apply w_ops0 | apply w_block | apply w_skip | apply w_ret | apply a_n | apply a_r | apply o_nil | (apply o_val rfl rfl; (focus ((try simp (disch := omega) only [simB0, ZA, reduceEqDiff, ↓reduceIte, reduceAdd, reduceLeDiff, ZV, reduceCtorEq]); first | with_reducible rfl | (apply s_ite; (focus omega); with_reducible rfl)))) | (apply o_callD; (iterate 2 (focus ((try simp only [simB0, ZA, reduceEqDiff, ↓reduceIte, reduceAdd, reduceLeDiff]); (try with_reducible rfl); done))); (focus (first | (exact hc))); (focus ((first | refine snap_plain ?_ rfl | apply snap_data); repeat' (first | exact snapL_nil | apply snapL_i | apply snapL_dat)))) | (apply w_cond; (focus ((try simp only [simB0, ZA, reduceEqDiff, ↓reduceIte, reduceAdd, reduceLeDiff]); (try with_reducible rfl); done)); all_goals (intro _hg; (try simp only [ZB] at _hg); try first | exact absurd trivial _hg | (exfalso; omega))) | (refine e_ends rfl ?_) | (apply r_1; (focus (simp only [rv, simB0, ZA, reduceEqDiff, ↓reduceIte, reduceAdd, reduceLeDiff]; with_reducible rfl))))
    exact snap_bool (decide_eq_true (mem_getV.2 ⟨k, hk2, order_eq he⟩)).symm
  · repeat' (first | apply w_seq | apply w_ops0 | apply w_block | apply w_skip | apply a_n | apply o_nil | (apply o_val rfl rfl; (focus ((try simp (disch := omega) only [simB0, ZA, reduceEqDiff, ↓reduceIte, reduceAdd, reduceLeDiff, ZV, reduceCtorEq]); first | with_reducible rfl | (apply s_ite; (focus omega); with_reducible rfl)))) | (apply o_callD; (iterate 2 (focus ((try simp only [simB0, ZA, reduceEqDiff, ↓reduceIte, reduceAdd, reduceLeDiff]); (try with_reducible rfl); done))); (focus (first | (exact hc))); (focus ((first | refine snap_plain ?_ rfl | apply snap_data); repeat' (first | exact snapL_nil | apply snapL_i | apply snapL_dat)))) | (apply w_cond; (focus ((try simp only [simB0, ZA, reduceEqDiff, ↓reduceIte, reduceAdd, reduceLeDiff]); (try with_reducible rfl); done)); all_goals (intro _hg; (try simp only [ZB] at _hg); try first | exact absurd trivial _hg | (exfalso; omega))))
    exact ⟨hk2, fun h => he (by rw [h]; exact order_refl v), by simp (disch := omega) only [agr, ZG, reduceEqDiff, ↓reduceIte], rfl, rfl⟩

theorem vectorR (v : List Int) (n most : Int) (hv : Sh v) : Pure Tryz.prog 80 [encV v, .int .i64 n, .int .i64 most] (.int .i64 (vectorE v n most)) := by
  refine Pure.of_c2 follows is80 (Nat.le_of_ble_eq_true rfl) ?_
  simp only [b80, O, G, N, M, D, F, B2, cFal, cTru]
  have hv' : v.length ≤ 17592186044416 := hv
  by_cases hn : (v.length : Int) = n
  rotate_left
  · have e : vectorE v n most = 15 := by unfold vectorE; rw [if_pos hn]
    rw [e]
    repeat' (first | apply w_seq | apply w_ops0 | apply w_ret | apply a_n | apply a_r | apply o_nil | (apply o_val rfl rfl; (focus ((try simp (disch := omega) only [simB0, ZA, reduceEqDiff, ↓reduceIte, reduceAdd, reduceLeDiff, ZV, reduceCtorEq]); first | with_reducible rfl | (apply s_ite; (focus omega); with_reducible rfl)))) | (apply w_cond; (focus ((try simp only [simB0, ZA, reduceEqDiff, ↓reduceIte, reduceAdd, reduceLeDiff]); (try with_reducible rfl); done)); all_goals (intro _hg; (try simp only [ZB] at _hg); try first | exact absurd trivial _hg | (exfalso; omega))) | (refine e_ends rfl ?_) | (apply r_1; (focus (simp only [rv, simB0, ZA, reduceEqDiff, ↓reduceIte, reduceAdd, reduceLeDiff]; with_reducible rfl))))
    all_goals exact .int _ _
  have e : vectorE v n most = if v.any (fun x => decide (x < 0 ∨ most ≤ x)) then 2 else 0 := by unfold vectorE; rw [if_neg (fun h => h hn)]
  rw [e]
  subst hn
  repeat' (first | apply w_seq | apply w_ops0 | apply w_block | apply w_skip | apply a_n | apply o_nil | (apply o_val rfl rfl; (focus ((try simp (disch := omega) only [simB0, ZA, reduceEqDiff, ↓reduceIte, reduceAdd, reduceLeDiff, ZV, reduceCtorEq]); first | with_reducible rfl | (apply s_ite; (focus omega); with_reducible rfl)))) | (apply w_cond; (focus ((try simp only [simB0, ZA, reduceEqDiff, ↓reduceIte, reduceAdd, reduceLeDiff]); (try with_reducible rfl); done)); all_goals (intro _hg; (try simp only [ZB] at _hg); try first | exact absurd trivial _hg | (exfalso; omega))) | apply w_loop)
  refine loopA (fun k => [(0, encV v), (1, .int .i64 v.length), (2, .int .i64 most), (7, .int .i64 k)]) v.length (fun k => decide (v.getD k default < 0 ∨ most ≤ v.getD k default) = false) (by simp (disch := omega) only [agr, ZG, reduceEqDiff, ↓reduceIte]) ?_
  intro k hk hp
  by_cases hk2 : k < v.length
  rotate_left
  · repeat' (first | apply w_seq | apply w_ops0 | apply w_exit | apply w_ret | apply a_n | apply a_x | apply o_nil | (apply o_val rfl rfl; (focus ((try simp (disch := omega) only [simB0, ZA, reduceEqDiff, ↓reduceIte, reduceAdd, reduceLeDiff, ZV, reduceCtorEq]); first | with_reducible rfl | (apply s_ite; (focus omega); with_reducible rfl)))) | (apply w_cond; (focus ((try simp only [simB0, ZA, reduceEqDiff, ↓reduceIte, reduceAdd, reduceLeDiff]); (try with_reducible rfl); done)); all_goals (intro _hg; (try simp only [ZB] at _hg); try first | exact absurd trivial _hg | (exfalso; omega))) | (refine e_ends rfl ?_) | (apply r_1; (focus (simp only [rv, simB0, ZA, reduceEqDiff, ↓reduceIte, reduceAdd, reduceLeDiff]; with_reducible rfl))))
    rw [any_false fun i hi => hp i (by omega)]
    exact .int _ _
  by_cases hb : v.getD k default < 0 ∨ most ≤ v.getD k default
  · repeat' (first | apply w_seq | apply w_ops0 | apply w_block | apply w_skip | apply w_ret | apply a_n | apply a_r | apply o_nil | (apply o_val rfl rfl; (focus ((try simp (disch := omega) only [simB0, ZA, reduceEqDiff, ↓reduceIte, reduceAdd, reduceLeDiff, ZV, reduceCtorEq]); first | with_reducible rfl | (apply s_ite; (focus omega); with_reducible rfl)))) | (apply o_gT; (focus (simp only [simB0, ZA, reduceEqDiff, ↓reduceIte, reduceAdd, reduceLeDiff]; done))) | (apply o_gF; (focus (simp only [simB0, ZA, reduceEqDiff, ↓reduceIte, reduceAdd, reduceLeDiff, or_true, true_or]; done))) | (apply w_condT; (focus (simp only [simB0, ZA, reduceEqDiff, ↓reduceIte, reduceAdd, reduceLeDiff]; done))) | ((first | apply o_gB | apply w_cond); (focus ((try simp only [simB0, ZA, reduceEqDiff, ↓reduceIte, reduceAdd, reduceLeDiff]); (try with_reducible rfl); done)); all_goals (intro _hg; (try simp only [ZB] at _hg); try first | exact absurd trivial _hg | (exfalso; omega))) | (refine e_ends rfl ?_) | (apply r_1; (focus (simp only [rv, simB0, ZA, reduceEqDiff, ↓reduceIte, reduceAdd, reduceLeDiff]; with_reducible rfl))))
    all_goals first
      | (rw [any_true (p := fun x => decide (x < 0 ∨ most ≤ x)) hk2 (decide_eq_true hb)]; exact .int _ _)
  · repeat' (first | apply w_seq | apply w_ops0 | apply w_block | apply w_skip | apply a_n | apply o_nil | (apply o_val rfl rfl; (focus ((try simp (disch := omega) only [simB0, ZA, reduceEqDiff, ↓reduceIte, reduceAdd, reduceLeDiff, ZV, reduceCtorEq]); first | with_reducible rfl | (apply s_ite; (focus omega); with_reducible rfl)))) | (apply o_gT; (focus (simp only [simB0, ZA, reduceEqDiff, ↓reduceIte, reduceAdd, reduceLeDiff]; done))) | ((first | apply o_gB | apply w_cond); (focus ((try simp only [simB0, ZA, reduceEqDiff, ↓reduceIte, reduceAdd, reduceLeDiff]); (try with_reducible rfl); done)); all_goals (intro _hg; (try simp only [ZB] at _hg); try first | exact absurd trivial _hg | (exfalso; omega))))
    exact ⟨hk2, decide_eq_false hb, by simp (disch := omega) only [agr, ZG, reduceEqDiff, ↓reduceIte], rfl, rfl⟩

set_option maxHeartbeats 2000000 in
theorem oneR (t : TaskV) (j : Nat) (hs : ∀ c ∈ t.cases, ShC c) (hsc : Sh t.cases) (hj : j < t.cases.length) : Pure Tryz.prog 50 [encT t, .int .i64 j] (.int .i64 (caseE t j)) := by
  refine Pure.of_c2 follows is50 (Nat.le_of_ble_eq_true rfl) ?_
  simp only [b50, O, G, N, M, D, F, B2, cFal, cTru]
  rw [caseE_eq t j hj]
  have hsc' : t.cases.length ≤ 17592186044416 := hsc
  have hm := mem_getD hj
  obtain ⟨s1, s2, s3, s4, s5⟩ := hs _ hm
  have ix := aixS_encCs hj
  have hv := vectorR _ t.n t.ins s1
  unfold encT
  by_cases hV : vectorE (t.cases.getD j default).inp t.n t.ins = 0
  rotate_left
  · rw [if_pos hV]
    generalize vectorE (t.cases.getD j default).inp t.n t.ins = V at *
    repeat' (first | apply w_seq | apply w_ops0 | apply w_ret | apply a_n | apply a_r | apply o_nil | (apply o_val rfl rfl; (focus ((try simp (disch := omega) only [simB0, ZA, reduceEqDiff, ↓reduceIte, reduceAdd, reduceLeDiff, ZV, reduceCtorEq, encCs_one, encCs_cells, alenS_encCs, ix, acells]); first | with_reducible rfl | (apply s_ite; (focus omega); with_reducible rfl)))) | (apply o_callD; (iterate 2 (focus ((try simp only [simB0, ZA, reduceEqDiff, ↓reduceIte, reduceAdd, reduceLeDiff, encCs_one, encCs_cells, alenS_encCs, ix, acells]); (try with_reducible rfl); done))); (focus (first | (exact hv))); (focus ((first | refine snap_plain ?_ rfl | apply snap_data); repeat' (first | exact snapL_nil | apply snapL_i | apply snapL_dat)))) | (apply e_alloc rfl; (focus ((try simp only [simB0, ZA, reduceEqDiff, ↓reduceIte, reduceAdd, reduceLeDiff, encCs_one, encCs_cells, alenS_encCs, ix, acells]); (try with_reducible rfl); done)); (focus (simp only [SO, Bool.and_self, one_encV, one_encVV, encCs_one, encCs_cells, alenS_encCs, ix, acells]))) | (apply e_box rfl; (iterate 2 (focus ((try simp only [simB0, ZA, reduceEqDiff, ↓reduceIte, reduceAdd, reduceLeDiff, encCs_one, encCs_cells, alenS_encCs, ix, acells]); (try with_reducible rfl); done))); (focus (simp only [SO, Bool.and_self, one_encV, one_encVV, encCs_one, encCs_cells, alenS_encCs, ix, acells]))) | (apply e_st rfl; (iterate 4 (focus ((try simp only [simB0, ZA, reduceEqDiff, ↓reduceIte, reduceAdd, reduceLeDiff, encCs_one, encCs_cells, alenS_encCs, ix, acells]); (try with_reducible rfl); done))); (focus (simp only [SO, Bool.and_self, one_encV, one_encVV, encCs_one, encCs_cells, alenS_encCs, ix, acells])); (iterate 3 (focus ((try simp only [SL, reduceAdd, Nat.reduceMul, List.length_map]); first | done | omega)))) | (apply w_cond; (focus ((try simp only [simB0, ZA, reduceEqDiff, ↓reduceIte, reduceAdd, reduceLeDiff, encCs_one, encCs_cells, alenS_encCs, ix, acells]); (try with_reducible rfl); done)); all_goals (intro _hg; (try simp only [ZB] at _hg); try first | exact absurd trivial _hg | (exfalso; omega))) | (refine e_ends rfl ?_) | (apply r_1; (focus (simp only [rv, simB0, ZA, reduceEqDiff, ↓reduceIte, reduceAdd, reduceLeDiff, encCs_one, encCs_cells, alenS_encCs, ix, acells]; with_reducible rfl))))
    exact .int _ _
  rw [if_neg (fun h => h hV)]
  rw [hV] at hv
  have hO := orderR (t.cases.getD (j - 1) default).inp (t.cases.getD j default).inp (hs _ (mem_getD (by omega))).1 s1
  have hi1 := aixS_encCs (l := t.cases) (k := j - 1) (by omega)
  generalize hC : t.cases.getD j default = c at *
  obtain ⟨inp, out, calm⟩ := c
  dsimp only at *
  have s2' : out.length ≤ 17592186044416 := s2
  have s4' : calm.length ≤ 17592186044416 := s4
  refine w_seq ?_
  repeat' (first | apply w_ops0 | apply a_n | apply o_nil | (apply o_val rfl rfl; (focus ((try simp (disch := omega) only [simB0, ZA, reduceEqDiff, ↓reduceIte, reduceAdd, reduceLeDiff, ZV, reduceCtorEq, encCs_one, encCs_cells, alenS_encCs, ix, acells]); first | with_reducible rfl | (apply s_ite; (focus omega); with_reducible rfl)))) | (apply e_box rfl; (iterate 2 (focus ((try simp only [simB0, ZA, reduceEqDiff, ↓reduceIte, reduceAdd, reduceLeDiff, encCs_one, encCs_cells, alenS_encCs, ix, acells]); (try with_reducible rfl); done))); (focus (simp only [SO, Bool.and_self, one_encV, one_encVV, encCs_one, encCs_cells, alenS_encCs, ix, acells]))))
  refine w_seq ?_
  repeat' (first | apply w_ops0 | apply a_n | apply o_nil | (apply o_val rfl rfl; (focus ((try simp (disch := omega) only [simB0, ZA, reduceEqDiff, ↓reduceIte, reduceAdd, reduceLeDiff, ZV, reduceCtorEq, encCs_one, encCs_cells, alenS_encCs, ix, acells]); first | with_reducible rfl | (apply s_ite; (focus omega); with_reducible rfl)))) | (apply e_alloc rfl; (focus ((try simp only [simB0, ZA, reduceEqDiff, ↓reduceIte, reduceAdd, reduceLeDiff, encCs_one, encCs_cells, alenS_encCs, ix, acells]); (try with_reducible rfl); done)); (focus (simp only [SO, Bool.and_self, one_encV, one_encVV, encCs_one, encCs_cells, alenS_encCs, ix, acells]))) | (apply e_st rfl; (iterate 4 (focus ((try simp only [simB0, ZA, reduceEqDiff, ↓reduceIte, reduceAdd, reduceLeDiff, encCs_one, encCs_cells, alenS_encCs, ix, acells]); (try with_reducible rfl); done))); (focus (simp only [SO, Bool.and_self, one_encV, one_encVV, encCs_one, encCs_cells, alenS_encCs, ix, acells])); (iterate 3 (focus ((try simp only [SL, reduceAdd, Nat.reduceMul, List.length_map]); first | done | omega)))))
  refine w_seqC (fun T H nx => T 1 = .int .i64 j ∧ T 2 = .ptr 0 4 0 ∧ T 5 = .ptr 1 3 0 ∧ H 0 = some [.int .i64 t.n, .int .i64 t.ins, .int .i64 t.outs, encCs t.cases] ∧ H 1 = some [encV inp, encVV out, encVV calm]) ?_ ?_
  · repeat' (first | apply w_seq | apply w_ops0 | apply w_skip | apply a_n | apply o_nil | (apply o_val rfl rfl; (focus ((try simp (disch := omega) only [simB0, ZA, reduceEqDiff, ↓reduceIte, reduceAdd, reduceLeDiff, ZV, reduceCtorEq, encCs_one, encCs_cells, alenS_encCs, ix, acells]); first | with_reducible rfl | (apply s_ite; (focus omega); with_reducible rfl)))) | (apply o_callD; (iterate 2 (focus ((try simp only [simB0, ZA, reduceEqDiff, ↓reduceIte, reduceAdd, reduceLeDiff, encCs_one, encCs_cells, alenS_encCs, ix, acells]); (try with_reducible rfl); done))); (focus (first | (exact hv))); (focus ((first | refine snap_plain ?_ rfl | apply snap_data); repeat' (first | exact snapL_nil | apply snapL_i | apply snapL_dat)))) | (apply w_cond; (focus ((try simp only [simB0, ZA, reduceEqDiff, ↓reduceIte, reduceAdd, reduceLeDiff, encCs_one, encCs_cells, alenS_encCs, ix, acells]); (try with_reducible rfl); done)); all_goals (intro _hg; (try simp only [ZB] at _hg); try first | exact absurd trivial _hg | (exfalso; omega))))
    exact ⟨rfl, rfl, rfl, rfl, rfl⟩
  rintro T H nx ⟨t1, t2, t5, g0, g1⟩
  refine w_seqC (fun T H nx => T 1 = .int .i64 j ∧ T 2 = .ptr 0 4 0 ∧ T 5 = .ptr 1 3 0 ∧ H 0 = some [.int .i64 t.n, .int .i64 t.ins, .int .i64 t.outs, encCs t.cases] ∧ H 1 = some [encV inp, encVV out, encVV calm] ∧ (decide (0 < j) && decide (0 ≤ order (t.cases.getD (j - 1) default).inp inp)) = false) ?_ ?_
  · by_cases hj0 : j = 0
    · subst hj0
      repeat' (first | apply w_seq | apply w_mixS1 | apply w_skip | apply a_n | apply o_nil | (apply o_val rfl rfl; (focus ((try simp (disch := omega) only [simB0, ZA, reduceEqDiff, ↓reduceIte, reduceAdd, reduceLeDiff, ZV, reduceCtorEq, t1, t2, t5, g0, g1, encCs_one, encCs_cells, alenS_encCs, ix, acells, Bool.false_eq_true]); first | with_reducible rfl | (apply s_ite; (focus omega); with_reducible rfl)))) | (apply o_gF; (focus (simp only [simB0, ZA, reduceEqDiff, ↓reduceIte, reduceAdd, reduceLeDiff, or_true, true_or, t1, t2, t5, g0, g1, encCs_one, encCs_cells, alenS_encCs, ix, acells, Bool.false_eq_true]; done))) | (apply o_gB; (focus ((try simp only [simB0, ZA, reduceEqDiff, ↓reduceIte, reduceAdd, reduceLeDiff, t1, t2, t5, g0, g1, encCs_one, encCs_cells, alenS_encCs, ix, acells, Bool.false_eq_true]); (try with_reducible rfl); done)); all_goals (intro _hg; (try simp only [ZB] at _hg); try first | exact absurd trivial _hg | (exfalso; omega))) | (apply w_condF; (focus (simp only [simB0, ZA, reduceEqDiff, ↓reduceIte, reduceAdd, reduceLeDiff, t1, t2, t5, g0, g1, encCs_one, encCs_cells, alenS_encCs, ix, acells, Bool.false_eq_true]; done))))
      all_goals first | exact ⟨by ((try simp only [simB0, ZA, reduceEqDiff, ↓reduceIte, reduceAdd, reduceLeDiff, t1, t2, t5, g0, g1]); (try with_reducible rfl)), by ((try simp only [simB0, ZA, reduceEqDiff, ↓reduceIte, reduceAdd, reduceLeDiff, t1, t2, t5, g0, g1]); (try with_reducible rfl)), by ((try simp only [simB0, ZA, reduceEqDiff, ↓reduceIte, reduceAdd, reduceLeDiff, t1, t2, t5, g0, g1]); (try with_reducible rfl)), by ((try simp only [simB0, ZA, reduceEqDiff, ↓reduceIte, reduceAdd, reduceLeDiff, t1, t2, t5, g0, g1]); (try with_reducible rfl)), by ((try simp only [simB0, ZA, reduceEqDiff, ↓reduceIte, reduceAdd, reduceLeDiff, t1, t2, t5, g0, g1]); (try with_reducible rfl)), by first | rfl | simp⟩ | trace_state
    · have e1 : (j : Int) - 1 = ((j - 1 : Nat) : Int) := by omega
      rw [← e1] at hi1
      rw [decide_eq_true (show 0 < j by omega), Bool.true_and]
      have hj1 : decide ((0 : Int) < (j : Int)) = true := decide_eq_true (by omega)
      by_cases ho : 0 ≤ order (t.cases.getD (j - 1) default).inp inp
      · rw [decide_eq_true ho, if_pos rfl]
        repeat' (first | apply w_seq | apply w_ops0 | apply w_mixS1 | apply w_ret | apply a_n | apply a_r | apply o_nil | (apply o_val rfl rfl; (focus ((try simp (disch := omega) only [simB0, ZA, reduceEqDiff, ↓reduceIte, reduceAdd, reduceLeDiff, ZV, reduceCtorEq, t1, t2, t5, g0, g1, encCs_one, encCs_cells, alenS_encCs, ix, hi1, acells, hj1, Bool.false_eq_true]); first | with_reducible rfl | (apply s_ite; (focus omega); with_reducible rfl)))) | (apply o_callD; (iterate 2 (focus ((try simp only [simB0, ZA, reduceEqDiff, ↓reduceIte, reduceAdd, reduceLeDiff, t1, t2, t5, g0, g1, encCs_one, encCs_cells, alenS_encCs, ix, hi1, acells, hj1, Bool.false_eq_true]); (try with_reducible rfl); done))); (focus (first | (exact hO))); (focus ((first | refine snap_plain ?_ rfl | apply snap_data); repeat' (first | exact snapL_nil | apply snapL_i | apply snapL_dat)))) | (apply o_gT; (focus (simp only [simB0, ZA, reduceEqDiff, ↓reduceIte, reduceAdd, reduceLeDiff, t1, t2, t5, g0, g1, encCs_one, encCs_cells, alenS_encCs, ix, hi1, acells, hj1, Bool.false_eq_true]; done))) | (apply w_cond; (focus ((try simp only [simB0, ZA, reduceEqDiff, ↓reduceIte, reduceAdd, reduceLeDiff, t1, t2, t5, g0, g1, encCs_one, encCs_cells, alenS_encCs, ix, hi1, acells, hj1, Bool.false_eq_true]); (try with_reducible rfl); done)); all_goals (intro _hg; (try simp only [ZB] at _hg); try first | exact absurd trivial _hg | (exfalso; omega))) | (refine e_ends rfl ?_) | (apply r_1; (focus (simp only [rv, simB0, ZA, reduceEqDiff, ↓reduceIte, reduceAdd, reduceLeDiff, t1, t2, t5, g0, g1, encCs_one, encCs_cells, alenS_encCs, ix, hi1, acells, hj1, Bool.false_eq_true]; with_reducible rfl))))
        all_goals first | exact .int _ _ | trace_state
      · rw [decide_eq_false ho]
        repeat' (first | apply w_seq | apply w_mixS1 | apply w_skip | apply a_n | apply o_nil | (apply o_val rfl rfl; (focus ((try simp (disch := omega) only [simB0, ZA, reduceEqDiff, ↓reduceIte, reduceAdd, reduceLeDiff, ZV, reduceCtorEq, t1, t2, t5, g0, g1, encCs_one, encCs_cells, alenS_encCs, ix, hi1, acells, hj1, Bool.false_eq_true]); first | with_reducible rfl | (apply s_ite; (focus omega); with_reducible rfl)))) | (apply o_callD; (iterate 2 (focus ((try simp only [simB0, ZA, reduceEqDiff, ↓reduceIte, reduceAdd, reduceLeDiff, t1, t2, t5, g0, g1, encCs_one, encCs_cells, alenS_encCs, ix, hi1, acells, hj1, Bool.false_eq_true]); (try with_reducible rfl); done))); (focus (first | (exact hO))); (focus ((first | refine snap_plain ?_ rfl | apply snap_data); repeat' (first | exact snapL_nil | apply snapL_i | apply snapL_dat)))) | (apply o_gT; (focus (simp only [simB0, ZA, reduceEqDiff, ↓reduceIte, reduceAdd, reduceLeDiff, t1, t2, t5, g0, g1, encCs_one, encCs_cells, alenS_encCs, ix, hi1, acells, hj1, Bool.false_eq_true]; done))) | (apply w_cond; (focus ((try simp only [simB0, ZA, reduceEqDiff, ↓reduceIte, reduceAdd, reduceLeDiff, t1, t2, t5, g0, g1, encCs_one, encCs_cells, alenS_encCs, ix, hi1, acells, hj1, Bool.false_eq_true]); (try with_reducible rfl); done)); all_goals (intro _hg; (try simp only [ZB] at _hg); try first | exact absurd trivial _hg | (exfalso; omega))))
        all_goals first | exact ⟨by ((try simp only [simB0, ZA, reduceEqDiff, ↓reduceIte, reduceAdd, reduceLeDiff, t1, t2, t5, g0, g1]); (try with_reducible rfl)), by ((try simp only [simB0, ZA, reduceEqDiff, ↓reduceIte, reduceAdd, reduceLeDiff, t1, t2, t5, g0, g1]); (try with_reducible rfl)), by ((try simp only [simB0, ZA, reduceEqDiff, ↓reduceIte, reduceAdd, reduceLeDiff, t1, t2, t5, g0, g1]); (try with_reducible rfl)), by ((try simp only [simB0, ZA, reduceEqDiff, ↓reduceIte, reduceAdd, reduceLeDiff, t1, t2, t5, g0, g1]); (try with_reducible rfl)), by ((try simp only [simB0, ZA, reduceEqDiff, ↓reduceIte, reduceAdd, reduceLeDiff, t1, t2, t5, g0, g1]); (try with_reducible rfl)), by first | rfl | simp⟩ | trace_state
  clear t1 t2 t5 g0 g1 hO hi1
  rintro T H nx ⟨t1, t2, t5, g0, g1, hu⟩
  rw [hu, if_neg (by simp)]
  by_cases h0 : out.length < 1 ∨ 1024 < out.length
  · have e : vectorsE t.n t.outs ⟨inp, out, calm⟩ = 5 := by unfold vectorsE; rw [if_pos h0]
    rw [e]
    repeat' (first | apply w_seq | apply w_ops0 | apply w_ret | apply a_n | apply a_r | apply o_nil | (apply o_val rfl rfl; (focus ((try simp (disch := omega) only [simB0, ZA, reduceEqDiff, ↓reduceIte, reduceAdd, reduceLeDiff, ZV, reduceCtorEq, t1, t2, t5, g0, g1, acells]); first | with_reducible rfl | (apply s_ite; (focus omega); with_reducible rfl)))) | (apply o_gT; (focus (simp only [simB0, ZA, reduceEqDiff, ↓reduceIte, reduceAdd, reduceLeDiff, t1, t2, t5, g0, g1, acells]; done))) | (apply o_gF; (focus (simp only [simB0, ZA, reduceEqDiff, ↓reduceIte, reduceAdd, reduceLeDiff, or_true, true_or, t1, t2, t5, g0, g1, acells]; done))) | (apply w_condT; (focus (simp only [simB0, ZA, reduceEqDiff, ↓reduceIte, reduceAdd, reduceLeDiff, t1, t2, t5, g0, g1, acells]; done))) | ((first | apply o_gB | apply w_cond); (focus ((try simp only [simB0, ZA, reduceEqDiff, ↓reduceIte, reduceAdd, reduceLeDiff, t1, t2, t5, g0, g1, acells]); (try with_reducible rfl); done)); all_goals (intro _hg; (try simp only [ZB] at _hg); try first | exact absurd trivial _hg | (exfalso; omega))) | (refine e_ends rfl ?_) | (apply r_1; (focus (simp only [rv, simB0, ZA, reduceEqDiff, ↓reduceIte, reduceAdd, reduceLeDiff, t1, t2, t5, g0, g1, acells]; with_reducible rfl))))
    all_goals exact .int _ _
  have e : vectorsE t.n t.outs ⟨inp, out, calm⟩ = if firstI (outE t.n t.outs out) out.length ≠ 0 then firstI (outE t.n t.outs out) out.length else firstI (calmE out calm) calm.length := by unfold vectorsE; rw [if_neg h0]
  rw [e]
  refine w_seqC (fun T H nx => T 2 = .ptr 0 4 0 ∧ T 5 = .ptr 1 3 0 ∧ H 0 = some [.int .i64 t.n, .int .i64 t.ins, .int .i64 t.outs, encCs t.cases] ∧ H 1 = some [encV inp, encVV out, encVV calm]) ?_ ?_
  · repeat' (first | apply w_seq | apply w_ops0 | apply w_skip | apply a_n | apply o_nil | (apply o_val rfl rfl; (focus ((try simp (disch := omega) only [simB0, ZA, reduceEqDiff, ↓reduceIte, reduceAdd, reduceLeDiff, ZV, reduceCtorEq, t1, t2, t5, g0, g1, acells]); first | with_reducible rfl | (apply s_ite; (focus omega); with_reducible rfl)))) | (apply o_gT; (focus (simp only [simB0, ZA, reduceEqDiff, ↓reduceIte, reduceAdd, reduceLeDiff, t1, t2, t5, g0, g1, acells]; done))) | ((first | apply o_gB | apply w_cond); (focus ((try simp only [simB0, ZA, reduceEqDiff, ↓reduceIte, reduceAdd, reduceLeDiff, t1, t2, t5, g0, g1, acells]); (try with_reducible rfl); done)); all_goals (intro _hg; (try simp only [ZB] at _hg); try first | exact absurd trivial _hg | (exfalso; omega))))
    all_goals first | exact ⟨by ((try simp only [simB0, ZA, reduceEqDiff, ↓reduceIte, reduceAdd, reduceLeDiff, t1, t2, t5, g0, g1]); (try with_reducible rfl)), by ((try simp only [simB0, ZA, reduceEqDiff, ↓reduceIte, reduceAdd, reduceLeDiff, t1, t2, t5, g0, g1]); (try with_reducible rfl)), by ((try simp only [simB0, ZA, reduceEqDiff, ↓reduceIte, reduceAdd, reduceLeDiff, t1, t2, t5, g0, g1]); (try with_reducible rfl)), by ((try simp only [simB0, ZA, reduceEqDiff, ↓reduceIte, reduceAdd, reduceLeDiff, t1, t2, t5, g0, g1]); (try with_reducible rfl))⟩ | trace_state
  clear t1 t2 t5 g0 g1
  rintro T H nx ⟨t2, t5, g0, g1⟩
  refine w_seqC (fun T H nx => T 2 = .ptr 0 4 0 ∧ T 5 = .ptr 1 3 0 ∧ H 0 = some [.int .i64 t.n, .int .i64 t.ins, .int .i64 t.outs, encCs t.cases] ∧ H 1 = some [encV inp, encVV out, encVV calm] ∧ ∀ i, i < out.length → outE t.n t.outs out i = 0) ?_ ?_
  · repeat' (first | apply w_seq | apply w_ops0 | apply w_block | apply a_n | apply o_nil | (apply o_val rfl rfl; (focus ((try simp (disch := omega) only [simB0, ZA, reduceEqDiff, ↓reduceIte, reduceAdd, reduceLeDiff, ZV, reduceCtorEq, t2, t5, g0, g1]); first | with_reducible rfl | (apply s_ite; (focus omega); with_reducible rfl)))) | apply w_loop)
    refine loopA (fun k => [(2, .ptr 0 4 0), (5, .ptr 1 3 0), (7, .int .i64 k)]) out.length (fun k => outE t.n t.outs out k = 0) (by simp (disch := omega) only [agr, ZG, reduceEqDiff, ↓reduceIte, t2, t5]) ?_
    intro k hk hz
    by_cases hk2 : k < out.length
    rotate_left
    · repeat' (first | apply w_seq | apply w_ops0 | apply w_exit | apply a_n | apply a_x | apply o_nil | (apply o_val rfl rfl; (focus ((try simp (disch := omega) only [simB0, ZA, reduceEqDiff, ↓reduceIte, reduceAdd, reduceLeDiff, ZV, reduceCtorEq, g0, g1, acells]); first | with_reducible rfl | (apply s_ite; (focus omega); with_reducible rfl)))) | (apply w_cond; (focus ((try simp only [simB0, ZA, reduceEqDiff, ↓reduceIte, reduceAdd, reduceLeDiff, g0, g1, acells]); (try with_reducible rfl); done)); all_goals (intro _hg; (try simp only [ZB] at _hg); try first | exact absurd trivial _hg | (exfalso; omega))))
      exact ⟨rfl, rfl, g0, g1, fun i hi => hz i (by omega)⟩
    have hvk := vectorR (out.getD k default) t.n t.outs (s3 _ (mem_getD hk2))
    have hok := orderR (out.getD (k - 1) default) (out.getD k default) (s3 _ (mem_getD (by omega))) (s3 _ (mem_getD hk2))
    have ho : outE t.n t.outs out k = if vectorE (out.getD k default) t.n t.outs ≠ 0 then vectorE (out.getD k default) t.n t.outs else if (decide (0 < k) && decide (0 ≤ order (out.getD (k - 1) default) (out.getD k default))) then 14 else 0 := rfl
    have fin : ∀ r, outE t.n t.outs out k = r → r ≠ 0 → (if firstI (outE t.n t.outs out) out.length ≠ 0 then firstI (outE t.n t.outs out) out.length else firstI (calmE out calm) calm.length) = r := fun r hr h0 => by
      rw [firstI_hit hk2 hz (by rw [hr]; exact h0), hr, if_pos h0]
    generalize vectorE (out.getD k default) t.n t.outs = V at *
    by_cases hV0 : V = 0
    rotate_left
    · rw [if_pos hV0] at ho
      rw [fin V ho hV0]
      repeat' (first | apply w_seq | apply w_ops0 | apply w_mixS1 | apply w_block | apply w_skip | apply w_ret | apply a_n | apply a_r | apply o_nil | (apply o_val rfl rfl; (focus ((try simp (disch := omega) only [simB0, ZA, reduceEqDiff, ↓reduceIte, reduceAdd, reduceLeDiff, ZV, reduceCtorEq, g0, g1, acells]); first | with_reducible rfl | (apply s_ite; (focus omega); with_reducible rfl)))) | (apply o_callD; (iterate 2 (focus ((try simp only [simB0, ZA, reduceEqDiff, ↓reduceIte, reduceAdd, reduceLeDiff, g0, g1, acells]); (try with_reducible rfl); done))); (focus (first | (exact hvk))); (focus ((first | refine snap_plain ?_ rfl | apply snap_data); repeat' (first | exact snapL_nil | apply snapL_i | apply snapL_dat)))) | (apply w_cond; (focus ((try simp only [simB0, ZA, reduceEqDiff, ↓reduceIte, reduceAdd, reduceLeDiff, g0, g1, acells]); (try with_reducible rfl); done)); all_goals (intro _hg; (try simp only [ZB] at _hg); try first | exact absurd trivial _hg | (exfalso; omega))) | (refine e_ends rfl ?_) | (apply r_1; (focus (simp only [rv, simB0, ZA, reduceEqDiff, ↓reduceIte, reduceAdd, reduceLeDiff, g0, g1, acells]; with_reducible rfl))))
      exact .int _ _
    subst hV0
    rw [if_neg (fun h => h rfl)] at ho
    by_cases hk0 : k = 0
    · subst hk0
      repeat' (first | apply w_seq | apply w_ops0 | apply w_mixS1 | apply w_block | apply w_skip | apply a_n | apply o_nil | (apply o_val rfl rfl; (focus ((try simp (disch := omega) only [simB0, ZA, reduceEqDiff, ↓reduceIte, reduceAdd, reduceLeDiff, ZV, reduceCtorEq, g0, g1, acells, Bool.false_eq_true]); first | with_reducible rfl | (apply s_ite; (focus omega); with_reducible rfl)))) | (apply o_callD; (iterate 2 (focus ((try simp only [simB0, ZA, reduceEqDiff, ↓reduceIte, reduceAdd, reduceLeDiff, g0, g1, acells, Bool.false_eq_true]); (try with_reducible rfl); done))); (focus (first | (exact hvk))); (focus ((first | refine snap_plain ?_ rfl | apply snap_data); repeat' (first | exact snapL_nil | apply snapL_i | apply snapL_dat)))) | (apply o_gF; (focus (simp only [simB0, ZA, reduceEqDiff, ↓reduceIte, reduceAdd, reduceLeDiff, or_true, true_or, g0, g1, acells, Bool.false_eq_true]; done))) | (apply w_condF; (focus (simp only [simB0, ZA, reduceEqDiff, ↓reduceIte, reduceAdd, reduceLeDiff, g0, g1, acells, Bool.false_eq_true]; done))) | ((first | apply o_gB | apply w_cond); (focus ((try simp only [simB0, ZA, reduceEqDiff, ↓reduceIte, reduceAdd, reduceLeDiff, g0, g1, acells, Bool.false_eq_true]); (try with_reducible rfl); done)); all_goals (intro _hg; (try simp only [ZB] at _hg); try first | exact absurd trivial _hg | (exfalso; omega))))
      all_goals first | exact ⟨hk2, ho, by simp (disch := omega) only [agr, ZG, reduceEqDiff, ↓reduceIte], rfl, rfl⟩ | trace_state
    · have e1 : (k : Int) - 1 = ((k - 1 : Nat) : Int) := by omega
      have e2 : ((k : Int) - 1).toNat = k - 1 := by omega
      have hj1 : decide ((0 : Int) < (k : Int)) = true := decide_eq_true (by omega)
      rw [decide_eq_true (show 0 < k by omega), Bool.true_and] at ho
      generalize order (out.getD (k - 1) default) (out.getD k default) = O at *
      by_cases hO0 : 0 ≤ O
      · rw [decide_eq_true hO0, if_pos rfl] at ho
        rw [fin 14 ho (by decide)]
        repeat' (first | apply w_seq | apply w_ops0 | apply w_mixS1 | apply w_block | apply w_skip | apply w_ret | apply a_n | apply a_r | apply o_nil | (apply o_val rfl rfl; (focus ((try simp (disch := omega) only [simB0, ZA, reduceEqDiff, ↓reduceIte, reduceAdd, reduceLeDiff, ZV, reduceCtorEq, g0, g1, acells, hj1, e2, Bool.false_eq_true]); first | with_reducible rfl | (apply s_ite; (focus omega); with_reducible rfl)))) | (apply o_callD; (iterate 2 (focus ((try simp only [simB0, ZA, reduceEqDiff, ↓reduceIte, reduceAdd, reduceLeDiff, g0, g1, acells, hj1, e2, Bool.false_eq_true]); (try with_reducible rfl); done))); (focus (first | (exact hvk) | (exact hok))); (focus ((first | refine snap_plain ?_ rfl | apply snap_data); repeat' (first | exact snapL_nil | apply snapL_i | apply snapL_dat)))) | (apply o_gT; (focus (simp only [simB0, ZA, reduceEqDiff, ↓reduceIte, reduceAdd, reduceLeDiff, g0, g1, acells, hj1, e2, Bool.false_eq_true]; done))) | (apply w_cond; (focus ((try simp only [simB0, ZA, reduceEqDiff, ↓reduceIte, reduceAdd, reduceLeDiff, g0, g1, acells, hj1, e2, Bool.false_eq_true]); (try with_reducible rfl); done)); all_goals (intro _hg; (try simp only [ZB] at _hg); try first | exact absurd trivial _hg | (exfalso; omega))) | (refine e_ends rfl ?_) | (apply r_1; (focus (simp only [rv, simB0, ZA, reduceEqDiff, ↓reduceIte, reduceAdd, reduceLeDiff, g0, g1, acells, hj1, e2, Bool.false_eq_true]; with_reducible rfl))))
        all_goals first | exact .int _ _ | trace_state
      · rw [decide_eq_false hO0, if_neg (by simp)] at ho
        repeat' (first | apply w_seq | apply w_ops0 | apply w_mixS1 | apply w_block | apply w_skip | apply a_n | apply o_nil | (apply o_val rfl rfl; (focus ((try simp (disch := omega) only [simB0, ZA, reduceEqDiff, ↓reduceIte, reduceAdd, reduceLeDiff, ZV, reduceCtorEq, g0, g1, acells, hj1, e2, Bool.false_eq_true]); first | with_reducible rfl | (apply s_ite; (focus omega); with_reducible rfl)))) | (apply o_callD; (iterate 2 (focus ((try simp only [simB0, ZA, reduceEqDiff, ↓reduceIte, reduceAdd, reduceLeDiff, g0, g1, acells, hj1, e2, Bool.false_eq_true]); (try with_reducible rfl); done))); (focus (first | (exact hvk) | (exact hok))); (focus ((first | refine snap_plain ?_ rfl | apply snap_data); repeat' (first | exact snapL_nil | apply snapL_i | apply snapL_dat)))) | (apply o_gT; (focus (simp only [simB0, ZA, reduceEqDiff, ↓reduceIte, reduceAdd, reduceLeDiff, g0, g1, acells, hj1, e2, Bool.false_eq_true]; done))) | (apply w_cond; (focus ((try simp only [simB0, ZA, reduceEqDiff, ↓reduceIte, reduceAdd, reduceLeDiff, g0, g1, acells, hj1, e2, Bool.false_eq_true]); (try with_reducible rfl); done)); all_goals (intro _hg; (try simp only [ZB] at _hg); try first | exact absurd trivial _hg | (exfalso; omega))))
        all_goals first | exact ⟨hk2, ho, by simp (disch := omega) only [agr, ZG, reduceEqDiff, ↓reduceIte], rfl, rfl⟩ | trace_state
  clear t2 t5 g0 g1
  rintro T H nx ⟨t2, t5, g0, g1, hz0⟩
  rw [firstI_zero hz0, if_neg (fun h => h rfl)]
  repeat' (first | apply w_seq | apply w_ops0 | apply w_block | apply a_n | apply o_nil | (apply o_val rfl rfl; (focus ((try simp (disch := omega) only [simB0, ZA, reduceEqDiff, ↓reduceIte, reduceAdd, reduceLeDiff, ZV, reduceCtorEq, t2, t5, g0, g1]); first | with_reducible rfl | (apply s_ite; (focus omega); with_reducible rfl)))) | apply w_loop)
  refine loopA (fun k => [(2, .ptr 0 4 0), (5, .ptr 1 3 0), (9, .int .i64 k)]) calm.length (fun k => calmE out calm k = 0) (by simp (disch := omega) only [agr, ZG, reduceEqDiff, ↓reduceIte, t2, t5]) ?_
  intro k hk hz
  by_cases hk2 : k < calm.length
  rotate_left
  · repeat' (first | apply w_seq | apply w_ops0 | apply w_exit | apply w_ret | apply a_n | apply a_x | apply o_nil | (apply o_val rfl rfl; (focus ((try simp (disch := omega) only [simB0, ZA, reduceEqDiff, ↓reduceIte, reduceAdd, reduceLeDiff, ZV, reduceCtorEq, g0, g1, acells]); first | with_reducible rfl | (apply s_ite; (focus omega); with_reducible rfl)))) | (apply w_cond; (focus ((try simp only [simB0, ZA, reduceEqDiff, ↓reduceIte, reduceAdd, reduceLeDiff, g0, g1, acells]); (try with_reducible rfl); done)); all_goals (intro _hg; (try simp only [ZB] at _hg); try first | exact absurd trivial _hg | (exfalso; omega))) | (refine e_ends rfl ?_) | (apply r_1; (focus (simp only [rv, simB0, ZA, reduceEqDiff, ↓reduceIte, reduceAdd, reduceLeDiff, g0, g1, acells]; with_reducible rfl))))
    rw [firstI_zero fun i hi => hz i (by omega)]
    exact .int _ _
  have hh := hasR out (calm.getD k default) s2 s3 (s5 _ (mem_getD hk2))
  have hok := orderR (calm.getD (k - 1) default) (calm.getD k default) (s5 _ (mem_getD (by omega))) (s5 _ (mem_getD hk2))
  have ho : calmE out calm k = if calm.getD k default ∈ out then (if (decide (0 < k) && decide (0 ≤ order (calm.getD (k - 1) default) (calm.getD k default))) then 14 else 0) else 6 := rfl
  have fin : ∀ r, calmE out calm k = r → r ≠ 0 → firstI (calmE out calm) calm.length = r := fun r hr h0 => by
    rw [firstI_hit hk2 hz (by rw [hr]; exact h0), hr]
  by_cases hm2 : calm.getD k default ∈ out
  rotate_left
  · rw [if_neg hm2] at ho
    rw [decide_eq_false hm2] at hh
    rw [fin 6 ho (by decide)]
    repeat' (first | apply w_seq | apply w_ops0 | apply w_mixS1 | apply w_block | apply w_skip | apply w_ret | apply a_n | apply a_r | apply o_nil | (apply o_val rfl rfl; (focus ((try simp (disch := omega) only [simB0, ZA, reduceEqDiff, ↓reduceIte, reduceAdd, reduceLeDiff, ZV, reduceCtorEq, g0, g1, acells, Bool.false_eq_true]); first | with_reducible rfl | (apply s_ite; (focus omega); with_reducible rfl)))) | (apply o_callD; (iterate 2 (focus ((try simp only [simB0, ZA, reduceEqDiff, ↓reduceIte, reduceAdd, reduceLeDiff, g0, g1, acells, Bool.false_eq_true]); (try with_reducible rfl); done))); (focus (first | (exact hh))); (focus ((first | refine snap_plain ?_ rfl | apply snap_data); repeat' (first | exact snapL_nil | apply snapL_i | apply snapL_dat)))) | (apply w_condT; (focus (simp only [simB0, ZA, reduceEqDiff, ↓reduceIte, reduceAdd, reduceLeDiff, g0, g1, acells, Bool.false_eq_true]; done))) | (apply w_cond; (focus ((try simp only [simB0, ZA, reduceEqDiff, ↓reduceIte, reduceAdd, reduceLeDiff, g0, g1, acells, Bool.false_eq_true]); (try with_reducible rfl); done)); all_goals (intro _hg; (try simp only [ZB] at _hg); try first | exact absurd trivial _hg | (exfalso; omega))) | (refine e_ends rfl ?_) | (apply r_1; (focus (simp only [rv, simB0, ZA, reduceEqDiff, ↓reduceIte, reduceAdd, reduceLeDiff, g0, g1, acells, Bool.false_eq_true]; with_reducible rfl))))
    exact .int _ _
  rw [if_pos hm2] at ho
  rw [decide_eq_true hm2] at hh
  by_cases hk0 : k = 0
  · subst hk0
    repeat' (first | apply w_seq | apply w_ops0 | apply w_mixS1 | apply w_block | apply w_skip | apply a_n | apply o_nil | (apply o_val rfl rfl; (focus ((try simp (disch := omega) only [simB0, ZA, reduceEqDiff, ↓reduceIte, reduceAdd, reduceLeDiff, ZV, reduceCtorEq, g0, g1, acells, Bool.false_eq_true]); first | with_reducible rfl | (apply s_ite; (focus omega); with_reducible rfl)))) | (apply o_callD; (iterate 2 (focus ((try simp only [simB0, ZA, reduceEqDiff, ↓reduceIte, reduceAdd, reduceLeDiff, g0, g1, acells, Bool.false_eq_true]); (try with_reducible rfl); done))); (focus (first | (exact hh))); (focus ((first | refine snap_plain ?_ rfl | apply snap_data); repeat' (first | exact snapL_nil | apply snapL_i | apply snapL_dat)))) | (apply o_gF; (focus (simp only [simB0, ZA, reduceEqDiff, ↓reduceIte, reduceAdd, reduceLeDiff, or_true, true_or, g0, g1, acells, Bool.false_eq_true]; done))) | (apply w_condF; (focus (simp only [simB0, ZA, reduceEqDiff, ↓reduceIte, reduceAdd, reduceLeDiff, g0, g1, acells, Bool.false_eq_true]; done))) | ((first | apply o_gB | apply w_cond); (focus ((try simp only [simB0, ZA, reduceEqDiff, ↓reduceIte, reduceAdd, reduceLeDiff, g0, g1, acells, Bool.false_eq_true]); (try with_reducible rfl); done)); all_goals (intro _hg; (try simp only [ZB] at _hg); try first | exact absurd trivial _hg | (exfalso; omega))))
    all_goals first | exact ⟨hk2, ho, by simp (disch := omega) only [agr, ZG, reduceEqDiff, ↓reduceIte], rfl, rfl⟩ | trace_state
  · have e2 : ((k : Int) - 1).toNat = k - 1 := by omega
    have hj1 : decide ((0 : Int) < (k : Int)) = true := decide_eq_true (by omega)
    rw [decide_eq_true (show 0 < k by omega), Bool.true_and] at ho
    generalize order (calm.getD (k - 1) default) (calm.getD k default) = O at *
    by_cases hO0 : 0 ≤ O
    · rw [decide_eq_true hO0, if_pos rfl] at ho
      rw [fin 14 ho (by decide)]
      repeat' (first | apply w_seq | apply w_ops0 | apply w_mixS1 | apply w_block | apply w_skip | apply w_ret | apply a_n | apply a_r | apply o_nil | (apply o_val rfl rfl; (focus ((try simp (disch := omega) only [simB0, ZA, reduceEqDiff, ↓reduceIte, reduceAdd, reduceLeDiff, ZV, reduceCtorEq, g0, g1, acells, hj1, e2, Bool.false_eq_true]); first | with_reducible rfl | (apply s_ite; (focus omega); with_reducible rfl)))) | (apply o_callD; (iterate 2 (focus ((try simp only [simB0, ZA, reduceEqDiff, ↓reduceIte, reduceAdd, reduceLeDiff, g0, g1, acells, hj1, e2, Bool.false_eq_true]); (try with_reducible rfl); done))); (focus (first | (exact hh) | (exact hok))); (focus ((first | refine snap_plain ?_ rfl | apply snap_data); repeat' (first | exact snapL_nil | apply snapL_i | apply snapL_dat)))) | (apply o_gT; (focus (simp only [simB0, ZA, reduceEqDiff, ↓reduceIte, reduceAdd, reduceLeDiff, g0, g1, acells, hj1, e2, Bool.false_eq_true]; done))) | (apply w_condF; (focus (simp only [simB0, ZA, reduceEqDiff, ↓reduceIte, reduceAdd, reduceLeDiff, g0, g1, acells, hj1, e2, Bool.false_eq_true]; done))) | (apply w_cond; (focus ((try simp only [simB0, ZA, reduceEqDiff, ↓reduceIte, reduceAdd, reduceLeDiff, g0, g1, acells, hj1, e2, Bool.false_eq_true]); (try with_reducible rfl); done)); all_goals (intro _hg; (try simp only [ZB] at _hg); try first | exact absurd trivial _hg | (exfalso; omega))) | (refine e_ends rfl ?_) | (apply r_1; (focus (simp only [rv, simB0, ZA, reduceEqDiff, ↓reduceIte, reduceAdd, reduceLeDiff, g0, g1, acells, hj1, e2, Bool.false_eq_true]; with_reducible rfl))))
      all_goals first | exact .int _ _ | trace_state
    · rw [decide_eq_false hO0, if_neg (by simp)] at ho
      repeat' (first | apply w_seq | apply w_ops0 | apply w_mixS1 | apply w_block | apply w_skip | apply a_n | apply o_nil | (apply o_val rfl rfl; (focus ((try simp (disch := omega) only [simB0, ZA, reduceEqDiff, ↓reduceIte, reduceAdd, reduceLeDiff, ZV, reduceCtorEq, g0, g1, acells, hj1, e2, Bool.false_eq_true]); first | with_reducible rfl | (apply s_ite; (focus omega); with_reducible rfl)))) | (apply o_callD; (iterate 2 (focus ((try simp only [simB0, ZA, reduceEqDiff, ↓reduceIte, reduceAdd, reduceLeDiff, g0, g1, acells, hj1, e2, Bool.false_eq_true]); (try with_reducible rfl); done))); (focus (first | (exact hh) | (exact hok))); (focus ((first | refine snap_plain ?_ rfl | apply snap_data); repeat' (first | exact snapL_nil | apply snapL_i | apply snapL_dat)))) | (apply o_gT; (focus (simp only [simB0, ZA, reduceEqDiff, ↓reduceIte, reduceAdd, reduceLeDiff, g0, g1, acells, hj1, e2, Bool.false_eq_true]; done))) | (apply w_condF; (focus (simp only [simB0, ZA, reduceEqDiff, ↓reduceIte, reduceAdd, reduceLeDiff, g0, g1, acells, hj1, e2, Bool.false_eq_true]; done))) | (apply w_cond; (focus ((try simp only [simB0, ZA, reduceEqDiff, ↓reduceIte, reduceAdd, reduceLeDiff, g0, g1, acells, hj1, e2, Bool.false_eq_true]); (try with_reducible rfl); done)); all_goals (intro _hg; (try simp only [ZB] at _hg); try first | exact absurd trivial _hg | (exfalso; omega))))
      all_goals first | exact ⟨hk2, ho, by simp (disch := omega) only [agr, ZG, reduceEqDiff, ↓reduceIte], rfl, rfl⟩ | trace_state

end Go.Proofs.YtbiikomnhkbblaaGreat

/- T6: contracts of functions and plain laws; for all inputs that the theorems name. -/
namespace Go.Proofs.YtbiikomnhkbblaaGreat
open Go Go.Abs
open Nat (reduceEqDiff reduceAdd reduceLeDiff)
attribute [local irreducible] awp2 aops2 ains aloop athen bbind obind gbind acond res1 Go.Abs.Fn PCall Go.Abs.Pure SnapArgs SnapL Yl

theorem checkR (t : TaskV) (hs : ∀ c ∈ t.cases, ShC c) (hsc : Sh t.cases) : Pure Tryz.prog 15 [encT t] (.int .i64 (checkE t)) := by
  refine Pure.of_c2 follows is15 (Nat.le_of_ble_eq_true rfl) ?_
  simp only [b15, O, G, N, M, D, F, B2, cFal, cTru]
  have hsc' : t.cases.length ≤ 17592186044416 := hsc
  have d2 := encT_dat t
  have hone := fun j hj => oneR t j hs hsc hj
  unfold encT at d2 hone ⊢
  by_cases h0 : t.n < 1 ∨ 5 < t.n ∨ t.ins < 1 ∨ 8 < t.ins ∨ t.outs < 1 ∨ 8 < t.outs
  · have e : checkE t = 2 := by unfold checkE; rw [if_pos h0]
    rw [e]
    repeat' (first | apply w_seq | apply w_ops0 | apply w_ret | apply a_n | apply a_r | apply o_nil | (apply o_val rfl rfl; (focus ((try simp (disch := omega) only [simB0, ZA, reduceEqDiff, ↓reduceIte, reduceAdd, reduceLeDiff, ZV, reduceCtorEq, encCs_one, encCs_cells, alenS_encCs]); first | with_reducible rfl | (apply s_ite; (focus omega); with_reducible rfl)))) | (apply e_box rfl; (iterate 2 (focus ((try simp only [simB0, ZA, reduceEqDiff, ↓reduceIte, reduceAdd, reduceLeDiff, encCs_one, encCs_cells, alenS_encCs]); (try with_reducible rfl); done))); (focus (simp only [SO, Bool.and_self, one_encV, one_encVV, encCs_one, encCs_cells, alenS_encCs]))) | (apply o_gT; (focus (simp only [simB0, ZA, reduceEqDiff, ↓reduceIte, reduceAdd, reduceLeDiff, encCs_one, encCs_cells, alenS_encCs]; done))) | (apply o_gF; (focus (simp only [simB0, ZA, reduceEqDiff, ↓reduceIte, reduceAdd, reduceLeDiff, or_true, true_or, encCs_one, encCs_cells, alenS_encCs]; done))) | (apply w_condT; (focus (simp only [simB0, ZA, reduceEqDiff, ↓reduceIte, reduceAdd, reduceLeDiff, encCs_one, encCs_cells, alenS_encCs]; done))) | ((first | apply o_gB | apply w_cond); (focus ((try simp only [simB0, ZA, reduceEqDiff, ↓reduceIte, reduceAdd, reduceLeDiff, encCs_one, encCs_cells, alenS_encCs]); (try with_reducible rfl); done)); all_goals (intro _hg; (try simp only [ZB] at _hg); try first | exact absurd trivial _hg | (exfalso; omega))) | (refine e_ends rfl ?_) | (apply r_1; (focus (simp only [rv, simB0, ZA, reduceEqDiff, ↓reduceIte, reduceAdd, reduceLeDiff, encCs_one, encCs_cells, alenS_encCs]; with_reducible rfl))))
    all_goals exact .int _ _
  by_cases h1 : t.cases.length < 1 ∨ 1024 < t.cases.length
  · have e : checkE t = 5 := by unfold checkE; rw [if_neg h0, if_pos h1]
    rw [e]
    repeat' (first | apply w_seq | apply w_ops0 | apply w_skip | apply w_ret | apply a_n | apply a_r | apply o_nil | (apply o_val rfl rfl; (focus ((try simp (disch := omega) only [simB0, ZA, reduceEqDiff, ↓reduceIte, reduceAdd, reduceLeDiff, ZV, reduceCtorEq, encCs_one, encCs_cells, alenS_encCs]); first | with_reducible rfl | (apply s_ite; (focus omega); with_reducible rfl)))) | (apply e_box rfl; (iterate 2 (focus ((try simp only [simB0, ZA, reduceEqDiff, ↓reduceIte, reduceAdd, reduceLeDiff, encCs_one, encCs_cells, alenS_encCs]); (try with_reducible rfl); done))); (focus (simp only [SO, Bool.and_self, one_encV, one_encVV, encCs_one, encCs_cells, alenS_encCs]))) | (apply o_gT; (focus (simp only [simB0, ZA, reduceEqDiff, ↓reduceIte, reduceAdd, reduceLeDiff, encCs_one, encCs_cells, alenS_encCs]; done))) | (apply o_gF; (focus (simp only [simB0, ZA, reduceEqDiff, ↓reduceIte, reduceAdd, reduceLeDiff, or_true, true_or, encCs_one, encCs_cells, alenS_encCs]; done))) | (apply w_condT; (focus (simp only [simB0, ZA, reduceEqDiff, ↓reduceIte, reduceAdd, reduceLeDiff, encCs_one, encCs_cells, alenS_encCs]; done))) | ((first | apply o_gB | apply w_cond); (focus ((try simp only [simB0, ZA, reduceEqDiff, ↓reduceIte, reduceAdd, reduceLeDiff, encCs_one, encCs_cells, alenS_encCs]); (try with_reducible rfl); done)); all_goals (intro _hg; (try simp only [ZB] at _hg); try first | exact absurd trivial _hg | (exfalso; omega))) | (refine e_ends rfl ?_) | (apply r_1; (focus (simp only [rv, simB0, ZA, reduceEqDiff, ↓reduceIte, reduceAdd, reduceLeDiff, encCs_one, encCs_cells, alenS_encCs]; with_reducible rfl))))
    all_goals exact .int _ _
  have e : checkE t = firstI (caseE t) t.cases.length := by unfold checkE; rw [if_neg h0, if_neg h1]
  rw [e]
  repeat' (first | apply w_seq | apply w_ops0 | apply w_block | apply w_skip | apply a_n | apply o_nil | (apply o_val rfl rfl; (focus ((try simp (disch := omega) only [simB0, ZA, reduceEqDiff, ↓reduceIte, reduceAdd, reduceLeDiff, ZV, reduceCtorEq, encCs_one, encCs_cells, alenS_encCs]); first | with_reducible rfl | (apply s_ite; (focus omega); with_reducible rfl)))) | (apply e_box rfl; (iterate 2 (focus ((try simp only [simB0, ZA, reduceEqDiff, ↓reduceIte, reduceAdd, reduceLeDiff, encCs_one, encCs_cells, alenS_encCs]); (try with_reducible rfl); done))); (focus (simp only [SO, Bool.and_self, one_encV, one_encVV, encCs_one, encCs_cells, alenS_encCs]))) | (apply o_gT; (focus (simp only [simB0, ZA, reduceEqDiff, ↓reduceIte, reduceAdd, reduceLeDiff, encCs_one, encCs_cells, alenS_encCs]; done))) | ((first | apply o_gB | apply w_cond); (focus ((try simp only [simB0, ZA, reduceEqDiff, ↓reduceIte, reduceAdd, reduceLeDiff, encCs_one, encCs_cells, alenS_encCs]); (try with_reducible rfl); done)); all_goals (intro _hg; (try simp only [ZB] at _hg); try first | exact absurd trivial _hg | (exfalso; omega))) | apply w_loop)
  refine loopA (fun k => [(1, .ptr 0 4 0), (3, .int .i64 k)]) t.cases.length (fun k => caseE t k = 0) (by simp (disch := omega) only [agr, ZG, reduceEqDiff, ↓reduceIte, List.length_cons, List.length_nil]) ?_
  intro k hk hz
  by_cases hk2 : k < t.cases.length
  rotate_left
  · repeat' (first | apply w_seq | apply w_ops0 | apply w_exit | apply w_ret | apply a_n | apply a_x | apply o_nil | (apply o_val rfl rfl; (focus ((try simp (disch := omega) only [simB0, ZA, reduceEqDiff, ↓reduceIte, reduceAdd, reduceLeDiff, ZV, reduceCtorEq, encCs_one, encCs_cells, alenS_encCs]); first | with_reducible rfl | (apply s_ite; (focus omega); with_reducible rfl)))) | (apply w_cond; (focus ((try simp only [simB0, ZA, reduceEqDiff, ↓reduceIte, reduceAdd, reduceLeDiff, encCs_one, encCs_cells, alenS_encCs]); (try with_reducible rfl); done)); all_goals (intro _hg; (try simp only [ZB] at _hg); try first | exact absurd trivial _hg | (exfalso; omega))) | (refine e_ends rfl ?_) | (apply r_1; (focus (simp only [rv, simB0, ZA, reduceEqDiff, ↓reduceIte, reduceAdd, reduceLeDiff, encCs_one, encCs_cells, alenS_encCs]; with_reducible rfl))))
    rw [firstI_zero fun i hi => hz i (by omega)]
    exact .int _ _
  have hc := hone k hk2
  by_cases hE : caseE t k = 0
  · rw [hE] at hc
    repeat' (first | apply w_seq | apply w_ops0 | apply w_block | apply w_skip | apply a_n | apply o_nil | (apply o_val rfl rfl; (focus ((try simp (disch := omega) only [simB0, ZA, reduceEqDiff, ↓reduceIte, reduceAdd, reduceLeDiff, ZV, reduceCtorEq, encCs_one, encCs_cells, alenS_encCs]); first | with_reducible rfl | (apply s_ite; (focus omega); with_reducible rfl)))) | (apply o_callD; (iterate 2 (focus ((try simp only [simB0, ZA, reduceEqDiff, ↓reduceIte, reduceAdd, reduceLeDiff, encCs_one, encCs_cells, alenS_encCs]); (try with_reducible rfl); done))); (focus (first | (exact hc))); (focus ((first | refine snap_plain ?_ rfl | apply snap_data); repeat' (first | exact snapL_nil | apply snapL_i | apply snapL_dat | exact d2)))) | (apply w_cond; (focus ((try simp only [simB0, ZA, reduceEqDiff, ↓reduceIte, reduceAdd, reduceLeDiff, encCs_one, encCs_cells, alenS_encCs]); (try with_reducible rfl); done)); all_goals (intro _hg; (try simp only [ZB] at _hg); try first | exact absurd trivial _hg | (exfalso; omega))))
    exact ⟨hk2, hE, by simp (disch := omega) only [agr, ZG, reduceEqDiff, ↓reduceIte], rfl, rfl⟩
  · rw [firstI_hit hk2 hz hE]
    generalize caseE t k = V at *
    repeat' (first | apply w_seq | apply w_ops0 | apply w_block | apply w_skip | apply w_ret | apply a_n | apply a_r | apply o_nil | (apply o_val rfl rfl; (focus ((try simp (disch := omega) only [simB0, ZA, reduceEqDiff, ↓reduceIte, reduceAdd, reduceLeDiff, ZV, reduceCtorEq, encCs_one, encCs_cells, alenS_encCs]); first | with_reducible rfl | (apply s_ite; (focus omega); with_reducible rfl)))) | (apply o_callD; (iterate 2 (focus ((try simp only [simB0, ZA, reduceEqDiff, ↓reduceIte, reduceAdd, reduceLeDiff, encCs_one, encCs_cells, alenS_encCs]); (try with_reducible rfl); done))); (focus (first | (exact hc))); (focus ((first | refine snap_plain ?_ rfl | apply snap_data); repeat' (first | exact snapL_nil | apply snapL_i | apply snapL_dat | exact d2)))) | (apply w_cond; (focus ((try simp only [simB0, ZA, reduceEqDiff, ↓reduceIte, reduceAdd, reduceLeDiff, encCs_one, encCs_cells, alenS_encCs]); (try with_reducible rfl); done)); all_goals (intro _hg; (try simp only [ZB] at _hg); try first | exact absurd trivial _hg | (exfalso; omega))) | (refine e_ends rfl ?_) | (apply r_1; (focus (simp only [rv, simB0, ZA, reduceEqDiff, ↓reduceIte, reduceAdd, reduceLeDiff, encCs_one, encCs_cells, alenS_encCs]; with_reducible rfl))))
    exact .int _ _

theorem fewVsR (l : List (List Int)) (hl : Sh l) (hs : ∀ x ∈ l, Sh x) : Pure Tryz.prog 42 [encVV l, .int .i64 30] (.bool (fewVs l)) := by
  refine Pure.of_c2 follows is42 (Nat.le_of_ble_eq_true rfl) ?_
  simp only [b42, O, G, N, M, D, F, B2, cFal, cTru]
  have hl' : l.length ≤ 17592186044416 := hl
  unfold fewVs
  by_cases h0 : l.length ≤ 30
  rotate_left
  · rw [decide_eq_false h0]
    repeat' (first | apply w_seq | apply w_ops0 | apply w_ret | apply a_n | apply a_r | apply o_nil | (apply o_val rfl rfl; (focus ((try simp (disch := omega) only [simB0, ZA, reduceEqDiff, ↓reduceIte, reduceAdd, reduceLeDiff, ZV, reduceCtorEq]); first | with_reducible rfl | (apply s_ite; (focus omega); with_reducible rfl)))) | (apply w_cond; (focus ((try simp only [simB0, ZA, reduceEqDiff, ↓reduceIte, reduceAdd, reduceLeDiff]); (try with_reducible rfl); done)); all_goals (intro _hg; (try simp only [ZB] at _hg); try first | exact absurd trivial _hg | (exfalso; omega))) | (refine e_ends rfl ?_) | (apply r_1; (focus (simp only [rv, simB0, ZA, reduceEqDiff, ↓reduceIte, reduceAdd, reduceLeDiff]; with_reducible rfl))))
    exact .bool _
  rw [decide_eq_true h0, Bool.true_and]
  repeat' (first | apply w_seq | apply w_ops0 | apply w_block | apply w_skip | apply a_n | apply o_nil | (apply o_val rfl rfl; (focus ((try simp (disch := omega) only [simB0, ZA, reduceEqDiff, ↓reduceIte, reduceAdd, reduceLeDiff, ZV, reduceCtorEq]); first | with_reducible rfl | (apply s_ite; (focus omega); with_reducible rfl)))) | (apply w_cond; (focus ((try simp only [simB0, ZA, reduceEqDiff, ↓reduceIte, reduceAdd, reduceLeDiff]); (try with_reducible rfl); done)); all_goals (intro _hg; (try simp only [ZB] at _hg); try first | exact absurd trivial _hg | (exfalso; omega))) | apply w_loop)
  refine loopA (fun k => [(0, encVV l), (5, .int .i64 k)]) l.length (fun k => decide ((l.getD k default).length ≤ 10) = true) (by simp (disch := omega) only [agr, ZG, reduceEqDiff, ↓reduceIte]) ?_
  intro k hk hz
  by_cases hk2 : k < l.length
  rotate_left
  · repeat' (first | apply w_seq | apply w_ops0 | apply w_exit | apply w_ret | apply a_n | apply a_x | apply o_nil | (apply o_val rfl rfl; (focus ((try simp (disch := omega) only [simB0, ZA, reduceEqDiff, ↓reduceIte, reduceAdd, reduceLeDiff, ZV, reduceCtorEq]); first | with_reducible rfl | (apply s_ite; (focus omega); with_reducible rfl)))) | (apply w_cond; (focus ((try simp only [simB0, ZA, reduceEqDiff, ↓reduceIte, reduceAdd, reduceLeDiff]); (try with_reducible rfl); done)); all_goals (intro _hg; (try simp only [ZB] at _hg); try first | exact absurd trivial _hg | (exfalso; omega))) | (refine e_ends rfl ?_) | (apply r_1; (focus (simp only [rv, simB0, ZA, reduceEqDiff, ↓reduceIte, reduceAdd, reduceLeDiff]; with_reducible rfl))))
    rw [all_true fun i hi => hz i (by omega)]
    exact .bool _
  have hsk : (l.getD k default).length ≤ 17592186044416 := hs _ (mem_getD hk2)
  by_cases hE : (l.getD k default).length ≤ 10
  · repeat' (first | apply w_seq | apply w_ops0 | apply w_block | apply w_skip | apply a_n | apply o_nil | (apply o_val rfl rfl; (focus ((try simp (disch := omega) only [simB0, ZA, reduceEqDiff, ↓reduceIte, reduceAdd, reduceLeDiff, ZV, reduceCtorEq]); first | with_reducible rfl | (apply s_ite; (focus omega); with_reducible rfl)))) | (apply w_cond; (focus ((try simp only [simB0, ZA, reduceEqDiff, ↓reduceIte, reduceAdd, reduceLeDiff]); (try with_reducible rfl); done)); all_goals (intro _hg; (try simp only [ZB] at _hg); try first | exact absurd trivial _hg | (exfalso; omega))))
    exact ⟨hk2, decide_eq_true hE, by simp (disch := omega) only [agr, ZG, reduceEqDiff, ↓reduceIte], rfl, rfl⟩
  · repeat' (first | apply w_seq | apply w_ops0 | apply w_block | apply w_skip | apply w_ret | apply a_n | apply a_r | apply o_nil | (apply o_val rfl rfl; (focus ((try simp (disch := omega) only [simB0, ZA, reduceEqDiff, ↓reduceIte, reduceAdd, reduceLeDiff, ZV, reduceCtorEq]); first | with_reducible rfl | (apply s_ite; (focus omega); with_reducible rfl)))) | (apply w_cond; (focus ((try simp only [simB0, ZA, reduceEqDiff, ↓reduceIte, reduceAdd, reduceLeDiff]); (try with_reducible rfl); done)); all_goals (intro _hg; (try simp only [ZB] at _hg); try first | exact absurd trivial _hg | (exfalso; omega))) | (refine e_ends rfl ?_) | (apply r_1; (focus (simp only [rv, simB0, ZA, reduceEqDiff, ↓reduceIte, reduceAdd, reduceLeDiff]; with_reducible rfl))))
    rw [all_false (p := fun v => decide (v.length ≤ 10)) hk2 (decide_eq_false hE)]
    exact .bool _

theorem fewR (t : TaskV) (hs : ∀ c ∈ t.cases, ShC c) (hsc : Sh t.cases) : Pure Tryz.prog 10 [encT t] (.bool (fewT t)) := by
  refine Pure.of_c2 follows is10 (Nat.le_of_ble_eq_true rfl) ?_
  simp only [b10, O, G, N, M, D, F, B2, cFal, cTru]
  have hsc' : t.cases.length ≤ 17592186044416 := hsc
  unfold fewT encT
  by_cases h0 : t.cases.length ≤ 30
  rotate_left
  · rw [decide_eq_false h0]
    repeat' (first | apply w_seq | apply w_ops0 | apply w_ret | apply a_n | apply a_r | apply o_nil | (apply o_val rfl rfl; (focus ((try simp (disch := omega) only [simB0, ZA, reduceEqDiff, ↓reduceIte, reduceAdd, reduceLeDiff, ZV, reduceCtorEq, encCs_one, encCs_cells, alenS_encCs]); first | with_reducible rfl | (apply s_ite; (focus omega); with_reducible rfl)))) | (apply e_box rfl; (iterate 2 (focus ((try simp only [simB0, ZA, reduceEqDiff, ↓reduceIte, reduceAdd, reduceLeDiff, encCs_one, encCs_cells, alenS_encCs]); (try with_reducible rfl); done))); (focus (simp only [SO, Bool.and_self, one_encV, one_encVV, encCs_one, encCs_cells, alenS_encCs]))) | (apply w_cond; (focus ((try simp only [simB0, ZA, reduceEqDiff, ↓reduceIte, reduceAdd, reduceLeDiff, encCs_one, encCs_cells, alenS_encCs]); (try with_reducible rfl); done)); all_goals (intro _hg; (try simp only [ZB] at _hg); try first | exact absurd trivial _hg | (exfalso; omega))) | (refine e_ends rfl ?_) | (apply r_1; (focus (simp only [rv, simB0, ZA, reduceEqDiff, ↓reduceIte, reduceAdd, reduceLeDiff, encCs_one, encCs_cells, alenS_encCs]; with_reducible rfl))))
    exact .bool _
  rw [decide_eq_true h0, Bool.true_and]
  repeat' (first | apply w_seq | apply w_ops0 | apply w_block | apply w_skip | apply a_n | apply o_nil | (apply o_val rfl rfl; (focus ((try simp (disch := omega) only [simB0, ZA, reduceEqDiff, ↓reduceIte, reduceAdd, reduceLeDiff, ZV, reduceCtorEq, encCs_one, encCs_cells, alenS_encCs]); first | with_reducible rfl | (apply s_ite; (focus omega); with_reducible rfl)))) | (apply e_box rfl; (iterate 2 (focus ((try simp only [simB0, ZA, reduceEqDiff, ↓reduceIte, reduceAdd, reduceLeDiff, encCs_one, encCs_cells, alenS_encCs]); (try with_reducible rfl); done))); (focus (simp only [SO, Bool.and_self, one_encV, one_encVV, encCs_one, encCs_cells, alenS_encCs]))) | (apply w_cond; (focus ((try simp only [simB0, ZA, reduceEqDiff, ↓reduceIte, reduceAdd, reduceLeDiff, encCs_one, encCs_cells, alenS_encCs]); (try with_reducible rfl); done)); all_goals (intro _hg; (try simp only [ZB] at _hg); try first | exact absurd trivial _hg | (exfalso; omega))) | apply w_loop)
  refine loopI (X := Nat) (fun k => [(1, .ptr 0 4 0), (3, .int .i64 k)]) (fun k H nx => k ≤ t.cases.length ∧ (∀ i, i < k → fewC (t.cases.getD i default) = true) ∧ 1 ≤ nx ∧ H 0 = some [.int .i64 t.n, .int .i64 t.ins, .int .i64 t.outs, encCs t.cases]) (fun k => t.cases.length - k) 0 ⟨Nat.zero_le _, fun i h => absurd h (by omega), Nat.le_refl _, rfl⟩ (by simp (disch := omega) only [agr, ZG, reduceEqDiff, ↓reduceIte, List.length_cons, List.length_nil]) ?_
  rintro k H nx ⟨hk, hz, hn, g0⟩
  by_cases hk2 : k < t.cases.length
  rotate_left
  · repeat' (first | apply w_seq | apply w_ops0 | apply w_exit | apply w_ret | apply a_n | apply a_x | apply o_nil | (apply o_val rfl; (focus (first | rfl | (simp (disch := omega) only [dm2, oldP, newP, simB0, ZA, reduceEqDiff, ↓reduceIte, reduceAdd, reduceLeDiff, decide_eq_true_eq]; first | done | omega))); (focus ((try simp (disch := omega) only [simB2, ZA, reduceEqDiff, ↓reduceIte, reduceAdd, reduceLeDiff, ZV, reduceCtorEq, g0, encCs_one, encCs_cells, alenS_encCs]); first | with_reducible rfl | (apply s_ite; (focus omega); with_reducible rfl)))) | (apply w_cond; (focus ((try simp (disch := omega) only [simB2, ZA, reduceEqDiff, ↓reduceIte, reduceAdd, reduceLeDiff, g0, encCs_one, encCs_cells, alenS_encCs]); (try with_reducible rfl); done)); all_goals (intro _hg; (try simp (disch := omega) only [ZB] at _hg); try first | exact absurd trivial _hg | (exfalso; omega))) | (refine e_ends rfl ?_) | (apply r_1; (focus (simp (disch := omega) only [rv, simB2, ZA, reduceEqDiff, ↓reduceIte, reduceAdd, reduceLeDiff, g0, encCs_one, encCs_cells, alenS_encCs]; with_reducible rfl))))
    rw [all_true fun i hi => hz i (by omega)]
    exact .bool _
  have ix := aixS_encCs hk2
  obtain ⟨s1, s2, s3, s4, s5⟩ := hs _ (mem_getD hk2)
  have hf1 := fewVsR _ s2 s3
  have hf2 := fewVsR _ s4 s5
  have hF : fewC (t.cases.getD k default) = (decide ((t.cases.getD k default).inp.length ≤ 10) && fewVs (t.cases.getD k default).out && fewVs (t.cases.getD k default).calm) := rfl
  have hno : fewC (t.cases.getD k default) = false → Snap H (.bool false) (.bool (t.cases.all fewC)) := fun h => by
    rw [all_false hk2 h]; exact .bool _
  have hno' : ∀ {H'}, fewC (t.cases.getD k default) = false → Snap H' (.bool false) (.bool (t.cases.all fewC)) := fun h => by
    rw [all_false hk2 h]; exact .bool _
  have s1' : (t.cases.getD k default).inp.length ≤ 17592186044416 := s1
  generalize fewVs (t.cases.getD k default).out = F1 at *
  generalize fewVs (t.cases.getD k default).calm = F2 at *
  by_cases hl : (t.cases.getD k default).inp.length ≤ 10
  rotate_left
  · rw [decide_eq_false hl] at hF
    repeat' (first | apply w_seq | apply w_ops0 | apply w_block | apply w_skip | apply w_ret | apply a_n | apply a_r | apply o_nil | (apply o_val rfl; (focus (first | rfl | (simp (disch := omega) only [dm2, oldP, newP, simB0, ZA, reduceEqDiff, ↓reduceIte, reduceAdd, reduceLeDiff, decide_eq_true_eq]; first | done | omega))); (focus ((try simp (disch := omega) only [simB2, ZA, reduceEqDiff, ↓reduceIte, reduceAdd, reduceLeDiff, ZV, reduceCtorEq, g0, encCs_one, encCs_cells, alenS_encCs, ix]); first | with_reducible rfl | (apply s_ite; (focus omega); with_reducible rfl)))) | (apply e_alloc rfl; (focus ((try simp (disch := omega) only [simB2, ZA, reduceEqDiff, ↓reduceIte, reduceAdd, reduceLeDiff, g0, encCs_one, encCs_cells, alenS_encCs, ix]); (try with_reducible rfl); done)); (focus (simp (disch := omega) only [SO, Bool.and_self, one_encV, one_encVV, g0, encCs_one, encCs_cells, alenS_encCs, ix]))) | (apply e_st; (focus (first | rfl | (simp (disch := omega) only [dm2, oldP, newP, simB0, ZA, reduceEqDiff, ↓reduceIte, reduceAdd, reduceLeDiff, decide_eq_true_eq]; first | done | omega))); (iterate 4 (focus ((try simp (disch := omega) only [simB2, ZA, reduceEqDiff, ↓reduceIte, reduceAdd, reduceLeDiff, g0, encCs_one, encCs_cells, alenS_encCs, ix]); (try with_reducible rfl); done))); (focus (simp (disch := omega) only [SO, Bool.and_self, one_encV, one_encVV, g0, encCs_one, encCs_cells, alenS_encCs, ix])); (iterate 3 (focus ((try simp (disch := omega) only [SL, reduceAdd, Nat.reduceMul, List.length_map]); first | done | omega)))) | (apply o_gF; (focus (simp (disch := omega) only [simB2, ZA, reduceEqDiff, ↓reduceIte, reduceAdd, reduceLeDiff, or_true, true_or, g0, encCs_one, encCs_cells, alenS_encCs, ix]; done))) | (apply w_condT; (focus (simp (disch := omega) only [simB2, ZA, reduceEqDiff, ↓reduceIte, reduceAdd, reduceLeDiff, g0, encCs_one, encCs_cells, alenS_encCs, ix]; done))) | ((first | apply o_gB | apply w_cond); (focus ((try simp (disch := omega) only [simB2, ZA, reduceEqDiff, ↓reduceIte, reduceAdd, reduceLeDiff, g0, encCs_one, encCs_cells, alenS_encCs, ix]); (try with_reducible rfl); done)); all_goals (intro _hg; (try simp (disch := omega) only [ZB] at _hg); try first | exact absurd trivial _hg | (exfalso; omega))) | (refine e_ends rfl ?_) | (apply r_1; (focus (simp (disch := omega) only [rv, simB2, ZA, reduceEqDiff, ↓reduceIte, reduceAdd, reduceLeDiff, g0, encCs_one, encCs_cells, alenS_encCs, ix]; with_reducible rfl))))
    all_goals exact hno' hF
  rw [decide_eq_true hl, Bool.true_and] at hF
  cases F1 with
  | false =>
    repeat' (first | apply w_seq | apply w_ops0 | apply w_block | apply w_skip | apply w_ret | apply a_n | apply a_r | apply o_nil | (apply o_val rfl; (focus (first | rfl | (simp (disch := omega) only [dm2, oldP, newP, simB0, ZA, reduceEqDiff, ↓reduceIte, reduceAdd, reduceLeDiff, decide_eq_true_eq]; first | done | omega))); (focus ((try simp (disch := omega) only [simB2, ZA, reduceEqDiff, ↓reduceIte, reduceAdd, reduceLeDiff, ZV, reduceCtorEq, g0, encCs_one, encCs_cells, alenS_encCs, ix, Bool.false_eq_true]); first | with_reducible rfl | (apply s_ite; (focus omega); with_reducible rfl)))) | (apply o_callD; (iterate 2 (focus ((try simp (disch := omega) only [simB2, ZA, reduceEqDiff, ↓reduceIte, reduceAdd, reduceLeDiff, g0, encCs_one, encCs_cells, alenS_encCs, ix, Bool.false_eq_true]); (try with_reducible rfl); done))); (focus (first | (exact hf1) | (exact hf2))); (focus ((first | refine snap_plain ?_ rfl | apply snap_data); repeat' (first | exact snapL_nil | apply snapL_i | apply snapL_dat)))) | (apply e_alloc rfl; (focus ((try simp (disch := omega) only [simB2, ZA, reduceEqDiff, ↓reduceIte, reduceAdd, reduceLeDiff, g0, encCs_one, encCs_cells, alenS_encCs, ix, Bool.false_eq_true]); (try with_reducible rfl); done)); (focus (simp (disch := omega) only [SO, Bool.and_self, one_encV, one_encVV, g0, encCs_one, encCs_cells, alenS_encCs, ix, Bool.false_eq_true]))) | (apply e_st; (focus (first | rfl | (simp (disch := omega) only [dm2, oldP, newP, simB0, ZA, reduceEqDiff, ↓reduceIte, reduceAdd, reduceLeDiff, decide_eq_true_eq]; first | done | omega))); (iterate 4 (focus ((try simp (disch := omega) only [simB2, ZA, reduceEqDiff, ↓reduceIte, reduceAdd, reduceLeDiff, g0, encCs_one, encCs_cells, alenS_encCs, ix, Bool.false_eq_true]); (try with_reducible rfl); done))); (focus (simp (disch := omega) only [SO, Bool.and_self, one_encV, one_encVV, g0, encCs_one, encCs_cells, alenS_encCs, ix, Bool.false_eq_true])); (iterate 3 (focus ((try simp (disch := omega) only [SL, reduceAdd, Nat.reduceMul, List.length_map]); first | done | omega)))) | (apply o_gT; (focus (simp (disch := omega) only [simB2, ZA, reduceEqDiff, ↓reduceIte, reduceAdd, reduceLeDiff, g0, encCs_one, encCs_cells, alenS_encCs, ix, Bool.false_eq_true]; done))) | (apply o_gF; (focus (simp (disch := omega) only [simB2, ZA, reduceEqDiff, ↓reduceIte, reduceAdd, reduceLeDiff, or_true, true_or, g0, encCs_one, encCs_cells, alenS_encCs, ix, Bool.false_eq_true]; done))) | (apply w_condT; (focus (simp (disch := omega) only [simB2, ZA, reduceEqDiff, ↓reduceIte, reduceAdd, reduceLeDiff, g0, encCs_one, encCs_cells, alenS_encCs, ix, Bool.false_eq_true]; done))) | ((first | apply o_gB | apply w_cond); (focus ((try simp (disch := omega) only [simB2, ZA, reduceEqDiff, ↓reduceIte, reduceAdd, reduceLeDiff, g0, encCs_one, encCs_cells, alenS_encCs, ix, Bool.false_eq_true]); (try with_reducible rfl); done)); all_goals (intro _hg; (try simp (disch := omega) only [ZB] at _hg); try first | exact absurd trivial _hg | (exfalso; omega))) | (refine e_ends rfl ?_) | (apply r_1; (focus (simp (disch := omega) only [rv, simB2, ZA, reduceEqDiff, ↓reduceIte, reduceAdd, reduceLeDiff, g0, encCs_one, encCs_cells, alenS_encCs, ix, Bool.false_eq_true]; with_reducible rfl))))
    all_goals exact hno' hF
  | true =>
    cases F2 with
    | false =>
      repeat' (first | apply w_seq | apply w_ops0 | apply w_block | apply w_skip | apply w_ret | apply a_n | apply a_r | apply o_nil | (apply o_val rfl; (focus (first | rfl | (simp (disch := omega) only [dm2, oldP, newP, simB0, ZA, reduceEqDiff, ↓reduceIte, reduceAdd, reduceLeDiff, decide_eq_true_eq]; first | done | omega))); (focus ((try simp (disch := omega) only [simB2, ZA, reduceEqDiff, ↓reduceIte, reduceAdd, reduceLeDiff, ZV, reduceCtorEq, g0, encCs_one, encCs_cells, alenS_encCs, ix, Bool.false_eq_true]); first | with_reducible rfl | (apply s_ite; (focus omega); with_reducible rfl)))) | (apply o_callD; (iterate 2 (focus ((try simp (disch := omega) only [simB2, ZA, reduceEqDiff, ↓reduceIte, reduceAdd, reduceLeDiff, g0, encCs_one, encCs_cells, alenS_encCs, ix, Bool.false_eq_true]); (try with_reducible rfl); done))); (focus (first | (exact hf1) | (exact hf2))); (focus ((first | refine snap_plain ?_ rfl | apply snap_data); repeat' (first | exact snapL_nil | apply snapL_i | apply snapL_dat)))) | (apply e_alloc rfl; (focus ((try simp (disch := omega) only [simB2, ZA, reduceEqDiff, ↓reduceIte, reduceAdd, reduceLeDiff, g0, encCs_one, encCs_cells, alenS_encCs, ix, Bool.false_eq_true]); (try with_reducible rfl); done)); (focus (simp (disch := omega) only [SO, Bool.and_self, one_encV, one_encVV, g0, encCs_one, encCs_cells, alenS_encCs, ix, Bool.false_eq_true]))) | (apply e_st; (focus (first | rfl | (simp (disch := omega) only [dm2, oldP, newP, simB0, ZA, reduceEqDiff, ↓reduceIte, reduceAdd, reduceLeDiff, decide_eq_true_eq]; first | done | omega))); (iterate 4 (focus ((try simp (disch := omega) only [simB2, ZA, reduceEqDiff, ↓reduceIte, reduceAdd, reduceLeDiff, g0, encCs_one, encCs_cells, alenS_encCs, ix, Bool.false_eq_true]); (try with_reducible rfl); done))); (focus (simp (disch := omega) only [SO, Bool.and_self, one_encV, one_encVV, g0, encCs_one, encCs_cells, alenS_encCs, ix, Bool.false_eq_true])); (iterate 3 (focus ((try simp (disch := omega) only [SL, reduceAdd, Nat.reduceMul, List.length_map]); first | done | omega)))) | (apply o_gT; (focus (simp (disch := omega) only [simB2, ZA, reduceEqDiff, ↓reduceIte, reduceAdd, reduceLeDiff, g0, encCs_one, encCs_cells, alenS_encCs, ix, Bool.false_eq_true]; done))) | (apply w_condT; (focus (simp (disch := omega) only [simB2, ZA, reduceEqDiff, ↓reduceIte, reduceAdd, reduceLeDiff, g0, encCs_one, encCs_cells, alenS_encCs, ix, Bool.false_eq_true]; done))) | ((first | apply o_gB | apply w_cond); (focus ((try simp (disch := omega) only [simB2, ZA, reduceEqDiff, ↓reduceIte, reduceAdd, reduceLeDiff, g0, encCs_one, encCs_cells, alenS_encCs, ix, Bool.false_eq_true]); (try with_reducible rfl); done)); all_goals (intro _hg; (try simp (disch := omega) only [ZB] at _hg); try first | exact absurd trivial _hg | (exfalso; omega))) | (refine e_ends rfl ?_) | (apply r_1; (focus (simp (disch := omega) only [rv, simB2, ZA, reduceEqDiff, ↓reduceIte, reduceAdd, reduceLeDiff, g0, encCs_one, encCs_cells, alenS_encCs, ix, Bool.false_eq_true]; with_reducible rfl))))
      all_goals exact hno' hF
    | true =>
      repeat' (first | apply w_seq | apply w_ops0 | apply w_block | apply w_skip | apply a_n | apply o_nil | (apply o_val rfl; (focus (first | rfl | (simp (disch := omega) only [dm2, oldP, newP, simB0, ZA, reduceEqDiff, ↓reduceIte, reduceAdd, reduceLeDiff, decide_eq_true_eq]; first | done | omega))); (focus ((try simp (disch := omega) only [simB2, ZA, reduceEqDiff, ↓reduceIte, reduceAdd, reduceLeDiff, ZV, reduceCtorEq, g0, encCs_one, encCs_cells, alenS_encCs, ix, Bool.false_eq_true]); first | with_reducible rfl | (apply s_ite; (focus omega); with_reducible rfl)))) | (apply o_callD; (iterate 2 (focus ((try simp (disch := omega) only [simB2, ZA, reduceEqDiff, ↓reduceIte, reduceAdd, reduceLeDiff, g0, encCs_one, encCs_cells, alenS_encCs, ix, Bool.false_eq_true]); (try with_reducible rfl); done))); (focus (first | (exact hf1) | (exact hf2))); (focus ((first | refine snap_plain ?_ rfl | apply snap_data); repeat' (first | exact snapL_nil | apply snapL_i | apply snapL_dat)))) | (apply e_alloc rfl; (focus ((try simp (disch := omega) only [simB2, ZA, reduceEqDiff, ↓reduceIte, reduceAdd, reduceLeDiff, g0, encCs_one, encCs_cells, alenS_encCs, ix, Bool.false_eq_true]); (try with_reducible rfl); done)); (focus (simp (disch := omega) only [SO, Bool.and_self, one_encV, one_encVV, g0, encCs_one, encCs_cells, alenS_encCs, ix, Bool.false_eq_true]))) | (apply e_st; (focus (first | rfl | (simp (disch := omega) only [dm2, oldP, newP, simB0, ZA, reduceEqDiff, ↓reduceIte, reduceAdd, reduceLeDiff, decide_eq_true_eq]; first | done | omega))); (iterate 4 (focus ((try simp (disch := omega) only [simB2, ZA, reduceEqDiff, ↓reduceIte, reduceAdd, reduceLeDiff, g0, encCs_one, encCs_cells, alenS_encCs, ix, Bool.false_eq_true]); (try with_reducible rfl); done))); (focus (simp (disch := omega) only [SO, Bool.and_self, one_encV, one_encVV, g0, encCs_one, encCs_cells, alenS_encCs, ix, Bool.false_eq_true])); (iterate 3 (focus ((try simp (disch := omega) only [SL, reduceAdd, Nat.reduceMul, List.length_map]); first | done | omega)))) | (apply o_gT; (focus (simp (disch := omega) only [simB2, ZA, reduceEqDiff, ↓reduceIte, reduceAdd, reduceLeDiff, g0, encCs_one, encCs_cells, alenS_encCs, ix, Bool.false_eq_true]; done))) | (apply w_condF; (focus (simp (disch := omega) only [simB2, ZA, reduceEqDiff, ↓reduceIte, reduceAdd, reduceLeDiff, g0, encCs_one, encCs_cells, alenS_encCs, ix, Bool.false_eq_true]; done))) | ((first | apply o_gB | apply w_cond); (focus ((try simp (disch := omega) only [simB2, ZA, reduceEqDiff, ↓reduceIte, reduceAdd, reduceLeDiff, g0, encCs_one, encCs_cells, alenS_encCs, ix, Bool.false_eq_true]); (try with_reducible rfl); done)); all_goals (intro _hg; (try simp (disch := omega) only [ZB] at _hg); try first | exact absurd trivial _hg | (exfalso; omega))))
      refine ⟨k + 1, by omega, ⟨by omega, fun i hi => ?_, by omega, ?_⟩, by simp (disch := omega) only [agr, ZG, reduceEqDiff, ↓reduceIte]⟩
      · rcases Nat.lt_succ_iff_lt_or_eq.1 hi with h | rfl
        · exact hz i h
        · exact hF
      · rw [hupd_ne (by omega), hupd_ne (by omega), g0]

end Go.Proofs.YtbiikomnhkbblaaGreat

/- A11: contracts of functions and plain laws; for all inputs that the theorems name. -/
namespace Go.Proofs.YtbiikomnhkbblaaGreat
open Go Go.Abs
/-! ### the examples of the chapter, by a run of the code -/
def codeL : List (Nat × F2) := [(11, b11), (12, b12), (14, b14), (16, b16), (18, b18), (20, b20), (21, b21), (23, b23), (24, b24), (26, b26), (29, b29), (31, b31), (37, b37), (39, b39), (40, b40), (43, b43), (44, b44), (45, b45), (46, b46), (48, b48), (49, b49), (51, b51), (52, b52), (53, b53), (56, b56), (57, b57), (58, b58), (59, b59), (61, b61), (62, b62), (64, b64), (65, b65), (66, b66), (67, b67), (68, b68), (70, b70), (74, b74), (75, b75), (76, b76), (77, b77), (78, b78), (79, b79), (83, b83), (85, b85), (86, b86), (87, b87), (88, b88), (89, b89), (90, b90), (91, b91), (94, b94), (96, b96), (97, b97), (100, b100), (109, b109), (110, b110), (111, b111), (125, b125)]
theorem codes : Codes Tryz.prog (lookup codeL) :=
  (codes_cons is11 (codes_cons is12 (codes_cons is14 (codes_cons is16 (codes_cons is18 (codes_cons is20 (codes_cons is21 (codes_cons is23 (codes_cons is24 (codes_cons is26 (codes_cons is29 (codes_cons is31 (codes_cons is37 (codes_cons is39 (codes_cons is40 (codes_cons is43 (codes_cons is44 (codes_cons is45 (codes_cons is46 (codes_cons is48 (codes_cons is49 (codes_cons is51 (codes_cons is52 (codes_cons is53 (codes_cons is56 (codes_cons is57 (codes_cons is58 (codes_cons is59 (codes_cons is61 (codes_cons is62 (codes_cons is64 (codes_cons is65 (codes_cons is66 (codes_cons is67 (codes_cons is68 (codes_cons is70 (codes_cons is74 (codes_cons is75 (codes_cons is76 (codes_cons is77 (codes_cons is78 (codes_cons is79 (codes_cons is83 (codes_cons is85 (codes_cons is86 (codes_cons is87 (codes_cons is88 (codes_cons is89 (codes_cons is90 (codes_cons is91 (codes_cons is94 (codes_cons is96 (codes_cons is97 (codes_cons is100 (codes_cons is109 (codes_cons is110 (codes_cons is111 (codes_cons is125 codes_nil))))))))))))))))))))))))))))))))))))))))))))))))))))))))))
set_option maxRecDepth 100000 in
theorem awake_c : Go.Abs.Pure Tryz.prog 11 [] (.bool true) := Pure.of_run follows codes (pf := named [43, 16, 18, 21, 24, 26, 29, 31, 12]) (n := 2000) (good := isTrue) (by decide +kernel) isTrue_eq
end Go.Proofs.YtbiikomnhkbblaaGreat

/- T7: contracts of functions and plain laws; for all inputs that the theorems name. -/
namespace Go.Proofs.YtbiikomnhkbblaaGreat
open Go Go.Abs
open Nat (reduceEqDiff reduceAdd reduceLeDiff)
attribute [local irreducible] awp2 aops2 ains aloop athen bbind obind gbind acond res1 Go.Abs.Fn PCall Go.Abs.Pure SnapArgs SnapL Yl

/-! ### TaskChecks -/
end Go.Proofs.YtbiikomnhkbblaaGreat

/- T8: contracts of functions and plain laws; for all inputs that the theorems name. -/
namespace Go.Proofs.YtbiikomnhkbblaaGreat
open Go Go.Abs Go.RowKit

/-! ### the arguments of the laws, opened -/
section
variable {H : Type} {enc : TypeId × Value → H} {W : World}
theorem oi : Opens enc Tryz.prog W 3 (AV.int .i64) (fun n => (Lit.int .i64 n).wf = true) := opens_int Tryz.underlying3
theorem oL1 : Opens enc Tryz.prog W 25 encV Sh :=
  (opens_slice Tryz.underlying25 (sz := 1) (by_ := 8) (by kernel_rfl) (by kernel_rfl) Nat.one_pos (fun _ => rfl) oi).mono fun l h => by have := h.2.2; show _ ≤ _; omega
theorem oL2 : Opens enc Tryz.prog W 38 encVV (fun l => Sh l ∧ ∀ x ∈ l, Sh x) :=
  (opens_slice Tryz.underlying38 (sz := 1) (by_ := 24) (by kernel_rfl) (by kernel_rfl) Nat.one_pos (fun _ => rfl) oL1).mono fun l h => ⟨by have := h.2.2; show _ ≤ _; omega, h.1⟩
set_option maxRecDepth 100000 in
theorem oCase : Opens enc Tryz.prog W 69 encC ShC :=
  (opens_struct Tryz.underlying69 (by kernel_rfl) (opensF_cons (off := 0) (off' := 1) rfl (by kernel_rfl) oL1 (opensF_cons (off := 1) (off' := 2) rfl (by kernel_rfl) oL2 (opensF_cons (off := 2) (off' := 3) rfl (by kernel_rfl) oL2 opensF_nil)))).map
    (fun a => (⟨a.1, a.2.1, a.2.2.1⟩ : CaseV)) (by
      rintro ⟨i, o, c, u⟩ ⟨h1, h2, h3, _⟩
      exact ⟨h1, h2.1, h2.2, h3.1, h3.2⟩) (fun _ _ => rfl)
theorem oCases : Opens enc Tryz.prog W 22 encCs (fun l => Sh l ∧ ∀ c ∈ l, ShC c) :=
  (opens_slice Tryz.underlying22 (sz := 3) (by_ := 72) (by kernel_rfl) (by kernel_rfl) (by omega) (fun _ => rfl) oCase).mono fun l h => ⟨by have := h.2.2; show _ ≤ _; omega, h.1⟩
set_option maxRecDepth 100000 in
theorem oTask : Opens enc Tryz.prog W 24 encT (fun t => Sh t.cases ∧ ∀ c ∈ t.cases, ShC c) :=
  (opens_struct Tryz.underlying24 (by kernel_rfl) (opensF_cons (off := 0) (off' := 1) rfl (by kernel_rfl) oi (opensF_cons (off := 1) (off' := 2) rfl (by kernel_rfl) oi (opensF_cons (off := 2) (off' := 3) rfl (by kernel_rfl) oi (opensF_cons (off := 3) (off' := 4) rfl (by kernel_rfl) oCases opensF_nil))))).map
    (fun a => (⟨a.1, a.2.1, a.2.2.1, a.2.2.2.1⟩ : TaskV)) (by
      rintro ⟨n, i, o, c, u⟩ ⟨_, _, _, h, _⟩
      exact h) (fun _ _ => rfl)
end

theorem calls_of_pureO {f : FuncId} {xs : List AV} {vs : List Value} (h : Go.Abs.Pure Tryz.prog f xs (.bool true)) (w : World) (hv : RelL (E0 (oldB w)) w xs vs) :
    Calls Tryz.prog f vs.toArray w fun e w' => e = .returned (.bool true) ∧ Below w.heap.size w w' := by
  refine (h.2 (oldB w) w vs (fun _ h => h) hv).mono ?_
  rintro e w' ⟨v, imm', rfl, hb, _, _, _, hr⟩
  cases hr
  exact ⟨rfl, hb⟩
theorem laid : laidOutB Tryz.prog = true := by kernel_rfl

end Go.Proofs.YtbiikomnhkbblaaGreat

/- T9: contracts of functions and plain laws; for all inputs that the theorems name. -/
namespace Go.Proofs.YtbiikomnhkbblaaGreat
open Go Go.Abs Go.RowKit Go.ChangeShapes Go.WideShapes Go.ChangeAt

theorem post_of_below {H : Type} {enc : TypeId × Value → H} {P : Program} {f : Func} {s : ChangeSpec} {apart fresh handsOn again : Bool} {W W' : World} {args : Array Value} {v : Value} {ds gs : List (DataW H)} {before pa pv : List MemPlace}
    (hW : DataW.Whole enc P f.params.toList s.vars apart W args.toList ds gs before)
    (hres : ∀ (b : Nat) (sp : Nat → Bool) (hd : Bool), DataW.TrodAll enc P W' b sp hd f.resultTypes.toList (v.resultList f.resultTypes.size) (s.fn H (ds ++ gs)).results [])
    (hargs : ∀ sp : Nat → Bool, (∀ p ∈ before, sp p.block = true) → DataW.TrodAll enc P W' 0 sp true f.params.toList args.toList (s.fn H (ds ++ gs)).args pa)
    (hvars : ∀ sp : Nat → Bool, (∀ p ∈ before, sp p.block = true) → DataW.TrodVars enc P W' sp s.vars (s.fn H (ds ++ gs)).vars pv)
    (hps : before = pa ++ pv) (hb : Below W.heap.size W W')
    (hok : ∀ (j : Nat) (t : TypeId) (r : Value), f.resultTypes[j]? = some t → (v.resultList f.resultTypes.size)[j]? = some r → Value.okWide P W' .any 0 t r) :
    s.post enc P f apart fresh handsOn again W args v W' := by
  have hold : ∀ p ∈ before, (fun b => decide (b < W.heap.size)) p.block = true := fun p hp => by simpa using hW.lt p hp
  have hlt := fun p hp => hW.lt p hp
  refine ⟨ds, gs, before, [], pa, pv, hW, hres _ _ _, hargs _ hold, hvars _ hold, World.keptBut_mono (fun p hp => ⟨hp, ?_⟩) (hb.frame _), fun _ => ?_⟩
  · rw [hps, List.mem_append] at hp
    exact Or.inr hp
  · obtain ⟨_, _, _, _, _, hz, hn⟩ := hW
    refine ⟨hok, _, _, ([] ++ pa) ++ pv, ⟨[] ++ pa, pv, trodAll_append (hargs _ (fun _ _ => rfl)) (hres _ _ _), hvars _ (fun _ _ => rfl), rfl, ?_, ?_⟩, ?_⟩
    · intro b off hp
      have hp' : MemPlace.cell b off ∈ before := by rw [hps]; simpa using hp
      rw [hb.frozen (hlt _ hp')]
      exact hz b off hp'
    · intro ha
      have := hn ha
      rw [hps] at this
      simpa using this
    · intro p hp _
      rw [hps]
      simpa using hp

theorem relL_nil {E : Env} {w : World} : RelL E w [] [] := ⟨rfl, fun i x y h => (by cases h)⟩
theorem relL_cons {E : Env} {w : World} {x : AV} {y : Value} {xs : List AV} {ys : List Value} (h : Rel E w x y) (hs : RelL E w xs ys) : RelL E w (x :: xs) (y :: ys) := by
  refine ⟨by simp [hs.1], fun i a b ha hb => ?_⟩
  cases i with
  | zero => simp at ha hb; subst ha hb; exact h
  | succ i => simp at ha hb; exact hs.2 i a b ha hb
theorem own : ownKnob Tryz.prog.godebug = none := by kernel_rfl

end Go.Proofs.YtbiikomnhkbblaaGreat

/- T10: contracts of functions and plain laws; for all inputs that the theorems name. -/
namespace Go.Proofs.YtbiikomnhkbblaaGreat
open Go Go.Abs
open Nat (reduceEqDiff reduceAdd reduceLeDiff)
theorem asrc_three {H : Hp} {d : Nat} {x y z : AV} : asrc 3 (hupd H d [x, y, z]) (.msl d 3 3 0 1) = some (1, [x, y, z]) := asrc_msl (n := 3) (len := 1) (off := 0) (cs := [x, y, z]) hupd_self' rfl (by simp)
theorem sub_only {H : Hp} {b : Nat} {cs : List AV} (h : H b = some cs) : Sub (only b cs) H := fun x c hx => by
  unfold only at hx; split at hx <;> cases hx; subst_vars; exact h

/-! ### a task with some of its cases -/
def pickC (t : TaskV) (i : Int) : CaseV := t.cases.getD i.toNat default
def pickT (t : TaskV) (l : List Int) : TaskV := ⟨t.n, t.ins, t.outs, l.map (pickC t)⟩
def idxE (t : TaskV) (l : List Int) (k : Nat) : Int := if l.getD k default < 0 ∨ (t.cases.length : Int) ≤ l.getD k default then 6 else if 0 < k ∧ l.getD k default ≤ l.getD (k - 1) default then 14 else 0
def restrictT (t : TaskV) (l : List Int) : TaskV × Int := if checkE t ≠ 0 then (T00, checkE t) else if l.length < 1 ∨ 1024 < l.length then (T00, 5) else if firstI (idxE t l) l.length ≠ 0 then (T00, firstI (idxE t l) l.length) else (pickT t l, 0)
theorem flat3 (l : List CaseV) : ((l.map encC).flatMap AV.cells).length = l.length * 3 := by
  induction l with
  | nil => rfl
  | cons a l ih => rw [List.map_cons, List.flatMap_cons, List.length_append, ih, List.length_cons, Nat.add_mul]; simp [encC, AV.cells]; omega
attribute [local irreducible] awp2 aops2 ains aloop athen bbind obind gbind acond res1 Go.Abs.Fn PCall Go.Abs.Pure SnapArgs SnapL Yl

theorem casesF_c (t : TaskV) (l : List Int) (H : Hp) (nx : Nat) : Abs.Fn Tryz.prog 64 [encT t, encV l] H nx fun r H' nx' => r = .func 87 [.ptr (nx + 1) 1 0, .ptr nx 4 0] ∧ H' = hupd (hupd H nx [.int .i64 t.n, .int .i64 t.ins, .int .i64 t.outs, encCs t.cases]) (nx + 1) [encV l] ∧ nx' = nx + 2 := by
  refine Abs.Fn.of_c2 follows is64 (Nat.le_of_ble_eq_true rfl) ?_
  simp only [b64, O, G, N, M, D, F, B2, cFal, cTru]
  unfold encT
  repeat' (first | apply w_seq | apply w_ops0 | apply w_ret | apply a_n | apply o_nil | (apply o_val rfl rfl; (focus ((try simp (disch := omega) only [simB0, ZA, reduceEqDiff, ↓reduceIte, reduceAdd, reduceLeDiff, ZV, reduceCtorEq, encCs_one, encCs_cells]); first | with_reducible rfl | (apply s_ite; (focus omega); with_reducible rfl)))) | (apply e_box rfl; (iterate 2 (focus ((try simp only [simB0, ZA, reduceEqDiff, ↓reduceIte, reduceAdd, reduceLeDiff, encCs_one, encCs_cells]); (try with_reducible rfl); done))); (focus (simp only [SO, Bool.and_self, one_encV, one_encVV, encCs_one, encCs_cells]))) | (refine e_ends rfl ?_) | (apply r_1; (focus (simp only [rv, simB0, ZA, reduceEqDiff, ↓reduceIte, reduceAdd, reduceLeDiff, encCs_one, encCs_cells]; with_reducible rfl))))
  exact ⟨rfl, rfl, rfl⟩

theorem cases1_c {y a b : Nat} {t : TaskV} {l : List Int} {H : Hp} {nx : Nat} (hl : ∀ x ∈ l, 0 ≤ x ∧ x < t.cases.length) (hll : l.length ≤ 100000) (hs : ∀ c ∈ t.cases, ShC c) (hq : ∀ c ∈ t.cases, c.out.length ≤ 100000 ∧ c.calm.length ≤ 100000) (I : Nat → Hp → Nat → Prop)
    (hp : ∀ k H' nx', I k H' nx' → H' b = some [encV l] ∧ H' a = some [.int .i64 t.n, .int .i64 t.ins, .int .i64 t.outs, encCs t.cases])
    (stab : ∀ k H H' nx' nx'', I k H nx' → nx' ≤ nx'' → (∀ i, i < nx' → H' i = H i) → I k H' nx'') (h0 : I 0 H nx)
    (rnd : ∀ k H' nx', k < l.length → I k H' nx' → nx ≤ nx' → Yl Tryz.prog y [encC (pickC t (l.getD k default))] H' nx' fun r H'' nx'' => r = .bool true ∧ I (k + 1) H'' nx'' ∧ nx' ≤ nx'') :
    Abs.Fn Tryz.prog 87 [.yld y, .ptr b 1 0, .ptr a 4 0] H nx fun _ H' nx' => I l.length H' nx' := by
  refine Abs.Fn.of_c2 follows is87 (Nat.le_of_ble_eq_true rfl) ?_
  simp only [b87, O, G, N, M, D, F, B2, cFal, cTru]
  obtain ⟨g1, g2⟩ := hp _ _ _ h0
  repeat' (first | apply w_seq | apply w_ops0 | apply w_block | apply a_n | apply o_nil | (apply o_val rfl rfl; (focus ((try simp (disch := omega) only [simB0, ZA, reduceEqDiff, ↓reduceIte, reduceAdd, reduceLeDiff, ZV, reduceCtorEq, g1, g2]); first | with_reducible rfl | (apply s_ite; (focus omega); with_reducible rfl)))) | apply w_loop)
  refine loopI (X := Nat) (fun k => [(0, .yld y), (1, .ptr b 1 0), (2, .ptr a 4 0), (7, encV l), (8, .int .i64 l.length), (9, .int .i64 k)]) (fun k H' nx' => k ≤ l.length ∧ I k H' nx' ∧ nx ≤ nx') (fun k => l.length - k) 0 ⟨Nat.zero_le _, h0, Nat.le_refl _⟩ (by simp (disch := omega) only [agr, ZG, reduceEqDiff, ↓reduceIte]) ?_
  rintro k H1 nx1 ⟨hk, hI, hle⟩
  obtain ⟨j1, j2⟩ := hp _ _ _ hI
  by_cases hk2 : k < l.length
  rotate_left
  · repeat' (first | apply w_seq | apply w_ops0 | apply w_exit | apply a_n | apply a_x | apply o_nil | (apply o_val rfl rfl; (focus ((try simp (disch := omega) only [simB0, ZA, reduceEqDiff, ↓reduceIte, reduceAdd, reduceLeDiff, ZV, reduceCtorEq]); first | with_reducible rfl | (apply s_ite; (focus omega); with_reducible rfl)))) | (apply w_cond; (focus ((try simp only [simB0, ZA, reduceEqDiff, ↓reduceIte, reduceAdd, reduceLeDiff]); (try with_reducible rfl); done)); all_goals (intro _hg; (try simp only [ZB] at _hg); try first | exact absurd trivial _hg | (exfalso; omega))) | (refine e_ends rfl ?_) | apply r_0)
    have e : k = l.length := by omega
    exact e ▸ hI
  have hr := hl _ (mem_getD hk2)
  obtain ⟨i, hi⟩ : ∃ i : Nat, l.getD k default = i := ⟨(l.getD k default).toNat, by omega⟩
  have hic : i < t.cases.length := by omega
  have ix := aixS_encCs hic
  have hpk : pickC t (l.getD k default) = t.cases.getD i default := by unfold pickC; rw [hi]; rfl
  have hrk := fun H' nx' => rnd k H' nx' hk2
  rw [hpk] at hrk
  have hm := mem_getD hic
  obtain ⟨s1, s2, s3, s4, s5⟩ := hs _ hm
  obtain ⟨q1, q2⟩ := hq _ hm
  clear rnd hpk hm
  generalize t.cases.getD i default = c at *
  obtain ⟨inp, out, calm⟩ := c
  dsimp only at *
  have hcl := cloneF_c inp s1
  have hcp1 := copied_c out q1 s3
  have hcp2 := copied_c calm q2 s5
  repeat' (first | apply w_seq | apply w_ops0 | apply w_block | apply w_skip | apply a_n | apply o_nil | (apply o_val rfl; (focus (first | rfl | (simp (disch := omega) only [dm2, oldP, newP, simB0, ZA, reduceEqDiff, ↓reduceIte, reduceAdd, reduceLeDiff, decide_eq_true_eq]; first | done | omega))); (focus ((try simp (disch := omega) only [simB2, ZA, reduceEqDiff, ↓reduceIte, reduceAdd, reduceLeDiff, ZV, reduceCtorEq, j1, j2, hi, ix, encCs_one, encCs_cells, acells]); first | with_reducible rfl | (apply s_ite; (focus omega); with_reducible rfl)))) | (apply e_alloc rfl; (focus ((try simp (disch := omega) only [simB2, ZA, reduceEqDiff, ↓reduceIte, reduceAdd, reduceLeDiff, j1, j2, hi, ix, encCs_one, encCs_cells, acells]); (try with_reducible rfl); done)); (focus (simp (disch := omega) only [SO, Bool.and_self, one_encV, one_encVV, j1, j2, hi, ix, encCs_one, encCs_cells, acells]))) | (apply e_st; (focus (first | rfl | (simp (disch := omega) only [dm2, oldP, newP, simB0, ZA, reduceEqDiff, ↓reduceIte, reduceAdd, reduceLeDiff, decide_eq_true_eq]; first | done | omega))); (iterate 4 (focus ((try simp (disch := omega) only [simB2, ZA, reduceEqDiff, ↓reduceIte, reduceAdd, reduceLeDiff, j1, j2, hi, ix, encCs_one, encCs_cells, acells]); (try with_reducible rfl); done))); (focus (simp (disch := omega) only [SO, Bool.and_self, one_encV, one_encVV, j1, j2, hi, ix, encCs_one, encCs_cells, acells])); (iterate 3 (focus ((try simp (disch := omega) only [SL, reduceAdd, Nat.reduceMul, List.length_map]); first | done | omega)))) | (apply w_cond; (focus ((try simp (disch := omega) only [simB2, ZA, reduceEqDiff, ↓reduceIte, reduceAdd, reduceLeDiff, j1, j2, hi, ix, encCs_one, encCs_cells, acells]); (try with_reducible rfl); done)); all_goals (intro _hg; (try simp (disch := omega) only [ZB] at _hg); try first | exact absurd trivial _hg | (exfalso; omega))))
  refine w_mixS (only nx1 [encV inp, encVV out, encVV calm]) rfl (sub_only hupd_self') ?_
  have hS : only nx1 [encV inp, encVV out, encVV calm] nx1 = some [encV inp, encVV out, encVV calm] := only_at
  repeat' (first | (apply n_val; (focus ((try simp (disch := omega) only [simB2, ZA, reduceEqDiff, ↓reduceIte, reduceAdd, reduceLeDiff, ZV, reduceCtorEq, hS]); first | with_reducible rfl | (apply s_ite; (focus omega); with_reducible rfl)))))
  refine n_keep ?_
  refine o_callF (by ((try simp only [simB0, ZA, reduceEqDiff, ↓reduceIte, reduceAdd, reduceLeDiff]); (try with_reducible rfl))) (by ((try simp only [simB0, ZA, reduceEqDiff, ↓reduceIte, reduceAdd, reduceLeDiff]); (try with_reducible rfl))) hcl (snapL_cons (encV_dat _ _) snapL_nil) ?_
  refine o_nil ⟨sub_only hupd_self', ?_⟩
  refine n_keep ?_
  refine o_callP (by ((try simp only [simB0, ZA, reduceEqDiff, ↓reduceIte, reduceAdd, reduceLeDiff]); (try with_reducible rfl))) (by ((try simp only [simB0, ZA, reduceEqDiff, ↓reduceIte, reduceAdd, reduceLeDiff]); (try with_reducible rfl))) hcp1 (snap_data (snapL_cons (encVV_dat _ _) snapL_nil)) ?_
  refine o_nil ⟨sub_only hupd_self', ?_⟩
  repeat' (first | apply n_any)
  refine o_callP (by ((try simp only [simB0, ZA, reduceEqDiff, ↓reduceIte, reduceAdd, reduceLeDiff]); (try with_reducible rfl))) (by ((try simp only [simB0, ZA, reduceEqDiff, ↓reduceIte, reduceAdd, reduceLeDiff]); (try with_reducible rfl))) hcp2 (snap_data (snapL_cons (encVV_dat _ _) snapL_nil)) ?_
  repeat' (first | apply o_nil | (apply n_val; (focus ((try simp (disch := omega) only [simB2, ZA, reduceEqDiff, ↓reduceIte, reduceAdd, reduceLeDiff, ZV, reduceCtorEq, hS]); first | with_reducible rfl | (apply s_ite; (focus omega); with_reducible rfl)))) | apply n_any)
  refine o_yield (by ((try simp only [simB0, ZA, reduceEqDiff, ↓reduceIte, reduceAdd, reduceLeDiff]); (try with_reducible rfl))) (by ((try simp only [simB0, ZA, reduceEqDiff, ↓reduceIte, reduceAdd, reduceLeDiff]); (try with_reducible rfl)); all_goals rfl) (Yl.mono (hrk _ (nx1 + 1) (stab _ _ _ _ _ hI (Nat.le_succ _) (fun x hx => by rw [hupd_ne (by omega), hupd_ne (by omega)])) (by omega)) ?_)
  rintro r H2 nx2 ⟨rfl, hI2, hle2⟩
  repeat' (first | apply w_ops0 | apply w_skip | apply a_n | apply o_nil | (apply o_val rfl; (focus (first | rfl | (simp (disch := omega) only [dm2, oldP, newP, simB0, ZA, reduceEqDiff, ↓reduceIte, reduceAdd, reduceLeDiff, decide_eq_true_eq]; first | done | omega))); (focus ((try simp (disch := omega) only [simB2, ZA, reduceEqDiff, ↓reduceIte, reduceAdd, reduceLeDiff, ZV, reduceCtorEq, hS]); first | with_reducible rfl | (apply s_ite; (focus omega); with_reducible rfl)))) | (apply n_val; (focus ((try simp (disch := omega) only [simB2, ZA, reduceEqDiff, ↓reduceIte, reduceAdd, reduceLeDiff, ZV, reduceCtorEq, hS]); first | with_reducible rfl | (apply s_ite; (focus omega); with_reducible rfl)))) | (apply w_condF; (focus (simp (disch := omega) only [simB2, ZA, reduceEqDiff, ↓reduceIte, reduceAdd, reduceLeDiff, hS]; done))))
  exact ⟨k + 1, by omega, ⟨by omega, hI2, by omega⟩, by simp (disch := omega) only [agr, ZG, reduceEqDiff, ↓reduceIte]⟩

theorem restrict_c (t : TaskV) (l : List Int) (hs : ∀ c ∈ t.cases, ShC c) (hsc : Sh t.cases) (hq : ∀ c ∈ t.cases, c.out.length ≤ 100000 ∧ c.calm.length ≤ 100000) (hl : Sh l) : Pure Tryz.prog 24 [encT t, encV l] (.tup [encT (restrictT t l).1, .int .i64 (restrictT t l).2]) := by
  refine Pure.of_c2 follows is24 (Nat.le_of_ble_eq_true rfl) ?_
  simp only [b24, O, G, N, M, D, F, B2, cFal, cTru]
  have hl' : l.length ≤ 17592186044416 := hl
  have hsc' : t.cases.length ≤ 17592186044416 := hsc
  have hc := check_c t hs hsc
  have d2 := encT_dat t
  by_cases he : checkE t = 0
  rotate_left
  · have e : restrictT t l = (T00, checkE t) := by unfold restrictT; rw [if_pos he]
    rw [e]
    generalize checkE t = C at *
    unfold encT at hc d2
    rw [show encT t = .agg [.int .i64 t.n, .int .i64 t.ins, .int .i64 t.outs, encCs t.cases] from rfl]
    repeat' (first | apply w_seq | apply w_ops0 | apply w_ret | apply a_n | apply a_r | apply o_nil | (apply o_val rfl rfl; (focus ((try simp (disch := omega) only [simB0, ZA, reduceEqDiff, ↓reduceIte, reduceAdd, reduceLeDiff, ZV, reduceCtorEq, encCs_one, encCs_cells, alenS_encCs]); first | with_reducible rfl | (apply s_ite; (focus omega); with_reducible rfl)))) | (apply o_callD; (iterate 2 (focus ((try simp only [simB0, ZA, reduceEqDiff, ↓reduceIte, reduceAdd, reduceLeDiff, encCs_one, encCs_cells, alenS_encCs]); (try with_reducible rfl); done))); (focus (first | (exact hc))); (focus ((first | refine snap_plain ?_ rfl | apply snap_data); repeat' (first | exact snapL_nil | apply snapL_i | apply snapL_dat | exact d2)))) | (apply e_alloc rfl; (focus ((try simp only [simB0, ZA, reduceEqDiff, ↓reduceIte, reduceAdd, reduceLeDiff, encCs_one, encCs_cells, alenS_encCs]); (try with_reducible rfl); done)); (focus (simp only [SO, Bool.and_self, one_encV, one_encVV, encCs_one, encCs_cells, alenS_encCs]))) | (apply e_box rfl; (iterate 2 (focus ((try simp only [simB0, ZA, reduceEqDiff, ↓reduceIte, reduceAdd, reduceLeDiff, encCs_one, encCs_cells, alenS_encCs]); (try with_reducible rfl); done))); (focus (simp only [SO, Bool.and_self, one_encV, one_encVV, encCs_one, encCs_cells, alenS_encCs]))) | (apply e_st rfl; (iterate 4 (focus ((try simp only [simB0, ZA, reduceEqDiff, ↓reduceIte, reduceAdd, reduceLeDiff, encCs_one, encCs_cells, alenS_encCs]); (try with_reducible rfl); done))); (focus (simp only [SO, Bool.and_self, one_encV, one_encVV, encCs_one, encCs_cells, alenS_encCs])); (iterate 3 (focus ((try simp only [SL, reduceAdd, Nat.reduceMul, List.length_map]); first | done | omega)))) | (apply w_cond; (focus ((try simp only [simB0, ZA, reduceEqDiff, ↓reduceIte, reduceAdd, reduceLeDiff, encCs_one, encCs_cells, alenS_encCs]); (try with_reducible rfl); done)); all_goals (intro _hg; (try simp only [ZB] at _hg); try first | exact absurd trivial _hg | (exfalso; omega))) | (refine e_ends rfl ?_) | (apply r_2; (iterate 2 (focus (simp only [rv, simB0, ZA, reduceEqDiff, ↓reduceIte, reduceAdd, reduceLeDiff, encCs_one, encCs_cells, alenS_encCs]; with_reducible rfl)))))
    exact snapErr _
  rw [he] at hc
  by_cases h1 : l.length < 1 ∨ 1024 < l.length
  · have e : restrictT t l = (T00, 5) := by unfold restrictT; rw [if_neg (fun h => h he), if_pos h1]
    rw [e]
    unfold encT at hc d2
    rw [show encT t = .agg [.int .i64 t.n, .int .i64 t.ins, .int .i64 t.outs, encCs t.cases] from rfl]
    repeat' (first | apply w_seq | apply w_ops0 | apply w_skip | apply w_ret | apply a_n | apply a_r | apply o_nil | (apply o_val rfl rfl; (focus ((try simp (disch := omega) only [simB0, ZA, reduceEqDiff, ↓reduceIte, reduceAdd, reduceLeDiff, ZV, reduceCtorEq, encCs_one, encCs_cells, alenS_encCs]); first | with_reducible rfl | (apply s_ite; (focus omega); with_reducible rfl)))) | (apply o_callD; (iterate 2 (focus ((try simp only [simB0, ZA, reduceEqDiff, ↓reduceIte, reduceAdd, reduceLeDiff, encCs_one, encCs_cells, alenS_encCs]); (try with_reducible rfl); done))); (focus (first | (exact hc))); (focus ((first | refine snap_plain ?_ rfl | apply snap_data); repeat' (first | exact snapL_nil | apply snapL_i | apply snapL_dat | exact d2)))) | (apply e_alloc rfl; (focus ((try simp only [simB0, ZA, reduceEqDiff, ↓reduceIte, reduceAdd, reduceLeDiff, encCs_one, encCs_cells, alenS_encCs]); (try with_reducible rfl); done)); (focus (simp only [SO, Bool.and_self, one_encV, one_encVV, encCs_one, encCs_cells, alenS_encCs]))) | (apply e_box rfl; (iterate 2 (focus ((try simp only [simB0, ZA, reduceEqDiff, ↓reduceIte, reduceAdd, reduceLeDiff, encCs_one, encCs_cells, alenS_encCs]); (try with_reducible rfl); done))); (focus (simp only [SO, Bool.and_self, one_encV, one_encVV, encCs_one, encCs_cells, alenS_encCs]))) | (apply e_st rfl; (iterate 4 (focus ((try simp only [simB0, ZA, reduceEqDiff, ↓reduceIte, reduceAdd, reduceLeDiff, encCs_one, encCs_cells, alenS_encCs]); (try with_reducible rfl); done))); (focus (simp only [SO, Bool.and_self, one_encV, one_encVV, encCs_one, encCs_cells, alenS_encCs])); (iterate 3 (focus ((try simp only [SL, reduceAdd, Nat.reduceMul, List.length_map]); first | done | omega)))) | (apply o_gT; (focus (simp only [simB0, ZA, reduceEqDiff, ↓reduceIte, reduceAdd, reduceLeDiff, encCs_one, encCs_cells, alenS_encCs]; done))) | (apply o_gF; (focus (simp only [simB0, ZA, reduceEqDiff, ↓reduceIte, reduceAdd, reduceLeDiff, or_true, true_or, encCs_one, encCs_cells, alenS_encCs]; done))) | (apply w_condT; (focus (simp only [simB0, ZA, reduceEqDiff, ↓reduceIte, reduceAdd, reduceLeDiff, encCs_one, encCs_cells, alenS_encCs]; done))) | ((first | apply o_gB | apply w_cond); (focus ((try simp only [simB0, ZA, reduceEqDiff, ↓reduceIte, reduceAdd, reduceLeDiff, encCs_one, encCs_cells, alenS_encCs]); (try with_reducible rfl); done)); all_goals (intro _hg; (try simp only [ZB] at _hg); try first | exact absurd trivial _hg | (exfalso; omega))) | (refine e_ends rfl ?_) | (apply r_2; (iterate 2 (focus (simp only [rv, simB0, ZA, reduceEqDiff, ↓reduceIte, reduceAdd, reduceLeDiff, encCs_one, encCs_cells, alenS_encCs]; with_reducible rfl)))))
    all_goals exact snapErr _
  have hR : restrictT t l = if firstI (idxE t l) l.length ≠ 0 then (T00, firstI (idxE t l) l.length) else (pickT t l, 0) := by unfold restrictT; rw [if_neg (fun h => h he), if_neg h1]
  rw [hR]
  generalize hA : [.int .i64 t.n, .int .i64 t.ins, .int .i64 t.outs, encCs t.cases] = A
  have hTA : encT t = .agg A := by rw [← hA]; rfl
  rw [hTA] at hc d2 ⊢
  refine w_seqC (fun T H nx => T 1 = encV l ∧ T 2 = .ptr 0 4 0 ∧ T 4 = .ptr 1 4 0 ∧ T 5 = .int .i64 0 ∧ H = hupd (hupd noBoxes 0 A) 1 [.int .i64 0, .int .i64 0, .int .i64 0, .esl] ∧ nx = 2) ?_ ?_
  · subst hA
    repeat' (first | apply w_ops0 | apply a_n | apply o_nil | (apply o_val rfl rfl; (focus ((try simp (disch := omega) only [simB0, ZA, reduceEqDiff, ↓reduceIte, reduceAdd, reduceLeDiff, ZV, reduceCtorEq, encCs_one, encCs_cells]); first | with_reducible rfl | (apply s_ite; (focus omega); with_reducible rfl)))) | (apply e_alloc rfl; (focus ((try simp only [simB0, ZA, reduceEqDiff, ↓reduceIte, reduceAdd, reduceLeDiff, encCs_one, encCs_cells]); (try with_reducible rfl); done)); (focus (simp only [SO, Bool.and_self, one_encV, one_encVV, encCs_one, encCs_cells]))) | (apply e_box rfl; (iterate 2 (focus ((try simp only [simB0, ZA, reduceEqDiff, ↓reduceIte, reduceAdd, reduceLeDiff, encCs_one, encCs_cells]); (try with_reducible rfl); done))); (focus (simp only [SO, Bool.and_self, one_encV, one_encVV, encCs_one, encCs_cells]))))
    exact ⟨rfl, rfl, rfl, rfl, rfl, rfl⟩
  rintro T H nx ⟨t1, t2, t4, t5, rfl, rfl⟩
  refine w_seqC (fun T H nx => T 1 = encV l ∧ T 2 = .ptr 0 4 0 ∧ T 4 = .ptr 1 4 0 ∧ T 5 = .int .i64 0 ∧ H = hupd (hupd noBoxes 0 A) 1 [.int .i64 0, .int .i64 0, .int .i64 0, .esl] ∧ nx = 2) ?_ ?_
  · subst hA
    repeat' (first | apply w_seq | apply w_ops0 | apply w_skip | apply a_n | apply o_nil | (apply o_val rfl rfl; (focus ((try simp (disch := omega) only [simB0, ZA, reduceEqDiff, ↓reduceIte, reduceAdd, reduceLeDiff, ZV, reduceCtorEq, t1, t2, t4, t5]); first | with_reducible rfl | (apply s_ite; (focus omega); with_reducible rfl)))) | (apply o_callD; (iterate 2 (focus ((try simp only [simB0, ZA, reduceEqDiff, ↓reduceIte, reduceAdd, reduceLeDiff, t1, t2, t4, t5]); (try with_reducible rfl); done))); (focus (first | (exact hc))); (focus ((first | refine snap_plain ?_ rfl | apply snap_data); repeat' (first | exact snapL_nil | apply snapL_i | apply snapL_dat | exact d2)))) | (apply w_cond; (focus ((try simp only [simB0, ZA, reduceEqDiff, ↓reduceIte, reduceAdd, reduceLeDiff, t1, t2, t4, t5]); (try with_reducible rfl); done)); all_goals (intro _hg; (try simp only [ZB] at _hg); try first | exact absurd trivial _hg | (exfalso; omega))))
    exact ⟨by ((try simp only [simB0, ZA, reduceEqDiff, ↓reduceIte, reduceAdd, reduceLeDiff, t1, t2, t4, t5]); (try with_reducible rfl)), by ((try simp only [simB0, ZA, reduceEqDiff, ↓reduceIte, reduceAdd, reduceLeDiff, t1, t2, t4, t5]); (try with_reducible rfl)), by ((try simp only [simB0, ZA, reduceEqDiff, ↓reduceIte, reduceAdd, reduceLeDiff, t1, t2, t4, t5]); (try with_reducible rfl)), by ((try simp only [simB0, ZA, reduceEqDiff, ↓reduceIte, reduceAdd, reduceLeDiff, t1, t2, t4, t5]); (try with_reducible rfl)), rfl, rfl⟩
  clear t1 t2 t4 t5
  rintro T H nx ⟨t1, t2, t4, t5, rfl, rfl⟩
  refine w_seqC (fun T H nx => T 1 = encV l ∧ T 2 = .ptr 0 4 0 ∧ T 4 = .ptr 1 4 0 ∧ T 5 = .int .i64 0 ∧ H = hupd (hupd noBoxes 0 A) 1 [.int .i64 0, .int .i64 0, .int .i64 0, .esl] ∧ nx = 2) ?_ ?_
  · repeat' (first | apply w_seq | apply w_ops0 | apply w_skip | apply a_n | apply o_nil | (apply o_val rfl rfl; (focus ((try simp (disch := omega) only [simB0, ZA, reduceEqDiff, ↓reduceIte, reduceAdd, reduceLeDiff, ZV, reduceCtorEq, t1, t2, t4, t5]); first | with_reducible rfl | (apply s_ite; (focus omega); with_reducible rfl)))) | (apply o_gT; (focus (simp only [simB0, ZA, reduceEqDiff, ↓reduceIte, reduceAdd, reduceLeDiff, t1, t2, t4, t5]; done))) | ((first | apply o_gB | apply w_cond); (focus ((try simp only [simB0, ZA, reduceEqDiff, ↓reduceIte, reduceAdd, reduceLeDiff, t1, t2, t4, t5]); (try with_reducible rfl); done)); all_goals (intro _hg; (try simp only [ZB] at _hg); try first | exact absurd trivial _hg | (exfalso; omega))))
    all_goals exact ⟨by ((try simp only [simB0, ZA, reduceEqDiff, ↓reduceIte, reduceAdd, reduceLeDiff, t1, t2, t4, t5]); (try with_reducible rfl)), by ((try simp only [simB0, ZA, reduceEqDiff, ↓reduceIte, reduceAdd, reduceLeDiff, t1, t2, t4, t5]); (try with_reducible rfl)), by ((try simp only [simB0, ZA, reduceEqDiff, ↓reduceIte, reduceAdd, reduceLeDiff, t1, t2, t4, t5]); (try with_reducible rfl)), by ((try simp only [simB0, ZA, reduceEqDiff, ↓reduceIte, reduceAdd, reduceLeDiff, t1, t2, t4, t5]); (try with_reducible rfl)), rfl, rfl⟩
  clear t1 t2 t4 t5
  rintro T H nx ⟨t1, t2, t4, t5, rfl, rfl⟩
  refine w_seqC (fun T H nx => T 1 = encV l ∧ T 2 = .ptr 0 4 0 ∧ T 4 = .ptr 1 4 0 ∧ T 5 = .int .i64 0 ∧ H = hupd (hupd noBoxes 0 A) 1 [.int .i64 0, .int .i64 0, .int .i64 0, .esl] ∧ nx = 2 ∧ ∀ i, i < l.length → idxE t l i = 0) ?_ ?_
  · repeat' (first | apply w_seq | apply w_ops0 | apply w_block | apply a_n | apply o_nil | (apply o_val rfl rfl; (focus ((try simp (disch := omega) only [simB0, ZA, reduceEqDiff, ↓reduceIte, reduceAdd, reduceLeDiff, ZV, reduceCtorEq, t1, t2, t4, t5]); first | with_reducible rfl | (apply s_ite; (focus omega); with_reducible rfl)))) | apply w_loop)
    refine loopA (fun k => [(1, encV l), (2, .ptr 0 4 0), (4, .ptr 1 4 0), (5, .int .i64 0), (26, encV l), (27, .int .i64 l.length), (28, .int .i64 k)]) l.length (fun k => idxE t l k = 0) (by simp (disch := omega) only [agr, ZG, reduceEqDiff, ↓reduceIte, t1, t2, t4, t5]) ?_
    intro k hk hz
    by_cases hk2 : k < l.length
    rotate_left
    · repeat' (first | apply w_seq | apply w_ops0 | apply w_exit | apply a_n | apply a_x | apply o_nil | (apply o_val rfl rfl; (focus ((try simp (disch := omega) only [simB0, ZA, reduceEqDiff, ↓reduceIte, reduceAdd, reduceLeDiff, ZV, reduceCtorEq]); first | with_reducible rfl | (apply s_ite; (focus omega); with_reducible rfl)))) | (apply w_cond; (focus ((try simp only [simB0, ZA, reduceEqDiff, ↓reduceIte, reduceAdd, reduceLeDiff]); (try with_reducible rfl); done)); all_goals (intro _hg; (try simp only [ZB] at _hg); try first | exact absurd trivial _hg | (exfalso; omega))))
      exact ⟨rfl, rfl, rfl, rfl, rfl, rfl, fun i hi => hz i (by omega)⟩
    have fin : ∀ {H}, ∀ r, idxE t l k = r → r ≠ 0 → Snap H (.tup [.agg [.int .i64 0, .int .i64 0, .int .i64 0, .esl], .int .i64 r]) (.tup [encT (if firstI (idxE t l) l.length ≠ 0 then (T00, firstI (idxE t l) l.length) else (pickT t l, 0)).1, .int .i64 (if firstI (idxE t l) l.length ≠ 0 then (T00, firstI (idxE t l) l.length) else (pickT t l, 0)).2]) := fun r hr h0 => by
      rw [firstI_hit hk2 hz (by rw [hr]; exact h0), if_pos (by rw [hr]; exact h0), hr]
      exact snapErr _
    have ho : idxE t l k = if l.getD k default < 0 ∨ (t.cases.length : Int) ≤ l.getD k default then 6 else if 0 < k ∧ l.getD k default ≤ l.getD (k - 1) default then 14 else 0 := rfl
    by_cases hr : l.getD k default < 0 ∨ (t.cases.length : Int) ≤ l.getD k default
    · rw [if_pos hr] at ho
      subst hA
      repeat' (first | apply w_seq | apply w_ops0 | apply w_block | apply w_skip | apply w_ret | apply a_n | apply a_r | apply o_nil | (apply o_val rfl rfl; (focus ((try simp (disch := omega) only [simB0, ZA, reduceEqDiff, ↓reduceIte, reduceAdd, reduceLeDiff, ZV, reduceCtorEq, alenS_encCs]); first | with_reducible rfl | (apply s_ite; (focus omega); with_reducible rfl)))) | (apply e_st rfl; (iterate 4 (focus ((try simp only [simB0, ZA, reduceEqDiff, ↓reduceIte, reduceAdd, reduceLeDiff, alenS_encCs]); (try with_reducible rfl); done))); (focus (simp only [SO, Bool.and_self, one_encV, one_encVV, alenS_encCs])); (iterate 3 (focus ((try simp only [SL, reduceAdd, Nat.reduceMul, List.length_map]); first | done | omega)))) | (apply o_gT; (focus (simp only [simB0, ZA, reduceEqDiff, ↓reduceIte, reduceAdd, reduceLeDiff, alenS_encCs]; done))) | (apply o_gF; (focus (simp only [simB0, ZA, reduceEqDiff, ↓reduceIte, reduceAdd, reduceLeDiff, or_true, true_or, alenS_encCs]; done))) | (apply w_condT; (focus (simp only [simB0, ZA, reduceEqDiff, ↓reduceIte, reduceAdd, reduceLeDiff, alenS_encCs]; done))) | ((first | apply o_gB | apply w_cond); (focus ((try simp only [simB0, ZA, reduceEqDiff, ↓reduceIte, reduceAdd, reduceLeDiff, alenS_encCs]); (try with_reducible rfl); done)); all_goals (intro _hg; (try simp only [ZB] at _hg); try first | exact absurd trivial _hg | (exfalso; omega))) | (refine e_ends rfl ?_) | (apply r_2; (iterate 2 (focus (simp only [rv, simB0, ZA, reduceEqDiff, ↓reduceIte, reduceAdd, reduceLeDiff, alenS_encCs]; with_reducible rfl)))))
      all_goals exact fin 6 ho (by decide)
    rw [if_neg hr] at ho
    by_cases hk0 : k = 0
    · subst hk0
      rw [if_neg (fun h => absurd h.1 (by omega))] at ho
      subst hA
      repeat' (first | apply w_seq | apply w_ops0 | apply w_block | apply w_skip | apply a_n | apply o_nil | (apply o_val rfl rfl; (focus ((try simp (disch := omega) only [simB0, ZA, reduceEqDiff, ↓reduceIte, reduceAdd, reduceLeDiff, ZV, reduceCtorEq, alenS_encCs, Bool.false_eq_true]); first | with_reducible rfl | (apply s_ite; (focus omega); with_reducible rfl)))) | (apply o_gT; (focus (simp only [simB0, ZA, reduceEqDiff, ↓reduceIte, reduceAdd, reduceLeDiff, alenS_encCs, Bool.false_eq_true]; done))) | (apply o_gF; (focus (simp only [simB0, ZA, reduceEqDiff, ↓reduceIte, reduceAdd, reduceLeDiff, or_true, true_or, alenS_encCs, Bool.false_eq_true]; done))) | (apply w_condF; (focus (simp only [simB0, ZA, reduceEqDiff, ↓reduceIte, reduceAdd, reduceLeDiff, alenS_encCs, Bool.false_eq_true]; done))) | ((first | apply o_gB | apply w_cond); (focus ((try simp only [simB0, ZA, reduceEqDiff, ↓reduceIte, reduceAdd, reduceLeDiff, alenS_encCs, Bool.false_eq_true]); (try with_reducible rfl); done)); all_goals (intro _hg; (try simp only [ZB] at _hg); try first | exact absurd trivial _hg | (exfalso; omega))))
      all_goals exact ⟨hk2, ho, by simp (disch := omega) only [agr, ZG, reduceEqDiff, ↓reduceIte], rfl, rfl⟩
    · have e2 : ((k : Int) - 1).toNat = k - 1 := by omega
      have hj1 : decide ((0 : Int) < (k : Int)) = true := decide_eq_true (by omega)
      by_cases hO : l.getD k default ≤ l.getD (k - 1) default
      · rw [if_pos ⟨by omega, hO⟩] at ho
        subst hA
        repeat' (first | apply w_seq | apply w_ops0 | apply w_block | apply w_skip | apply w_ret | apply a_n | apply a_r | apply o_nil | (apply o_val rfl rfl; (focus ((try simp (disch := omega) only [simB0, ZA, reduceEqDiff, ↓reduceIte, reduceAdd, reduceLeDiff, ZV, reduceCtorEq, alenS_encCs, e2, hj1, Bool.false_eq_true]); first | with_reducible rfl | (apply s_ite; (focus omega); with_reducible rfl)))) | (apply e_st rfl; (iterate 4 (focus ((try simp only [simB0, ZA, reduceEqDiff, ↓reduceIte, reduceAdd, reduceLeDiff, alenS_encCs, e2, hj1, Bool.false_eq_true]); (try with_reducible rfl); done))); (focus (simp only [SO, Bool.and_self, one_encV, one_encVV, alenS_encCs, e2, hj1, Bool.false_eq_true])); (iterate 3 (focus ((try simp only [SL, reduceAdd, Nat.reduceMul, List.length_map]); first | done | omega)))) | (apply o_gT; (focus (simp only [simB0, ZA, reduceEqDiff, ↓reduceIte, reduceAdd, reduceLeDiff, alenS_encCs, e2, hj1, Bool.false_eq_true]; done))) | ((first | apply o_gB | apply w_cond); (focus ((try simp only [simB0, ZA, reduceEqDiff, ↓reduceIte, reduceAdd, reduceLeDiff, alenS_encCs, e2, hj1, Bool.false_eq_true]); (try with_reducible rfl); done)); all_goals (intro _hg; (try simp only [ZB] at _hg); try first | exact absurd trivial _hg | (exfalso; omega))) | (refine e_ends rfl ?_) | (apply r_2; (iterate 2 (focus (simp only [rv, simB0, ZA, reduceEqDiff, ↓reduceIte, reduceAdd, reduceLeDiff, alenS_encCs, e2, hj1, Bool.false_eq_true]; with_reducible rfl)))))
        all_goals exact fin 14 ho (by decide)
      · rw [if_neg (fun h => hO h.2)] at ho
        subst hA
        repeat' (first | apply w_seq | apply w_ops0 | apply w_block | apply w_skip | apply a_n | apply o_nil | (apply o_val rfl rfl; (focus ((try simp (disch := omega) only [simB0, ZA, reduceEqDiff, ↓reduceIte, reduceAdd, reduceLeDiff, ZV, reduceCtorEq, alenS_encCs, e2, hj1, Bool.false_eq_true]); first | with_reducible rfl | (apply s_ite; (focus omega); with_reducible rfl)))) | (apply o_gT; (focus (simp only [simB0, ZA, reduceEqDiff, ↓reduceIte, reduceAdd, reduceLeDiff, alenS_encCs, e2, hj1, Bool.false_eq_true]; done))) | ((first | apply o_gB | apply w_cond); (focus ((try simp only [simB0, ZA, reduceEqDiff, ↓reduceIte, reduceAdd, reduceLeDiff, alenS_encCs, e2, hj1, Bool.false_eq_true]); (try with_reducible rfl); done)); all_goals (intro _hg; (try simp only [ZB] at _hg); try first | exact absurd trivial _hg | (exfalso; omega))))
        all_goals exact ⟨hk2, ho, by simp (disch := omega) only [agr, ZG, reduceEqDiff, ↓reduceIte], rfl, rfl⟩
  clear t1 t2 t4 t5
  rintro T H nx ⟨t1, t2, t4, t5, rfl, rfl, hz⟩
  rw [firstI_zero hz, if_neg (fun h => h rfl)]
  have hval : ∀ x ∈ l, 0 ≤ x ∧ x < t.cases.length := fun x hx => by
    obtain ⟨i, hi, e⟩ := List.getElem_of_mem hx
    have e' : l.getD i default = x := by simp [List.getD, hi, e]
    have h := hz i hi
    unfold idxE at h
    rw [e'] at h
    by_cases hr : x < 0 ∨ (t.cases.length : Int) ≤ x
    · rw [if_pos hr] at h; omega
    · omega
  refine w_seqC (fun T H nx => T 1 = encV l ∧ T 2 = .ptr 0 4 0 ∧ T 4 = .ptr 1 4 0 ∧ T 5 = .int .i64 0 ∧ T 9 = .ptr 2 4 0 ∧ H 0 = some A ∧ H 1 = some [.int .i64 0, .int .i64 0, .int .i64 0, .esl] ∧ H 2 = some [.int .i64 t.n, .int .i64 t.ins, .int .i64 t.outs, .esl] ∧ nx = 3) ?_ ?_
  · subst hA
    repeat' (first | apply w_ops0 | apply a_n | apply o_nil | (apply o_val rfl rfl; (focus ((try simp (disch := omega) only [simB0, ZA, reduceEqDiff, ↓reduceIte, reduceAdd, reduceLeDiff, ZV, reduceCtorEq, t1, t2, t4, t5]); first | with_reducible rfl | (apply s_ite; (focus omega); with_reducible rfl)))) | (apply e_alloc rfl; (focus ((try simp only [simB0, ZA, reduceEqDiff, ↓reduceIte, reduceAdd, reduceLeDiff, t1, t2, t4, t5]); (try with_reducible rfl); done)); (focus (simp only [SO, Bool.and_self, one_encV, one_encVV, t1, t2, t4, t5]))) | (apply e_st rfl; (iterate 4 (focus ((try simp only [simB0, ZA, reduceEqDiff, ↓reduceIte, reduceAdd, reduceLeDiff, t1, t2, t4, t5]); (try with_reducible rfl); done))); (focus (simp only [SO, Bool.and_self, one_encV, one_encVV, t1, t2, t4, t5])); (iterate 3 (focus ((try simp only [SL, reduceAdd, Nat.reduceMul, List.length_map]); first | done | omega)))))
    exact ⟨by ((try simp only [simB0, ZA, reduceEqDiff, ↓reduceIte, reduceAdd, reduceLeDiff, t1, t2, t4, t5]); (try with_reducible rfl)), by ((try simp only [simB0, ZA, reduceEqDiff, ↓reduceIte, reduceAdd, reduceLeDiff, t1, t2, t4, t5]); (try with_reducible rfl)), by ((try simp only [simB0, ZA, reduceEqDiff, ↓reduceIte, reduceAdd, reduceLeDiff, t1, t2, t4, t5]); (try with_reducible rfl)), by ((try simp only [simB0, ZA, reduceEqDiff, ↓reduceIte, reduceAdd, reduceLeDiff, t1, t2, t4, t5]); (try with_reducible rfl)), by ((try simp only [simB0, ZA, reduceEqDiff, ↓reduceIte, reduceAdd, reduceLeDiff, t1, t2, t4, t5]); (try with_reducible rfl)), rfl, rfl, rfl, rfl⟩
  clear t1 t2 t4 t5
  rintro T H nx ⟨t1, t2, t4, t5, t9, g0, g1, g2, rfl⟩
  refine w_seqC (fun T H nx => T 4 = .ptr 1 4 0 ∧ T 5 = .int .i64 0 ∧ T 9 = .ptr 2 4 0 ∧ H 1 = some [.int .i64 0, .int .i64 0, .int .i64 0, .esl] ∧ ∃ sv, H 2 = some [.int .i64 t.n, .int .i64 t.ins, .int .i64 t.outs, sv] ∧ Row H 3 sv (((l.map (pickC t)).map encC).flatMap AV.cells) ∧ ∀ b, rowB sv = some b → 6 ≤ b) ?_ ?_
  · subst hA
    repeat' (first | apply w_seq | apply w_ops0 | (apply o_val rfl rfl; (focus ((try simp (disch := omega) only [simB0, ZA, reduceEqDiff, ↓reduceIte, reduceAdd, reduceLeDiff, ZV, reduceCtorEq, t1, t2, t4, t5, t9, g0, g1, g2]); first | with_reducible rfl | (apply s_ite; (focus omega); with_reducible rfl)))))
    have hcF := casesF_c t l H 3
    unfold encT at hcF
    refine o_callE (by ((try simp only [simB0, ZA, reduceEqDiff, ↓reduceIte, reduceAdd, reduceLeDiff]); (try with_reducible rfl))) (by ((try simp only [simB0, ZA, reduceEqDiff, ↓reduceIte, reduceAdd, reduceLeDiff, t1, t2, t4, t5, t9, g0, g1, g2]); (try with_reducible rfl))) hcF ?_
    rintro r H' nx' ⟨rfl, rfl, rfl⟩
    repeat' (first | apply w_block | apply a_n | apply o_nil)
    refine w_rangeFb 5 6 rfl rfl (by ((try simp only [simB0, ZA, reduceEqDiff, ↓reduceIte, reduceAdd, reduceLeDiff]); (try with_reducible rfl))) (fun c0 cj hy => ?_)
    refine Abs.Fn.mono (cases1_c (t := t) (l := l) hval (by omega) hs hq (fun k H' nx' => 6 ≤ nx' ∧ H' 4 = some [encV l] ∧ H' 3 = some [.int .i64 t.n, .int .i64 t.ins, .int .i64 t.outs, encCs t.cases] ∧ H' 1 = some [.int .i64 0, .int .i64 0, .int .i64 0, .esl] ∧ H' 5 = some [c0] ∧ ∃ sv, H' 2 = some [.int .i64 t.n, .int .i64 t.ins, .int .i64 t.outs, sv] ∧ Row H' 3 sv ((((l.take k).map (pickC t)).map encC).flatMap AV.cells) ∧ ∀ b, rowB sv = some b → 6 ≤ b ∧ b < nx') ?_ ?_ ?_ ?_) ?_
    · rintro k H' nx' ⟨h1, h2, h3, h4⟩
      exact ⟨h2, h3⟩
    · rintro k H1 H2 a c ⟨h1, h2, h3, h4, h5, sv, h6, h7, h8⟩ hac hsm
      exact ⟨by omega, (hsm _ (by omega)).trans h2, (hsm _ (by omega)).trans h3, (hsm _ (by omega)).trans h4, (hsm _ (by omega)).trans h5, sv, (hsm _ (by omega)).trans h6, h7.same (fun b hb => hsm _ (h8 b hb).2), fun b hb => ⟨(h8 b hb).1, by have := h8 b hb; omega⟩⟩
    · refine ⟨Nat.le_refl _, ?_, ?_, ?_, hupd_self', .esl, ?_, .nil, fun b hb => (by cases hb)⟩
      · rw [hupd_ne (by omega), hupd_self']
      · rw [hupd_ne (by omega), hupd_ne (by omega), hupd_self']
      · rw [hupd_ne (by omega), hupd_ne (by omega), hupd_ne (by omega), g1]
      · rw [hupd_ne (by omega), hupd_ne (by omega), hupd_ne (by omega), g2]
    · rintro k H' nx' hk ⟨h1, h2, h3, h4, h5, sv, h6, h7, h8⟩ hnx
      refine hy _ _ _ _ h5 rfl ?_
      clear hy
      have hpk : (l.take (k + 1)).map (pickC t) = (l.take k).map (pickC t) ++ [pickC t (l.getD k default)] := by rw [take_succ' hk, List.map_append]; rfl
      generalize hcc : pickC t (l.getD k default) = c at *
      obtain ⟨inp, out, calm⟩ := c
      have hEC : encC ⟨inp, out, calm⟩ = .agg [encV inp, encVV out, encVV calm] := rfl
      rw [hEC]
      repeat' (first | apply w_ops0 | apply a_n | apply o_nil | (apply e_alloc rfl; (focus ((try simp (disch := omega) only [simB2, ZA, reduceEqDiff, ↓reduceIte, reduceAdd, reduceLeDiff, acells]); (try with_reducible rfl); done)); (focus (simp (disch := omega) only [SO, Bool.and_self, one_encV, one_encVV, acells]))) | (apply e_st; (focus (first | rfl | (simp (disch := omega) only [dm2, oldP, newP, simB0, ZA, reduceEqDiff, ↓reduceIte, reduceAdd, reduceLeDiff, decide_eq_true_eq]; first | done | omega))); (iterate 4 (focus ((try simp (disch := omega) only [simB2, ZA, reduceEqDiff, ↓reduceIte, reduceAdd, reduceLeDiff, acells]); (try with_reducible rfl); done))); (focus (simp (disch := omega) only [SO, Bool.and_self, one_encV, one_encVV, acells])); (iterate 3 (focus ((try simp (disch := omega) only [SL, reduceAdd, Nat.reduceMul, List.length_map]); first | done | omega)))))
      refine ⟨by rw [hupd_ne (by omega), hupd_ne (by omega)]; exact h5, ?_⟩
      obtain ⟨q1, q2⟩ := h7.one
      repeat' (first | apply w_ops0 | apply w_block | (apply o_val rfl; (focus (first | rfl | (simp (disch := omega) only [dm2, oldP, newP, simB0, ZA, reduceEqDiff, ↓reduceIte, reduceAdd, reduceLeDiff, decide_eq_true_eq]; first | done | omega))); (focus ((try simp (disch := omega) only [simB2, ZA, reduceEqDiff, ↓reduceIte, reduceAdd, reduceLeDiff, ZV, reduceCtorEq, t9, h6, q1, q2, acells]); first | with_reducible rfl | (apply s_ite; (focus omega); with_reducible rfl)))) | (apply e_bld rfl; (focus (exact Nat.succ_ne_zero _)); (focus ((try simp (disch := omega) only [simB2, ZA, reduceEqDiff, ↓reduceIte, reduceAdd, reduceLeDiff, t9, h6, q1, q2, acells]); (try with_reducible rfl); done)); (focus ((try simp (disch := omega) only [simB2, ZA, reduceEqDiff, ↓reduceIte, reduceAdd, reduceLeDiff, SO, Bool.and_self, one_encV, one_encVV, t9, h6, q1, q2, acells]); (try with_reducible rfl); done))))
      have hlen := flat3 ((l.take k).map (pickC t))
      rw [List.length_map, List.length_take] at hlen
      refine e_row rfl (by ((try simp only [simB0, ZA, reduceEqDiff, ↓reduceIte, reduceAdd, reduceLeDiff]); (try with_reducible rfl))) (h7.same fun b' hb' => ?_) (by ((try simp only [simB0, ZA, reduceEqDiff, ↓reduceIte, reduceAdd, reduceLeDiff]); (try with_reducible rfl))) asrc_three rfl rfl (by omega) (by rw [hlen]; omega) (by rw [hlen]; omega) ?_
      · have := h8 b' hb'
        rw [hupd_ne (by omega), hdel_ne (by omega), hupd_ne (by omega), hupd_ne (by omega)]
      rintro sv' H2 nx2 r1 r2 r3 r4 r5
      have z : ∀ x, x < nx' → x ≠ 5 → rowB sv ≠ some x → H2 x = H' x := fun x a1 a2 a3 => (r4 x (by omega) a3).trans (by rw [hupd_ne (by omega), hdel_ne a2, hupd_ne (by omega), hupd_ne (by omega)])
      have zs : ∀ x, x < 6 → rowB sv ≠ some x := fun x hx e => by have := h8 x e; omega
      have g2' : H2 2 = some [.int .i64 t.n, .int .i64 t.ins, .int .i64 t.outs, sv] := (z 2 (by omega) (by omega) (zs 2 (by omega))).trans h6
      obtain ⟨p1, p2⟩ := r1.one
      repeat' (first | apply a_n | apply o_nil | (apply o_val rfl; (focus (first | rfl | (simp (disch := omega) only [dm2, oldP, newP, simB0, ZA, reduceEqDiff, ↓reduceIte, reduceAdd, reduceLeDiff, decide_eq_true_eq]; first | done | omega))); (focus ((try simp (disch := omega) only [simB2, ZA, reduceEqDiff, ↓reduceIte, reduceAdd, reduceLeDiff, ZV, reduceCtorEq, t9, g2', p1, p2]); first | with_reducible rfl | (apply s_ite; (focus omega); with_reducible rfl)))) | (apply e_st; (focus (first | rfl | (simp (disch := omega) only [dm2, oldP, newP, simB0, ZA, reduceEqDiff, ↓reduceIte, reduceAdd, reduceLeDiff, decide_eq_true_eq]; first | done | omega))); (iterate 4 (focus ((try simp (disch := omega) only [simB2, ZA, reduceEqDiff, ↓reduceIte, reduceAdd, reduceLeDiff, t9, g2', p1, p2]); (try with_reducible rfl); done))); (focus (simp (disch := omega) only [SO, Bool.and_self, one_encV, one_encVV, t9, g2', p1, p2])); (iterate 3 (focus ((try simp (disch := omega) only [SL, reduceAdd, Nat.reduceMul, List.length_map]); first | done | omega)))))
      have w : ∀ x, x ≠ 2 → x ≠ 5 → hupd (hupd H2 2 (lput [.int .i64 t.n, .int .i64 t.ins, .int .i64 t.outs, sv] 3 [sv'])) 5 [c0] x = H2 x := fun x a1 a2 => by rw [hupd_ne a2, hupd_ne a1]
      have u7 : ∀ b', rowB sv' = some b' → 6 ≤ b' ∧ b' < nx2 := fun b' hb' => by
        rcases r5 b' hb' with e | ⟨e1, e2⟩
        · have := h8 b' e; omega
        · omega
      refine ⟨rfl, ⟨by omega, (w 4 (by omega) (by omega)).trans ((z 4 (by omega) (by omega) (zs 4 (by omega))).trans h2), (w 3 (by omega) (by omega)).trans ((z 3 (by omega) (by omega) (zs 3 (by omega))).trans h3), (w 1 (by omega) (by omega)).trans ((z 1 (by omega) (by omega) (zs 1 (by omega))).trans h4), hupd_self', sv', ?_, ?_, u7⟩, by omega⟩
      · rw [hupd_ne (by omega), hupd_self']; rfl
      · rw [hpk, List.map_append, List.flatMap_append]
        exact r1.same (fun b' hb' => w b' (by have := u7 b' hb'; omega) (by have := u7 b' hb'; omega))
    · rintro r H' nx' ⟨h1, h2, h3, h4, h5, sv, h6, h7, h8⟩
      rw [List.take_of_length_le (Nat.le_refl _)] at h7
      refine .inl ⟨h5, ?_⟩
      repeat' (first | apply a_n)
      exact ⟨by ((try simp only [simB0, ZA, reduceEqDiff, ↓reduceIte, reduceAdd, reduceLeDiff, t4]); (try with_reducible rfl)), by ((try simp only [simB0, ZA, reduceEqDiff, ↓reduceIte, reduceAdd, reduceLeDiff, t5]); (try with_reducible rfl)), by ((try simp only [simB0, ZA, reduceEqDiff, ↓reduceIte, reduceAdd, reduceLeDiff, t9]); (try with_reducible rfl)), (hdel_ne (by omega)).trans h4, sv, (hdel_ne (by omega)).trans h6, h7.same (fun b hb => hdel_ne (by have := h8 b hb; omega)), fun b hb => (h8 b hb).1⟩
  clear t1 t2 t4 t5 t9 g0 g1 g2
  rintro T H nx ⟨t4, t5, t9, g1, sv, g2, hrow, hb⟩
  obtain ⟨q1, q2⟩ := hrow.one
  repeat' (first | apply w_seq | apply w_ops0 | apply w_ret | apply a_n | apply o_nil | (apply o_val rfl rfl; (focus ((try simp (disch := omega) only [simB0, ZA, reduceEqDiff, ↓reduceIte, reduceAdd, reduceLeDiff, ZV, reduceCtorEq, t4, t5, t9, g1, g2, q1, q2]); first | with_reducible rfl | (apply s_ite; (focus omega); with_reducible rfl)))) | (apply e_st rfl; (iterate 4 (focus ((try simp only [simB0, ZA, reduceEqDiff, ↓reduceIte, reduceAdd, reduceLeDiff, t4, t5, t9, g1, g2, q1, q2]); (try with_reducible rfl); done))); (focus (simp only [SO, Bool.and_self, one_encV, one_encVV, t4, t5, t9, g1, g2, q1, q2])); (iterate 3 (focus ((try simp only [SL, reduceAdd, Nat.reduceMul, List.length_map]); first | done | omega)))) | (refine e_ends rfl ?_) | (apply r_2; (iterate 2 (focus (simp only [rv, simB0, ZA, reduceEqDiff, ↓reduceIte, reduceAdd, reduceLeDiff, t4, t5, t9, g1, g2, q1, q2]; with_reducible rfl)))))
  refine snap_tup (snapL_cons (snap_agg (snapL_cons (.int _ _) (snapL_cons (.int _ _) (snapL_cons (.int _ _) (snapL_cons ?_ snapL_nil))))) (snapL_cons (.int _ _) snapL_nil))
  refine Row.snap (elems := (l.map (pickC t)).map encC) (hrow.same fun b hb' => hupd_ne (by have := hb b hb'; omega)) (fun y hy => ?_) (by omega) (fun y hy c hc => ?_)
  · obtain ⟨x, _, rfl⟩ := List.mem_map.1 hy; rfl
  · obtain ⟨x, _, rfl⟩ := List.mem_map.1 hy
    simp only [encC, AV.cells, List.mem_cons, List.not_mem_nil, or_false] at hc
    rcases hc with rfl | rfl | rfl
    · exact encV_dat _
    · exact encVV_dat _
    · exact encVV_dat _

end Go.Proofs.YtbiikomnhkbblaaGreat
