/- Texts of this claim, one after the other: Q35, Q36, Q37, Q38, Q39, Q40, Q41, Q42, Q43, Q44, Q45, Q46. -/
import Derived.Test.YtpbjhjkfobapeaaXG6

set_option linter.unusedSimpArgs false
set_option linter.unusedVariables false

/- Q35: contracts of functions and plain laws; for all inputs that the theorems name. -/
namespace Go.Proofs.Ytpbjhjkfobapeaa
open Go Go.Abs
open Nat (reduceEqDiff reduceAdd reduceLeDiff)
attribute [local irreducible] awp2 aops2 ains aloop athen bbind obind gbind acond res1 Go.Abs.Fn PCall Go.Abs.Pure SnapArgs SnapL Yl

/-! ### the reference's machine.Check -/
theorem in_r (n a b : Int) : Pure Try.prog 70 [.int .i64 n, .int .i64 a, .int .i64 b] (.bool (inB n a b)) := by
  refine Pure.of_c2 follows is70 (Nat.le_of_ble_eq_true rfl) ?_
  simp only [b70, O, G, N, M, D, F, B2, cFal, cTru]
  repeat' (first | apply w_seq | apply w_ops0 | apply w_ret | apply a_n | apply o_nil | (apply o_val rfl rfl; (focus ((try simp (disch := omega) only [simB0, ZA, reduceEqDiff, ↓reduceIte, reduceAdd, reduceLeDiff, ZV, reduceCtorEq]); first | with_reducible rfl | (apply s_ite; (focus omega); with_reducible rfl)))) | (apply o_gT; (focus (simp only [simB0, ZA, reduceEqDiff, ↓reduceIte, reduceAdd, reduceLeDiff]; done))) | (apply o_gF; (focus (simp only [simB0, ZA, reduceEqDiff, ↓reduceIte, reduceAdd, reduceLeDiff, or_true, true_or]; done))) | (apply o_gB; (focus ((try simp only [simB0, ZA, reduceEqDiff, ↓reduceIte, reduceAdd, reduceLeDiff]); (try with_reducible rfl); done)); all_goals (intro _hg; (try simp only [ZB] at _hg); try first | exact absurd trivial _hg | (exfalso; omega))) | (refine e_ends rfl ?_) | (apply r_1; (focus (simp only [rv, simB0, ZA, reduceEqDiff, ↓reduceIte, reduceAdd, reduceLeDiff]; with_reducible rfl))))
  all_goals (refine snap_bool ?_; unfold inB)
  · exact decide_eq_decide.2 (by omega)
  · rw [decide_eq_false (by omega)]

theorem numbers_r (l : List Int) (a b : Int) (hl : Sh l) : Pure Try.prog 94 [encV l, .int .i64 a, .int .i64 b] (.bool (allB l a b)) := by
  refine Pure.of_c2 follows is94 (Nat.le_of_ble_eq_true rfl) ?_
  simp only [b94, O, G, N, M, D, F, B2, cFal, cTru]
  have hl' : l.length ≤ 9223372036854775807 := hl
  repeat' (first | apply w_seq | apply w_ops0 | apply w_block | apply a_n | apply o_nil | (apply o_val rfl rfl; (focus ((try simp (disch := omega) only [simB0, ZA, reduceEqDiff, ↓reduceIte, reduceAdd, reduceLeDiff, ZV, reduceCtorEq]); first | with_reducible rfl | (apply s_ite; (focus omega); with_reducible rfl)))) | apply w_loop)
  refine loopA (fun k => [(0, encV l), (1, .int .i64 a), (2, .int .i64 b), (7, .int .i64 k)]) l.length (fun k => inB (l.getD k default) a b = true) (by simp (disch := omega) only [agr, ZG, reduceEqDiff, ↓reduceIte]) ?_
  intro k hk hp
  by_cases hk2 : k < l.length
  rotate_left
  · repeat' (first | apply w_seq | apply w_ops0 | apply w_exit | apply w_ret | apply a_n | apply a_x | apply o_nil | (apply o_val rfl rfl; (focus ((try simp (disch := omega) only [simB0, ZA, reduceEqDiff, ↓reduceIte, reduceAdd, reduceLeDiff, ZV, reduceCtorEq]); first | with_reducible rfl | (apply s_ite; (focus omega); with_reducible rfl)))) | (apply w_cond; (focus ((try simp only [simB0, ZA, reduceEqDiff, ↓reduceIte, reduceAdd, reduceLeDiff]); (try with_reducible rfl); done)); all_goals (intro _hg; (try simp only [ZB] at _hg); try first | exact absurd trivial _hg | (exfalso; omega))) | (refine e_ends rfl ?_) | (apply r_1; (focus (simp only [rv, simB0, ZA, reduceEqDiff, ↓reduceIte, reduceAdd, reduceLeDiff]; with_reducible rfl))))
    exact snap_bool (all_true (p := fun n => inB n a b) fun i hi => hp i (by omega)).symm
  have hc := in_r (l.getD k default) a b
  have hfin : inB (l.getD k default) a b = false → allB l a b = false := fun h => all_false (p := fun n => inB n a b) hk2 h
  generalize inB (l.getD k default) a b = r at *
  cases r with
  | false =>
    repeat' (first | apply w_seq | apply w_ops0 | apply w_block | apply w_skip | apply w_ret | apply a_n | apply a_r | apply o_nil | (apply o_val rfl rfl; (focus ((try simp (disch := omega) only [simB0, ZA, reduceEqDiff, ↓reduceIte, reduceAdd, reduceLeDiff, ZV, reduceCtorEq]); first | with_reducible rfl | (apply s_ite; (focus omega); with_reducible rfl)))) | (apply o_callD; (iterate 2 (focus ((try simp only [simB0, ZA, reduceEqDiff, ↓reduceIte, reduceAdd, reduceLeDiff]); (try with_reducible rfl); done))); (focus (first | (exact hc))); (focus ((first | refine snap_plain ?_ rfl | apply snap_data); repeat' (first | exact snapL_nil | apply snapL_i | apply snapL_dat)))) | (apply w_condT; (focus (simp only [simB0, ZA, reduceEqDiff, ↓reduceIte, reduceAdd, reduceLeDiff]; done))) | (apply w_cond; (focus ((try simp only [simB0, ZA, reduceEqDiff, ↓reduceIte, reduceAdd, reduceLeDiff]); (try with_reducible rfl); done)); all_goals (intro _hg; (try simp only [ZB] at _hg); try first | exact absurd trivial _hg | (exfalso; omega))) | (refine e_ends rfl ?_) | (apply r_1; (focus (simp only [rv, simB0, ZA, reduceEqDiff, ↓reduceIte, reduceAdd, reduceLeDiff]; with_reducible rfl))))
    exact snap_bool (hfin rfl).symm
  | true =>
    repeat' (first | apply w_seq | apply w_ops0 | apply w_block | apply w_skip | apply a_n | apply o_nil | (apply o_val rfl rfl; (focus ((try simp (disch := omega) only [simB0, ZA, reduceEqDiff, ↓reduceIte, reduceAdd, reduceLeDiff, ZV, reduceCtorEq]); first | with_reducible rfl | (apply s_ite; (focus omega); with_reducible rfl)))) | (apply o_callD; (iterate 2 (focus ((try simp only [simB0, ZA, reduceEqDiff, ↓reduceIte, reduceAdd, reduceLeDiff]); (try with_reducible rfl); done))); (focus (first | (exact hc))); (focus ((first | refine snap_plain ?_ rfl | apply snap_data); repeat' (first | exact snapL_nil | apply snapL_i | apply snapL_dat)))) | (apply w_condF; (focus (simp only [simB0, ZA, reduceEqDiff, ↓reduceIte, reduceAdd, reduceLeDiff]; done))) | (apply w_cond; (focus ((try simp only [simB0, ZA, reduceEqDiff, ↓reduceIte, reduceAdd, reduceLeDiff]); (try with_reducible rfl); done)); all_goals (intro _hg; (try simp only [ZB] at _hg); try first | exact absurd trivial _hg | (exfalso; omega))))
    exact ⟨hk2, rfl, by simp (disch := omega) only [agr, ZG, reduceEqDiff, ↓reduceIte], rfl, rfl⟩

theorem shaped_r (m : MachV) (hs : ShM m) (hn : 1 ≤ m.n ∧ m.n ≤ 5) (hr : 0 ≤ m.rounds ∧ m.rounds ≤ 6) : Pure Try.prog 71 [encM m] (.bool (shapedB m)) := by
  refine Pure.of_c2 follows is71 (Nat.le_of_ble_eq_true rfl) ?_
  simp only [b71, O, G, N, M, D, F, B2, cFal, cTru]
  obtain ⟨s1, s2, s3, s4, s5, s5b, s6, s7, s8, s9, s10⟩ := hs
  have e1 : m.first.length ≤ 9223372036854775807 := s1
  have e2 : m.out.length ≤ 9223372036854775807 := s3
  have e3 : m.symbols.length ≤ 9223372036854775807 := s6
  unfold encM MachV.cells
  refine w_seq ?_
  repeat' (first | apply w_ops0 | apply a_n | apply o_nil | (apply o_val rfl rfl; (focus ((try simp (disch := omega) only [simB0, ZA, reduceEqDiff, ↓reduceIte, reduceAdd, reduceLeDiff, ZV, reduceCtorEq, ME, acells]); first | with_reducible rfl | (apply s_ite; (focus omega); with_reducible rfl)))) | (apply e_box rfl; (iterate 2 (focus ((try simp only [simB0, ZA, reduceEqDiff, ↓reduceIte, reduceAdd, reduceLeDiff, ME, acells]); (try with_reducible rfl); done))); (focus (simp only [SO, Bool.and_self, one_encV, one_encVV, ME, acells]))))
  refine w_seqC (fun T H nx => T 1 = .ptr 0 8 0 ∧ H = hupd noBoxes 0 m.cells ∧ ((m.first.length : Int) = m.n ∧ (m.out.length : Int) = m.rounds + 1 ∧ (m.symbols.length : Int) = m.rounds)) ?_ ?_
  · repeat' (first | apply w_seq | apply w_ops0 | apply w_skip | apply w_ret | apply a_n | apply a_r | apply o_nil | (apply o_val rfl rfl; (focus ((try simp (disch := omega) only [simB0, ZA, reduceEqDiff, ↓reduceIte, reduceAdd, reduceLeDiff, ZV, reduceCtorEq, ME, acells]); first | with_reducible rfl | (apply s_ite; (focus omega); with_reducible rfl)))) | (apply o_gT; (focus (simp only [simB0, ZA, reduceEqDiff, ↓reduceIte, reduceAdd, reduceLeDiff, ME, acells]; done))) | (apply o_gF; (focus (simp only [simB0, ZA, reduceEqDiff, ↓reduceIte, reduceAdd, reduceLeDiff, or_true, true_or, ME, acells]; done))) | (apply w_condT; (focus (simp only [simB0, ZA, reduceEqDiff, ↓reduceIte, reduceAdd, reduceLeDiff, ME, acells]; done))) | ((first | apply o_gB | apply w_cond); (focus ((try simp only [simB0, ZA, reduceEqDiff, ↓reduceIte, reduceAdd, reduceLeDiff, ME, acells]); (try with_reducible rfl); done)); all_goals (intro _hg; (try simp only [ZB] at _hg); try first | exact absurd trivial _hg | (exfalso; omega))) | (refine e_ends rfl ?_) | (apply r_1; (focus (simp only [rv, simB0, ZA, reduceEqDiff, ↓reduceIte, reduceAdd, reduceLeDiff, ME, acells]; with_reducible rfl))))
    all_goals first
      | exact ⟨rfl, rfl, by omega, by omega, by omega⟩
      | (refine snap_bool ?_
         unfold shapedB; rw [decide_eq_false (by omega)]; rfl)
  rintro T H nx ⟨t1, rfl, hl⟩
  have hb : shapedB m = (m.first.all (fun l => decide ((l.length : Int) = m.ins)) && (m.out.all (fun l => decide ((l.length : Int) = m.n)) && (List.range m.symbols.length).all (fun k => sendB m k))) := by
    unfold shapedB; rw [decide_eq_true hl, Bool.true_and]
  rw [hb]
  clear hb
  unfold MachV.cells
  obtain ⟨l1, l2, l3⟩ := hl
  refine w_seqC (fun T H nx => T 1 = .ptr 0 8 0 ∧ H = hupd noBoxes 0 m.cells ∧ m.first.all (fun l => decide ((l.length : Int) = m.ins)) = true) ?_ ?_
  · repeat' (first | apply w_seq | apply w_ops0 | apply w_block | apply a_n | apply o_nil | (apply o_val rfl rfl; (focus ((try simp (disch := omega) only [simB0, ZA, reduceEqDiff, ↓reduceIte, reduceAdd, reduceLeDiff, ZV, reduceCtorEq, ME, t1]); first | with_reducible rfl | (apply s_ite; (focus omega); with_reducible rfl)))) | apply w_loop)
    refine loopA (fun k => [(1, .ptr 0 8 0), (3, .int .i64 k)]) m.first.length (fun k => ((m.first.getD k default).length : Int) = m.ins) (by simp (disch := omega) only [agr, ZG, reduceEqDiff, ↓reduceIte, t1]) ?_
    rintro k h1 h2
    have hsk : k < m.first.length → (m.first.getD k default).length ≤ 9223372036854775807 := fun h => s2 _ (mem_getD h)
    by_cases hk : k < m.first.length
    · repeat' (first | apply w_seq | apply w_ops0 | apply w_ops1 | apply w_block | apply w_skip | apply w_ret | apply a_n | apply a_r | apply o_nil | (apply o_val rfl rfl; (focus ((try simp (disch := omega) only [simB0, ZA, reduceEqDiff, ↓reduceIte, reduceAdd, reduceLeDiff, ZV, reduceCtorEq, ME]); first | with_reducible rfl | (apply s_ite; (focus omega); with_reducible rfl)))) | (apply w_cond; (focus ((try simp only [simB0, ZA, reduceEqDiff, ↓reduceIte, reduceAdd, reduceLeDiff, ME]); (try with_reducible rfl); done)); all_goals (intro _hg; (try simp only [ZB] at _hg); try first | exact absurd trivial _hg | (exfalso; omega))) | (refine e_ends rfl ?_) | (apply r_1; (focus (simp only [rv, simB0, ZA, reduceEqDiff, ↓reduceIte, reduceAdd, reduceLeDiff, ME]; with_reducible rfl))))
      · refine snap_bool ?_
        have : m.first.all (fun l => decide ((l.length : Int) = m.ins)) = false := all_false (k := k) (by omega) (decide_eq_false (by omega))
        rw [this]; rfl
      · exact ⟨by omega, by omega, by simp (disch := omega) only [agr, ZG, reduceEqDiff, ↓reduceIte], rfl, rfl⟩
    · repeat' (first | apply w_seq | apply w_ops0 | apply w_exit | apply a_n | apply a_x | apply o_nil | (apply o_val rfl rfl; (focus ((try simp (disch := omega) only [simB0, ZA, reduceEqDiff, ↓reduceIte, reduceAdd, reduceLeDiff, ZV, reduceCtorEq, ME]); first | with_reducible rfl | (apply s_ite; (focus omega); with_reducible rfl)))) | (apply w_cond; (focus ((try simp only [simB0, ZA, reduceEqDiff, ↓reduceIte, reduceAdd, reduceLeDiff, ME]); (try with_reducible rfl); done)); all_goals (intro _hg; (try simp only [ZB] at _hg); try first | exact absurd trivial _hg | (exfalso; omega))))
      exact ⟨rfl, rfl, all_true fun i hi => decide_eq_true (h2 i (by omega))⟩
  clear t1
  rintro T H nx ⟨t1, rfl, h1⟩
  rw [h1, Bool.true_and]
  clear h1
  unfold MachV.cells
  refine w_seqC (fun T H nx => T 1 = .ptr 0 8 0 ∧ H = hupd noBoxes 0 m.cells ∧ ∀ i, i < m.out.length → ((m.out.getD i default).length : Int) = m.n) ?_ ?_
  · repeat' (first | apply w_seq | apply w_ops0 | apply w_block | apply a_n | apply o_nil | (apply o_val rfl rfl; (focus ((try simp (disch := omega) only [simB0, ZA, reduceEqDiff, ↓reduceIte, reduceAdd, reduceLeDiff, ZV, reduceCtorEq, ME, t1]); first | with_reducible rfl | (apply s_ite; (focus omega); with_reducible rfl)))) | apply w_loop)
    refine loopA (fun k => [(1, .ptr 0 8 0), (4, .int .i64 k)]) m.out.length (fun k => ((m.out.getD k default).length : Int) = m.n) (by simp (disch := omega) only [agr, ZG, reduceEqDiff, ↓reduceIte, t1]) ?_
    rintro k h1 h2
    by_cases hk : k < m.out.length
    · repeat' (first | apply w_seq | apply w_ops0 | apply w_ops1 | apply w_block | apply w_skip | apply w_ret | apply a_n | apply a_r | apply o_nil | (apply o_val rfl rfl; (focus ((try simp (disch := omega) only [simB0, ZA, reduceEqDiff, ↓reduceIte, reduceAdd, reduceLeDiff, ZV, reduceCtorEq, ME]); first | with_reducible rfl | (apply s_ite; (focus omega); with_reducible rfl)))) | (apply w_cond; (focus ((try simp only [simB0, ZA, reduceEqDiff, ↓reduceIte, reduceAdd, reduceLeDiff, ME]); (try with_reducible rfl); done)); all_goals (intro _hg; (try simp only [ZB] at _hg); try first | exact absurd trivial _hg | (exfalso; omega))) | (refine e_ends rfl ?_) | (apply r_1; (focus (simp only [rv, simB0, ZA, reduceEqDiff, ↓reduceIte, reduceAdd, reduceLeDiff, ME]; with_reducible rfl))))
      · refine snap_bool ?_
        have : m.out.all (fun l => decide ((l.length : Int) = m.n)) = false := all_false (k := k) (by omega) (decide_eq_false (by omega))
        rw [this]; rfl
      · exact ⟨by omega, by omega, by simp (disch := omega) only [agr, ZG, reduceEqDiff, ↓reduceIte], rfl, rfl⟩
    · repeat' (first | apply w_seq | apply w_ops0 | apply w_exit | apply a_n | apply a_x | apply o_nil | (apply o_val rfl rfl; (focus ((try simp (disch := omega) only [simB0, ZA, reduceEqDiff, ↓reduceIte, reduceAdd, reduceLeDiff, ZV, reduceCtorEq, ME]); first | with_reducible rfl | (apply s_ite; (focus omega); with_reducible rfl)))) | (apply w_cond; (focus ((try simp only [simB0, ZA, reduceEqDiff, ↓reduceIte, reduceAdd, reduceLeDiff, ME]); (try with_reducible rfl); done)); all_goals (intro _hg; (try simp only [ZB] at _hg); try first | exact absurd trivial _hg | (exfalso; omega))))
      exact ⟨rfl, rfl, fun i hi => h2 i (by omega)⟩
  clear t1
  rintro T H nx ⟨t1, rfl, ho⟩
  have ho1 : m.out.all (fun l => decide ((l.length : Int) = m.n)) = true := all_true fun i hi => decide_eq_true (ho i hi)
  rw [ho1, Bool.true_and]
  unfold MachV.cells
  repeat' (first | apply w_seq | apply w_ops0 | apply w_block | apply a_n | apply o_nil | (apply o_val rfl rfl; (focus ((try simp (disch := omega) only [simB0, ZA, reduceEqDiff, ↓reduceIte, reduceAdd, reduceLeDiff, ZV, reduceCtorEq, ME, t1]); first | with_reducible rfl | (apply s_ite; (focus omega); with_reducible rfl)))) | apply w_loop)
  refine loopA (fun k => [(1, .ptr 0 8 0), (5, .int .i64 k)]) m.symbols.length (fun k => sendB m k = true) (by simp (disch := omega) only [agr, ZG, reduceEqDiff, ↓reduceIte, t1]) ?_
  clear t1
  rintro k h1 h2
  by_cases hk : k < m.symbols.length
  rotate_left
  · repeat' (first | apply w_seq | apply w_ops0 | apply w_exit | apply w_ret | apply a_n | apply a_x | apply o_nil | (apply o_val rfl rfl; (focus ((try simp (disch := omega) only [simB0, ZA, reduceEqDiff, ↓reduceIte, reduceAdd, reduceLeDiff, ZV, reduceCtorEq, ME]); first | with_reducible rfl | (apply s_ite; (focus omega); with_reducible rfl)))) | (apply w_cond; (focus ((try simp only [simB0, ZA, reduceEqDiff, ↓reduceIte, reduceAdd, reduceLeDiff, ME]); (try with_reducible rfl); done)); all_goals (intro _hg; (try simp only [ZB] at _hg); try first | exact absurd trivial _hg | (exfalso; omega))) | (refine e_ends rfl ?_) | (apply r_1; (focus (simp only [rv, simB0, ZA, reduceEqDiff, ↓reduceIte, reduceAdd, reduceLeDiff, ME]; with_reducible rfl))))
    exact snap_bool (range_all_true fun i hi => h2 i (by omega)).symm
  have hok := ho k (by omega)
  have hk0 : sendB m k = (decide (((m.symbols.getD k default).length : Int) = m.n) && (List.range (m.symbols.getD k default).length).all fun p => recvB m k p) := rfl
  have hpd : ∀ p, recvB m k p = (decide ((((m.symbols.getD k default).getD p default).length : Int) = m.n) && (List.range ((m.symbols.getD k default).getD p default).length).all fun q => placeB m k p q) := fun p => rfl
  have hqd : ∀ p q, placeB m k p q = decide (((((m.symbols.getD k default).getD p default).getD q default).length : Int) = if p = q then 0 else (((m.out.getD k default).getD p default).length : Int)) := fun p q => rfl
  generalize hS : m.symbols.getD k default = S at *
  generalize hO : m.out.getD k default = O at *
  repeat' (first | apply w_seq | apply w_ops0 | apply w_ops1 | apply w_block | apply w_skip | apply w_ret | apply a_n | apply a_r | apply o_nil | (apply o_val rfl rfl; (focus ((try simp (disch := omega) only [simB0, ZA, reduceEqDiff, ↓reduceIte, reduceAdd, reduceLeDiff, ZV, reduceCtorEq, ME, hS]); first | with_reducible rfl | (apply s_ite; (focus omega); with_reducible rfl)))) | (apply w_cond; (focus ((try simp only [simB0, ZA, reduceEqDiff, ↓reduceIte, reduceAdd, reduceLeDiff, ME, hS]); (try with_reducible rfl); done)); all_goals (intro _hg; (try simp only [ZB] at _hg); try first | exact absurd trivial _hg | (exfalso; omega))) | (refine e_ends rfl ?_) | (apply r_1; (focus (simp only [rv, simB0, ZA, reduceEqDiff, ↓reduceIte, reduceAdd, reduceLeDiff, ME, hS]; with_reducible rfl))) | apply w_loop)
  · refine snap_bool ?_
    symm
    refine range_all_false hk ?_
    rw [hk0, decide_eq_false ‹_›]; rfl
  have hSn : (S.length : Int) = m.n := by omega
  refine loopA (fun p => [(1, .ptr 0 8 0), (5, .int .i64 k), (6, .int .i64 p)]) S.length (fun p => recvB m k p = true) (by simp (disch := omega) only [agr, ZG, reduceEqDiff, ↓reduceIte]) ?_
  rintro p g1 g2
  by_cases hp : p < S.length
  rotate_left
  · repeat' (first | apply w_seq | apply w_ops0 | apply w_exit | apply a_n | apply a_x | apply o_nil | (apply o_val rfl rfl; (focus ((try simp (disch := omega) only [simB0, ZA, reduceEqDiff, ↓reduceIte, reduceAdd, reduceLeDiff, ZV, reduceCtorEq, ME]); first | with_reducible rfl | (apply s_ite; (focus omega); with_reducible rfl)))) | (apply w_cond; (focus ((try simp only [simB0, ZA, reduceEqDiff, ↓reduceIte, reduceAdd, reduceLeDiff, ME]); (try with_reducible rfl); done)); all_goals (intro _hg; (try simp only [ZB] at _hg); try first | exact absurd trivial _hg | (exfalso; omega))))
    refine ⟨by omega, ?_, by simp (disch := omega) only [agr, ZG, reduceEqDiff, ↓reduceIte], rfl, rfl⟩
    rw [hk0, decide_eq_true (by omega), Bool.true_and]
    exact range_all_true fun i hi => g2 i (by omega)
  have hpd := hpd p
  have hqd := hqd p
  generalize hR : S.getD p default = R at *
  generalize hV : O.getD p default = V at *
  repeat' (first | apply w_seq | apply w_ops0 | apply w_ops1 | apply w_block | apply w_skip | apply w_ret | apply a_n | apply a_r | apply o_nil | (apply o_val rfl rfl; (focus ((try simp (disch := omega) only [simB0, ZA, reduceEqDiff, ↓reduceIte, reduceAdd, reduceLeDiff, ZV, reduceCtorEq, ME, hS, hR]); first | with_reducible rfl | (apply s_ite; (focus omega); with_reducible rfl)))) | (apply w_cond; (focus ((try simp only [simB0, ZA, reduceEqDiff, ↓reduceIte, reduceAdd, reduceLeDiff, ME, hS, hR]); (try with_reducible rfl); done)); all_goals (intro _hg; (try simp only [ZB] at _hg); try first | exact absurd trivial _hg | (exfalso; omega))) | (refine e_ends rfl ?_) | (apply r_1; (focus (simp only [rv, simB0, ZA, reduceEqDiff, ↓reduceIte, reduceAdd, reduceLeDiff, ME, hS, hR]; with_reducible rfl))) | apply w_loop)
  · refine snap_bool ?_
    symm
    refine range_all_false hk ?_
    rw [hk0, range_all_false hp (by rw [hpd, decide_eq_false ‹_›]; rfl), Bool.and_false]
  have hRn : (R.length : Int) = m.n := by omega
  refine loopA (fun q => [(1, .ptr 0 8 0), (5, .int .i64 k), (6, .int .i64 p), (7, .int .i64 q)]) R.length (fun q => placeB m k p q = true) (by simp (disch := omega) only [agr, ZG, reduceEqDiff, ↓reduceIte]) ?_
  rintro q f1 f2
  by_cases hq : q < R.length
  rotate_left
  · repeat' (first | apply w_seq | apply w_ops0 | apply w_exit | apply a_n | apply a_x | apply o_nil | (apply o_val rfl rfl; (focus ((try simp (disch := omega) only [simB0, ZA, reduceEqDiff, ↓reduceIte, reduceAdd, reduceLeDiff, ZV, reduceCtorEq, ME]); first | with_reducible rfl | (apply s_ite; (focus omega); with_reducible rfl)))) | (apply w_cond; (focus ((try simp only [simB0, ZA, reduceEqDiff, ↓reduceIte, reduceAdd, reduceLeDiff, ME]); (try with_reducible rfl); done)); all_goals (intro _hg; (try simp only [ZB] at _hg); try first | exact absurd trivial _hg | (exfalso; omega))))
    refine ⟨by omega, ?_, by simp (disch := omega) only [agr, ZG, reduceEqDiff, ↓reduceIte], rfl, rfl⟩
    rw [hpd, decide_eq_true (by omega), Bool.true_and]
    exact range_all_true fun i hi => f2 i (by omega)
  have hqd := hqd q
  have hbad : placeB m k p q = false → (List.range m.symbols.length).all (fun k => sendB m k) = false := fun h => range_all_false hk (by
    rw [hk0, range_all_false hp (by rw [hpd, range_all_false hq h, Bool.and_false]), Bool.and_false])
  by_cases hpq : p = q
  · have hpq' : decide ((p : Int) = (q : Int)) = true := decide_eq_true (by omega)
    have hpq2 : decide ((p : Int) ≠ (q : Int)) = false := decide_eq_false (by omega)
    rw [if_pos hpq] at hqd
    repeat' (first | apply w_seq | apply w_ops0 | apply w_ops1 | apply w_block | apply w_skip | apply w_ret | apply a_n | apply a_r | apply o_nil | (apply o_val rfl rfl; (focus ((try simp (disch := omega) only [simB0, ZA, reduceEqDiff, ↓reduceIte, reduceAdd, reduceLeDiff, ZV, reduceCtorEq, ME, hS, hR, hO, hV, hpq', hpq2]); first | with_reducible rfl | (apply s_ite; (focus omega); with_reducible rfl)))) | (apply o_gT; (focus (simp only [simB0, ZA, reduceEqDiff, ↓reduceIte, reduceAdd, reduceLeDiff, ME, hS, hR, hO, hV, hpq', hpq2]; done))) | (apply o_gF; (focus (simp only [simB0, ZA, reduceEqDiff, ↓reduceIte, reduceAdd, reduceLeDiff, or_true, true_or, ME, hS, hR, hO, hV, hpq', hpq2]; done))) | (apply w_condT; (focus (simp only [simB0, ZA, reduceEqDiff, ↓reduceIte, reduceAdd, reduceLeDiff, ME, hS, hR, hO, hV, hpq', hpq2]; done))) | (apply w_condF; (focus (simp only [simB0, ZA, reduceEqDiff, ↓reduceIte, reduceAdd, reduceLeDiff, ME, hS, hR, hO, hV, hpq', hpq2]; done))) | ((first | apply o_gB | apply w_cond); (focus ((try simp only [simB0, ZA, reduceEqDiff, ↓reduceIte, reduceAdd, reduceLeDiff, ME, hS, hR, hO, hV, hpq', hpq2]); (try with_reducible rfl); done)); all_goals (intro _hg; (try simp only [ZB] at _hg); try first | exact absurd trivial _hg | (exfalso; omega))) | (refine e_ends rfl ?_) | (apply r_1; (focus (simp only [rv, simB0, ZA, reduceEqDiff, ↓reduceIte, reduceAdd, reduceLeDiff, ME, hS, hR, hO, hV, hpq', hpq2]; with_reducible rfl))))
    all_goals first
      | exact snap_bool (hbad (by rw [hqd, decide_eq_false (by omega)])).symm
      | exact ⟨by omega, by rw [hqd, decide_eq_true (by omega)], by simp (disch := omega) only [agr, ZG, reduceEqDiff, ↓reduceIte], rfl, rfl⟩
  · have hpq' : decide ((p : Int) = (q : Int)) = false := decide_eq_false (by omega)
    have hpq2 : decide ((p : Int) ≠ (q : Int)) = true := decide_eq_true (by omega)
    rw [if_neg hpq] at hqd
    repeat' (first | apply w_seq | apply w_ops0 | apply w_ops1 | apply w_block | apply w_skip | apply w_ret | apply a_n | apply a_r | apply o_nil | (apply o_val rfl rfl; (focus ((try simp (disch := omega) only [simB0, ZA, reduceEqDiff, ↓reduceIte, reduceAdd, reduceLeDiff, ZV, reduceCtorEq, ME, hS, hR, hO, hV, hpq', hpq2]); first | with_reducible rfl | (apply s_ite; (focus omega); with_reducible rfl)))) | (apply o_gT; (focus (simp only [simB0, ZA, reduceEqDiff, ↓reduceIte, reduceAdd, reduceLeDiff, ME, hS, hR, hO, hV, hpq', hpq2]; done))) | (apply o_gF; (focus (simp only [simB0, ZA, reduceEqDiff, ↓reduceIte, reduceAdd, reduceLeDiff, or_true, true_or, ME, hS, hR, hO, hV, hpq', hpq2]; done))) | (apply w_cond; (focus ((try simp only [simB0, ZA, reduceEqDiff, ↓reduceIte, reduceAdd, reduceLeDiff, ME, hS, hR, hO, hV, hpq', hpq2]); (try with_reducible rfl); done)); all_goals (intro _hg; (try simp only [ZB] at _hg); try first | exact absurd trivial _hg | (exfalso; omega))) | (refine e_ends rfl ?_) | (apply r_1; (focus (simp only [rv, simB0, ZA, reduceEqDiff, ↓reduceIte, reduceAdd, reduceLeDiff, ME, hS, hR, hO, hV, hpq', hpq2]; with_reducible rfl))))
    all_goals first
      | exact snap_bool (hbad (by rw [hqd, decide_eq_false (by omega)])).symm
      | exact ⟨by omega, by rw [hqd, decide_eq_true (by omega)], by simp (disch := omega) only [agr, ZG, reduceEqDiff, ↓reduceIte], rfl, rfl⟩

end Go.Proofs.Ytpbjhjkfobapeaa

/- Q36: contracts of functions and plain laws; for all inputs that the theorems name. -/
namespace Go.Proofs.Ytpbjhjkfobapeaa
open Go Go.Abs
open Nat (reduceEqDiff reduceAdd reduceLeDiff)

theorem all_idx {α : Type} [Inhabited α] {l : List α} {p : α → Bool} : l.all p = true ↔ ∀ i, i < l.length → p (l.getD i default) = true :=
  ⟨fun h i hi => List.all_eq_true.1 h _ (mem_getD hi), all_true⟩
theorem ranged_iff {m : MachV} (hsh : shapedB m = true) (hn : 1 ≤ m.n ∧ m.n ≤ 5) (hr : 0 ≤ m.rounds ∧ m.rounds ≤ 6) : rangedB m = true ↔ ∀ p, p < m.first.length → firstB m p = true ∧ ∀ k, k < m.out.length → allB ((m.out.getD k default).getD p default) (-1) (m.outs - 1) = true ∧ (k < m.symbols.length → ∀ q, q < m.first.length → allB (((m.symbols.getD k default).getD p default).getD q default) 0 1048576 = true) := by
  obtain ⟨l1, l2, l3⟩ := shaped_len hsh
  unfold rangedB
  simp only [Bool.and_eq_true, List.all_eq_true, List.mem_range]
  constructor
  · rintro ⟨h1, h2, h3⟩ p hp
    refine ⟨h1 p hp, fun k hk => ⟨?_, fun hk2 q hq => ?_⟩⟩
    · exact h2 _ (mem_getD hk) _ (mem_getD (by have := shaped_out hsh hk; omega))
    · obtain ⟨s1, s2⟩ := shaped_sym hsh hk2
      exact h3 _ (mem_getD hk2) _ (mem_getD (by omega)) _ (mem_getD (by have := (s2 p (by omega)).1; omega))
  · intro h
    refine ⟨fun p hp => (h p hp).1, fun l hl x hx => ?_, fun s hs l hl x hx => ?_⟩
    · obtain ⟨k, hk, rfl⟩ := mem_idx hl
      obtain ⟨p, hp, rfl⟩ := mem_idx hx
      have := shaped_out hsh hk
      exact ((h p (by omega)).2 k hk).1
    · obtain ⟨k, hk, rfl⟩ := mem_idx hs
      obtain ⟨p, hp, rfl⟩ := mem_idx hl
      obtain ⟨q, hq, rfl⟩ := mem_idx hx
      obtain ⟨s1, s2⟩ := shaped_sym hsh hk
      have := (s2 p hp).1
      exact ((h p (by omega)).2 k (by omega)).2 hk q (by omega)
theorem bool_false {b : Bool} {P : Prop} (h : b = true ↔ P) (hn : ¬ P) : b = false := by
  cases b with
  | false => rfl
  | true => exact absurd (h.1 rfl) hn
attribute [local irreducible] awp2 aops2 ains aloop athen bbind obind gbind acond res1 Go.Abs.Fn PCall Go.Abs.Pure SnapArgs SnapL Yl

theorem ranged_r (m : MachV) (hs : ShM m) (hn : 1 ≤ m.n ∧ m.n ≤ 5) (hr : 0 ≤ m.rounds ∧ m.rounds ≤ 6) (ho : 1 ≤ m.outs ∧ m.outs ≤ 8) (hsh : shapedB m = true) : Pure Try.prog 72 [encM m] (.bool (rangedB m)) := by
  refine Pure.of_c2 follows is72 (Nat.le_of_ble_eq_true rfl) ?_
  simp only [b72, O, G, N, M, D, F, B2, cFal, cTru]
  have hiff := ranged_iff hsh hn hr
  obtain ⟨l1, l2, l3⟩ := shaped_len hsh
  have hso := fun {k : Nat} (hk : k < m.out.length) => shaped_out hsh hk
  have hss := fun {k : Nat} (hk : k < m.symbols.length) => shaped_sym hsh hk
  obtain ⟨s1, s2, s3, s4, s5, s5b, s6, s7, s8, s9, s10⟩ := hs
  unfold encM MachV.cells
  repeat' (first | apply w_seq | apply w_ops0 | apply w_block | apply a_n | apply o_nil | (apply o_val rfl rfl; (focus ((try simp (disch := omega) only [simB0, ZA, reduceEqDiff, ↓reduceIte, reduceAdd, reduceLeDiff, ZV, reduceCtorEq, ME, acells]); first | with_reducible rfl | (apply s_ite; (focus omega); with_reducible rfl)))) | (apply e_box rfl; (iterate 2 (focus ((try simp only [simB0, ZA, reduceEqDiff, ↓reduceIte, reduceAdd, reduceLeDiff, ME, acells]); (try with_reducible rfl); done))); (focus (simp only [SO, Bool.and_self, one_encV, one_encVV, ME, acells]))) | apply w_loop)
  refine loopA (fun p => [(1, .ptr 0 8 0), (3, .int .i64 p)]) m.first.length (fun p => firstB m p = true ∧ ∀ k, k < m.out.length → allB ((m.out.getD k default).getD p default) (-1) (m.outs - 1) = true ∧ (k < m.symbols.length → ∀ q, q < m.first.length → allB (((m.symbols.getD k default).getD p default).getD q default) 0 1048576 = true)) (by simp (disch := omega) only [agr, ZG, reduceEqDiff, ↓reduceIte, List.length_cons, List.length_nil]) ?_
  intro p hp hpp
  by_cases hp2 : p < m.first.length
  rotate_left
  · repeat' (first | apply w_seq | apply w_ops0 | apply w_exit | apply w_ret | apply a_n | apply a_x | apply o_nil | (apply o_val rfl rfl; (focus ((try simp (disch := omega) only [simB0, ZA, reduceEqDiff, ↓reduceIte, reduceAdd, reduceLeDiff, ZV, reduceCtorEq, ME]); first | with_reducible rfl | (apply s_ite; (focus omega); with_reducible rfl)))) | (apply w_cond; (focus ((try simp only [simB0, ZA, reduceEqDiff, ↓reduceIte, reduceAdd, reduceLeDiff, ME]); (try with_reducible rfl); done)); all_goals (intro _hg; (try simp only [ZB] at _hg); try first | exact absurd trivial _hg | (exfalso; omega))) | (refine e_ends rfl ?_) | (apply r_1; (focus (simp only [rv, simB0, ZA, reduceEqDiff, ↓reduceIte, reduceAdd, reduceLeDiff, ME]; with_reducible rfl))))
    exact snap_bool (hiff.2 fun i hi => hpp i (by omega)).symm
  have h0 : 0 < m.out.length := by omega
  have hso0 := hso h0
  have hF := s2 _ (mem_getD hp2)
  have hO0 := s5 _ (mem_getD h0) _ (mem_getD (k := p) (by omega))
  have hn1 := numbers_r (m.first.getD p default) (-1) ((((m.out.getD 0 default).getD p default).length : Int) - 1) hF
  have hfd : firstB m p = allB (m.first.getD p default) (-1) (((m.out.getD 0 default).getD p default).length - 1) := rfl
  have hlen0 : ((m.out.getD 0 default).getD p default).length ≤ 9223372036854775807 := hO0
  have hbadF : firstB m p = false → rangedB m = false := fun h => bool_false hiff fun hh => by rw [(hh p hp2).1] at h; cases h
  have g00 : (m.out.getD (0 : Int).toNat default) = m.out.getD 0 default := rfl
  generalize hA : m.first.getD p default = A at *
  generalize hB : m.out.getD 0 default = B at *
  generalize hC : B.getD p default = C at *
  rw [← hfd] at hn1
  cases hfb : firstB m p with
  | false =>
    rw [hfb] at hn1
    repeat' (first | apply w_seq | apply w_ops0 | apply w_mixS1 | apply w_block | apply w_skip | apply w_ret | apply a_n | apply a_r | apply o_nil | (apply o_val rfl rfl; (focus ((try simp (disch := omega) only [simB0, ZA, reduceEqDiff, ↓reduceIte, reduceAdd, reduceLeDiff, ZV, reduceCtorEq, ME, hA, hB, hC, g00, Int.toNat_zero]); first | with_reducible rfl | (apply s_ite; (focus omega); with_reducible rfl)))) | (apply o_callD; (iterate 2 (focus ((try simp only [simB0, ZA, reduceEqDiff, ↓reduceIte, reduceAdd, reduceLeDiff, ME, hA, hB, hC, g00, Int.toNat_zero]); (try with_reducible rfl); done))); (focus (first | (exact hn1))); (focus ((first | refine snap_plain ?_ rfl | apply snap_data); repeat' (first | exact snapL_nil | apply snapL_i | apply snapL_dat | exact encV_dat _)))) | (apply w_condT; (focus (simp only [simB0, ZA, reduceEqDiff, ↓reduceIte, reduceAdd, reduceLeDiff, ME, hA, hB, hC, g00, Int.toNat_zero]; done))) | (apply w_cond; (focus ((try simp only [simB0, ZA, reduceEqDiff, ↓reduceIte, reduceAdd, reduceLeDiff, ME, hA, hB, hC, g00, Int.toNat_zero]); (try with_reducible rfl); done)); all_goals (intro _hg; (try simp only [ZB] at _hg); try first | exact absurd trivial _hg | (exfalso; omega))) | (refine e_ends rfl ?_) | (apply r_1; (focus (simp only [rv, simB0, ZA, reduceEqDiff, ↓reduceIte, reduceAdd, reduceLeDiff, ME, hA, hB, hC, g00, Int.toNat_zero]; with_reducible rfl))))
    exact snap_bool (hbadF hfb).symm
  | true =>
  rw [hfb] at hn1
  repeat' (first | apply w_seq | apply w_ops0 | apply w_mixS1 | apply w_block | apply w_skip | apply a_n | apply o_nil | (apply o_val rfl rfl; (focus ((try simp (disch := omega) only [simB0, ZA, reduceEqDiff, ↓reduceIte, reduceAdd, reduceLeDiff, ZV, reduceCtorEq, ME, hA, hB, hC, g00, Int.toNat_zero]); first | with_reducible rfl | (apply s_ite; (focus omega); with_reducible rfl)))) | (apply o_callD; (iterate 2 (focus ((try simp only [simB0, ZA, reduceEqDiff, ↓reduceIte, reduceAdd, reduceLeDiff, ME, hA, hB, hC, g00, Int.toNat_zero]); (try with_reducible rfl); done))); (focus (first | (exact hn1))); (focus ((first | refine snap_plain ?_ rfl | apply snap_data); repeat' (first | exact snapL_nil | apply snapL_i | apply snapL_dat | exact encV_dat _)))) | (apply w_condF; (focus (simp only [simB0, ZA, reduceEqDiff, ↓reduceIte, reduceAdd, reduceLeDiff, ME, hA, hB, hC, g00, Int.toNat_zero]; done))) | (apply w_cond; (focus ((try simp only [simB0, ZA, reduceEqDiff, ↓reduceIte, reduceAdd, reduceLeDiff, ME, hA, hB, hC, g00, Int.toNat_zero]); (try with_reducible rfl); done)); all_goals (intro _hg; (try simp only [ZB] at _hg); try first | exact absurd trivial _hg | (exfalso; omega))) | apply w_loop)
  refine loopA (fun k => [(1, .ptr 0 8 0), (3, .int .i64 p), (4, .int .i64 k)]) m.out.length (fun k => allB ((m.out.getD k default).getD p default) (-1) (m.outs - 1) = true ∧ (k < m.symbols.length → ∀ q, q < m.first.length → allB (((m.symbols.getD k default).getD p default).getD q default) 0 1048576 = true)) (by simp (disch := omega) only [agr, ZG, reduceEqDiff, ↓reduceIte]) ?_
  intro k hk hkk
  by_cases hk2 : k < m.out.length
  rotate_left
  · repeat' (first | apply w_seq | apply w_ops0 | apply w_exit | apply a_n | apply a_x | apply o_nil | (apply o_val rfl rfl; (focus ((try simp (disch := omega) only [simB0, ZA, reduceEqDiff, ↓reduceIte, reduceAdd, reduceLeDiff, ZV, reduceCtorEq, ME]); first | with_reducible rfl | (apply s_ite; (focus omega); with_reducible rfl)))) | (apply w_cond; (focus ((try simp only [simB0, ZA, reduceEqDiff, ↓reduceIte, reduceAdd, reduceLeDiff, ME]); (try with_reducible rfl); done)); all_goals (intro _hg; (try simp only [ZB] at _hg); try first | exact absurd trivial _hg | (exfalso; omega))))
    exact ⟨hp2, ⟨rfl, fun i hi => hkk i (by omega)⟩, by simp (disch := omega) only [agr, ZG, reduceEqDiff, ↓reduceIte], rfl, rfl⟩
  have hbadK : (¬ (allB ((m.out.getD k default).getD p default) (-1) (m.outs - 1) = true ∧ (k < m.symbols.length → ∀ q, q < m.first.length → allB (((m.symbols.getD k default).getD p default).getD q default) 0 1048576 = true))) → rangedB m = false := fun h => bool_false hiff fun hh => h ((hh p hp2).2 k hk2)
  have hsok := hso hk2
  have hOk := s5 _ (mem_getD hk2) _ (mem_getD (k := p) (by omega))
  have hn2 := numbers_r ((m.out.getD k default).getD p default) (-1) (m.outs - 1) hOk
  generalize hD : m.out.getD k default = D at *
  generalize hE : D.getD p default = E at *
  cases hob : allB E (-1) (m.outs - 1) with
  | false =>
    rw [hob] at hn2
    repeat' (first | apply w_seq | apply w_ops0 | apply w_mixS1 | apply w_block | apply w_skip | apply w_ret | apply a_n | apply a_r | apply o_nil | (apply o_val rfl rfl; (focus ((try simp (disch := omega) only [simB0, ZA, reduceEqDiff, ↓reduceIte, reduceAdd, reduceLeDiff, ZV, reduceCtorEq, ME, hD, hE]); first | with_reducible rfl | (apply s_ite; (focus omega); with_reducible rfl)))) | (apply o_callD; (iterate 2 (focus ((try simp only [simB0, ZA, reduceEqDiff, ↓reduceIte, reduceAdd, reduceLeDiff, ME, hD, hE]); (try with_reducible rfl); done))); (focus (first | (exact hn2))); (focus ((first | refine snap_plain ?_ rfl | apply snap_data); repeat' (first | exact snapL_nil | apply snapL_i | apply snapL_dat | exact encV_dat _)))) | (apply w_condT; (focus (simp only [simB0, ZA, reduceEqDiff, ↓reduceIte, reduceAdd, reduceLeDiff, ME, hD, hE]; done))) | (apply w_cond; (focus ((try simp only [simB0, ZA, reduceEqDiff, ↓reduceIte, reduceAdd, reduceLeDiff, ME, hD, hE]); (try with_reducible rfl); done)); all_goals (intro _hg; (try simp only [ZB] at _hg); try first | exact absurd trivial _hg | (exfalso; omega))) | (refine e_ends rfl ?_) | (apply r_1; (focus (simp only [rv, simB0, ZA, reduceEqDiff, ↓reduceIte, reduceAdd, reduceLeDiff, ME, hD, hE]; with_reducible rfl))))
    exact snap_bool (hbadK (fun h => by rw [hob] at h; cases h.1)).symm
  | true =>
  rw [hob] at hn2
  repeat' (first | apply w_seq | apply w_ops0 | apply w_mixS1 | apply w_block | apply w_skip | apply a_n | apply o_nil | (apply o_val rfl rfl; (focus ((try simp (disch := omega) only [simB0, ZA, reduceEqDiff, ↓reduceIte, reduceAdd, reduceLeDiff, ZV, reduceCtorEq, ME, hD, hE]); first | with_reducible rfl | (apply s_ite; (focus omega); with_reducible rfl)))) | (apply o_callD; (iterate 2 (focus ((try simp only [simB0, ZA, reduceEqDiff, ↓reduceIte, reduceAdd, reduceLeDiff, ME, hD, hE]); (try with_reducible rfl); done))); (focus (first | (exact hn2))); (focus ((first | refine snap_plain ?_ rfl | apply snap_data); repeat' (first | exact snapL_nil | apply snapL_i | apply snapL_dat | exact encV_dat _)))) | (apply w_condF; (focus (simp only [simB0, ZA, reduceEqDiff, ↓reduceIte, reduceAdd, reduceLeDiff, ME, hD, hE]; done))) | (apply w_cond; (focus ((try simp only [simB0, ZA, reduceEqDiff, ↓reduceIte, reduceAdd, reduceLeDiff, ME, hD, hE]); (try with_reducible rfl); done)); all_goals (intro _hg; (try simp only [ZB] at _hg); try first | exact absurd trivial _hg | (exfalso; omega))) | apply w_loop)
  refine loopA (fun q => [(1, .ptr 0 8 0), (3, .int .i64 p), (4, .int .i64 k), (5, .int .i64 q)]) m.first.length (fun q => k < m.symbols.length ∧ allB (((m.symbols.getD k default).getD p default).getD q default) 0 1048576 = true) (by simp (disch := omega) only [agr, ZG, reduceEqDiff, ↓reduceIte]) ?_
  intro q hq hqq
  by_cases hq2 : q < m.first.length ∧ k < m.symbols.length
  rotate_left
  · have d1 : decide ((q : Int) < m.n) = true → decide ((k : Int) < m.rounds) = false := fun h => decide_eq_false (by have := of_decide_eq_true h; omega)
    cases hd : decide ((q : Int) < m.n) with
    | false =>
      repeat' (first | apply w_seq | apply w_ops0 | apply w_exit | apply a_n | apply a_x | apply o_nil | (apply o_val rfl rfl; (focus ((try simp (disch := omega) only [simB0, ZA, reduceEqDiff, ↓reduceIte, reduceAdd, reduceLeDiff, ZV, reduceCtorEq, ME, hd]); first | with_reducible rfl | (apply s_ite; (focus omega); with_reducible rfl)))) | (apply o_gF; (focus (simp only [simB0, ZA, reduceEqDiff, ↓reduceIte, reduceAdd, reduceLeDiff, or_true, true_or, ME, hd]; done))) | (apply w_condF; (focus (simp only [simB0, ZA, reduceEqDiff, ↓reduceIte, reduceAdd, reduceLeDiff, ME, hd]; done))))
      all_goals exact ⟨hk2, ⟨rfl, fun h2 i hi => (hqq i (by have := of_decide_eq_false hd; omega)).2⟩, by simp (disch := omega) only [agr, ZG, reduceEqDiff, ↓reduceIte], rfl, rfl⟩
    | true =>
      have d2 := d1 hd
      repeat' (first | apply w_seq | apply w_ops0 | apply w_exit | apply a_n | apply a_x | apply o_nil | (apply o_val rfl rfl; (focus ((try simp (disch := omega) only [simB0, ZA, reduceEqDiff, ↓reduceIte, reduceAdd, reduceLeDiff, ZV, reduceCtorEq, ME, hd, d2]); first | with_reducible rfl | (apply s_ite; (focus omega); with_reducible rfl)))) | (apply o_gT; (focus (simp only [simB0, ZA, reduceEqDiff, ↓reduceIte, reduceAdd, reduceLeDiff, ME, hd, d2]; done))) | (apply w_condF; (focus (simp only [simB0, ZA, reduceEqDiff, ↓reduceIte, reduceAdd, reduceLeDiff, ME, hd, d2]; done))))
      all_goals exact ⟨hk2, ⟨rfl, fun h2 i hi => by have := of_decide_eq_false d2; omega⟩, by simp (disch := omega) only [agr, ZG, reduceEqDiff, ↓reduceIte], rfl, rfl⟩
  obtain ⟨hq2, hk3⟩ := hq2
  obtain ⟨t1, t2⟩ := hss hk3
  obtain ⟨t3, _⟩ := t2 p (by omega)
  have hSq := s9 _ (mem_getD hk3) _ (mem_getD (k := p) (by omega)) _ (mem_getD (k := q) (by omega))
  have hn3 := numbers_r (((m.symbols.getD k default).getD p default).getD q default) 0 1048576 hSq
  have d1 : decide ((q : Int) < m.n) = true := decide_eq_true (by omega)
  have d2 : decide ((k : Int) < m.rounds) = true := decide_eq_true (by omega)
  generalize hX : m.symbols.getD k default = X at *
  generalize hY : X.getD p default = Y at *
  generalize hZ : Y.getD q default = Z at *
  cases hzb : allB Z 0 1048576 with
  | false =>
    rw [hzb] at hn3
    repeat' (first | apply w_seq | apply w_ops0 | apply w_block | apply w_skip | apply w_ret | apply a_n | apply a_r | apply o_nil | (apply o_val rfl rfl; (focus ((try simp (disch := omega) only [simB0, ZA, reduceEqDiff, ↓reduceIte, reduceAdd, reduceLeDiff, ZV, reduceCtorEq, ME, d1, d2, hX, hY, hZ]); first | with_reducible rfl | (apply s_ite; (focus omega); with_reducible rfl)))) | (apply o_callD; (iterate 2 (focus ((try simp only [simB0, ZA, reduceEqDiff, ↓reduceIte, reduceAdd, reduceLeDiff, ME, d1, d2, hX, hY, hZ]); (try with_reducible rfl); done))); (focus (first | (exact hn3))); (focus ((first | refine snap_plain ?_ rfl | apply snap_data); repeat' (first | exact snapL_nil | apply snapL_i | apply snapL_dat | exact encV_dat _)))) | (apply o_gT; (focus (simp only [simB0, ZA, reduceEqDiff, ↓reduceIte, reduceAdd, reduceLeDiff, ME, d1, d2, hX, hY, hZ]; done))) | (apply w_condT; (focus (simp only [simB0, ZA, reduceEqDiff, ↓reduceIte, reduceAdd, reduceLeDiff, ME, d1, d2, hX, hY, hZ]; done))) | (refine e_ends rfl ?_) | (apply r_1; (focus (simp only [rv, simB0, ZA, reduceEqDiff, ↓reduceIte, reduceAdd, reduceLeDiff, ME, d1, d2, hX, hY, hZ]; with_reducible rfl))))
    exact snap_bool (hbadK (fun h => by have := h.2 hk3 q hq2; rw [hZ, hzb] at this; cases this)).symm
  | true =>
    rw [hzb] at hn3
    repeat' (first | apply w_seq | apply w_ops0 | apply w_block | apply w_skip | apply a_n | apply o_nil | (apply o_val rfl rfl; (focus ((try simp (disch := omega) only [simB0, ZA, reduceEqDiff, ↓reduceIte, reduceAdd, reduceLeDiff, ZV, reduceCtorEq, ME, d1, d2, hX, hY, hZ]); first | with_reducible rfl | (apply s_ite; (focus omega); with_reducible rfl)))) | (apply o_callD; (iterate 2 (focus ((try simp only [simB0, ZA, reduceEqDiff, ↓reduceIte, reduceAdd, reduceLeDiff, ME, d1, d2, hX, hY, hZ]); (try with_reducible rfl); done))); (focus (first | (exact hn3))); (focus ((first | refine snap_plain ?_ rfl | apply snap_data); repeat' (first | exact snapL_nil | apply snapL_i | apply snapL_dat | exact encV_dat _)))) | (apply o_gT; (focus (simp only [simB0, ZA, reduceEqDiff, ↓reduceIte, reduceAdd, reduceLeDiff, ME, d1, d2, hX, hY, hZ]; done))) | (apply w_condT; (focus (simp only [simB0, ZA, reduceEqDiff, ↓reduceIte, reduceAdd, reduceLeDiff, ME, d1, d2, hX, hY, hZ]; done))) | (apply w_condF; (focus (simp only [simB0, ZA, reduceEqDiff, ↓reduceIte, reduceAdd, reduceLeDiff, ME, d1, d2, hX, hY, hZ]; done))))
    exact ⟨hq2, ⟨hk3, rfl⟩, by simp (disch := omega) only [agr, ZG, reduceEqDiff, ↓reduceIte], rfl, rfl⟩

end Go.Proofs.Ytpbjhjkfobapeaa

/- Q37: contracts of functions and plain laws; for all inputs that the theorems name. -/
namespace Go.Proofs.Ytpbjhjkfobapeaa
open Go Go.Abs
open Nat (reduceEqDiff reduceAdd reduceLeDiff)

theorem n_ld1 {P : Program} {T : Tm} {H : Hp} {nx : Nat} {S : Hp} {K : SP} {l : List (Op2 × Nat)} {d : Option Nat} {x : Opd} {p v : AV} (hp : ov T x = p) (h : rd1 S p = some v) (k : aops2S P S l (updo T d v) H nx K) : aops2S P S ((⟨d, none, .ld1 x⟩, 0) :: l) T H nx K :=
  n_val (i := .ld1 x) (show rd1 S (ov T x) = some v by rw [hp]; exact h) k
theorem heard_cell (a : StepV) {k : Nat} (hk : k < 5) : a.cells[2 + k * 1]? = some (.int .i64 (a.heard.getD k default)) := by
  match k, hk with
  | 0, _ => rfl
  | 1, _ => rfl
  | 2, _ => rfl
  | 3, _ => rfl
  | 4, _ => rfl
theorem key_take (a : StepV) {k : Nat} (hk : k < 5) : a.key.take (k + 1 + 2) = a.key.take (k + 2) ++ [a.heard.getD k default] := by
  match k, hk with
  | 0, _ => rfl
  | 1, _ => rfl
  | 2, _ => rfl
  | 3, _ => rfl
  | 4, _ => rfl
structure OI (a b : StepV) (k : Nat) (sx sy : AV) (H : Hp) (nx : Nat) : Prop where
  h0 : H 0 = some a.cells
  h1 : H 1 = some b.cells
  rx : Row H 1 sx ((a.key.take (k + 2)).map (AV.int .i64))
  ry : Row H 1 sy ((b.key.take (k + 2)).map (AV.int .i64))
  bx : ∀ i, rowB sx = some i → 2 ≤ i ∧ i < nx ∧ rowB sy ≠ some i
  bw : ∀ i, rowB sy = some i → 2 ≤ i ∧ i < nx
  lt : 2 ≤ nx
attribute [local irreducible] awp2 aops2 ains aloop athen bbind obind gbind acond res1 Go.Abs.Fn PCall Go.Abs.Pure SnapArgs SnapL Yl

theorem order_r (a b : StepV) : Pure Try.prog 74 [encStep a, encStep b] (.int .i64 (orderS a b)) := by
  refine Pure.of_c2 follows is74 (Nat.le_of_ble_eq_true rfl) ?_
  simp only [b74, O, G, N, M, D, F, B2, cFal, cTru]
  have ea : a.cells = [.int .i64 a.round, .int .i64 a.proc, .int .i64 a.h0, .int .i64 a.h1, .int .i64 a.h2, .int .i64 a.h3, .int .i64 a.h4, .int .i64 a.to] := rfl
  have eb : b.cells = [.int .i64 b.round, .int .i64 b.proc, .int .i64 b.h0, .int .i64 b.h1, .int .i64 b.h2, .int .i64 b.h3, .int .i64 b.h4, .int .i64 b.to] := rfl
  unfold encStep
  rw [ea, eb]
  refine w_seq ?_
  repeat' (first | apply w_ops0 | apply a_n | apply o_nil | (apply o_val rfl rfl; (focus ((try simp (disch := omega) only [simB0, ZA, reduceEqDiff, ↓reduceIte, reduceAdd, reduceLeDiff, ZV, reduceCtorEq, acells]); first | with_reducible rfl | (apply s_ite; (focus omega); with_reducible rfl)))) | (apply e_box rfl; (iterate 2 (focus ((try simp only [simB0, ZA, reduceEqDiff, ↓reduceIte, reduceAdd, reduceLeDiff, acells]); (try with_reducible rfl); done))); (focus (simp only [SO, Bool.and_self, one_encV, one_encVV, acells]))))
  refine w_seq ?_
  repeat' (first | apply w_ops0 | apply a_n | apply o_nil | (apply o_val rfl rfl; (focus ((try simp (disch := omega) only [simB0, ZA, reduceEqDiff, ↓reduceIte, reduceAdd, reduceLeDiff, ZV, reduceCtorEq, acells]); first | with_reducible rfl | (apply s_ite; (focus omega); with_reducible rfl)))) | (apply e_bld rfl; (focus (exact Nat.succ_ne_zero _)); (focus ((try simp only [simB0, ZA, reduceEqDiff, ↓reduceIte, reduceAdd, reduceLeDiff, acells]); (try with_reducible rfl); done)); (focus ((try simp only [simB0, ZA, reduceEqDiff, ↓reduceIte, reduceAdd, reduceLeDiff, SO, Bool.and_self, one_encV, one_encVV, acells]); (try with_reducible rfl); done))))
  refine w_seq ?_
  repeat' (first | apply w_ops0 | apply a_n | apply o_nil | (apply o_val rfl rfl; (focus ((try simp (disch := omega) only [simB0, ZA, reduceEqDiff, ↓reduceIte, reduceAdd, reduceLeDiff, ZV, reduceCtorEq, acells]); first | with_reducible rfl | (apply s_ite; (focus omega); with_reducible rfl)))) | (apply e_bld rfl; (focus (exact Nat.succ_ne_zero _)); (focus ((try simp only [simB0, ZA, reduceEqDiff, ↓reduceIte, reduceAdd, reduceLeDiff, acells]); (try with_reducible rfl); done)); (focus ((try simp only [simB0, ZA, reduceEqDiff, ↓reduceIte, reduceAdd, reduceLeDiff, SO, Bool.and_self, one_encV, one_encVV, acells]); (try with_reducible rfl); done))))
  refine w_seqC (fun T H nx => Row H 1 (T 5) (a.key.map (AV.int .i64)) ∧ Row H 1 (T 6) (b.key.map (AV.int .i64))) ?_ ?_
  · repeat' (first | apply w_seq | apply w_ops0 | apply w_block | apply a_n | apply o_nil | (apply o_val rfl rfl; (focus ((try simp (disch := omega) only [simB0, ZA, reduceEqDiff, ↓reduceIte, reduceAdd, reduceLeDiff, ZV, reduceCtorEq]); first | with_reducible rfl | (apply s_ite; (focus omega); with_reducible rfl)))) | apply w_loop)
    refine loopF (X := Nat × AV × AV) (fun s => [(2, .ptr 0 8 0), (3, .ptr 1 8 0), (5, s.2.1), (6, s.2.2), (7, .int .i64 s.1)]) (fun s H nx => s.1 ≤ 5 ∧ OI a b s.1 s.2.1 s.2.2 H nx) (fun s => 5 - s.1) (0, .msl 2 2 1 0 2, .msl 3 2 1 0 2) ⟨_, _, Fz.none, ⟨Nat.zero_le _, ?_⟩, agrF_of (by simp (disch := omega) only [agr, ZG, reduceEqDiff, ↓reduceIte, List.length_cons, List.length_nil])⟩ ?_
    · exact ⟨rfl, rfl, .box 2 2 _ rfl rfl, .box 3 2 _ rfl rfl, fun i h => by cases h; exact ⟨by omega, by omega, fun h => by cases h⟩, fun i h => by cases h; exact ⟨by omega, by omega⟩, by omega⟩
    rintro ⟨k, sx, sy⟩ H nx ⟨hk, hI⟩
    dsimp only at hk hI ⊢
    by_cases hk5 : k < 5
    rotate_left
    · have hk5' : k = 5 := by omega
      subst hk5'
      repeat' (first | apply w_seq | apply w_ops0 | apply w_exit | apply a_n | apply a_x | apply o_nil | (apply o_val rfl rfl; (focus ((try simp (disch := omega) only [simB0, ZA, reduceEqDiff, ↓reduceIte, reduceAdd, reduceLeDiff, ZV, reduceCtorEq]); first | with_reducible rfl | (apply s_ite; (focus omega); with_reducible rfl)))) | (apply w_cond; (focus ((try simp only [simB0, ZA, reduceEqDiff, ↓reduceIte, reduceAdd, reduceLeDiff]); (try with_reducible rfl); done)); all_goals (intro _hg; (try simp only [ZB] at _hg); try first | exact absurd trivial _hg | (exfalso; omega))))
      exact ⟨hI.rx, hI.ry⟩
    have r0 : rd1 (fun i => if i < 2 then H i else none) (.ptr 0 8 (2 + k * 1)) = some (.int .i64 (a.heard.getD k default)) := (rd1_ptr (cs := a.cells) hI.h0 rfl).trans (heard_cell a hk5)
    have r1 : rd1 (fun i => if i < 2 then H i else none) (.ptr 1 8 (2 + k * 1)) = some (.int .i64 (b.heard.getD k default)) := (rd1_ptr (cs := b.cells) hI.h1 rfl).trans (heard_cell b hk5)
    have ka := key_take a hk5
    have kb := key_take b hk5
    have la : ((a.key.take (k + 2)).map (AV.int .i64)).length ≤ 7 := by rw [List.length_map, List.length_take]; omega
    have lb : ((b.key.take (k + 2)).map (AV.int .i64)).length ≤ 7 := by rw [List.length_map, List.length_take]; omega
    generalize a.heard.getD k default = va at *
    generalize b.heard.getD k default = vb at *
    repeat' (first | apply w_seq | apply w_ops0 | apply w_block | apply w_skip | apply a_n | apply o_nil | (apply o_val rfl rfl; (focus ((try simp (disch := omega) only [simB0, ZA, reduceEqDiff, ↓reduceIte, reduceAdd, reduceLeDiff, ZV, reduceCtorEq]); first | with_reducible rfl | (apply s_ite; (focus omega); with_reducible rfl)))) | (apply w_cond; (focus ((try simp only [simB0, ZA, reduceEqDiff, ↓reduceIte, reduceAdd, reduceLeDiff]); (try with_reducible rfl); done)); all_goals (intro _hg; (try simp only [ZB] at _hg); try first | exact absurd trivial _hg | (exfalso; omega))))
    refine w_mixS (fun i => if i < 2 then H i else none) rfl (fun i cs h => by
      dsimp only at h
      split at h
      · exact h
      · cases h) ?_
    repeat' (first | (apply n_val; (focus ((try simp (disch := omega) only [simB0, ZA, reduceEqDiff, ↓reduceIte, reduceAdd, reduceLeDiff, ZV, reduceCtorEq]); first | with_reducible rfl | (apply s_ite; (focus omega); with_reducible rfl)))))
    refine n_val (ixaA_ptr (by ((try simp only [simB0, ZA, reduceEqDiff, ↓reduceIte, reduceAdd, reduceLeDiff]); (try with_reducible rfl))) (by ((try simp only [simB0, ZA, reduceEqDiff, ↓reduceIte, reduceAdd, reduceLeDiff]); (try with_reducible rfl))) hk5) ?_
    refine n_ld1 (by ((try simp only [simB0, ZA, reduceEqDiff, ↓reduceIte, reduceAdd, reduceLeDiff]); (try with_reducible rfl))) r0 ?_
    refine n_bld (pv := [(0, 1, .int .i64 va)]) (cs := [.int .i64 va]) (by ((try simp only [simB0, ZA, reduceEqDiff, ↓reduceIte, reduceAdd, reduceLeDiff]); (try with_reducible rfl))) rfl (by decide) rfl rfl ?_
    repeat' (first | (apply n_val; (focus ((try simp (disch := omega) only [simB0, ZA, reduceEqDiff, ↓reduceIte, reduceAdd, reduceLeDiff, ZV, reduceCtorEq]); first | with_reducible rfl | (apply s_ite; (focus omega); with_reducible rfl)))))
    refine n_val (ixaA_ptr (by ((try simp only [simB0, ZA, reduceEqDiff, ↓reduceIte, reduceAdd, reduceLeDiff]); (try with_reducible rfl))) (by ((try simp only [simB0, ZA, reduceEqDiff, ↓reduceIte, reduceAdd, reduceLeDiff]); (try with_reducible rfl))) hk5) ?_
    refine n_ld1 (by ((try simp only [simB0, ZA, reduceEqDiff, ↓reduceIte, reduceAdd, reduceLeDiff]); (try with_reducible rfl))) r1 ?_
    refine n_bld (pv := [(0, 1, .int .i64 vb)]) (cs := [.int .i64 vb]) (by ((try simp only [simB0, ZA, reduceEqDiff, ↓reduceIte, reduceAdd, reduceLeDiff]); (try with_reducible rfl))) rfl (by decide) rfl rfl ?_
    refine n_keep ?_
    refine e_row (k := 1) (new := [.int .i64 va]) rfl (by ((try simp only [simB0, ZA, reduceEqDiff, ↓reduceIte, reduceAdd, reduceLeDiff]); (try with_reducible rfl))) hI.rx (by ((try simp only [simB0, ZA, reduceEqDiff, ↓reduceIte, reduceAdd, reduceLeDiff]); (try with_reducible rfl))) asrc_sl rfl rfl Nat.one_pos (by omega) (by omega) ?_
    rintro s' H' nx' hrow j1 j2 j3 j4
    have hx2 : ∀ i, i < 2 → rowB sx ≠ some i := fun i hi h => by have := hI.bx i h; omega
    have hy2 : ∀ i, i < 2 → rowB sy ≠ some i := fun i hi h => by have := hI.bw i h; omega
    have hlt := hI.lt
    refine o_nil ⟨fun i cs h => ?_, ?_⟩
    · dsimp only at h
      split at h
      · rename_i hi
        rw [j3 i (by omega) (hx2 i hi)]; exact h
      · cases h
    refine n_any ?_
    refine e_row (k := 1) (new := [.int .i64 vb]) rfl (by ((try simp only [simB0, ZA, reduceEqDiff, ↓reduceIte, reduceAdd, reduceLeDiff]); (try with_reducible rfl))) (hI.ry.same fun i hi => j3 i (hI.bw i hi).2 (fun h => (hI.bx i h).2.2 hi)) (by ((try simp only [simB0, ZA, reduceEqDiff, ↓reduceIte, reduceAdd, reduceLeDiff]); (try with_reducible rfl))) asrc_sl rfl rfl Nat.one_pos (by omega) (by omega) ?_
    rintro s2 H2 nx2 hrow2 i1 i2 i3 i4
    refine o_nil ?_
    repeat' (first | apply w_ops0 | apply a_n | apply o_nil | (apply o_val rfl rfl; (focus ((try simp (disch := omega) only [simB0, ZA, reduceEqDiff, ↓reduceIte, reduceAdd, reduceLeDiff, ZV, reduceCtorEq]); first | with_reducible rfl | (apply s_ite; (focus omega); with_reducible rfl)))) | (apply n_val; (focus ((try simp (disch := omega) only [simB0, ZA, reduceEqDiff, ↓reduceIte, reduceAdd, reduceLeDiff, ZV, reduceCtorEq]); first | with_reducible rfl | (apply s_ite; (focus omega); with_reducible rfl)))))
    have hs' : ∀ i, rowB s' = some i → 2 ≤ i ∧ i < nx' ∧ rowB sy ≠ some i := fun i h => by
      rcases j4 i h with h | h
      · have := hI.bx i h; exact ⟨this.1, by omega, this.2.2⟩
      · exact ⟨by omega, by omega, fun h2 => by have := hI.bw i h2; omega⟩
    refine ⟨(k + 1, s', s2), by dsimp only; omega, _, _, Fz.none, ⟨by dsimp only; omega, ⟨?_, ?_, ?_, ?_, fun i h => ?_, fun i h => ?_, by omega⟩⟩, agrF_of (by simp (disch := omega) only [agr, ZG, reduceEqDiff, ↓reduceIte])⟩
    · rw [i3 0 (by omega) (hy2 0 (by omega)), j3 0 (by omega) (hx2 0 (by omega))]; exact hI.h0
    · rw [i3 1 (by omega) (hy2 1 (by omega)), j3 1 (by omega) (hx2 1 (by omega))]; exact hI.h1
    · dsimp only
      rw [ka, List.map_append]
      exact hrow.same fun i hi => i3 i (hs' i hi).2.1 (hs' i hi).2.2
    · dsimp only
      rw [kb, List.map_append]
      exact hrow2
    · have := hs' i h
      refine ⟨this.1, by omega, fun h2 => ?_⟩
      rcases i4 i h2 with h3 | h3
      · exact this.2.2 h3
      · omega
    · rcases i4 i h with h3 | h3
      · have := hI.bw i h3; omega
      · omega
  rintro T H nx ⟨hrx, hry⟩
  refine w_seq (w_seq ?_)
  refine w_ops0F H noBoxes [(5, encV a.key), (6, encV b.key)] Fz.all ⟨.inr hrx.snapI, .inr hry.snapI, trivial⟩ ?_
  repeat' (first | apply w_block | apply a_n | apply o_nil | (apply o_val rfl rfl; (focus ((try simp (disch := omega) only [simB0, ZA, reduceEqDiff, ↓reduceIte, reduceAdd, reduceLeDiff, ZV, reduceCtorEq]); first | with_reducible rfl | (apply s_ite; (focus omega); with_reducible rfl)))) | apply w_loop)
  refine loopF (X := Nat) (fun k => [(5, encV a.key), (6, encV b.key), (8, .int .i64 k)]) (fun k H nx => k ≤ 7 ∧ orderS a b = order (a.key.drop k) (b.key.drop k)) (fun k => 7 - k) 0 ⟨_, _, Fz.none, ⟨Nat.zero_le _, rfl⟩, agrF_of (by simp (disch := omega) only [agr, ZG, reduceEqDiff, ↓reduceIte])⟩ ?_
  rintro k H nx ⟨hk, ho⟩
  have la : a.key.length = 7 := rfl
  have lb : b.key.length = 7 := rfl
  by_cases hk7 : k < 7
  rotate_left
  · repeat' (first | apply w_seq | apply w_ops0 | apply w_exit | apply w_ret | apply a_n | apply a_x | apply o_nil | (apply o_val rfl rfl; (focus ((try simp (disch := omega) only [simB0, ZA, reduceEqDiff, ↓reduceIte, reduceAdd, reduceLeDiff, ZV, reduceCtorEq, la, lb]); first | with_reducible rfl | (apply s_ite; (focus omega); with_reducible rfl)))) | (apply w_cond; (focus ((try simp only [simB0, ZA, reduceEqDiff, ↓reduceIte, reduceAdd, reduceLeDiff, la, lb]); (try with_reducible rfl); done)); all_goals (intro _hg; (try simp only [ZB] at _hg); try first | exact absurd trivial _hg | (exfalso; omega))) | (refine e_ends rfl ?_) | (apply r_1; (focus (simp only [rv, simB0, ZA, reduceEqDiff, ↓reduceIte, reduceAdd, reduceLeDiff, la, lb]; with_reducible rfl))))
    rw [List.drop_eq_nil_of_le (by omega), List.drop_eq_nil_of_le (by omega)] at ho
    rw [ho]; exact .int _ _
  have ha := drop_cons (l := a.key) (k := k) (by omega)
  have hb := drop_cons (l := b.key) (k := k) (by omega)
  rw [ha, hb, order_cons] at ho
  have o1 : a.key.getD k default < b.key.getD k default → orderS a b = -1 := fun h => by rw [ho, if_pos h]; rfl
  have o2 : b.key.getD k default < a.key.getD k default → orderS a b = 1 := fun h => by
    rw [ho, if_neg (show ¬ a.key.getD k default < b.key.getD k default by omega), if_pos (show a.key.getD k default > b.key.getD k default from h)]; rfl
  have o3 : ¬ a.key.getD k default < b.key.getD k default → ¬ b.key.getD k default < a.key.getD k default → orderS a b = order (a.key.drop (k + 1)) (b.key.drop (k + 1)) := fun h1 h2 => by rw [ho, if_neg h1, if_neg (show ¬ a.key.getD k default > b.key.getD k default from h2), if_neg (by simp)]
  clear ho ha hb
  repeat' (first | apply w_seq | apply w_ops0 | apply w_ops1 | apply w_block | apply w_skip | apply w_ret | apply a_n | apply a_r | apply o_nil | (apply o_val rfl rfl; (focus ((try simp (disch := omega) only [simB0, ZA, reduceEqDiff, ↓reduceIte, reduceAdd, reduceLeDiff, ZV, reduceCtorEq, la, lb]); first | with_reducible rfl | (apply s_ite; (focus omega); with_reducible rfl)))) | (apply w_cond; (focus ((try simp only [simB0, ZA, reduceEqDiff, ↓reduceIte, reduceAdd, reduceLeDiff, la, lb]); (try with_reducible rfl); done)); all_goals (intro _hg; (try simp only [ZB] at _hg); try first | exact absurd trivial _hg | (exfalso; omega))) | (refine e_ends rfl ?_) | (apply r_1; (focus (simp only [rv, simB0, ZA, reduceEqDiff, ↓reduceIte, reduceAdd, reduceLeDiff, la, lb]; with_reducible rfl))))
  all_goals first
    | exact snap_int (o1 (by omega)).symm
    | exact snap_int (o2 (by omega)).symm
    | exact ⟨k + 1, by omega, _, _, Fz.none, ⟨by omega, o3 (by omega) (by omega)⟩, agrF_of (by simp (disch := omega) only [agr, ZG, reduceEqDiff, ↓reduceIte])⟩
    | trace_state
end Go.Proofs.Ytpbjhjkfobapeaa

/- Q38: contracts of functions and plain laws; for all inputs that the theorems name. -/
namespace Go.Proofs.Ytpbjhjkfobapeaa
open Go Go.Abs
open Nat (reduceEqDiff reduceAdd reduceLeDiff)

theorem drop_all {x : StepV} {n : Nat} : allB (x.heard.drop n) (-1) (-1) = true ↔ ∀ i, n ≤ i → i < 5 → x.heard.getD i default = -1 := by
  unfold allB
  rw [all_idx]
  have hl : x.heard.length = 5 := rfl
  have e : ∀ j, (x.heard.drop n).getD j default = x.heard.getD (n + j) default := fun j => by simp only [List.getD, List.getElem?_drop]
  constructor
  · intro h i hi hi5
    have := h (i - n) (by rw [List.length_drop]; omega)
    rw [e, show n + (i - n) = i by omega] at this
    have := of_decide_eq_true this
    omega
  · intro h j hj
    rw [List.length_drop] at hj
    rw [e]
    exact decide_eq_true (by rw [h (n + j) (by omega) (by omega)]; omega)
theorem ixaA_iptr {T : Tm} {H : Hp} {cs : List AV} {off len sz q : Nat} {x i : Opd} (hx : ov T x = .iptr cs off) (hi : ov T i = .int .i64 (q : Int)) (h : q < len) : ival T H (.ixaA len sz x i) = some (.iptr cs (off + q * sz)) := by
  simp only [ival, hx, hi, aint]
  rw [if_pos ⟨by omega, by omega⟩, Int.toNat_natCast]
  rfl
theorem o_ld1 {P : Program} {dm : DM} {T : Tm} {H : Hp} {nx : Nat} {K : SP} {l : List Op2} {d : Option Nat} {x : Opd} {cs : List AV} {off : Nat} {v : AV} (hd : dm2 dm T (.ld1 x) = true) (hp : ov T x = .iptr cs off) (h : cs[off]? = some v) (k : aops2 P dm l (updo T d v) H nx K) : aops2 P dm (⟨d, none, .ld1 x⟩ :: l) T H nx K :=
  o_val (i := .ld1 x) rfl hd (show rd1 H (ov T x) = some v by rw [hp]; exact h) k
attribute [local irreducible] awp2 aops2 ains aloop athen bbind obind gbind acond res1 Go.Abs.Fn PCall Go.Abs.Pure SnapArgs SnapL Yl

theorem step_r (m : MachV) (x : StepV) (hs : ShM m) (hn : 1 ≤ m.n ∧ m.n ≤ 5) (hr : 0 ≤ m.rounds ∧ m.rounds ≤ 6) (hsh : shapedB m = true) : Pure Try.prog 73 [encM m, encStep x] (.int .i64 (stepI m x)) := by
  refine Pure.of_c2 follows is73 (Nat.le_of_ble_eq_true rfl) ?_
  simp only [b73, O, G, N, M, D, F, B2, cFal, cTru]
  obtain ⟨s1, s2, s3, s4, s5, s5b, s6, s7, s8, s9, s10⟩ := hs
  have e2 : m.out.length ≤ 9223372036854775807 := s3
  obtain ⟨l1, l2, l3⟩ := shaped_len hsh
  unfold encM MachV.cells encStep StepV.cells
  refine w_seq ?_
  repeat' (first | apply w_ops0 | apply a_n | apply o_nil | (apply o_val rfl rfl; (focus ((try simp (disch := omega) only [simB0, ZA, reduceEqDiff, ↓reduceIte, reduceAdd, reduceLeDiff, ZV, reduceCtorEq, ME, acells]); first | with_reducible rfl | (apply s_ite; (focus omega); with_reducible rfl)))) | (apply e_box rfl; (iterate 2 (focus ((try simp only [simB0, ZA, reduceEqDiff, ↓reduceIte, reduceAdd, reduceLeDiff, ME, acells]); (try with_reducible rfl); done))); (focus (simp only [SO, Bool.and_self, one_encV, one_encVV, ME, acells]))))
  refine w_seqC (fun T H nx => T 2 = .ptr 0 8 0 ∧ T 3 = .ptr 1 8 0 ∧ H = hupd (hupd noBoxes 0 m.cells) 1 x.cells ∧ (0 ≤ x.round ∧ x.round ≤ m.rounds - 1 ∧ 0 ≤ x.proc ∧ x.proc ≤ m.n - 1) ∧
    (inB x.round 0 (m.rounds - 1) && (inB x.proc 0 (m.n - 1) && inB x.to 0 ((((m.out.getD (x.round + 1).toNat default).getD x.proc.toNat default).length : Int) - 1))) = true) ?_ ?_
  · by_cases h1 : 0 ≤ x.round ∧ x.round ≤ m.rounds - 1
    rotate_left
    · have i1 : inB x.round 0 (m.rounds - 1) = false := decide_eq_false h1
      have hc := in_r x.round 0 (m.rounds - 1)
      rw [i1] at hc
      repeat' (first | apply w_seq | apply w_ops0 | apply w_mixS1 | apply w_ret | apply a_n | apply a_r | apply o_nil | (apply o_val rfl rfl; (focus ((try simp (disch := omega) only [simB0, ZA, reduceEqDiff, ↓reduceIte, reduceAdd, reduceLeDiff, ZV, reduceCtorEq, ME, Bool.false_eq_true]); first | with_reducible rfl | (apply s_ite; (focus omega); with_reducible rfl)))) | (apply o_callD; (iterate 2 (focus ((try simp only [simB0, ZA, reduceEqDiff, ↓reduceIte, reduceAdd, reduceLeDiff, ME, Bool.false_eq_true]); (try with_reducible rfl); done))); (focus (first | (exact hc))); (focus ((first | refine snap_plain ?_ rfl | apply snap_data); repeat' (first | exact snapL_nil | apply snapL_i | apply snapL_dat)))) | (apply o_gF; (focus (simp only [simB0, ZA, reduceEqDiff, ↓reduceIte, reduceAdd, reduceLeDiff, or_true, true_or, ME, Bool.false_eq_true]; done))) | (apply w_condT; (focus (simp only [simB0, ZA, reduceEqDiff, ↓reduceIte, reduceAdd, reduceLeDiff, ME, Bool.false_eq_true]; done))) | (refine e_ends rfl ?_) | (apply r_1; (focus (simp only [rv, simB0, ZA, reduceEqDiff, ↓reduceIte, reduceAdd, reduceLeDiff, ME, Bool.false_eq_true]; with_reducible rfl))))
      refine snap_int ?_
      unfold stepI; rw [i1]; simp
    have i1 : inB x.round 0 (m.rounds - 1) = true := decide_eq_true h1
    have hc := in_r x.round 0 (m.rounds - 1)
    rw [i1] at hc
    by_cases h2 : 0 ≤ x.proc ∧ x.proc ≤ m.n - 1
    rotate_left
    · have i2 : inB x.proc 0 (m.n - 1) = false := decide_eq_false h2
      have hc2 := in_r x.proc 0 (m.n - 1)
      rw [i2] at hc2
      repeat' (first | apply w_seq | apply w_ops0 | apply w_mixS1 | apply w_ret | apply a_n | apply a_r | apply o_nil | (apply o_val rfl rfl; (focus ((try simp (disch := omega) only [simB0, ZA, reduceEqDiff, ↓reduceIte, reduceAdd, reduceLeDiff, ZV, reduceCtorEq, ME, Bool.false_eq_true]); first | with_reducible rfl | (apply s_ite; (focus omega); with_reducible rfl)))) | (apply o_callD; (iterate 2 (focus ((try simp only [simB0, ZA, reduceEqDiff, ↓reduceIte, reduceAdd, reduceLeDiff, ME, Bool.false_eq_true]); (try with_reducible rfl); done))); (focus (first | (exact hc) | (exact hc2))); (focus ((first | refine snap_plain ?_ rfl | apply snap_data); repeat' (first | exact snapL_nil | apply snapL_i | apply snapL_dat)))) | (apply o_gT; (focus (simp only [simB0, ZA, reduceEqDiff, ↓reduceIte, reduceAdd, reduceLeDiff, ME, Bool.false_eq_true]; done))) | (apply o_gF; (focus (simp only [simB0, ZA, reduceEqDiff, ↓reduceIte, reduceAdd, reduceLeDiff, or_true, true_or, ME, Bool.false_eq_true]; done))) | (apply w_condT; (focus (simp only [simB0, ZA, reduceEqDiff, ↓reduceIte, reduceAdd, reduceLeDiff, ME, Bool.false_eq_true]; done))) | (refine e_ends rfl ?_) | (apply r_1; (focus (simp only [rv, simB0, ZA, reduceEqDiff, ↓reduceIte, reduceAdd, reduceLeDiff, ME, Bool.false_eq_true]; with_reducible rfl))))
      refine snap_int ?_
      unfold stepI; rw [i1, i2]; simp
    have i2 : inB x.proc 0 (m.n - 1) = true := decide_eq_true h2
    have hc2 := in_r x.proc 0 (m.n - 1)
    rw [i2] at hc2
    have hlo := shaped_out hsh (k := (x.round + 1).toNat) (by omega)
    have hsz := s5 _ (mem_getD (l := m.out) (k := (x.round + 1).toNat) (by omega)) _ (mem_getD (l := m.out.getD (x.round + 1).toNat default) (k := x.proc.toNat) (by omega))
    have hsz' : ((m.out.getD (x.round + 1).toNat default).getD x.proc.toNat default).length ≤ 9223372036854775807 := hsz
    have hc3 := in_r x.to 0 ((((m.out.getD (x.round + 1).toNat default).getD x.proc.toNat default).length : Int) - 1)
    cases i3 : inB x.to 0 ((((m.out.getD (x.round + 1).toNat default).getD x.proc.toNat default).length : Int) - 1) with
    | false =>
      rw [i3] at hc3
      repeat' (first | apply w_seq | apply w_ops0 | apply w_mixS1 | apply w_ret | apply a_n | apply a_r | apply o_nil | (apply o_val rfl rfl; (focus ((try simp (disch := omega) only [simB0, ZA, reduceEqDiff, ↓reduceIte, reduceAdd, reduceLeDiff, ZV, reduceCtorEq, ME, Bool.false_eq_true]); first | with_reducible rfl | (apply s_ite; (focus omega); with_reducible rfl)))) | (apply o_callD; (iterate 2 (focus ((try simp only [simB0, ZA, reduceEqDiff, ↓reduceIte, reduceAdd, reduceLeDiff, ME, Bool.false_eq_true]); (try with_reducible rfl); done))); (focus (first | (exact hc) | (exact hc2) | (exact hc3))); (focus ((first | refine snap_plain ?_ rfl | apply snap_data); repeat' (first | exact snapL_nil | apply snapL_i | apply snapL_dat)))) | (apply o_gT; (focus (simp only [simB0, ZA, reduceEqDiff, ↓reduceIte, reduceAdd, reduceLeDiff, ME, Bool.false_eq_true]; done))) | (apply w_condT; (focus (simp only [simB0, ZA, reduceEqDiff, ↓reduceIte, reduceAdd, reduceLeDiff, ME, Bool.false_eq_true]; done))) | (refine e_ends rfl ?_) | (apply r_1; (focus (simp only [rv, simB0, ZA, reduceEqDiff, ↓reduceIte, reduceAdd, reduceLeDiff, ME, Bool.false_eq_true]; with_reducible rfl))))
      refine snap_int ?_
      unfold stepI; rw [i1, i2, i3]; simp
    | true =>
      rw [i3] at hc3
      repeat' (first | apply w_seq | apply w_mixS1 | apply w_skip | apply a_n | apply o_nil | (apply o_val rfl rfl; (focus ((try simp (disch := omega) only [simB0, ZA, reduceEqDiff, ↓reduceIte, reduceAdd, reduceLeDiff, ZV, reduceCtorEq, ME, Bool.false_eq_true]); first | with_reducible rfl | (apply s_ite; (focus omega); with_reducible rfl)))) | (apply o_callD; (iterate 2 (focus ((try simp only [simB0, ZA, reduceEqDiff, ↓reduceIte, reduceAdd, reduceLeDiff, ME, Bool.false_eq_true]); (try with_reducible rfl); done))); (focus (first | (exact hc) | (exact hc2) | (exact hc3))); (focus ((first | refine snap_plain ?_ rfl | apply snap_data); repeat' (first | exact snapL_nil | apply snapL_i | apply snapL_dat)))) | (apply o_gT; (focus (simp only [simB0, ZA, reduceEqDiff, ↓reduceIte, reduceAdd, reduceLeDiff, ME, Bool.false_eq_true]; done))) | (apply w_condF; (focus (simp only [simB0, ZA, reduceEqDiff, ↓reduceIte, reduceAdd, reduceLeDiff, ME, Bool.false_eq_true]; done))))
      exact ⟨rfl, rfl, rfl, ⟨h1.1, h1.2, h2.1, h2.2⟩, by rw [i1, i2]; rfl⟩
  rintro T H nx ⟨t2, t3, rfl, ⟨r1, r2, r3, r4⟩, hb⟩
  have hst : stepI m x = if !allB (x.heard.drop m.n.toNat) (-1) (-1) then 3 else if !(List.range m.n.toNat).all (fun q => heardB m x q) then 2 else 0 := by
    unfold stepI; rw [hb]; rfl
  rw [hst]
  clear hb hst
  have hda := drop_all (x := x) (n := m.n.toNat)
  obtain ⟨N, hN⟩ : ∃ N : Nat, m.n = N := ⟨m.n.toNat, by omega⟩
  rw [hN] at hda ⊢
  rw [Int.toNat_natCast] at hda ⊢
  refine w_seqC (fun T H nx => T 2 = .ptr 0 8 0 ∧ T 3 = .iptr x.cells 0 ∧ H 0 = some m.cells ∧ allB (x.heard.drop N) (-1) (-1) = true) ?_ ?_
  · refine w_seq ?_
    refine w_ops0F (only 1 x.cells) _ [(2, .ptr 0 8 0), (3, .iptr x.cells 0)] (Fz.one (by ((try simp only [simB0, ZA, reduceEqDiff, ↓reduceIte, reduceAdd, reduceLeDiff]); (try with_reducible rfl)))) ⟨.inl t2, .inr ?_, trivial⟩ ?_
    · rw [t3]
      exact snap_ptr (cs := x.cells) only_at rfl (snapL_datL (step_dat x))
    unfold MachV.cells
    repeat' (first | apply w_block | apply a_n | apply o_nil | (apply o_val rfl rfl; (focus ((try simp (disch := omega) only [simB0, ZA, reduceEqDiff, ↓reduceIte, reduceAdd, reduceLeDiff, ZV, reduceCtorEq, ME, hN]); first | with_reducible rfl | (apply s_ite; (focus omega); with_reducible rfl)))) | apply w_loop)
    refine loop0 (X := Nat) (fun q => [(2, .ptr 0 8 0), (3, .iptr x.cells 0), (5, .int .i64 q)]) (fun q => N ≤ q ∧ q ≤ 5 ∧ ∀ i, N ≤ i → i < q → x.heard.getD i default = -1) (fun q => 5 - q) N ⟨Nat.le_refl _, by omega, fun i h1 h2 => by omega⟩ (by simp (disch := omega) only [agr, ZG, reduceEqDiff, ↓reduceIte]) ?_
    rintro q ⟨f1, f2, f3⟩
    by_cases hq : q < 5
    rotate_left
    · repeat' (first | apply w_seq | apply w_ops0 | apply w_exit | apply a_n | apply a_x | apply o_nil | (apply o_val rfl rfl; (focus ((try simp (disch := omega) only [simB0, ZA, reduceEqDiff, ↓reduceIte, reduceAdd, reduceLeDiff, ZV, reduceCtorEq, ME]); first | with_reducible rfl | (apply s_ite; (focus omega); with_reducible rfl)))) | (apply w_cond; (focus ((try simp only [simB0, ZA, reduceEqDiff, ↓reduceIte, reduceAdd, reduceLeDiff, ME]); (try with_reducible rfl); done)); all_goals (intro _hg; (try simp only [ZB] at _hg); try first | exact absurd trivial _hg | (exfalso; omega))))
      exact ⟨rfl, rfl, rfl, hda.2 fun i h1 h2 => f3 i h1 (by omega)⟩
    have hcl := heard_cell x hq
    unfold StepV.cells at hcl
    repeat' (first | apply w_seq | apply w_ops0 | apply w_block | apply w_skip | apply a_n | apply o_nil | (apply o_val rfl rfl; (focus ((try simp (disch := omega) only [simB0, ZA, reduceEqDiff, ↓reduceIte, reduceAdd, reduceLeDiff, ZV, reduceCtorEq, ME]); first | with_reducible rfl | (apply s_ite; (focus omega); with_reducible rfl)))) | (apply w_cond; (focus ((try simp only [simB0, ZA, reduceEqDiff, ↓reduceIte, reduceAdd, reduceLeDiff, ME]); (try with_reducible rfl); done)); all_goals (intro _hg; (try simp only [ZB] at _hg); try first | exact absurd trivial _hg | (exfalso; omega))))
    refine o_val rfl rfl (ixaA_iptr (by ((try simp only [simB0, ZA, reduceEqDiff, ↓reduceIte, reduceAdd, reduceLeDiff]); (try with_reducible rfl))) (by ((try simp only [simB0, ZA, reduceEqDiff, ↓reduceIte, reduceAdd, reduceLeDiff]); (try with_reducible rfl))) hq) ?_
    refine o_ld1 rfl (by ((try simp only [simB0, ZA, reduceEqDiff, ↓reduceIte, reduceAdd, reduceLeDiff]); (try with_reducible rfl))) hcl ?_
    repeat' (first | apply w_seq | apply w_ops0 | apply w_skip | apply w_ret | apply a_n | apply a_r | apply o_nil | (apply o_val rfl rfl; (focus ((try simp (disch := omega) only [simB0, ZA, reduceEqDiff, ↓reduceIte, reduceAdd, reduceLeDiff, ZV, reduceCtorEq, ME]); first | with_reducible rfl | (apply s_ite; (focus omega); with_reducible rfl)))) | (apply w_cond; (focus ((try simp only [simB0, ZA, reduceEqDiff, ↓reduceIte, reduceAdd, reduceLeDiff, ME]); (try with_reducible rfl); done)); all_goals (intro _hg; (try simp only [ZB] at _hg); try first | exact absurd trivial _hg | (exfalso; omega))) | (refine e_ends rfl ?_) | (apply r_1; (focus (simp only [rv, simB0, ZA, reduceEqDiff, ↓reduceIte, reduceAdd, reduceLeDiff, ME]; with_reducible rfl))))
    · refine snap_int ?_
      have : allB (x.heard.drop N) (-1) (-1) = false := bool_false hda fun hh => by have := hh q f1 hq; omega
      rw [this]; rfl
    · exact ⟨q + 1, ⟨by omega, by omega, fun i h1 h2 => by
        by_cases hiq : i = q
        · subst hiq; omega
        · exact f3 i h1 (by omega)⟩, by omega, by simp (disch := omega) only [agr, ZG, reduceEqDiff, ↓reduceIte], rfl, rfl⟩
  clear t2 t3
  rintro T H nx ⟨t2, t3, g0, hall⟩
  rw [hall]
  simp only [Bool.not_true, Bool.false_eq_true, if_false]
  unfold MachV.cells at g0
  repeat' (first | apply w_seq | apply w_ops0 | apply w_block | apply a_n | apply o_nil | (apply o_val rfl rfl; (focus ((try simp (disch := omega) only [simB0, ZA, reduceEqDiff, ↓reduceIte, reduceAdd, reduceLeDiff, ZV, reduceCtorEq, ME, g0]); first | with_reducible rfl | (apply s_ite; (focus omega); with_reducible rfl)))) | apply w_loop)
  refine loopA (fun q => [(2, .ptr 0 8 0), (3, .iptr x.cells 0), (6, .int .i64 q)]) N (fun q => heardB m x q = true) (by simp (disch := omega) only [agr, ZG, reduceEqDiff, ↓reduceIte, t2, t3]) ?_
  rintro q f1 f2
  by_cases hq : q < N
  rotate_left
  · repeat' (first | apply w_seq | apply w_ops0 | apply w_exit | apply w_ret | apply a_n | apply a_x | apply o_nil | (apply o_val rfl rfl; (focus ((try simp (disch := omega) only [simB0, ZA, reduceEqDiff, ↓reduceIte, reduceAdd, reduceLeDiff, ZV, reduceCtorEq, ME, g0, hN]); first | with_reducible rfl | (apply s_ite; (focus omega); with_reducible rfl)))) | (apply w_cond; (focus ((try simp only [simB0, ZA, reduceEqDiff, ↓reduceIte, reduceAdd, reduceLeDiff, ME, g0, hN]); (try with_reducible rfl); done)); all_goals (intro _hg; (try simp only [ZB] at _hg); try first | exact absurd trivial _hg | (exfalso; omega))) | (refine e_ends rfl ?_) | (apply r_1; (focus (simp only [rv, simB0, ZA, reduceEqDiff, ↓reduceIte, reduceAdd, reduceLeDiff, ME, g0, hN]; with_reducible rfl))))
    refine snap_int ?_
    rw [range_all_true fun i hi => f2 i (by omega)]; rfl
  have hcl := heard_cell x (k := q) (by omega)
  unfold StepV.cells at hcl
  have hlo := shaped_out hsh (k := x.round.toNat) (by omega)
  have hsz := s5 _ (mem_getD (l := m.out) (k := x.round.toNat) (by omega)) _ (mem_getD (l := m.out.getD x.round.toNat default) (k := q) (by omega))
  have hsz' : ((m.out.getD x.round.toNat default).getD q default).length ≤ 9223372036854775807 := hsz
  have c1 := in_r (x.heard.getD q default) 0 ((((m.out.getD x.round.toNat default).getD q default).length : Int) - 1)
  have c2 := in_r (x.heard.getD q default) (-1) 1048576
  by_cases hqp : (q : Int) = x.proc
  · have hv : heardB m x q = inB (x.heard.getD q default) 0 ((((m.out.getD x.round.toNat default).getD q default).length : Int) - 1) := by
      unfold heardB; rw [if_pos hqp]
    rw [← hv] at c1
    have dq1 : decide ((q : Int) = x.proc) = true := decide_eq_true hqp
    unfold StepV.cells
    repeat' (first | apply w_seq | apply w_ops0 | apply w_ops1 | apply w_block | apply w_skip | apply a_n | apply o_nil | (apply o_val rfl rfl; (focus ((try simp (disch := omega) only [simB0, ZA, reduceEqDiff, ↓reduceIte, reduceAdd, reduceLeDiff, ZV, reduceCtorEq, ME, g0, hN, dq1]); first | with_reducible rfl | (apply s_ite; (focus omega); with_reducible rfl)))) | (apply w_condT; (focus (simp only [simB0, ZA, reduceEqDiff, ↓reduceIte, reduceAdd, reduceLeDiff, ME, g0, hN, dq1]; done))) | (apply w_cond; (focus ((try simp only [simB0, ZA, reduceEqDiff, ↓reduceIte, reduceAdd, reduceLeDiff, ME, g0, hN, dq1]); (try with_reducible rfl); done)); all_goals (intro _hg; (try simp only [ZB] at _hg); try first | exact absurd trivial _hg | (exfalso; omega))))
    refine o_val rfl rfl (ixaA_iptr (by ((try simp only [simB0, ZA, reduceEqDiff, ↓reduceIte, reduceAdd, reduceLeDiff]); (try with_reducible rfl))) (by ((try simp only [simB0, ZA, reduceEqDiff, ↓reduceIte, reduceAdd, reduceLeDiff]); (try with_reducible rfl))) (show q < 5 by omega)) ?_
    refine o_ld1 rfl (by ((try simp only [simB0, ZA, reduceEqDiff, ↓reduceIte, reduceAdd, reduceLeDiff]); (try with_reducible rfl))) hcl ?_
    repeat' (first | apply w_seq | apply w_ops0 | apply w_skip | apply w_ret | apply a_n | apply a_r | apply o_nil | (apply o_val rfl rfl; (focus ((try simp (disch := omega) only [simB0, ZA, reduceEqDiff, ↓reduceIte, reduceAdd, reduceLeDiff, ZV, reduceCtorEq, ME, g0, Bool.false_eq_true]); first | with_reducible rfl | (apply s_ite; (focus omega); with_reducible rfl)))) | (apply o_callD; (iterate 2 (focus ((try simp only [simB0, ZA, reduceEqDiff, ↓reduceIte, reduceAdd, reduceLeDiff, ME, g0, Bool.false_eq_true]); (try with_reducible rfl); done))); (focus (first | (exact c1))); (focus ((first | refine snap_plain ?_ rfl | apply snap_data); repeat' (first | exact snapL_nil | apply snapL_i | apply snapL_dat)))) | (apply w_cond; (focus ((try simp only [simB0, ZA, reduceEqDiff, ↓reduceIte, reduceAdd, reduceLeDiff, ME, g0, Bool.false_eq_true]); (try with_reducible rfl); done)); all_goals (intro _hg; (try simp only [ZB] at _hg); try first | exact absurd trivial _hg | (exfalso; omega))) | (refine e_ends rfl ?_) | (apply r_1; (focus (simp only [rv, simB0, ZA, reduceEqDiff, ↓reduceIte, reduceAdd, reduceLeDiff, ME, g0, Bool.false_eq_true]; with_reducible rfl))))
    all_goals first
      | exact ⟨hq, _hg, by simp (disch := omega) only [agr, ZG, reduceEqDiff, ↓reduceIte], rfl, rfl⟩
      | (refine snap_int ?_
         rw [range_all_false hq _hg]; rfl)
  · have hv : heardB m x q = inB (x.heard.getD q default) (-1) 1048576 := by
      unfold heardB; rw [if_neg hqp]
    rw [← hv] at c2
    have dq1 : decide ((q : Int) = x.proc) = false := decide_eq_false hqp
    unfold StepV.cells
    repeat' (first | apply w_seq | apply w_ops0 | apply w_block | apply w_skip | apply a_n | apply o_nil | (apply o_val rfl rfl; (focus ((try simp (disch := omega) only [simB0, ZA, reduceEqDiff, ↓reduceIte, reduceAdd, reduceLeDiff, ZV, reduceCtorEq, ME, g0, hN, dq1]); first | with_reducible rfl | (apply s_ite; (focus omega); with_reducible rfl)))) | (apply w_condF; (focus (simp only [simB0, ZA, reduceEqDiff, ↓reduceIte, reduceAdd, reduceLeDiff, ME, g0, hN, dq1]; done))) | (apply w_cond; (focus ((try simp only [simB0, ZA, reduceEqDiff, ↓reduceIte, reduceAdd, reduceLeDiff, ME, g0, hN, dq1]); (try with_reducible rfl); done)); all_goals (intro _hg; (try simp only [ZB] at _hg); try first | exact absurd trivial _hg | (exfalso; omega))))
    refine o_val rfl rfl (ixaA_iptr (by ((try simp only [simB0, ZA, reduceEqDiff, ↓reduceIte, reduceAdd, reduceLeDiff]); (try with_reducible rfl))) (by ((try simp only [simB0, ZA, reduceEqDiff, ↓reduceIte, reduceAdd, reduceLeDiff]); (try with_reducible rfl))) (show q < 5 by omega)) ?_
    refine o_ld1 rfl (by ((try simp only [simB0, ZA, reduceEqDiff, ↓reduceIte, reduceAdd, reduceLeDiff]); (try with_reducible rfl))) hcl ?_
    repeat' (first | apply w_seq | apply w_ops0 | apply w_skip | apply w_ret | apply a_n | apply a_r | apply o_nil | (apply o_val rfl rfl; (focus ((try simp (disch := omega) only [simB0, ZA, reduceEqDiff, ↓reduceIte, reduceAdd, reduceLeDiff, ZV, reduceCtorEq, ME, g0, Bool.false_eq_true]); first | with_reducible rfl | (apply s_ite; (focus omega); with_reducible rfl)))) | (apply o_callD; (iterate 2 (focus ((try simp only [simB0, ZA, reduceEqDiff, ↓reduceIte, reduceAdd, reduceLeDiff, ME, g0, Bool.false_eq_true]); (try with_reducible rfl); done))); (focus (first | (exact c2))); (focus ((first | refine snap_plain ?_ rfl | apply snap_data); repeat' (first | exact snapL_nil | apply snapL_i | apply snapL_dat)))) | (apply w_cond; (focus ((try simp only [simB0, ZA, reduceEqDiff, ↓reduceIte, reduceAdd, reduceLeDiff, ME, g0, Bool.false_eq_true]); (try with_reducible rfl); done)); all_goals (intro _hg; (try simp only [ZB] at _hg); try first | exact absurd trivial _hg | (exfalso; omega))) | (refine e_ends rfl ?_) | (apply r_1; (focus (simp only [rv, simB0, ZA, reduceEqDiff, ↓reduceIte, reduceAdd, reduceLeDiff, ME, g0, Bool.false_eq_true]; with_reducible rfl))))
    all_goals first
      | exact ⟨hq, _hg, by simp (disch := omega) only [agr, ZG, reduceEqDiff, ↓reduceIte], rfl, rfl⟩
      | (refine snap_int ?_
         rw [range_all_false hq _hg]; rfl)

end Go.Proofs.Ytpbjhjkfobapeaa

/- Q39: contracts of functions and plain laws; for all inputs that the theorems name. -/
namespace Go.Proofs.Ytpbjhjkfobapeaa
open Go Go.Abs
open Nat (reduceEqDiff reduceAdd reduceLeDiff)
attribute [local irreducible] awp2 aops2 ains aloop athen bbind obind gbind acond res1 Go.Abs.Fn PCall Go.Abs.Pure SnapArgs SnapL Yl

theorem check_r (m : MachV) (hs : ShM m) : Pure Try.prog 43 [encM m] (.int .i64 (chkM m)) := by
  refine Pure.of_c2 follows is43 (Nat.le_of_ble_eq_true rfl) ?_
  simp only [b43, O, G, N, M, D, F, B2, cFal, cTru]
  have hs0 := hs
  obtain ⟨s1, s2, s3, s4, s5, s5b, s6, s7, s8, s9, s10⟩ := hs0
  have e10 : m.steps.length ≤ 9223372036854775807 := s10
  have c1 := in_r m.n 1 5
  have c2 := in_r m.rounds 0 6
  have c3 := in_r m.ins 1 8
  have c4 := in_r m.outs 1 8
  unfold encM MachV.cells
  refine w_seq ?_
  repeat' (first | apply w_ops0 | apply a_n | apply o_nil | (apply o_val rfl rfl; (focus ((try simp (disch := omega) only [simB0, ZA, reduceEqDiff, ↓reduceIte, reduceAdd, reduceLeDiff, ZV, reduceCtorEq, ME, acells]); first | with_reducible rfl | (apply s_ite; (focus omega); with_reducible rfl)))) | (apply e_box rfl; (iterate 2 (focus ((try simp only [simB0, ZA, reduceEqDiff, ↓reduceIte, reduceAdd, reduceLeDiff, ME, acells]); (try with_reducible rfl); done))); (focus (simp only [SO, Bool.and_self, one_encV, one_encVV, ME, acells]))))
  refine w_seqC (fun T H nx => T 1 = .ptr 0 8 0 ∧ H = hupd noBoxes 0 m.cells ∧ nx = 1 ∧ (1 ≤ m.n ∧ m.n ≤ 5) ∧ (0 ≤ m.rounds ∧ m.rounds ≤ 6) ∧ shapedB m = true ∧ chkM m = stepsF m none m.steps) ?_ ?_
  · refine w_block ?_
    refine w_seqC (fun T H nx => T 1 = .ptr 0 8 0 ∧ H = hupd noBoxes 0 m.cells ∧ nx = 1 ∧ T 5 = .bool (!numsB m)) ?_ ?_
    · repeat' (first | apply w_ops0 | apply a_n | apply o_nil | (apply o_val rfl rfl; (focus ((try simp (disch := omega) only [simB0, ZA, reduceEqDiff, ↓reduceIte, reduceAdd, reduceLeDiff, ZV, reduceCtorEq, ME, acells]); first | with_reducible rfl | (apply s_ite; (focus omega); with_reducible rfl)))) | (apply o_callD; (iterate 2 (focus ((try simp only [simB0, ZA, reduceEqDiff, ↓reduceIte, reduceAdd, reduceLeDiff, ME, acells]); (try with_reducible rfl); done))); (focus (first | (exact c1) | (exact c2) | (exact c3) | (exact c4))); (focus ((first | refine snap_plain ?_ rfl | apply snap_data); repeat' (first | exact snapL_nil | apply snapL_i | apply snapL_dat)))) | (apply o_gT; (focus (simp only [simB0, ZA, reduceEqDiff, ↓reduceIte, reduceAdd, reduceLeDiff, ME, acells]; done))) | (apply o_gF; (focus (simp only [simB0, ZA, reduceEqDiff, ↓reduceIte, reduceAdd, reduceLeDiff, or_true, true_or, ME, acells]; done))) | (apply o_gB; (focus ((try simp only [simB0, ZA, reduceEqDiff, ↓reduceIte, reduceAdd, reduceLeDiff, ME, acells]); (try with_reducible rfl); done)); all_goals (intro _hg; (try simp only [ZB] at _hg); try first | exact absurd trivial _hg | (exfalso; omega))))
      all_goals (refine ⟨rfl, rfl, rfl, ?_⟩; ((try simp only [simB0, ZA, reduceEqDiff, ↓reduceIte, reduceAdd, reduceLeDiff]); (try with_reducible rfl)); unfold numsB; simp [*])
    rintro T H nx ⟨t1, rfl, rfl, t6⟩
    by_cases hN : numsB m = true
    rotate_left
    · have e : chkM m = 2 := by
        unfold chkM; rw [Bool.not_eq_true] at hN; rw [hN]; rfl
      rw [e]
      rw [Bool.not_eq_true] at hN
      rw [hN] at t6
      repeat' (first | apply w_seq | apply w_ops0 | apply w_ret | apply a_n | apply a_r | apply o_nil | (apply o_val rfl rfl; (focus ((try simp (disch := omega) only [simB0, ZA, reduceEqDiff, ↓reduceIte, reduceAdd, reduceLeDiff, ZV, reduceCtorEq, ME, t1, t6]); first | with_reducible rfl | (apply s_ite; (focus omega); with_reducible rfl)))) | (apply w_condT; (focus (simp only [simB0, ZA, reduceEqDiff, ↓reduceIte, reduceAdd, reduceLeDiff, ME, t1, t6]; done))) | (refine e_ends rfl ?_) | (apply r_1; (focus (simp only [rv, simB0, ZA, reduceEqDiff, ↓reduceIte, reduceAdd, reduceLeDiff, ME, t1, t6]; with_reducible rfl))))
      exact .int _ _
    have hN0 := hN
    unfold numsB at hN
    simp only [Bool.and_eq_true] at hN
    obtain ⟨i1, i2, i3, i4⟩ := hN
    rw [hN0] at t6
    have n1 : 1 ≤ m.n ∧ m.n ≤ 5 := of_decide_eq_true i1
    have n2 : 0 ≤ m.rounds ∧ m.rounds ≤ 6 := of_decide_eq_true i2
    have n4 : 1 ≤ m.outs ∧ m.outs ≤ 8 := of_decide_eq_true i4
    have c5 := shaped_r m hs n1 n2
    unfold MachV.cells
    cases hsh : shapedB m with
    | false =>
      have e : chkM m = 15 := by
        unfold chkM; rw [hN0, hsh]; rfl
      rw [e]
      rw [hsh] at c5
      have em := encM_dat m
      unfold encM MachV.cells at c5 em
      repeat' (first | apply w_seq | apply w_ops0 | apply w_ret | apply a_n | apply a_r | apply o_nil | (apply o_val rfl rfl; (focus ((try simp (disch := omega) only [simB0, ZA, reduceEqDiff, ↓reduceIte, reduceAdd, reduceLeDiff, ZV, reduceCtorEq, ME, t1, t6, Bool.false_eq_true]); first | with_reducible rfl | (apply s_ite; (focus omega); with_reducible rfl)))) | (apply o_callD; (iterate 2 (focus ((try simp only [simB0, ZA, reduceEqDiff, ↓reduceIte, reduceAdd, reduceLeDiff, ME, t1, t6, Bool.false_eq_true]); (try with_reducible rfl); done))); (focus (first | (exact c5))); (focus ((first | refine snap_plain ?_ rfl | apply snap_data); repeat' (first | exact snapL_nil | apply snapL_i | apply snapL_dat | exact em)))) | (apply w_condT; (focus (simp only [simB0, ZA, reduceEqDiff, ↓reduceIte, reduceAdd, reduceLeDiff, ME, t1, t6, Bool.false_eq_true]; done))) | (apply w_condF; (focus (simp only [simB0, ZA, reduceEqDiff, ↓reduceIte, reduceAdd, reduceLeDiff, ME, t1, t6, Bool.false_eq_true]; done))) | (refine e_ends rfl ?_) | (apply r_1; (focus (simp only [rv, simB0, ZA, reduceEqDiff, ↓reduceIte, reduceAdd, reduceLeDiff, ME, t1, t6, Bool.false_eq_true]; with_reducible rfl))))
      exact .int _ _
    | true =>
      rw [hsh] at c5
      have hle := states_le hs n1 n2 hsh
      have c6 := count_c m s3 s4
      have c7 := ranged_r m hs n1 n2 n4 hsh
      have hcn : cntM m.out 0 = (statesN m : Int) := by
        have := cntM_eq m.out 0 (by unfold statesN at hle; omega)
        simpa [statesN] using this
      rw [hcn] at c6
      have em := encM_dat m
      have e : ¬ (8192 < statesN m ∨ 65536 < m.steps.length) → rangedB m = true → chkM m = stepsF m none m.steps := fun h1 h2 => by
        unfold chkM; rw [hN0, hsh, if_neg h1, h2]; rfl
      have e5 : (8192 < statesN m ∨ 65536 < m.steps.length) → chkM m = 5 := fun h1 => by
        unfold chkM; rw [hN0, hsh, if_pos h1]; rfl
      have e2 : ¬ (8192 < statesN m ∨ 65536 < m.steps.length) → rangedB m = false → chkM m = 2 := fun h1 h2 => by
        unfold chkM; rw [hN0, hsh, if_neg h1, h2]; rfl
      unfold encM MachV.cells at c5 c6 c7 em
      generalize statesN m = q at *
      repeat' (first | apply w_seq | apply w_ops0 | apply w_skip | apply w_ret | apply a_n | apply a_r | apply o_nil | (apply o_val rfl rfl; (focus ((try simp (disch := omega) only [simB0, ZA, reduceEqDiff, ↓reduceIte, reduceAdd, reduceLeDiff, ZV, reduceCtorEq, ME, t1, t6, Bool.false_eq_true]); first | with_reducible rfl | (apply s_ite; (focus omega); with_reducible rfl)))) | (apply o_callD; (iterate 2 (focus ((try simp only [simB0, ZA, reduceEqDiff, ↓reduceIte, reduceAdd, reduceLeDiff, ME, t1, t6, Bool.false_eq_true]); (try with_reducible rfl); done))); (focus (first | (exact c5) | (exact c6) | (exact c7))); (focus ((first | refine snap_plain ?_ rfl | apply snap_data); repeat' (first | exact snapL_nil | apply snapL_i | apply snapL_dat | exact em)))) | (apply o_gT; (focus (simp only [simB0, ZA, reduceEqDiff, ↓reduceIte, reduceAdd, reduceLeDiff, ME, t1, t6, Bool.false_eq_true]; done))) | (apply o_gF; (focus (simp only [simB0, ZA, reduceEqDiff, ↓reduceIte, reduceAdd, reduceLeDiff, or_true, true_or, ME, t1, t6, Bool.false_eq_true]; done))) | (apply w_condT; (focus (simp only [simB0, ZA, reduceEqDiff, ↓reduceIte, reduceAdd, reduceLeDiff, ME, t1, t6, Bool.false_eq_true]; done))) | (apply w_condF; (focus (simp only [simB0, ZA, reduceEqDiff, ↓reduceIte, reduceAdd, reduceLeDiff, ME, t1, t6, Bool.false_eq_true]; done))) | ((first | apply o_gB | apply w_cond); (focus ((try simp only [simB0, ZA, reduceEqDiff, ↓reduceIte, reduceAdd, reduceLeDiff, ME, t1, t6, Bool.false_eq_true]); (try with_reducible rfl); done)); all_goals (intro _hg; (try simp only [ZB] at _hg); try first | exact absurd trivial _hg | (exfalso; omega))) | (refine e_ends rfl ?_) | (apply r_1; (focus (simp only [rv, simB0, ZA, reduceEqDiff, ↓reduceIte, reduceAdd, reduceLeDiff, ME, t1, t6, Bool.false_eq_true]; with_reducible rfl))))
      all_goals first
        | (rw [e5 (by omega)]; exact .int _ _)
        | (rw [e2 (by omega) _hg]; exact .int _ _)
        | exact ⟨by ((try simp only [simB0, ZA, reduceEqDiff, ↓reduceIte, reduceAdd, reduceLeDiff, t1]); (try with_reducible rfl)), rfl, rfl, n1, n2, by first | exact hsh | rfl, e (by omega) _hg⟩
        | trace_state
  rintro T H nx ⟨t1, rfl, rfl, n1, n2, hsh, hchk⟩
  rw [hchk]
  clear c1 c2 c3 c4 hchk
  unfold MachV.cells
  repeat' (first | apply w_seq | apply w_ops0 | apply w_block | apply a_n | apply o_nil | (apply o_val rfl rfl; (focus ((try simp (disch := omega) only [simB0, ZA, reduceEqDiff, ↓reduceIte, reduceAdd, reduceLeDiff, ZV, reduceCtorEq, ME, t1]); first | with_reducible rfl | (apply s_ite; (focus omega); with_reducible rfl)))) | apply w_loop)
  refine loopI (X := Nat) (fun k => [(1, .ptr 0 8 0), (3, .int .i64 k)])
    (fun k H nx => k ≤ m.steps.length ∧ 1 ≤ nx ∧ H 0 = some m.cells ∧ stepsF m none m.steps = stepsF m (prevS m k) (m.steps.drop k)) (fun k => m.steps.length - k) 0 ⟨Nat.zero_le _, Nat.le_refl _, hupd_self', rfl⟩ (by simp (disch := omega) only [agr, ZG, reduceEqDiff, ↓reduceIte, t1]) ?_
  clear t1
  rintro k H nx ⟨h1, h2, g0, hF⟩
  unfold MachV.cells at g0
  by_cases hk : k < m.steps.length
  rotate_left
  · repeat' (first | apply w_seq | apply w_ops0 | apply w_exit | apply w_ret | apply a_n | apply a_x | apply o_nil | (apply o_val rfl rfl; (focus ((try simp (disch := omega) only [simB0, ZA, reduceEqDiff, ↓reduceIte, reduceAdd, reduceLeDiff, ZV, reduceCtorEq, ME, g0]); first | with_reducible rfl | (apply s_ite; (focus omega); with_reducible rfl)))) | (apply w_cond; (focus ((try simp only [simB0, ZA, reduceEqDiff, ↓reduceIte, reduceAdd, reduceLeDiff, ME, g0]); (try with_reducible rfl); done)); all_goals (intro _hg; (try simp only [ZB] at _hg); try first | exact absurd trivial _hg | (exfalso; omega))) | (refine e_ends rfl ?_) | (apply r_1; (focus (simp only [rv, simB0, ZA, reduceEqDiff, ↓reduceIte, reduceAdd, reduceLeDiff, ME, g0]; with_reducible rfl))))
    rw [hF, List.drop_eq_nil_of_le (by omega)]
    exact .int _ _
  have hd := drop_cons hk
  have hst := step_r m (m.steps.getD k default) hs n1 n2 hsh
  have hor := order_r (m.steps.getD (k - 1) default) (m.steps.getD k default)
  rw [hd, stepsF] at hF
  have em := encM_dat m
  have es := encStep_dat (m.steps.getD k default)
  have es2 := encStep_dat (m.steps.getD (k - 1) default)
  have hpv : prevS m k = if k = 0 then none else some (m.steps.getD (k - 1) default) := rfl
  have hpv2 : prevS m (k + 1) = some (m.steps.getD k default) := rfl
  generalize hs1 : m.steps.getD k default = s at *
  generalize hs2 : m.steps.getD (k - 1) default = s' at *
  generalize hei : stepI m s = ei at *
  generalize hoi : orderS s' s = oi at *
  have et : ((k : Int) - 1).toNat = k - 1 := by omega
  unfold encM MachV.cells at hst em
  unfold encStep StepV.cells at hst hor es es2
  by_cases hk0 : k = 0
  · rw [hpv, if_pos hk0] at hF
    simp only [Option.any_none, Bool.false_eq_true, if_false] at hF
    have dk : decide ((0 : Int) < k) = false := decide_eq_false (by omega)
    repeat' (first | apply w_seq | apply w_ops0 | apply w_mixS1 | apply w_block | apply w_skip | apply w_ret | apply a_n | apply a_r | apply o_nil | (apply o_val rfl; (focus (first | rfl | (simp (disch := omega) only [dm2, oldP, newP, simB0, ZA, reduceEqDiff, ↓reduceIte, reduceAdd, reduceLeDiff, decide_eq_true_eq]; first | done | omega))); (focus ((try simp (disch := omega) only [simB2, ZA, reduceEqDiff, ↓reduceIte, reduceAdd, reduceLeDiff, ZV, reduceCtorEq, ME, acells, g0, hs1, hs2, et, dk]); first | with_reducible rfl | (apply s_ite; (focus omega); with_reducible rfl)))) | (apply o_callD; (iterate 2 (focus ((try simp (disch := omega) only [simB2, ZA, reduceEqDiff, ↓reduceIte, reduceAdd, reduceLeDiff, ME, acells, g0, hs1, hs2, et, dk]); (try with_reducible rfl); done))); (focus (first | (exact hst))); (focus ((first | refine snap_plain ?_ rfl | apply snap_data); repeat' (first | exact snapL_nil | apply snapL_i | apply snapL_dat | exact em | exact es)))) | (apply o_gF; (focus (simp (disch := omega) only [simB2, ZA, reduceEqDiff, ↓reduceIte, reduceAdd, reduceLeDiff, or_true, true_or, ME, acells, g0, hs1, hs2, et, dk]; done))) | (apply w_condF; (focus (simp (disch := omega) only [simB2, ZA, reduceEqDiff, ↓reduceIte, reduceAdd, reduceLeDiff, ME, acells, g0, hs1, hs2, et, dk]; done))) | (apply w_cond; (focus ((try simp (disch := omega) only [simB2, ZA, reduceEqDiff, ↓reduceIte, reduceAdd, reduceLeDiff, ME, acells, g0, hs1, hs2, et, dk]); (try with_reducible rfl); done)); all_goals (intro _hg; (try simp (disch := omega) only [ZB] at _hg); try first | exact absurd trivial _hg | (exfalso; omega))) | (refine e_ends rfl ?_) | (apply r_1; (focus (simp (disch := omega) only [rv, simB2, ZA, reduceEqDiff, ↓reduceIte, reduceAdd, reduceLeDiff, ME, acells, g0, hs1, hs2, et, dk]; with_reducible rfl))))
    · rw [hF, if_pos _hg]; exact .int _ _
    · refine ⟨k + 1, by omega, ⟨by omega, by omega, g0, ?_⟩, by simp (disch := omega) only [agr, ZG, reduceEqDiff, ↓reduceIte]⟩
      rw [hF, if_neg ‹_›, hpv2]
  · rw [hpv, if_neg hk0, Option.any_some, hoi] at hF
    have dk : decide ((0 : Int) < k) = true := decide_eq_true (by omega)
    repeat' (first | apply w_seq | apply w_ops0 | apply w_mixS1 | apply w_block | apply w_skip | apply w_ret | apply a_n | apply a_r | apply o_nil | (apply o_val rfl; (focus (first | rfl | (simp (disch := omega) only [dm2, oldP, newP, simB0, ZA, reduceEqDiff, ↓reduceIte, reduceAdd, reduceLeDiff, decide_eq_true_eq]; first | done | omega))); (focus ((try simp (disch := omega) only [simB2, ZA, reduceEqDiff, ↓reduceIte, reduceAdd, reduceLeDiff, ZV, reduceCtorEq, ME, acells, g0, hs1, hs2, et, dk]); first | with_reducible rfl | (apply s_ite; (focus omega); with_reducible rfl)))) | (apply o_callD; (iterate 2 (focus ((try simp (disch := omega) only [simB2, ZA, reduceEqDiff, ↓reduceIte, reduceAdd, reduceLeDiff, ME, acells, g0, hs1, hs2, et, dk]); (try with_reducible rfl); done))); (focus (first | (exact hst) | (exact hor))); (focus ((first | refine snap_plain ?_ rfl | apply snap_data); repeat' (first | exact snapL_nil | apply snapL_i | apply snapL_dat | exact em | exact es | exact es2)))) | (apply o_gT; (focus (simp (disch := omega) only [simB2, ZA, reduceEqDiff, ↓reduceIte, reduceAdd, reduceLeDiff, ME, acells, g0, hs1, hs2, et, dk]; done))) | (apply w_cond; (focus ((try simp (disch := omega) only [simB2, ZA, reduceEqDiff, ↓reduceIte, reduceAdd, reduceLeDiff, ME, acells, g0, hs1, hs2, et, dk]); (try with_reducible rfl); done)); all_goals (intro _hg; (try simp (disch := omega) only [ZB] at _hg); try first | exact absurd trivial _hg | (exfalso; omega))) | (refine e_ends rfl ?_) | (apply r_1; (focus (simp (disch := omega) only [rv, simB2, ZA, reduceEqDiff, ↓reduceIte, reduceAdd, reduceLeDiff, ME, acells, g0, hs1, hs2, et, dk]; with_reducible rfl))))
    · rw [hF, if_pos _hg]; exact .int _ _
    · rw [hF, if_neg ‹_›, if_pos (decide_eq_true _hg)]; exact .int _ _
    · refine ⟨k + 1, by omega, ⟨by omega, by omega, g0, ?_⟩, by simp (disch := omega) only [agr, ZG, reduceEqDiff, ↓reduceIte]⟩
      rw [hF, if_neg ‹_›, if_neg (by simpa using _hg), hpv2]

end Go.Proofs.Ytpbjhjkfobapeaa

/- Q40: contracts of functions and plain laws; for all inputs that the theorems name. -/
namespace Go.Proofs.Ytpbjhjkfobapeaa
open Go Go.Abs
open Nat (reduceEqDiff reduceAdd reduceLeDiff)

def encPl (r f t s : Int) : AV := .agg [.int .i64 r, .int .i64 f, .int .i64 t, .int .i64 s]
def rightP (m : MachV) (r f t s : Int) : Prop := fewB m = true ∧ chkM m = 0 ∧ 0 ≤ r ∧ r < m.rounds ∧ 0 ≤ f ∧ f < m.n ∧ 0 ≤ t ∧ t < m.n ∧ f ≠ t ∧ 0 ≤ s ∧ s < ((symV m ⟨r, f, t⟩).length : Int)
instance (m : MachV) (r f t s : Int) : Decidable (rightP m r f t s) := by unfold rightP; infer_instance

/-! ### messages, plainly -/
attribute [local irreducible] awp2 aops2 ains aloop athen bbind obind gbind acond res1 Go.Abs.Fn PCall Go.Abs.Pure SnapArgs SnapL Yl

end Go.Proofs.Ytpbjhjkfobapeaa

/- Q41: contracts of functions and plain laws; for all inputs that the theorems name. -/
namespace Go.Proofs.Ytpbjhjkfobapeaa
open Go Go.Abs
open Nat (reduceEqDiff reduceAdd reduceLeDiff)

attribute [local irreducible] awp2 aops2 ains aloop athen bbind obind gbind acond res1 Go.Abs.Fn PCall Go.Abs.Pure SnapArgs SnapL Yl

end Go.Proofs.Ytpbjhjkfobapeaa

/- Q42: contracts of functions and plain laws; for all inputs that the theorems name. -/
namespace Go.Proofs.Ytpbjhjkfobapeaa
open Go Go.Abs
open Nat (reduceEqDiff reduceAdd reduceLeDiff)

attribute [local irreducible] awp2 aops2 ains aloop athen bbind obind gbind acond res1 Go.Abs.Fn PCall Go.Abs.Pure SnapArgs SnapL Yl

end Go.Proofs.Ytpbjhjkfobapeaa

/- Q43: contracts of functions and plain laws; for all inputs that the theorems name. -/
namespace Go.Proofs.Ytpbjhjkfobapeaa
open Go Go.Abs
open Nat (reduceEqDiff reduceAdd reduceLeDiff)

theorem str_add {a b : List UInt8} (h : a.length + b.length ≤ 9223372036854775807) (tb tf : Bool) : abin2 .add tb tf (encS a) (encS b) = some (encS (a ++ b)) := by
  show (if (⟨a.toArray⟩ : ByteArray).size + (⟨b.toArray⟩ : ByteArray).size ≤ 9223372036854775807 then some (AV.str (⟨a.toArray⟩ ++ ⟨b.toArray⟩)) else none) = _
  rw [encS_size, encS_size, if_pos h]
  unfold encS
  congr 2
theorem encS_nil : AV.str ⟨⟨[]⟩⟩ = encS [] := rfl
def byteB (n : Int) : UInt8 := UInt8.ofNat (n % 256).toNat
theorem byte_wrap (n : Int) : IntKind.wrap .u8 n = ((byteB n).toNat : Int) := by
  rw [wrapU8]
  unfold byteB
  rw [UInt8.toNat_ofNat']; omega
theorem seal_right (l : List UInt8) (h : 6 ≤ l.length) : decide (sealB (l.take (l.length - 2)) = l) = rightB l := by
  unfold rightB
  rw [decide_eq_true h, Bool.true_and, decide_eq_decide]
  obtain ⟨n, hn⟩ : ∃ n, l.length = n + 2 := ⟨l.length - 2, by omega⟩
  rw [hn, show n + 2 - 2 = n by omega, show n + 2 - 1 = n + 1 by omega]
  have hb := csum_bd (l.take n)
  have hx := UInt8.toNat_lt (l.getD n default)
  have hy := UInt8.toNat_lt (l.getD (n + 1) default)
  have hl : l = l.take n ++ [l.getD n default, l.getD (n + 1) default] := by
    have h1 := drop_cons (l := l) (k := n) (by omega)
    have h2 := drop_cons (l := l) (k := n + 1) (by omega)
    rw [List.drop_eq_nil_of_le (show l.length ≤ n + 1 + 1 by omega)] at h2
    rw [h2] at h1
    conv => lhs; rw [← List.take_append_drop n l, h1]
  unfold sealB
  constructor
  · intro h2
    have h3 : [UInt8.ofNat (csum (l.take n) / 256).toNat, UInt8.ofNat (csum (l.take n) % 256).toNat] = [l.getD n default, l.getD (n + 1) default] := by
      have h4 := h2.trans hl
      exact List.append_cancel_left h4
    simp only [List.cons.injEq, and_true] at h3
    rw [← h3.1, ← h3.2, UInt8.toNat_ofNat', UInt8.toNat_ofNat']
    omega
  · intro h2
    conv => rhs; rw [hl]
    congr 1
    have e1 : (csum (l.take n) / 256).toNat = (l.getD n default).toNat := by omega
    have e2 : (csum (l.take n) % 256).toNat = (l.getD (n + 1) default).toNat := by omega
    rw [e1, e2, UInt8.ofNat_toNat, UInt8.ofNat_toNat]
attribute [local irreducible] awp2 aops2 ains aloop athen bbind obind gbind acond res1 Go.Abs.Fn PCall Go.Abs.Pure SnapArgs SnapL Yl

theorem byte_r (n : Int) : Go.Abs.Pure Try.prog 41 [.int .i64 n] (encS [byteB n]) := by
  refine Pure.of_c2 follows is41 (Nat.le_of_ble_eq_true rfl) ?_
  simp only [b41, O, G, N, M, D, F, B2, cFal, cTru]
  repeat' (first | apply w_seq | apply w_ops0 | apply a_n | apply o_nil | (apply o_val rfl rfl; (focus ((try simp (disch := omega) only [simB0, ZA, reduceEqDiff, ↓reduceIte, reduceAdd, reduceLeDiff, ZV, reduceCtorEq, byte_wrap]); first | with_reducible rfl | (apply s_ite; (focus omega); with_reducible rfl)))) | (apply e_bld rfl; (focus (exact Nat.succ_ne_zero _)); (focus ((try simp only [simB0, ZA, reduceEqDiff, ↓reduceIte, reduceAdd, reduceLeDiff, byte_wrap]); (try with_reducible rfl); done)); (focus ((try simp only [simB0, ZA, reduceEqDiff, ↓reduceIte, reduceAdd, reduceLeDiff, SO, Bool.and_self, one_encV, one_encVV, byte_wrap]); (try with_reducible rfl); done))))
  refine o_b2s (n := 1) (bs := [byteB n]) (by ((try simp only [simB0, ZA, reduceEqDiff, ↓reduceIte, reduceAdd, reduceLeDiff]); (try with_reducible rfl)); exact bytes_one (v := byteB n) (by ((try simp only [simB0, ZA, reduceEqDiff, ↓reduceIte, reduceAdd, reduceLeDiff]); (try with_reducible rfl)); rfl)) ?_
  repeat' (first | apply w_ret | apply a_n | apply o_nil | (apply o_val rfl rfl; (focus ((try simp (disch := omega) only [simB0, ZA, reduceEqDiff, ↓reduceIte, reduceAdd, reduceLeDiff, ZV, reduceCtorEq]); first | with_reducible rfl | (apply s_ite; (focus omega); with_reducible rfl)))) | (refine e_ends rfl ?_) | (apply r_1; (focus (simp only [rv, simB0, ZA, reduceEqDiff, ↓reduceIte, reduceAdd, reduceLeDiff]; with_reducible rfl))))
  exact encS_dat _ _

theorem checksum_r (l : List UInt8) (hl : Sh l) : Go.Abs.Pure Try.prog 75 [encS l] (.int .i64 (csum l)) := by
  refine Pure.of_c2 follows is75 (Nat.le_of_ble_eq_true rfl) ?_
  simp only [b75, O, G, N, M, D, F, B2, cFal, cTru]
  have hl' : l.length ≤ 9223372036854775807 := hl
  repeat' (first | apply w_seq | apply w_ops0 | apply w_block | apply a_n | apply o_nil | (apply o_val rfl rfl; (focus ((try simp (disch := omega) only [simB0, ZA, reduceEqDiff, ↓reduceIte, reduceAdd, reduceLeDiff, ZV, reduceCtorEq, alenStr_encS, rem_pos]); first | with_reducible rfl | (apply s_ite; (focus omega); with_reducible rfl)))) | apply w_loop)
  refine loop0 (X := Nat) (fun k => [(0, encS l), (3, .int .i64 (ckT l k)), (4, .int .i64 k)]) (fun k => k ≤ l.length) (fun k => l.length - k) 0 (Nat.zero_le _) (by simp (disch := omega) only [agr, ZG, reduceEqDiff, ↓reduceIte, ckT]) ?_
  rintro k h1
  have hb := ckT_bd l k
  by_cases hk : k < l.length
  rotate_left
  · repeat' (first | apply w_seq | apply w_ops0 | apply w_exit | apply w_ret | apply a_n | apply a_x | apply o_nil | (apply o_val rfl rfl; (focus ((try simp (disch := omega) only [simB0, ZA, reduceEqDiff, ↓reduceIte, reduceAdd, reduceLeDiff, ZV, reduceCtorEq, alenStr_encS]); first | with_reducible rfl | (apply s_ite; (focus omega); with_reducible rfl)))) | (apply w_cond; (focus ((try simp only [simB0, ZA, reduceEqDiff, ↓reduceIte, reduceAdd, reduceLeDiff, alenStr_encS]); (try with_reducible rfl); done)); all_goals (intro _hg; (try simp only [ZB] at _hg); try first | exact absurd trivial _hg | (exfalso; omega))) | (refine e_ends rfl ?_) | (apply r_1; (focus (simp only [rv, simB0, ZA, reduceEqDiff, ↓reduceIte, reduceAdd, reduceLeDiff, alenStr_encS]; with_reducible rfl))))
    rw [show k = l.length by omega]
    exact .int _ _
  have hc := byte_lt (l.getD k default)
  have hm : 0 ≤ ((k : Int) + 1) % 65521 * ((l.getD k default).toNat : Int) := Int.mul_nonneg (by omega) (by omega)
  have hm2 : ((k : Int) + 1) % 65521 * ((l.getD k default).toNat : Int) ≤ 65520 * 255 := Int.mul_le_mul (by omega) (by omega) (by omega) (by omega)
  have hix := aixStr_encS (l := l) (k := .i64) (n := (k : Int)) (by omega) (by omega)
  rw [Int.toNat_natCast] at hix
  repeat' (first | apply w_seq | apply w_ops0 | apply w_block | apply w_skip | apply a_n | apply o_nil | (apply o_val rfl rfl; (focus ((try simp (disch := omega) only [simB0, ZA, reduceEqDiff, ↓reduceIte, reduceAdd, reduceLeDiff, ZV, reduceCtorEq, alenStr_encS, rem_pos, hix, encB]); first | with_reducible rfl | (apply s_ite; (focus omega); with_reducible rfl)))) | (apply w_cond; (focus ((try simp only [simB0, ZA, reduceEqDiff, ↓reduceIte, reduceAdd, reduceLeDiff, alenStr_encS, rem_pos, hix, encB]); (try with_reducible rfl); done)); all_goals (intro _hg; (try simp only [ZB] at _hg); try first | exact absurd trivial _hg | (exfalso; omega))))
  refine ⟨k + 1, by omega, by omega, ?_, rfl, rfl⟩
  simp only [ckT]
  simp (disch := omega) only [agr, ZG, reduceEqDiff, ↓reduceIte]

theorem sealed_r (l : List UInt8) (hl : l.length + 2 ≤ 9223372036854775807) : Go.Abs.Pure Try.prog 44 [encS l] (encS (sealB l)) := by
  refine Pure.of_c2 follows is44 (Nat.le_of_ble_eq_true rfl) ?_
  simp only [b44, O, G, N, M, D, F, B2, cFal, cTru]
  have hc := checksum_r l (by show _ ≤ _; omega)
  have hb := csum_bd l
  have s1 := str_add (a := l) (b := [byteB (csum l / 256)]) (by simp; omega)
  have s2 := str_add (a := l ++ [byteB (csum l / 256)]) (b := [byteB (csum l % 256)]) (by simp; omega)
  have b1 := byte_r (csum l / 256)
  have b2 := byte_r (csum l % 256)
  have e : sealB l = (l ++ [byteB (csum l / 256)]) ++ [byteB (csum l % 256)] := by
    unfold sealB byteB
    rw [List.append_assoc, show csum l / 256 % 256 = csum l / 256 by omega, show csum l % 256 % 256 = csum l % 256 by omega]
    rfl
  rw [e]
  generalize csum l = c at *
  repeat' (first | apply w_seq | apply w_ops0 | apply w_ret | apply a_n | apply o_nil | (apply o_val rfl rfl; (focus ((try simp (disch := omega) only [simB0, ZA, reduceEqDiff, ↓reduceIte, reduceAdd, reduceLeDiff, ZV, reduceCtorEq, rem_pos, quo_pos, s1, s2]); first | with_reducible rfl | (apply s_ite; (focus omega); with_reducible rfl)))) | (apply o_callD; (iterate 2 (focus ((try simp only [simB0, ZA, reduceEqDiff, ↓reduceIte, reduceAdd, reduceLeDiff, rem_pos, quo_pos, s1, s2]); (try with_reducible rfl); done))); (focus (first | (exact hc) | (exact b1) | (exact b2))); (focus ((first | refine snap_plain ?_ rfl | apply snap_data); repeat' (first | exact snapL_nil | apply snapL_i | apply snapL_dat)))) | (refine e_ends rfl ?_) | (apply r_1; (focus (simp only [rv, simB0, ZA, reduceEqDiff, ↓reduceIte, reduceAdd, reduceLeDiff, rem_pos, quo_pos, s1, s2]; with_reducible rfl))))
  exact encS_dat _ _

theorem number_r (n : Int) (hn : 0 ≤ n ∧ n ≤ 4611686018427387904) : Go.Abs.Pure Try.prog 68 [.int .i64 n] (encS (vint n.toNat)) := by
  refine Pure.of_c2 follows is68 (Nat.le_of_ble_eq_true rfl) ?_
  simp only [b68, O, G, N, M, D, F, B2, cFal, cTru]
  obtain ⟨N, rfl⟩ : ∃ N : Nat, n = N := ⟨n.toNat, by omega⟩
  rw [Int.toNat_natCast]
  repeat' (first | apply w_seq | apply w_ops0 | apply w_block | apply a_n | apply o_nil | (apply o_val rfl rfl; (focus ((try simp (disch := omega) only [simB0, ZA, reduceEqDiff, ↓reduceIte, reduceAdd, reduceLeDiff, ZV, reduceCtorEq, encS_nil]); first | with_reducible rfl | (apply s_ite; (focus omega); with_reducible rfl)))) | apply w_loop)
  refine loop0 (X := Nat × List UInt8) (fun s => [(0, .int .i64 s.1), (3, encS s.2)]) (fun s => s.1 ≤ N ∧ vint N = s.2 ++ vint s.1) (fun s => s.1) (N, []) ⟨Nat.le_refl _, rfl⟩ (by simp (disch := omega) only [agr, ZG, reduceEqDiff, ↓reduceIte]) ?_
  rintro ⟨m, o⟩ ⟨h1, h2⟩
  dsimp only at h1 h2 ⊢
  have hlo : o.length ≤ 10 := by
    have h3 := congrArg List.length h2
    have h4 := vint_len N
    rw [List.length_append] at h3; omega
  by_cases hm : 127 < m
  · have hb : m < 128 ^ 9 := by omega
    rw [vint_big hm hb] at h2
    have b1 := byte_r ((m : Int) % 128 + 128)
    have eb : byteB ((m : Int) % 128 + 128) = UInt8.ofNat (m % 128 + 128) := by unfold byteB; congr 1; omega
    rw [eb] at b1
    have s1 := str_add (a := o) (b := [UInt8.ofNat (m % 128 + 128)]) (by simp; omega)
    repeat' (first | apply w_seq | apply w_ops0 | apply w_block | apply w_skip | apply a_n | apply o_nil | (apply o_val rfl rfl; (focus ((try simp (disch := omega) only [simB0, ZA, reduceEqDiff, ↓reduceIte, reduceAdd, reduceLeDiff, ZV, reduceCtorEq, rem_pos, quo_pos, s1]); first | with_reducible rfl | (apply s_ite; (focus omega); with_reducible rfl)))) | (apply o_callD; (iterate 2 (focus ((try simp only [simB0, ZA, reduceEqDiff, ↓reduceIte, reduceAdd, reduceLeDiff, rem_pos, quo_pos, s1]); (try with_reducible rfl); done))); (focus (first | (exact b1))); (focus ((first | refine snap_plain ?_ rfl | apply snap_data); repeat' (first | exact snapL_nil | apply snapL_i | apply snapL_dat)))) | (apply w_cond; (focus ((try simp only [simB0, ZA, reduceEqDiff, ↓reduceIte, reduceAdd, reduceLeDiff, rem_pos, quo_pos, s1]); (try with_reducible rfl); done)); all_goals (intro _hg; (try simp only [ZB] at _hg); try first | exact absurd trivial _hg | (exfalso; omega))))
    refine ⟨(m / 128, o ++ [UInt8.ofNat (m % 128 + 128)]), ⟨by dsimp only; omega, by simpa using h2⟩, by dsimp only; omega, ?_, rfl, rfl⟩
    simp (disch := omega) only [agr, ZG, reduceEqDiff, ↓reduceIte, show ((m / 128 : Nat) : Int) = (m : Int) / 128 by omega]
  · rw [vint_small hm] at h2
    have b1 := byte_r (m : Int)
    have eb : byteB (m : Int) = UInt8.ofNat m := by unfold byteB; congr 1; omega
    rw [eb] at b1
    have s1 := str_add (a := o) (b := [UInt8.ofNat m]) (by simp; omega)
    repeat' (first | apply w_seq | apply w_ops0 | apply w_exit | apply w_ret | apply a_n | apply a_x | apply o_nil | (apply o_val rfl rfl; (focus ((try simp (disch := omega) only [simB0, ZA, reduceEqDiff, ↓reduceIte, reduceAdd, reduceLeDiff, ZV, reduceCtorEq, s1]); first | with_reducible rfl | (apply s_ite; (focus omega); with_reducible rfl)))) | (apply o_callD; (iterate 2 (focus ((try simp only [simB0, ZA, reduceEqDiff, ↓reduceIte, reduceAdd, reduceLeDiff, s1]); (try with_reducible rfl); done))); (focus (first | (exact b1))); (focus ((first | refine snap_plain ?_ rfl | apply snap_data); repeat' (first | exact snapL_nil | apply snapL_i | apply snapL_dat)))) | (apply w_cond; (focus ((try simp only [simB0, ZA, reduceEqDiff, ↓reduceIte, reduceAdd, reduceLeDiff, s1]); (try with_reducible rfl); done)); all_goals (intro _hg; (try simp only [ZB] at _hg); try first | exact absurd trivial _hg | (exfalso; omega))) | (refine e_ends rfl ?_) | (apply r_1; (focus (simp only [rv, simB0, ZA, reduceEqDiff, ↓reduceIte, reduceAdd, reduceLeDiff, s1]; with_reducible rfl))))
    rw [h2]
    exact encS_dat _ _

theorem message_r (r f t s : Int) (hs : 0 ≤ s ∧ s ≤ 4611686018427387904) : Go.Abs.Pure Try.prog 34 [.int .i64 r, .int .i64 f, .int .i64 t, .int .i64 s] (encS (messageB r f t s)) := by
  refine Pure.of_c2 follows is34 (Nat.le_of_ble_eq_true rfl) ?_
  simp only [b34, O, G, N, M, D, F, B2, cFal, cTru]
  have b1 := byte_r r
  have b2 := byte_r f
  have b3 := byte_r t
  have b4 := number_r s hs
  have e : messageB r f t s = sealB (byteB r :: byteB f :: byteB t :: vint s.toNat) := rfl
  have hl := message_len r f t s
  have hv := vint_len s.toNat
  have b5 := sealed_r (byteB r :: byteB f :: byteB t :: vint s.toNat) (by simp; omega)
  rw [← e] at b5
  have s1 : ∀ tb tf, abin2 .add tb tf (encS [byteB r]) (encS [byteB f]) = some (encS [byteB r, byteB f]) := str_add (by simp)
  have s2 : ∀ tb tf, abin2 .add tb tf (encS [byteB r, byteB f]) (encS [byteB t]) = some (encS [byteB r, byteB f, byteB t]) := str_add (by simp)
  have s3 : ∀ tb tf, abin2 .add tb tf (encS [byteB r, byteB f, byteB t]) (encS (vint s.toNat)) = some (encS (byteB r :: byteB f :: byteB t :: vint s.toNat)) := str_add (by simp; omega)
  generalize messageB r f t s = W at *
  generalize vint s.toNat = V at *
  repeat' (first | apply w_seq | apply w_ops0 | apply w_ret | apply a_n | apply o_nil | (apply o_val rfl rfl; (focus ((try simp (disch := omega) only [simB0, ZA, reduceEqDiff, ↓reduceIte, reduceAdd, reduceLeDiff, ZV, reduceCtorEq, s1, s2, s3]); first | with_reducible rfl | (apply s_ite; (focus omega); with_reducible rfl)))) | (apply o_callD; (iterate 2 (focus ((try simp only [simB0, ZA, reduceEqDiff, ↓reduceIte, reduceAdd, reduceLeDiff, s1, s2, s3]); (try with_reducible rfl); done))); (focus (first | (exact b1) | (exact b2) | (exact b3) | (exact b4) | (exact b5))); (focus ((first | refine snap_plain ?_ rfl | apply snap_data); repeat' (first | exact snapL_nil | apply snapL_i | apply snapL_dat)))) | (refine e_ends rfl ?_) | (apply r_1; (focus (simp only [rv, simB0, ZA, reduceEqDiff, ↓reduceIte, reduceAdd, reduceLeDiff, s1, s2, s3]; with_reducible rfl))))
  exact encS_dat _ _

theorem right_r (l : List UInt8) (hl : Sh l) : Go.Abs.Pure Try.prog 39 [encS l] (.bool (rightB l)) := by
  refine Pure.of_c2 follows is39 (Nat.le_of_ble_eq_true rfl) ?_
  simp only [b39, O, G, N, M, D, F, B2, cFal, cTru]
  have hl' : l.length ≤ 9223372036854775807 := hl
  by_cases h6 : 6 ≤ l.length
  · have d6 : decide ((6 : Int) ≤ (l.length : Int)) = true := decide_eq_true (by omega)
    have e2 : (l.length : Int) - 2 = ((l.length - 2 : Nat) : Int) := by omega
    have hsl : aslstr (encS l) none (some (.int .i64 ((l.length - 2 : Nat) : Int))) = some (encS (l.take (l.length - 2))) := aslstr_hi (by omega)
    have hc := sealed_r (l.take (l.length - 2)) (by rw [List.length_take]; omega)
    have hr := seal_right l h6
    repeat' (first | apply w_seq | apply w_ops0 | apply w_ret | apply a_n | apply o_nil | (apply o_val rfl rfl; (focus ((try simp (disch := omega) only [simB0, ZA, reduceEqDiff, ↓reduceIte, reduceAdd, reduceLeDiff, ZV, reduceCtorEq, alenStr_encS, d6, e2, hsl, str_eq2, hr]); first | with_reducible rfl | (apply s_ite; (focus omega); with_reducible rfl)))) | (apply o_callD; (iterate 2 (focus ((try simp only [simB0, ZA, reduceEqDiff, ↓reduceIte, reduceAdd, reduceLeDiff, alenStr_encS, d6, e2, hsl, str_eq2, hr]); (try with_reducible rfl); done))); (focus (first | (exact hc))); (focus ((first | refine snap_plain ?_ rfl | apply snap_data); repeat' (first | exact snapL_nil | apply snapL_i | apply snapL_dat)))) | (apply o_gT; (focus (simp only [simB0, ZA, reduceEqDiff, ↓reduceIte, reduceAdd, reduceLeDiff, alenStr_encS, d6, e2, hsl, str_eq2, hr]; done))) | (refine e_ends rfl ?_) | (apply r_1; (focus (simp only [rv, simB0, ZA, reduceEqDiff, ↓reduceIte, reduceAdd, reduceLeDiff, alenStr_encS, d6, e2, hsl, str_eq2, hr]; with_reducible rfl))))
    all_goals exact .bool _
  · have d6 : decide ((6 : Int) ≤ (l.length : Int)) = false := decide_eq_false (by omega)
    have hr : rightB l = false := by unfold rightB; rw [decide_eq_false h6]; rfl
    rw [hr]
    repeat' (first | apply w_seq | apply w_ops0 | apply w_ret | apply a_n | apply o_nil | (apply o_val rfl rfl; (focus ((try simp (disch := omega) only [simB0, ZA, reduceEqDiff, ↓reduceIte, reduceAdd, reduceLeDiff, ZV, reduceCtorEq, alenStr_encS, d6]); first | with_reducible rfl | (apply s_ite; (focus omega); with_reducible rfl)))) | (apply o_gF; (focus (simp only [simB0, ZA, reduceEqDiff, ↓reduceIte, reduceAdd, reduceLeDiff, or_true, true_or, alenStr_encS, d6]; done))) | (refine e_ends rfl ?_) | (apply r_1; (focus (simp only [rv, simB0, ZA, reduceEqDiff, ↓reduceIte, reduceAdd, reduceLeDiff, alenStr_encS, d6]; with_reducible rfl))))
    all_goals exact .bool _

theorem place_r (m : MachV) (r f t : Int) (hs : ShM m) : Go.Abs.Pure Try.prog 33 [encM m, .int .i64 r, .int .i64 f, .int .i64 t] (.int .i64 (placeI m r f t)) := by
  refine Pure.of_c2 follows is33 (Nat.le_of_ble_eq_true rfl) ?_
  simp only [b33, O, G, N, M, D, F, B2, cFal, cTru]
  have hck := check_r m hs
  have em := encM_dat m
  unfold encM MachV.cells at *
  by_cases hc : chkM m = 0
  rotate_left
  · have hz : decide (chkM m ≠ 0) = true := decide_eq_true hc
    have e : placeI m r f t = chkM m := by unfold placeI; rw [if_pos hc]
    rw [e]
    repeat' (first | apply w_seq | apply w_ops0 | apply w_ret | apply a_n | apply a_r | apply o_nil | (apply o_val rfl rfl; (focus ((try simp (disch := omega) only [simB0, ZA, reduceEqDiff, ↓reduceIte, reduceAdd, reduceLeDiff, ZV, reduceCtorEq, ME, acells, hz]); first | with_reducible rfl | (apply s_ite; (focus omega); with_reducible rfl)))) | (apply o_callD; (iterate 2 (focus ((try simp only [simB0, ZA, reduceEqDiff, ↓reduceIte, reduceAdd, reduceLeDiff, ME, acells, hz]); (try with_reducible rfl); done))); (focus (first | (exact hck))); (focus ((first | refine snap_plain ?_ rfl | apply snap_data); repeat' (first | exact snapL_nil | apply snapL_i | apply snapL_dat | exact em)))) | (apply e_box rfl; (iterate 2 (focus ((try simp only [simB0, ZA, reduceEqDiff, ↓reduceIte, reduceAdd, reduceLeDiff, ME, acells, hz]); (try with_reducible rfl); done))); (focus (simp only [SO, Bool.and_self, one_encV, one_encVV, ME, acells, hz]))) | (apply w_condT; (focus (simp only [simB0, ZA, reduceEqDiff, ↓reduceIte, reduceAdd, reduceLeDiff, ME, acells, hz]; done))) | (refine e_ends rfl ?_) | (apply r_1; (focus (simp only [rv, simB0, ZA, reduceEqDiff, ↓reduceIte, reduceAdd, reduceLeDiff, ME, acells, hz]; with_reducible rfl))))
    all_goals exact .int _ _
  have e : placeI m r f t = if r < 0 ∨ m.rounds ≤ r ∨ f < 0 ∨ m.n ≤ f ∨ t < 0 ∨ m.n ≤ t then 2 else if f = t then 11 else 0 := by unfold placeI; rw [if_neg (fun h => h hc)]
  rw [e, ]
  rw [hc] at hck
  have z0 : decide ((0 : Int) ≠ 0) = false := rfl
  repeat' (first | apply w_seq | apply w_ops0 | apply w_block | apply w_skip | apply w_ret | apply a_n | apply a_r | apply o_nil | (apply o_val rfl rfl; (focus ((try simp (disch := omega) only [simB0, ZA, reduceEqDiff, ↓reduceIte, reduceAdd, reduceLeDiff, ZV, reduceCtorEq, ME, acells, z0]); first | with_reducible rfl | (apply s_ite; (focus omega); with_reducible rfl)))) | (apply o_callD; (iterate 2 (focus ((try simp only [simB0, ZA, reduceEqDiff, ↓reduceIte, reduceAdd, reduceLeDiff, ME, acells, z0]); (try with_reducible rfl); done))); (focus (first | (exact hck))); (focus ((first | refine snap_plain ?_ rfl | apply snap_data); repeat' (first | exact snapL_nil | apply snapL_i | apply snapL_dat | exact em)))) | (apply e_box rfl; (iterate 2 (focus ((try simp only [simB0, ZA, reduceEqDiff, ↓reduceIte, reduceAdd, reduceLeDiff, ME, acells, z0]); (try with_reducible rfl); done))); (focus (simp only [SO, Bool.and_self, one_encV, one_encVV, ME, acells, z0]))) | (apply o_gT; (focus (simp only [simB0, ZA, reduceEqDiff, ↓reduceIte, reduceAdd, reduceLeDiff, ME, acells, z0]; done))) | (apply o_gF; (focus (simp only [simB0, ZA, reduceEqDiff, ↓reduceIte, reduceAdd, reduceLeDiff, or_true, true_or, ME, acells, z0]; done))) | (apply w_condT; (focus (simp only [simB0, ZA, reduceEqDiff, ↓reduceIte, reduceAdd, reduceLeDiff, ME, acells, z0]; done))) | (apply w_condF; (focus (simp only [simB0, ZA, reduceEqDiff, ↓reduceIte, reduceAdd, reduceLeDiff, ME, acells, z0]; done))) | ((first | apply o_gB | apply w_cond); (focus ((try simp only [simB0, ZA, reduceEqDiff, ↓reduceIte, reduceAdd, reduceLeDiff, ME, acells, z0]); (try with_reducible rfl); done)); all_goals (intro _hg; (try simp only [ZB] at _hg); try first | exact absurd trivial _hg | (exfalso; omega))) | (refine e_ends rfl ?_) | (apply r_1; (focus (simp only [rv, simB0, ZA, reduceEqDiff, ↓reduceIte, reduceAdd, reduceLeDiff, ME, acells, z0]; with_reducible rfl))))
  all_goals first
    | (refine snap_int ?_; rw [if_pos (by omega)])
    | (refine snap_int ?_; rw [if_neg (by omega), if_pos (by omega)])
    | (refine snap_int ?_; rw [if_neg (by omega), if_neg (by omega)])
    | trace_state

end Go.Proofs.Ytpbjhjkfobapeaa

/- Q44: contracts of functions and plain laws; for all inputs that the theorems name. -/
namespace Go.Proofs.Ytpbjhjkfobapeaa
open Go Go.Abs
open Nat (reduceEqDiff reduceAdd reduceLeDiff)

theorem hupd2 {H : Hp} {b : Nat} {x y : List AV} : hupd (hupd H b x) b y = hupd H b y := by
  funext z; unfold hupd; split <;> rfl
def nextL (B : List UInt8) : Nat → Bool → Nat → Nat → Nat → Nat × Nat × Bool
  | 0, _, _, _, at_ => (0, at_, true)
  | k + 1, f, u, a, at_ => if at_ < B.length then (if (B.getD at_ default).toNat < 128 then (a + (B.getD at_ default).toNat * u, at_ + 1, decide (f = false ∧ (B.getD at_ default).toNat = 0)) else nextL B k false (u * 128) (a + (B.getD at_ default).toNat % 128 * u) (at_ + 1)) else (0, at_, true)
def nextQ (B : List UInt8) (at_ : Nat) (bad : Bool) : Nat × Nat × Bool := if bad = true then (0, at_, true) else nextL B 4 true 1 0 at_
theorem nextL_num (B : List UInt8) : ∀ (k : Nat) (f : Bool) (u a at_ : Nat), at_ ≤ B.length → (nextL B k f u a at_).2.1 ≤ B.length ∧ (∀ n rest, numP f k u a (B.drop at_) = some (n, rest) → (nextL B k f u a at_).1 = n ∧ (nextL B k f u a at_).2.2 = false ∧ B.drop (nextL B k f u a at_).2.1 = rest) ∧
    (numP f k u a (B.drop at_) = none → (nextL B k f u a at_).2.2 = true)
  | 0, f, u, a, at_, h => ⟨h, fun n rest h => by simp [numP] at h, fun _ => rfl⟩
  | k + 1, f, u, a, at_, h => by
    by_cases hl : at_ < B.length
    · have hd := drop_cons hl
      simp only [nextL, if_pos hl]
      rw [hd]
      simp only [numP]
      by_cases hc : (B.getD at_ default).toNat < 128
      · rw [if_pos hc, if_pos hc]
        refine ⟨hl, fun n rest hh => ?_, fun hh => ?_⟩
        · split at hh
          · cases hh
          · rename_i hz
            cases hh
            exact ⟨rfl, decide_eq_false hz, rfl⟩
        · split at hh
          · rename_i hz; exact decide_eq_true hz
          · cases hh
      · rw [if_neg hc, if_neg hc]
        exact nextL_num B k false (u * 128) _ (at_ + 1) hl
    · simp only [nextL, if_neg hl]
      rw [List.drop_eq_nil_of_le (by omega)]
      exact ⟨h, fun n rest hh => by simp [numP] at hh, fun _ => by simp⟩
theorem nextQ_R (B : List UInt8) (at_ : Nat) (bad : Bool) (h : at_ ≤ B.length) : (nextQ B at_ bad).2.1 ≤ B.length ∧ (nextQ B at_ bad).2.2 = (nextR (B.drop at_) bad).2.2 ∧ ((nextQ B at_ bad).2.2 = false → ((nextQ B at_ bad).1 : Int) = (nextR (B.drop at_) bad).1 ∧ B.drop (nextQ B at_ bad).2.1 = (nextR (B.drop at_) bad).2.1) := by
  unfold nextQ nextR
  cases bad with
  | true => exact ⟨h, rfl, fun h => by simp at h⟩
  | false =>
    simp only [Bool.false_eq_true, if_false]
    obtain ⟨h1, h2, h3⟩ := nextL_num B 4 true 1 0 at_ h
    refine ⟨h1, ?_⟩
    unfold numR
    cases hn : numP true 4 1 0 (B.drop at_) with
    | none =>
      rw [h3 hn]
      exact ⟨rfl, fun h => by simp at h⟩
    | some x =>
      obtain ⟨n, rest⟩ := x
      obtain ⟨g1, g2, g3⟩ := h2 n rest hn
      rw [g1, g2, g3]
      exact ⟨rfl, fun _ => ⟨rfl, rfl⟩⟩
theorem nextL_bd (B : List UInt8) : ∀ (k : Nat) (f : Bool) (u a at_ : Nat), (nextL B k f u a at_).1 + u ≤ a + u * 128 ^ k
  | 0, f, u, a, at_ => by simp [nextL]
  | k + 1, f, u, a, at_ => by
    have hp : u ≤ u * 128 ^ k := Nat.le_mul_of_pos_right _ (Nat.pow_pos (by omega))
    have he : u * 128 ^ (k + 1) = 128 * (u * 128 ^ k) := by rw [Nat.pow_succ, Nat.mul_comm (128 ^ k), ← Nat.mul_assoc, Nat.mul_comm u 128, Nat.mul_assoc]
    simp only [nextL]
    split
    · split
      · rename_i hc
        have : (B.getD at_ default).toNat * u ≤ 127 * u := Nat.mul_le_mul_right _ (by omega)
        dsimp only; omega
      · have h1 := nextL_bd B k false (u * 128) (a + (B.getD at_ default).toNat % 128 * u) (at_ + 1)
        have h2 : (B.getD at_ default).toNat % 128 * u ≤ 127 * u := Nat.mul_le_mul_right _ (by omega)
        have h3 : u * 128 * 128 ^ k = 128 * (u * 128 ^ k) := by rw [Nat.mul_comm u 128, Nat.mul_assoc]
        omega
    · dsimp only; omega
theorem nextQ_bd (B : List UInt8) (at_ : Nat) (bad : Bool) : (nextQ B at_ bad).1 < 268435456 := by
  unfold nextQ
  split
  · simp
  · have := nextL_bd B 4 true 1 0 at_
    simp at this; omega
attribute [local irreducible] awp2 aops2 ains aloop athen bbind obind gbind acond res1 Go.Abs.Fn PCall Go.Abs.Pure SnapArgs SnapL Yl

theorem next_f (b : Nat) (B : List UInt8) (at_ : Nat) (bad : Bool) (H : Hp) (nx : Nat) (hb : H b = some [encS B, .int .i64 at_, .bool bad]) (hl : B.length ≤ 1000000000) (hat : at_ ≤ B.length) :
    Abs.Fn Try.prog 40 [.ptr b 3 0] H nx fun r H' nx' => r = .int .i64 (nextQ B at_ bad).1 ∧ H' = hupd H b [encS B, .int .i64 (nextQ B at_ bad).2.1, .bool (nextQ B at_ bad).2.2] ∧ nx' = nx := by
  refine Abs.Fn.of_c2 follows is40 (Nat.le_of_ble_eq_true rfl) ?_
  simp only [b40, O, G, N, M, D, F, B2, cFal, cTru]
  cases bad with
  | true =>
    repeat' (first | apply w_seq | apply w_ops0 | apply w_block | apply a_n | apply o_nil | (apply o_val rfl rfl; (focus ((try simp (disch := omega) only [simB0, ZA, reduceEqDiff, ↓reduceIte, reduceAdd, reduceLeDiff, ZV, reduceCtorEq, hb, Bool.false_eq_true]); first | with_reducible rfl | (apply s_ite; (focus omega); with_reducible rfl)))) | apply w_loop)
    refine loop0 (X := Unit) (fun _ => [(0, .ptr b 3 0), (5, .int .i64 0)]) (fun _ => True) (fun _ => 0) () trivial (by simp (disch := omega) only [agr, ZG, reduceEqDiff, ↓reduceIte]) ?_
    rintro _ _
    repeat' (first | apply w_seq | apply w_ops0 | apply w_ops1 | apply w_exit | apply w_ret | apply a_n | apply a_x | apply o_nil | (apply o_val rfl rfl; (focus ((try simp (disch := omega) only [simB0, ZA, reduceEqDiff, ↓reduceIte, reduceAdd, reduceLeDiff, ZV, reduceCtorEq, NK, hb, alenStr_encS, encS_cells, encS_one, Bool.false_eq_true]); first | with_reducible rfl | (apply s_ite; (focus omega); with_reducible rfl)))) | (apply e_st rfl; (iterate 4 (focus ((try simp only [simB0, ZA, reduceEqDiff, ↓reduceIte, reduceAdd, reduceLeDiff, NK, hb, alenStr_encS, encS_cells, encS_one, Bool.false_eq_true]); (try with_reducible rfl); done))); (focus (simp only [SO, Bool.and_self, one_encV, one_encVV, NK, hb, alenStr_encS, encS_cells, encS_one, Bool.false_eq_true])); (iterate 3 (focus ((try simp only [SL, reduceAdd, Nat.reduceMul, List.length_map]); first | done | omega)))) | (apply o_gT; (focus (simp only [simB0, ZA, reduceEqDiff, ↓reduceIte, reduceAdd, reduceLeDiff, NK, hb, alenStr_encS, encS_cells, encS_one, Bool.false_eq_true]; done))) | (apply o_gF; (focus (simp only [simB0, ZA, reduceEqDiff, ↓reduceIte, reduceAdd, reduceLeDiff, or_true, true_or, NK, hb, alenStr_encS, encS_cells, encS_one, Bool.false_eq_true]; done))) | (apply o_gB; (focus ((try simp only [simB0, ZA, reduceEqDiff, ↓reduceIte, reduceAdd, reduceLeDiff, NK, hb, alenStr_encS, encS_cells, encS_one, Bool.false_eq_true]); (try with_reducible rfl); done)); all_goals (intro _hg; (try simp only [ZB] at _hg); try first | exact absurd trivial _hg | (exfalso; omega))) | (apply w_condF; (focus (simp only [simB0, ZA, reduceEqDiff, ↓reduceIte, reduceAdd, reduceLeDiff, NK, hb, alenStr_encS, encS_cells, encS_one, Bool.false_eq_true]; done))) | (refine e_ends rfl ?_) | (apply r_1; (focus (simp only [rv, simB0, ZA, reduceEqDiff, ↓reduceIte, reduceAdd, reduceLeDiff, NK, hb, alenStr_encS, encS_cells, encS_one, Bool.false_eq_true]; with_reducible rfl))))
    all_goals exact ⟨rfl, rfl, rfl⟩
  | false =>
  have hQ : nextQ B at_ false = nextL B 4 true 1 0 at_ := by unfold nextQ; rw [if_neg (by simp)]
  repeat' (first | apply w_seq | apply w_ops0 | apply w_block | apply a_n | apply o_nil | (apply o_val rfl rfl; (focus ((try simp (disch := omega) only [simB0, ZA, reduceEqDiff, ↓reduceIte, reduceAdd, reduceLeDiff, ZV, reduceCtorEq, hb, Bool.false_eq_true]); first | with_reducible rfl | (apply s_ite; (focus omega); with_reducible rfl)))) | apply w_loop)
  refine loopI (X := Nat × Nat × Nat × Nat) (fun s => [(0, .ptr b 3 0), (3, .int .i64 (s.2.1 : Int)), (4, .int .i64 (s.2.2.1 : Int)), (5, .int .i64 (s.1 : Int))])
    (fun s H' nx' => s.1 ≤ 4 ∧ s.2.2.1 = 128 ^ s.1 ∧ s.2.1 < 128 ^ s.1 ∧ s.2.2.2 ≤ B.length ∧ nx' = nx ∧ H' = hupd H b [encS B, .int .i64 (s.2.2.2 : Int), .bool false] ∧ nextQ B at_ false = nextL B (4 - s.1) (decide (s.1 = 0)) s.2.2.1 s.2.1 s.2.2.2) (fun s => 4 - s.1) (0, 0, 1, at_)
    ⟨by omega, rfl, by simp, hat, rfl, (hupd_self hb).symm, hQ⟩ (by simp (disch := omega) only [agr, ZG, reduceEqDiff, ↓reduceIte]) ?_
  rintro ⟨i, n, u, p⟩ H2 nx2 ⟨h1, h2, h3, h4, rfl, rfl, h5⟩
  dsimp only at h1 h2 h3 h4 h5 ⊢
  have hb2 : hupd H b [encS B, .int .i64 (p : Int), .bool false] b = some [encS B, .int .i64 (p : Int), .bool false] := hupd_self'
  by_cases hi : i < 4 ∧ p < B.length
  rotate_left
  · have hend : nextQ B at_ false = (0, p, true) := by
      rw [h5]
      by_cases h6 : i < 4
      · obtain ⟨k, hk⟩ : ∃ k, 4 - i = k + 1 := ⟨3 - i, by omega⟩
        rw [hk]
        simp only [nextL]
        rw [if_neg (by omega)]
      · rw [show 4 - i = 0 by omega]; rfl
    rw [hend]
    repeat' (first | apply w_seq | apply w_ops0 | apply w_ops1 | apply w_exit | apply w_ret | apply a_n | apply a_x | apply o_nil | (apply o_val rfl rfl; (focus ((try simp (disch := omega) only [simB0, ZA, reduceEqDiff, ↓reduceIte, reduceAdd, reduceLeDiff, ZV, reduceCtorEq, NK, hb2, alenStr_encS, encS_cells, encS_one, Bool.false_eq_true]); first | with_reducible rfl | (apply s_ite; (focus omega); with_reducible rfl)))) | (apply e_st rfl; (iterate 4 (focus ((try simp only [simB0, ZA, reduceEqDiff, ↓reduceIte, reduceAdd, reduceLeDiff, NK, hb2, alenStr_encS, encS_cells, encS_one, Bool.false_eq_true]); (try with_reducible rfl); done))); (focus (simp only [SO, Bool.and_self, one_encV, one_encVV, NK, hb2, alenStr_encS, encS_cells, encS_one, Bool.false_eq_true])); (iterate 3 (focus ((try simp only [SL, reduceAdd, Nat.reduceMul, List.length_map]); first | done | omega)))) | (apply o_gT; (focus (simp only [simB0, ZA, reduceEqDiff, ↓reduceIte, reduceAdd, reduceLeDiff, NK, hb2, alenStr_encS, encS_cells, encS_one, Bool.false_eq_true]; done))) | (apply o_gF; (focus (simp only [simB0, ZA, reduceEqDiff, ↓reduceIte, reduceAdd, reduceLeDiff, or_true, true_or, NK, hb2, alenStr_encS, encS_cells, encS_one, Bool.false_eq_true]; done))) | (apply o_gB; (focus ((try simp only [simB0, ZA, reduceEqDiff, ↓reduceIte, reduceAdd, reduceLeDiff, NK, hb2, alenStr_encS, encS_cells, encS_one, Bool.false_eq_true]); (try with_reducible rfl); done)); all_goals (intro _hg; (try simp only [ZB] at _hg); try first | exact absurd trivial _hg | (exfalso; omega))) | (apply w_condF; (focus (simp only [simB0, ZA, reduceEqDiff, ↓reduceIte, reduceAdd, reduceLeDiff, NK, hb2, alenStr_encS, encS_cells, encS_one, Bool.false_eq_true]; done))) | (refine e_ends rfl ?_) | (apply r_1; (focus (simp only [rv, simB0, ZA, reduceEqDiff, ↓reduceIte, reduceAdd, reduceLeDiff, NK, hb2, alenStr_encS, encS_cells, encS_one, Bool.false_eq_true]; with_reducible rfl))))
    all_goals exact ⟨rfl, hupd2, rfl⟩
  obtain ⟨hi, hp⟩ := hi
  obtain ⟨k, hk⟩ : ∃ k, 4 - i = k + 1 := ⟨3 - i, by omega⟩
  rw [hk] at h5
  simp only [nextL] at h5
  rw [if_pos hp] at h5
  have hb4 : 128 ^ i ≤ 128 ^ 3 := Nat.pow_le_pow_right (by omega) (by omega)
  have hb4' : (128 : Nat) ^ 3 = 2097152 := rfl
  have hsucc : 128 ^ (i + 1) = 128 ^ i * 128 := Nat.pow_succ 128 i
  have hc1 := byte_lt (B.getD p default)
  have hix := aixStr_encS (l := B) (k := .i64) (n := (p : Int)) (by omega) (by omega)
  rw [Int.toNat_natCast] at hix
  generalize hcc : (B.getD p default) = c at *
  have hmul : c.toNat * u ≤ 255 * 2097152 := Nat.mul_le_mul (by omega) (by omega)
  have hmul2 : c.toNat % 128 * u ≤ 127 * u := Nat.mul_le_mul_right _ (by omega)
  have m1 : (c.toNat : Int) * (u : Int) = ((c.toNat * u : Nat) : Int) := by simp
  by_cases hc : c.toNat < 128
  · rw [if_pos hc] at h5
    have dc : decide ((c.toNat : Int) < 128) = true := decide_eq_true (by omega)
    have di : decide ((0 : Int) < (i : Int)) = !decide (i = 0) := by
      by_cases h : i = 0 <;> simp [h] <;> omega
    have dz : decide ((c.toNat : Int) = 0) = decide (c.toNat = 0) := decide_eq_decide.2 (by omega)
    rw [h5]
    by_cases hi0 : i = 0
    · have d0 : decide ((0 : Int) < (i : Int)) = false := decide_eq_false (by omega)
      have df : decide (decide (i = 0) = false ∧ c.toNat = 0) = false := decide_eq_false (by simp [hi0])
      rw [df]
      repeat' (first | apply w_seq | apply w_ops0 | apply w_ops1 | apply w_block | apply w_skip | apply w_ret | apply a_n | apply a_r | apply o_nil | (apply o_val rfl rfl; (focus ((try simp (disch := omega) only [simB0, ZA, reduceEqDiff, ↓reduceIte, reduceAdd, reduceLeDiff, ZV, reduceCtorEq, NK, hb2, alenStr_encS, encS_cells, encS_one, hix, encB, dc, d0, m1, Bool.false_eq_true]); first | with_reducible rfl | (apply s_ite; (focus omega); with_reducible rfl)))) | (apply e_st rfl; (iterate 4 (focus ((try simp only [simB0, ZA, reduceEqDiff, ↓reduceIte, reduceAdd, reduceLeDiff, NK, hb2, alenStr_encS, encS_cells, encS_one, hix, encB, dc, d0, m1, Bool.false_eq_true]); (try with_reducible rfl); done))); (focus (simp only [SO, Bool.and_self, one_encV, one_encVV, NK, hb2, alenStr_encS, encS_cells, encS_one, hix, encB, dc, d0, m1, Bool.false_eq_true])); (iterate 3 (focus ((try simp only [SL, reduceAdd, Nat.reduceMul, List.length_map]); first | done | omega)))) | (apply o_gT; (focus (simp only [simB0, ZA, reduceEqDiff, ↓reduceIte, reduceAdd, reduceLeDiff, NK, hb2, alenStr_encS, encS_cells, encS_one, hix, encB, dc, d0, m1, Bool.false_eq_true]; done))) | (apply o_gF; (focus (simp only [simB0, ZA, reduceEqDiff, ↓reduceIte, reduceAdd, reduceLeDiff, or_true, true_or, NK, hb2, alenStr_encS, encS_cells, encS_one, hix, encB, dc, d0, m1, Bool.false_eq_true]; done))) | (apply o_gB; (focus ((try simp only [simB0, ZA, reduceEqDiff, ↓reduceIte, reduceAdd, reduceLeDiff, NK, hb2, alenStr_encS, encS_cells, encS_one, hix, encB, dc, d0, m1, Bool.false_eq_true]); (try with_reducible rfl); done)); all_goals (intro _hg; (try simp only [ZB] at _hg); try first | exact absurd trivial _hg | (exfalso; omega))) | (apply w_condT; (focus (simp only [simB0, ZA, reduceEqDiff, ↓reduceIte, reduceAdd, reduceLeDiff, NK, hb2, alenStr_encS, encS_cells, encS_one, hix, encB, dc, d0, m1, Bool.false_eq_true]; done))) | (refine e_ends rfl ?_) | (apply r_1; (focus (simp only [rv, simB0, ZA, reduceEqDiff, ↓reduceIte, reduceAdd, reduceLeDiff, NK, hb2, alenStr_encS, encS_cells, encS_one, hix, encB, dc, d0, m1, Bool.false_eq_true]; with_reducible rfl))))
      refine ⟨?_, ?_, rfl⟩
      · show AV.int _ _ = AV.int _ ((n + c.toNat * u : Nat) : Int)
        rw [Int.natCast_add]
      · rw [hupd2, hupd2]; rfl
    · have d0 : decide ((0 : Int) < (i : Int)) = true := decide_eq_true (by omega)
      have df : decide (decide (i = 0) = false ∧ c.toNat = 0) = decide ((c.toNat : Int) = 0) := decide_eq_decide.2 (by simp [hi0])
      rw [df]
      repeat' (first | apply w_seq | apply w_ops0 | apply w_ops1 | apply w_block | apply w_skip | apply w_ret | apply a_n | apply a_r | apply o_nil | (apply o_val rfl rfl; (focus ((try simp (disch := omega) only [simB0, ZA, reduceEqDiff, ↓reduceIte, reduceAdd, reduceLeDiff, ZV, reduceCtorEq, NK, hb2, alenStr_encS, encS_cells, encS_one, hix, encB, dc, d0, m1, Bool.false_eq_true]); first | with_reducible rfl | (apply s_ite; (focus omega); with_reducible rfl)))) | (apply e_st rfl; (iterate 4 (focus ((try simp only [simB0, ZA, reduceEqDiff, ↓reduceIte, reduceAdd, reduceLeDiff, NK, hb2, alenStr_encS, encS_cells, encS_one, hix, encB, dc, d0, m1, Bool.false_eq_true]); (try with_reducible rfl); done))); (focus (simp only [SO, Bool.and_self, one_encV, one_encVV, NK, hb2, alenStr_encS, encS_cells, encS_one, hix, encB, dc, d0, m1, Bool.false_eq_true])); (iterate 3 (focus ((try simp only [SL, reduceAdd, Nat.reduceMul, List.length_map]); first | done | omega)))) | (apply o_gT; (focus (simp only [simB0, ZA, reduceEqDiff, ↓reduceIte, reduceAdd, reduceLeDiff, NK, hb2, alenStr_encS, encS_cells, encS_one, hix, encB, dc, d0, m1, Bool.false_eq_true]; done))) | (apply o_gB; (focus ((try simp only [simB0, ZA, reduceEqDiff, ↓reduceIte, reduceAdd, reduceLeDiff, NK, hb2, alenStr_encS, encS_cells, encS_one, hix, encB, dc, d0, m1, Bool.false_eq_true]); (try with_reducible rfl); done)); all_goals (intro _hg; (try simp only [ZB] at _hg); try first | exact absurd trivial _hg | (exfalso; omega))) | (apply w_condT; (focus (simp only [simB0, ZA, reduceEqDiff, ↓reduceIte, reduceAdd, reduceLeDiff, NK, hb2, alenStr_encS, encS_cells, encS_one, hix, encB, dc, d0, m1, Bool.false_eq_true]; done))) | (refine e_ends rfl ?_) | (apply r_1; (focus (simp only [rv, simB0, ZA, reduceEqDiff, ↓reduceIte, reduceAdd, reduceLeDiff, NK, hb2, alenStr_encS, encS_cells, encS_one, hix, encB, dc, d0, m1, Bool.false_eq_true]; with_reducible rfl))))
      refine ⟨?_, ?_, rfl⟩
      · show AV.int _ _ = AV.int _ ((n + c.toNat * u : Nat) : Int)
        rw [Int.natCast_add]
      · rw [hupd2, hupd2]; rfl
  · rw [if_neg hc] at h5
    have dc : decide ((c.toNat : Int) < 128) = false := decide_eq_false (by omega)
    have m2 : ((c.toNat : Int) - 128) * (u : Int) = ((c.toNat % 128 * u : Nat) : Int) := by
      rw [show (c.toNat : Int) - 128 = ((c.toNat % 128 : Nat) : Int) by omega]; simp
    repeat' (first | apply w_seq | apply w_ops0 | apply w_ops1 | apply w_block | apply w_skip | apply a_n | apply o_nil | (apply o_val rfl rfl; (focus ((try simp (disch := omega) only [simB0, ZA, reduceEqDiff, ↓reduceIte, reduceAdd, reduceLeDiff, ZV, reduceCtorEq, NK, hb2, alenStr_encS, encS_cells, encS_one, hix, encB, dc, m2, Bool.false_eq_true]); first | with_reducible rfl | (apply s_ite; (focus omega); with_reducible rfl)))) | (apply e_st rfl; (iterate 4 (focus ((try simp only [simB0, ZA, reduceEqDiff, ↓reduceIte, reduceAdd, reduceLeDiff, NK, hb2, alenStr_encS, encS_cells, encS_one, hix, encB, dc, m2, Bool.false_eq_true]); (try with_reducible rfl); done))); (focus (simp only [SO, Bool.and_self, one_encV, one_encVV, NK, hb2, alenStr_encS, encS_cells, encS_one, hix, encB, dc, m2, Bool.false_eq_true])); (iterate 3 (focus ((try simp only [SL, reduceAdd, Nat.reduceMul, List.length_map]); first | done | omega)))) | (apply o_gT; (focus (simp only [simB0, ZA, reduceEqDiff, ↓reduceIte, reduceAdd, reduceLeDiff, NK, hb2, alenStr_encS, encS_cells, encS_one, hix, encB, dc, m2, Bool.false_eq_true]; done))) | (apply o_gB; (focus ((try simp only [simB0, ZA, reduceEqDiff, ↓reduceIte, reduceAdd, reduceLeDiff, NK, hb2, alenStr_encS, encS_cells, encS_one, hix, encB, dc, m2, Bool.false_eq_true]); (try with_reducible rfl); done)); all_goals (intro _hg; (try simp only [ZB] at _hg); try first | exact absurd trivial _hg | (exfalso; omega))) | (apply w_condT; (focus (simp only [simB0, ZA, reduceEqDiff, ↓reduceIte, reduceAdd, reduceLeDiff, NK, hb2, alenStr_encS, encS_cells, encS_one, hix, encB, dc, m2, Bool.false_eq_true]; done))) | (apply w_condF; (focus (simp only [simB0, ZA, reduceEqDiff, ↓reduceIte, reduceAdd, reduceLeDiff, NK, hb2, alenStr_encS, encS_cells, encS_one, hix, encB, dc, m2, Bool.false_eq_true]; done))))
    refine ⟨(i + 1, n + c.toNat % 128 * u, u * 128, p + 1), by dsimp only; omega, ⟨by dsimp only; omega, by dsimp only; rw [hsucc, h2], by dsimp only; rw [hsucc, ← h2]; omega, hp, rfl, ?_, ?_⟩, by simp (disch := omega) only [agr, ZG, reduceEqDiff, ↓reduceIte, show ((u * 128 : Nat) : Int) = (u : Int) * 128 by omega]⟩
    · rw [hupd2]; rfl
    · dsimp only
      rw [h5, show 4 - (i + 1) = k by omega, decide_eq_false (by omega)]

end Go.Proofs.Ytpbjhjkfobapeaa

/- Q45: contracts of functions and plain laws; for all inputs that the theorems name. -/
namespace Go.Proofs.Ytpbjhjkfobapeaa
open Go Go.Abs
open Nat (reduceEqDiff reduceAdd reduceLeDiff)

theorem aslstr_both {l : List UInt8} {a b : Nat} (h : a ≤ b) (hb : b ≤ l.length) : aslstr (encS l) (some (.int .i64 a)) (some (.int .i64 b)) = some (encS ((l.take b).drop a)) := by
  simp [aslstr, encS, abound, ByteArray.size, h, hb]
  apply ByteArray.ext
  simp [ByteArray.data_extract]
  rw [List.drop_take]
theorem sym_len {m : MachV} {r f t : Int} (h : placeI m r f t = 0) : ((m.symbols.length : Int) = m.rounds) ∧ ((m.symbols.getD r.toNat default).length : Int) = m.n ∧ (((m.symbols.getD r.toNat default).getD f.toNat default).length : Int) = m.n := by
  obtain ⟨hg, h1, h2, h3, h4, h5, h6, h7⟩ := place_zero h
  obtain ⟨l1, l2, l3⟩ := shaped_len hg.sh
  obtain ⟨u1, u2⟩ := shaped_sym hg.sh (k := r.toNat) (by omega)
  exact ⟨l3, u1, (u2 f.toNat (by omega)).1⟩
attribute [local irreducible] awp2 aops2 ains aloop athen bbind obind gbind acond res1 Go.Abs.Fn PCall Go.Abs.Pure SnapArgs SnapL Yl

theorem encode_r (m : MachV) (r f t s : Int) (hs : ShM m) : Go.Abs.Pure Try.prog 14 [encM m, .int .i64 r, .int .i64 f, .int .i64 t, .int .i64 s] (.tup [encS (encodeB m r f t s).1, .int .i64 (encodeB m r f t s).2]) := by
  refine Pure.of_c2 follows is14 (Nat.le_of_ble_eq_true rfl) ?_
  simp only [b14, O, G, N, M, D, F, B2, cFal, cTru]
  have hp := place_r m r f t hs
  have em := encM_dat m
  have e0 : encS [] = .str ⟨⟨[]⟩⟩ := rfl
  by_cases h0 : placeI m r f t = 0
  rotate_left
  · have e : encodeB m r f t s = ([], placeI m r f t) := by unfold encodeB; rw [if_pos h0]
    have hz : decide (placeI m r f t ≠ 0) = true := decide_eq_true h0
    rw [e, e0]
    unfold encM MachV.cells at *
    repeat' (first | apply w_seq | apply w_ops0 | apply w_ret | apply a_n | apply a_r | apply o_nil | (apply o_val rfl rfl; (focus ((try simp (disch := omega) only [simB0, ZA, reduceEqDiff, ↓reduceIte, reduceAdd, reduceLeDiff, ZV, reduceCtorEq, ME, acells, hz]); first | with_reducible rfl | (apply s_ite; (focus omega); with_reducible rfl)))) | (apply o_callD; (iterate 2 (focus ((try simp only [simB0, ZA, reduceEqDiff, ↓reduceIte, reduceAdd, reduceLeDiff, ME, acells, hz]); (try with_reducible rfl); done))); (focus (first | (exact hp))); (focus ((first | refine snap_plain ?_ rfl | apply snap_data); repeat' (first | exact snapL_nil | apply snapL_i | apply snapL_dat | exact em)))) | (apply e_box rfl; (iterate 2 (focus ((try simp only [simB0, ZA, reduceEqDiff, ↓reduceIte, reduceAdd, reduceLeDiff, ME, acells, hz]); (try with_reducible rfl); done))); (focus (simp only [SO, Bool.and_self, one_encV, one_encVV, ME, acells, hz]))) | (apply w_condT; (focus (simp only [simB0, ZA, reduceEqDiff, ↓reduceIte, reduceAdd, reduceLeDiff, ME, acells, hz]; done))) | (refine e_ends rfl ?_) | (apply r_2; (iterate 2 (focus (simp only [rv, simB0, ZA, reduceEqDiff, ↓reduceIte, reduceAdd, reduceLeDiff, ME, acells, hz]; with_reducible rfl)))))
    all_goals exact (Dat.tup (DatL.cons Dat.str (DatL.cons .int DatL.nil))) _
  have z0 : decide ((0 : Int) ≠ 0) = false := rfl
  have hsym := fun {v : Int} (hv : v ∈ symV m ⟨r, f, t⟩) => symV_range h0 hv
  have hsh : (symV m ⟨r, f, t⟩).length ≤ 9223372036854775807 := symV_sh hs h0
  obtain ⟨l3, u1, u3⟩ := sym_len h0
  obtain ⟨hg, q1, q2, q3, q4, q5, q6, q7⟩ := place_zero h0
  have e : encodeB m r f t s = if s < 0 ∨ ((symV m ⟨r, f, t⟩).length : Int) ≤ s then ([], 6) else (messageB r f t ((symV m ⟨r, f, t⟩).getD s.toNat default), 0) := by unfold encodeB; rw [if_neg (fun h => h h0)]
  rw [e]
  rw [h0] at hp
  unfold symV at hsym hsh ⊢
  dsimp only at hsym hsh ⊢
  generalize hL : ((m.symbols.getD r.toNat default).getD f.toNat default).getD t.toNat default = L at *
  unfold encM MachV.cells at *
  by_cases hse : s < 0 ∨ (L.length : Int) ≤ s
  · rw [if_pos hse, e0]
    repeat' (first | apply w_seq | apply w_ops0 | apply w_skip | apply w_ret | apply a_n | apply a_r | apply o_nil | (apply o_val rfl rfl; (focus ((try simp (disch := omega) only [simB0, ZA, reduceEqDiff, ↓reduceIte, reduceAdd, reduceLeDiff, ZV, reduceCtorEq, ME, acells, z0, hL]); first | with_reducible rfl | (apply s_ite; (focus omega); with_reducible rfl)))) | (apply o_callD; (iterate 2 (focus ((try simp only [simB0, ZA, reduceEqDiff, ↓reduceIte, reduceAdd, reduceLeDiff, ME, acells, z0, hL]); (try with_reducible rfl); done))); (focus (first | (exact hp))); (focus ((first | refine snap_plain ?_ rfl | apply snap_data); repeat' (first | exact snapL_nil | apply snapL_i | apply snapL_dat | exact em)))) | (apply e_box rfl; (iterate 2 (focus ((try simp only [simB0, ZA, reduceEqDiff, ↓reduceIte, reduceAdd, reduceLeDiff, ME, acells, z0, hL]); (try with_reducible rfl); done))); (focus (simp only [SO, Bool.and_self, one_encV, one_encVV, ME, acells, z0, hL]))) | (apply o_gT; (focus (simp only [simB0, ZA, reduceEqDiff, ↓reduceIte, reduceAdd, reduceLeDiff, ME, acells, z0, hL]; done))) | (apply o_gF; (focus (simp only [simB0, ZA, reduceEqDiff, ↓reduceIte, reduceAdd, reduceLeDiff, or_true, true_or, ME, acells, z0, hL]; done))) | (apply w_condT; (focus (simp only [simB0, ZA, reduceEqDiff, ↓reduceIte, reduceAdd, reduceLeDiff, ME, acells, z0, hL]; done))) | (apply w_condF; (focus (simp only [simB0, ZA, reduceEqDiff, ↓reduceIte, reduceAdd, reduceLeDiff, ME, acells, z0, hL]; done))) | ((first | apply o_gB | apply w_cond); (focus ((try simp only [simB0, ZA, reduceEqDiff, ↓reduceIte, reduceAdd, reduceLeDiff, ME, acells, z0, hL]); (try with_reducible rfl); done)); all_goals (intro _hg; (try simp only [ZB] at _hg); try first | exact absurd trivial _hg | (exfalso; omega))) | (refine e_ends rfl ?_) | (apply r_2; (iterate 2 (focus (simp only [rv, simB0, ZA, reduceEqDiff, ↓reduceIte, reduceAdd, reduceLeDiff, ME, acells, z0, hL]; with_reducible rfl)))))
    all_goals first
      | exact (Dat.tup (DatL.cons Dat.str (DatL.cons .int DatL.nil))) _
      | (exfalso; omega)
  · rw [if_neg hse]
    have hv := hsym (mem_getD (l := L) (k := s.toNat) (by omega))
    have hm := message_r r f t (L.getD s.toNat default) (by omega)
    have d1 : decide (s < 0) = false := decide_eq_false (by omega)
    have d2 : decide ((L.length : Int) ≤ s) = false := decide_eq_false (by omega)
    repeat' (first | apply w_seq | apply w_ops0 | apply w_skip | apply w_ret | apply a_n | apply o_nil | (apply o_val rfl rfl; (focus ((try simp (disch := omega) only [simB0, ZA, reduceEqDiff, ↓reduceIte, reduceAdd, reduceLeDiff, ZV, reduceCtorEq, ME, acells, z0, hL, d1, d2]); first | with_reducible rfl | (apply s_ite; (focus omega); with_reducible rfl)))) | (apply o_callD; (iterate 2 (focus ((try simp only [simB0, ZA, reduceEqDiff, ↓reduceIte, reduceAdd, reduceLeDiff, ME, acells, z0, hL, d1, d2]); (try with_reducible rfl); done))); (focus (first | (exact hp) | (exact hm))); (focus ((first | refine snap_plain ?_ rfl | apply snap_data); repeat' (first | exact snapL_nil | apply snapL_i | apply snapL_dat | exact em)))) | (apply e_box rfl; (iterate 2 (focus ((try simp only [simB0, ZA, reduceEqDiff, ↓reduceIte, reduceAdd, reduceLeDiff, ME, acells, z0, hL, d1, d2]); (try with_reducible rfl); done))); (focus (simp only [SO, Bool.and_self, one_encV, one_encVV, ME, acells, z0, hL, d1, d2]))) | (apply o_gT; (focus (simp only [simB0, ZA, reduceEqDiff, ↓reduceIte, reduceAdd, reduceLeDiff, ME, acells, z0, hL, d1, d2]; done))) | (apply w_condF; (focus (simp only [simB0, ZA, reduceEqDiff, ↓reduceIte, reduceAdd, reduceLeDiff, ME, acells, z0, hL, d1, d2]; done))) | (refine e_ends rfl ?_) | (apply r_2; (iterate 2 (focus (simp only [rv, simB0, ZA, reduceEqDiff, ↓reduceIte, reduceAdd, reduceLeDiff, ME, acells, z0, hL, d1, d2]; with_reducible rfl)))))
    all_goals exact (Dat.tup (DatL.cons (encS_dat _) (DatL.cons .int DatL.nil))) _

theorem length_r (m : MachV) (r f t : Int) (hs : ShM m) : Go.Abs.Pure Try.prog 16 [encM m, .int .i64 r, .int .i64 f, .int .i64 t] (.tup [.int .i64 (lengthB m r f t).1, .int .i64 (lengthB m r f t).2]) := by
  refine Pure.of_c2 follows is16 (Nat.le_of_ble_eq_true rfl) ?_
  simp only [b16, O, G, N, M, D, F, B2, cFal, cTru]
  have hp := place_r m r f t hs
  have em := encM_dat m
  by_cases h0 : placeI m r f t = 0
  rotate_left
  · have e : lengthB m r f t = (0, placeI m r f t) := by unfold lengthB; rw [if_pos h0]
    have hz : decide (placeI m r f t ≠ 0) = true := decide_eq_true h0
    rw [e]
    unfold encM MachV.cells at *
    repeat' (first | apply w_seq | apply w_ops0 | apply w_ret | apply a_n | apply a_r | apply o_nil | (apply o_val rfl rfl; (focus ((try simp (disch := omega) only [simB0, ZA, reduceEqDiff, ↓reduceIte, reduceAdd, reduceLeDiff, ZV, reduceCtorEq, ME, acells, hz]); first | with_reducible rfl | (apply s_ite; (focus omega); with_reducible rfl)))) | (apply o_callD; (iterate 2 (focus ((try simp only [simB0, ZA, reduceEqDiff, ↓reduceIte, reduceAdd, reduceLeDiff, ME, acells, hz]); (try with_reducible rfl); done))); (focus (first | (exact hp))); (focus ((first | refine snap_plain ?_ rfl | apply snap_data); repeat' (first | exact snapL_nil | apply snapL_i | apply snapL_dat | exact em)))) | (apply e_box rfl; (iterate 2 (focus ((try simp only [simB0, ZA, reduceEqDiff, ↓reduceIte, reduceAdd, reduceLeDiff, ME, acells, hz]); (try with_reducible rfl); done))); (focus (simp only [SO, Bool.and_self, one_encV, one_encVV, ME, acells, hz]))) | (apply w_condT; (focus (simp only [simB0, ZA, reduceEqDiff, ↓reduceIte, reduceAdd, reduceLeDiff, ME, acells, hz]; done))) | (refine e_ends rfl ?_) | (apply r_2; (iterate 2 (focus (simp only [rv, simB0, ZA, reduceEqDiff, ↓reduceIte, reduceAdd, reduceLeDiff, ME, acells, hz]; with_reducible rfl)))))
    all_goals exact (Dat.tup (DatL.cons .int (DatL.cons .int DatL.nil))) _
  have z0 : decide ((0 : Int) ≠ 0) = false := rfl
  have hsym := fun {v : Int} (hv : v ∈ symV m ⟨r, f, t⟩) => symV_range h0 hv
  have hsh : (symV m ⟨r, f, t⟩).length ≤ 9223372036854775807 := symV_sh hs h0
  obtain ⟨l3, u1, u3⟩ := sym_len h0
  obtain ⟨hg, q1, q2, q3, q4, q5, q6, q7⟩ := place_zero h0
  have e : lengthB m r f t = ((symV m ⟨r, f, t⟩).foldl (fun o s => max o ((messageB r f t s).length : Int)) 0, 0) := by unfold lengthB; rw [if_neg (fun h => h h0)]
  rw [e]
  rw [h0] at hp
  unfold symV at hsym hsh ⊢
  dsimp only at hsym hsh ⊢
  generalize hL : ((m.symbols.getD r.toNat default).getD f.toNat default).getD t.toNat default = L at *
  unfold encM MachV.cells at *
  repeat' (first | apply w_seq | apply w_ops0 | apply w_block | apply w_skip | apply a_n | apply o_nil | (apply o_val rfl rfl; (focus ((try simp (disch := omega) only [simB0, ZA, reduceEqDiff, ↓reduceIte, reduceAdd, reduceLeDiff, ZV, reduceCtorEq, ME, acells, z0, hL]); first | with_reducible rfl | (apply s_ite; (focus omega); with_reducible rfl)))) | (apply o_callD; (iterate 2 (focus ((try simp only [simB0, ZA, reduceEqDiff, ↓reduceIte, reduceAdd, reduceLeDiff, ME, acells, z0, hL]); (try with_reducible rfl); done))); (focus (first | (exact hp))); (focus ((first | refine snap_plain ?_ rfl | apply snap_data); repeat' (first | exact snapL_nil | apply snapL_i | apply snapL_dat | exact em)))) | (apply e_box rfl; (iterate 2 (focus ((try simp only [simB0, ZA, reduceEqDiff, ↓reduceIte, reduceAdd, reduceLeDiff, ME, acells, z0, hL]); (try with_reducible rfl); done))); (focus (simp only [SO, Bool.and_self, one_encV, one_encVV, ME, acells, z0, hL]))) | (apply w_condF; (focus (simp only [simB0, ZA, reduceEqDiff, ↓reduceIte, reduceAdd, reduceLeDiff, ME, acells, z0, hL]; done))) | apply w_loop)
  refine loop0 (X := Nat) (fun k => [(1, .int .i64 r), (2, .int .i64 f), (3, .int .i64 t), (11, .int .i64 ((L.take k).foldl (fun o s => max o ((messageB r f t s).length : Int)) 0)), (12, encV L), (13, .int .i64 k)]) (fun k => k ≤ L.length) (fun k => L.length - k) 0 (Nat.zero_le _) (by simp (disch := omega) only [agr, ZG, reduceEqDiff, ↓reduceIte, List.take_zero, List.foldl_nil]) ?_
  rintro k h1
  by_cases hk : k < L.length
  rotate_left
  · repeat' (first | apply w_seq | apply w_ops0 | apply w_exit | apply w_ret | apply a_n | apply a_x | apply o_nil | (apply o_val rfl rfl; (focus ((try simp (disch := omega) only [simB0, ZA, reduceEqDiff, ↓reduceIte, reduceAdd, reduceLeDiff, ZV, reduceCtorEq]); first | with_reducible rfl | (apply s_ite; (focus omega); with_reducible rfl)))) | (apply w_cond; (focus ((try simp only [simB0, ZA, reduceEqDiff, ↓reduceIte, reduceAdd, reduceLeDiff]); (try with_reducible rfl); done)); all_goals (intro _hg; (try simp only [ZB] at _hg); try first | exact absurd trivial _hg | (exfalso; omega))) | (refine e_ends rfl ?_) | (apply r_2; (iterate 2 (focus (simp only [rv, simB0, ZA, reduceEqDiff, ↓reduceIte, reduceAdd, reduceLeDiff]; with_reducible rfl)))))
    rw [List.take_of_length_le (by omega)]
    exact (Dat.tup (DatL.cons .int (DatL.cons .int DatL.nil))) _
  have hv := hsym (mem_getD hk)
  have hm := message_r r f t (L.getD k default) (by omega)
  have ht := take_succ' hk
  repeat' (first | apply w_seq | apply w_ops0 | apply w_block | apply w_skip | apply a_n | apply o_nil | (apply o_val rfl rfl; (focus ((try simp (disch := omega) only [simB0, ZA, reduceEqDiff, ↓reduceIte, reduceAdd, reduceLeDiff, ZV, reduceCtorEq, alenStr_encS]); first | with_reducible rfl | (apply s_ite; (focus omega); with_reducible rfl)))) | (apply o_callD; (iterate 2 (focus ((try simp only [simB0, ZA, reduceEqDiff, ↓reduceIte, reduceAdd, reduceLeDiff, alenStr_encS]); (try with_reducible rfl); done))); (focus (first | (exact hm))); (focus ((first | refine snap_plain ?_ rfl | apply snap_data); repeat' (first | exact snapL_nil | apply snapL_i | apply snapL_dat)))) | (apply w_cond; (focus ((try simp only [simB0, ZA, reduceEqDiff, ↓reduceIte, reduceAdd, reduceLeDiff, alenStr_encS]); (try with_reducible rfl); done)); all_goals (intro _hg; (try simp only [ZB] at _hg); try first | exact absurd trivial _hg | (exfalso; omega))))
  refine ⟨k + 1, by omega, by omega, ?_, rfl, rfl⟩
  rw [ht, List.foldl_append, List.foldl_cons, List.foldl_nil]
  simp (disch := omega) only [agr, ZG, reduceEqDiff, ↓reduceIte]

theorem decode_r (m : MachV) (r f t : Int) (l : List UInt8) (hs : ShM m) (hl : l.length ≤ 1000000000) : Go.Abs.Pure Try.prog 18 [encM m, .int .i64 r, .int .i64 f, .int .i64 t, encS l] (.tup [.int .i64 (decodeB m r f t l).1, .int .i64 (decodeB m r f t l).2]) := by
  refine Pure.of_c2 follows is18 (Nat.le_of_ble_eq_true rfl) ?_
  simp only [b18, O, G, N, M, D, F, B2, cFal, cTru]
  have hp := place_r m r f t hs
  have em := encM_dat m
  have hri := right_r l (by show _ ≤ _; omega)
  by_cases h0 : placeI m r f t = 0
  rotate_left
  · have e : decodeB m r f t l = (0, placeI m r f t) := by unfold decodeB; rw [if_pos h0]
    have hz : decide (placeI m r f t ≠ 0) = true := decide_eq_true h0
    rw [e]
    unfold encM MachV.cells at *
    repeat' (first | apply w_seq | apply w_ops0 | apply w_ret | apply a_n | apply a_r | apply o_nil | (apply o_val rfl rfl; (focus ((try simp (disch := omega) only [simB0, ZA, reduceEqDiff, ↓reduceIte, reduceAdd, reduceLeDiff, ZV, reduceCtorEq, ME, acells, hz]); first | with_reducible rfl | (apply s_ite; (focus omega); with_reducible rfl)))) | (apply o_callD; (iterate 2 (focus ((try simp only [simB0, ZA, reduceEqDiff, ↓reduceIte, reduceAdd, reduceLeDiff, ME, acells, hz]); (try with_reducible rfl); done))); (focus (first | (exact hp))); (focus ((first | refine snap_plain ?_ rfl | apply snap_data); repeat' (first | exact snapL_nil | apply snapL_i | apply snapL_dat | exact em)))) | (apply e_box rfl; (iterate 2 (focus ((try simp only [simB0, ZA, reduceEqDiff, ↓reduceIte, reduceAdd, reduceLeDiff, ME, acells, hz]); (try with_reducible rfl); done))); (focus (simp only [SO, Bool.and_self, one_encV, one_encVV, ME, acells, hz]))) | (apply w_condT; (focus (simp only [simB0, ZA, reduceEqDiff, ↓reduceIte, reduceAdd, reduceLeDiff, ME, acells, hz]; done))) | (refine e_ends rfl ?_) | (apply r_2; (iterate 2 (focus (simp only [rv, simB0, ZA, reduceEqDiff, ↓reduceIte, reduceAdd, reduceLeDiff, ME, acells, hz]; with_reducible rfl)))))
    all_goals exact (Dat.tup (DatL.cons .int (DatL.cons .int DatL.nil))) _
  have z0 : decide ((0 : Int) ≠ 0) = false := rfl
  have hsh : (symV m ⟨r, f, t⟩).length ≤ 9223372036854775807 := symV_sh hs h0
  obtain ⟨l3, u1, u3⟩ := sym_len h0
  obtain ⟨hg, q1, q2, q3, q4, q5, q6, q7⟩ := place_zero h0
  have e : decodeB m r f t l = if rightB l = true then readB m r f t (l.take (l.length - 2)) else (0, 24) := by unfold decodeB; rw [if_neg (fun h => h h0)]
  rw [e]
  rw [h0] at hp
  cases hR : rightB l with
  | false =>
    rw [hR] at hri
    rw [if_neg (by simp)]
    unfold encM MachV.cells at *
    repeat' (first | apply w_seq | apply w_ops0 | apply w_skip | apply w_ret | apply a_n | apply a_r | apply o_nil | (apply o_val rfl rfl; (focus ((try simp (disch := omega) only [simB0, ZA, reduceEqDiff, ↓reduceIte, reduceAdd, reduceLeDiff, ZV, reduceCtorEq, ME, acells, z0]); first | with_reducible rfl | (apply s_ite; (focus omega); with_reducible rfl)))) | (apply o_callD; (iterate 2 (focus ((try simp only [simB0, ZA, reduceEqDiff, ↓reduceIte, reduceAdd, reduceLeDiff, ME, acells, z0]); (try with_reducible rfl); done))); (focus (first | (exact hp) | (exact hri))); (focus ((first | refine snap_plain ?_ rfl | apply snap_data); repeat' (first | exact snapL_nil | apply snapL_i | apply snapL_dat | exact em | exact encS_dat _)))) | (apply e_box rfl; (iterate 2 (focus ((try simp only [simB0, ZA, reduceEqDiff, ↓reduceIte, reduceAdd, reduceLeDiff, ME, acells, z0]); (try with_reducible rfl); done))); (focus (simp only [SO, Bool.and_self, one_encV, one_encVV, ME, acells, z0]))) | (apply w_condT; (focus (simp only [simB0, ZA, reduceEqDiff, ↓reduceIte, reduceAdd, reduceLeDiff, ME, acells, z0]; done))) | (apply w_condF; (focus (simp only [simB0, ZA, reduceEqDiff, ↓reduceIte, reduceAdd, reduceLeDiff, ME, acells, z0]; done))) | (refine e_ends rfl ?_) | (apply r_2; (iterate 2 (focus (simp only [rv, simB0, ZA, reduceEqDiff, ↓reduceIte, reduceAdd, reduceLeDiff, ME, acells, z0]; with_reducible rfl)))))
    all_goals exact (Dat.tup (DatL.cons .int (DatL.cons .int DatL.nil))) _
  | true =>
  rw [hR] at hri
  rw [if_pos rfl]
  have h6 : 6 ≤ l.length := by
    unfold rightB at hR
    simp only [Bool.and_eq_true, decide_eq_true_eq] at hR
    exact hR.1
  have e2 : (l.length : Int) - 2 = ((l.length - 2 : Nat) : Int) := by omega
  have hsl := aslstr_both (l := l) (a := 3) (b := l.length - 2) (by omega) (by omega)
  have hs3 : aslstr (encS l) none (some (.int .i64 3)) = some (encS (l.take 3)) := aslstr_hi (k := 3) (by omega)
  have ht3 : (l.take (l.length - 2)).take 3 = l.take 3 := by rw [List.take_take, show min 3 (l.length - 2) = 3 by omega]
  unfold readB
  rw [ht3]
  generalize hB : (l.take (l.length - 2)).drop 3 = B at *
  have hBl : B.length ≤ 1000000000 := by rw [← hB, List.length_drop, List.length_take]; omega
  have hq := nextQ_R B 0 false (Nat.zero_le _)
  rw [List.drop_zero] at hq
  have hqb := nextQ_bd B 0 false
  have e3 : ((3 : Nat) : Int) = 3 := rfl
  rw [e3] at hsl
  have b1 := byte_r r
  have b2 := byte_r f
  have b3 := byte_r t
  have s1 : ∀ tb tf, abin2 .add tb tf (encS [byteB r]) (encS [byteB f]) = some (encS [byteB r, byteB f]) := str_add (by simp)
  have s2 : ∀ tb tf, abin2 .add tb tf (encS [byteB r, byteB f]) (encS [byteB t]) = some (encS [byteB r, byteB f, byteB t]) := str_add (by simp)
  have e4 : threeB r f t = [byteB r, byteB f, byteB t] := rfl
  rw [e4]
  generalize nextR B false = R at *
  obtain ⟨v, rest, bad⟩ := R
  dsimp only at hq ⊢
  unfold symV at hsh ⊢
  dsimp only at hsh ⊢
  generalize hL : ((m.symbols.getD r.toNat default).getD f.toNat default).getD t.toNat default = L at *
  unfold encM MachV.cells at *
  repeat' (first | apply w_seq | apply w_ops0 | apply w_skip | apply a_n | apply o_nil | (apply o_val rfl rfl; (focus ((try simp (disch := omega) only [simB0, ZA, reduceEqDiff, ↓reduceIte, reduceAdd, reduceLeDiff, ZV, reduceCtorEq, ME, acells, z0, alenStr_encS, e2, hsl, encS_cells, encS_one]); first | with_reducible rfl | (apply s_ite; (focus omega); with_reducible rfl)))) | (apply o_callD; (iterate 2 (focus ((try simp only [simB0, ZA, reduceEqDiff, ↓reduceIte, reduceAdd, reduceLeDiff, ME, acells, z0, alenStr_encS, e2, hsl, encS_cells, encS_one]); (try with_reducible rfl); done))); (focus (first | (exact hp) | (exact hri))); (focus ((first | refine snap_plain ?_ rfl | apply snap_data); repeat' (first | exact snapL_nil | apply snapL_i | apply snapL_dat | exact em | exact encS_dat _)))) | (apply e_alloc rfl; (focus ((try simp only [simB0, ZA, reduceEqDiff, ↓reduceIte, reduceAdd, reduceLeDiff, ME, acells, z0, alenStr_encS, e2, hsl, encS_cells, encS_one]); (try with_reducible rfl); done)); (focus (simp only [SO, Bool.and_self, one_encV, one_encVV, ME, acells, z0, alenStr_encS, e2, hsl, encS_cells, encS_one]))) | (apply e_box rfl; (iterate 2 (focus ((try simp only [simB0, ZA, reduceEqDiff, ↓reduceIte, reduceAdd, reduceLeDiff, ME, acells, z0, alenStr_encS, e2, hsl, encS_cells, encS_one]); (try with_reducible rfl); done))); (focus (simp only [SO, Bool.and_self, one_encV, one_encVV, ME, acells, z0, alenStr_encS, e2, hsl, encS_cells, encS_one]))) | (apply e_st rfl; (iterate 4 (focus ((try simp only [simB0, ZA, reduceEqDiff, ↓reduceIte, reduceAdd, reduceLeDiff, ME, acells, z0, alenStr_encS, e2, hsl, encS_cells, encS_one]); (try with_reducible rfl); done))); (focus (simp only [SO, Bool.and_self, one_encV, one_encVV, ME, acells, z0, alenStr_encS, e2, hsl, encS_cells, encS_one])); (iterate 3 (focus ((try simp only [SL, reduceAdd, Nat.reduceMul, List.length_map]); first | done | omega)))) | (apply w_condF; (focus (simp only [simB0, ZA, reduceEqDiff, ↓reduceIte, reduceAdd, reduceLeDiff, ME, acells, z0, alenStr_encS, e2, hsl, encS_cells, encS_one]; done))))
  refine o_callE (by ((try simp only [simB0, ZA, reduceEqDiff, ↓reduceIte, reduceAdd, reduceLeDiff]); (try with_reducible rfl))) (by ((try simp only [simB0, ZA, reduceEqDiff, ↓reduceIte, reduceAdd, reduceLeDiff]); (try with_reducible rfl))) (next_f 1 B 0 false _ _ (by ((try simp only [simB0, ZA, reduceEqDiff, ↓reduceIte, reduceAdd, reduceLeDiff]); (try with_reducible rfl)); rfl) hBl (Nat.zero_le _)) ?_
  rintro v0 H2 nx2 ⟨rfl, rfl, rfl⟩
  generalize nextQ B 0 false = Q at *
  obtain ⟨n, p, bd⟩ := Q
  dsimp only at hq hqb ⊢
  obtain ⟨w1, rfl, w3⟩ := hq
  have rt : ∀ (a b : Int) (H : Hp), Snap H (.tup [.int .i64 a, .int .i64 b]) (.tup [.int .i64 a, .int .i64 b]) := fun a b H => (Dat.tup (DatL.cons .int (DatL.cons .int DatL.nil))) _
  cases bd with
  | true =>
    rw [if_pos (.inl rfl)]
    repeat' (first | apply w_seq | apply w_ops0 | apply w_ret | apply a_n | apply a_r | apply o_nil | (apply o_val rfl rfl; (focus ((try simp (disch := omega) only [simB0, ZA, reduceEqDiff, ↓reduceIte, reduceAdd, reduceLeDiff, ZV, reduceCtorEq, ME, acells, alenStr_encS, encS_cells]); first | with_reducible rfl | (apply s_ite; (focus omega); with_reducible rfl)))) | (apply o_gF; (focus (simp only [simB0, ZA, reduceEqDiff, ↓reduceIte, reduceAdd, reduceLeDiff, or_true, true_or, ME, acells, alenStr_encS, encS_cells]; done))) | (apply w_condT; (focus (simp only [simB0, ZA, reduceEqDiff, ↓reduceIte, reduceAdd, reduceLeDiff, ME, acells, alenStr_encS, encS_cells]; done))) | (refine e_ends rfl ?_) | (apply r_2; (iterate 2 (focus (simp only [rv, simB0, ZA, reduceEqDiff, ↓reduceIte, reduceAdd, reduceLeDiff, ME, acells, alenStr_encS, encS_cells]; with_reducible rfl)))))
    all_goals exact rt _ _ _
  | false =>
  obtain ⟨w4, w5⟩ := w3 rfl
  have hrl : rest.length = B.length - p := by rw [← w5, List.length_drop]
  rw [← w4]
  clear w3 w4 w5
  by_cases hbad : 0 < rest.length ∨ 1048576 < (n : Int)
  · rw [if_pos (.inr hbad)]
    repeat' (first | apply w_seq | apply w_ops0 | apply w_ret | apply a_n | apply a_r | apply o_nil | (apply o_val rfl rfl; (focus ((try simp (disch := omega) only [simB0, ZA, reduceEqDiff, ↓reduceIte, reduceAdd, reduceLeDiff, ZV, reduceCtorEq, ME, acells, alenStr_encS, encS_cells]); first | with_reducible rfl | (apply s_ite; (focus omega); with_reducible rfl)))) | (apply o_gT; (focus (simp only [simB0, ZA, reduceEqDiff, ↓reduceIte, reduceAdd, reduceLeDiff, ME, acells, alenStr_encS, encS_cells]; done))) | (apply o_gF; (focus (simp only [simB0, ZA, reduceEqDiff, ↓reduceIte, reduceAdd, reduceLeDiff, or_true, true_or, ME, acells, alenStr_encS, encS_cells]; done))) | (apply w_condT; (focus (simp only [simB0, ZA, reduceEqDiff, ↓reduceIte, reduceAdd, reduceLeDiff, ME, acells, alenStr_encS, encS_cells]; done))) | ((first | apply o_gB | apply w_cond); (focus ((try simp only [simB0, ZA, reduceEqDiff, ↓reduceIte, reduceAdd, reduceLeDiff, ME, acells, alenStr_encS, encS_cells]); (try with_reducible rfl); done)); all_goals (intro _hg; (try simp only [ZB] at _hg); try first | exact absurd trivial _hg | (exfalso; omega))) | (refine e_ends rfl ?_) | (apply r_2; (iterate 2 (focus (simp only [rv, simB0, ZA, reduceEqDiff, ↓reduceIte, reduceAdd, reduceLeDiff, ME, acells, alenStr_encS, encS_cells]; with_reducible rfl)))))
    all_goals first
      | exact rt _ _ _
      | (exfalso; omega)
      | trace_state
  rw [if_neg (by
    rintro (h | h)
    · cases h
    · exact hbad h)]
  have d1 : decide ((p : Int) ≠ (B.length : Int)) = false := decide_eq_false (by omega)
  have d2 : decide ((1048576 : Int) < (n : Int)) = false := decide_eq_false (by omega)
  by_cases h3 : l.take 3 = [byteB r, byteB f, byteB t]
  rotate_left
  · have d3 : decide (l.take 3 ≠ [byteB r, byteB f, byteB t]) = true := decide_eq_true h3
    rw [if_pos h3]
    repeat' (first | apply w_seq | apply w_ops0 | apply w_mix1 | apply w_skip | apply w_ret | apply a_n | apply a_r | apply o_nil | (apply o_val rfl rfl; (focus ((try simp (disch := omega) only [simB0, ZA, reduceEqDiff, ↓reduceIte, reduceAdd, reduceLeDiff, ZV, reduceCtorEq, ME, acells, alenStr_encS, encS_cells, d1, d2, hs3, s1, s2, str_ne2, d3]); first | with_reducible rfl | (apply s_ite; (focus omega); with_reducible rfl)))) | (apply o_callD; (iterate 2 (focus ((try simp only [simB0, ZA, reduceEqDiff, ↓reduceIte, reduceAdd, reduceLeDiff, ME, acells, alenStr_encS, encS_cells, d1, d2, hs3, s1, s2, str_ne2, d3]); (try with_reducible rfl); done))); (focus (first | (exact b1) | (exact b2) | (exact b3))); (focus ((first | refine snap_plain ?_ rfl | apply snap_data); repeat' (first | exact snapL_nil | apply snapL_i | apply snapL_dat)))) | (apply o_gT; (focus (simp only [simB0, ZA, reduceEqDiff, ↓reduceIte, reduceAdd, reduceLeDiff, ME, acells, alenStr_encS, encS_cells, d1, d2, hs3, s1, s2, str_ne2, d3]; done))) | (apply w_condT; (focus (simp only [simB0, ZA, reduceEqDiff, ↓reduceIte, reduceAdd, reduceLeDiff, ME, acells, alenStr_encS, encS_cells, d1, d2, hs3, s1, s2, str_ne2, d3]; done))) | (apply w_condF; (focus (simp only [simB0, ZA, reduceEqDiff, ↓reduceIte, reduceAdd, reduceLeDiff, ME, acells, alenStr_encS, encS_cells, d1, d2, hs3, s1, s2, str_ne2, d3]; done))) | (refine e_ends rfl ?_) | (apply r_2; (iterate 2 (focus (simp only [rv, simB0, ZA, reduceEqDiff, ↓reduceIte, reduceAdd, reduceLeDiff, ME, acells, alenStr_encS, encS_cells, d1, d2, hs3, s1, s2, str_ne2, d3]; with_reducible rfl)))))
    all_goals first
      | exact rt _ _ _
      | (exfalso; omega)
      | trace_state
  have d3 : decide (l.take 3 ≠ [byteB r, byteB f, byteB t]) = false := decide_eq_false (fun h => h h3)
  rw [if_neg (fun h => h h3)]
  repeat' (first | apply w_seq | apply w_ops0 | apply w_mix1 | apply w_block | apply w_skip | apply a_n | apply o_nil | (apply o_val rfl rfl; (focus ((try simp (disch := omega) only [simB0, ZA, reduceEqDiff, ↓reduceIte, reduceAdd, reduceLeDiff, ZV, reduceCtorEq, ME, acells, alenStr_encS, encS_cells, d1, d2, hs3, s1, s2, str_ne2, d3, hL]); first | with_reducible rfl | (apply s_ite; (focus omega); with_reducible rfl)))) | (apply o_callD; (iterate 2 (focus ((try simp only [simB0, ZA, reduceEqDiff, ↓reduceIte, reduceAdd, reduceLeDiff, ME, acells, alenStr_encS, encS_cells, d1, d2, hs3, s1, s2, str_ne2, d3, hL]); (try with_reducible rfl); done))); (focus (first | (exact b1) | (exact b2) | (exact b3))); (focus ((first | refine snap_plain ?_ rfl | apply snap_data); repeat' (first | exact snapL_nil | apply snapL_i | apply snapL_dat)))) | (apply o_gT; (focus (simp only [simB0, ZA, reduceEqDiff, ↓reduceIte, reduceAdd, reduceLeDiff, ME, acells, alenStr_encS, encS_cells, d1, d2, hs3, s1, s2, str_ne2, d3, hL]; done))) | (apply w_condF; (focus (simp only [simB0, ZA, reduceEqDiff, ↓reduceIte, reduceAdd, reduceLeDiff, ME, acells, alenStr_encS, encS_cells, d1, d2, hs3, s1, s2, str_ne2, d3, hL]; done))) | apply w_loop)
  refine loopA (fun k => [(14, .int .i64 n), (15, encV L), (16, .int .i64 k)]) L.length (fun k => L.getD k default ≠ (n : Int)) (by simp (disch := omega) only [agr, ZG, reduceEqDiff, ↓reduceIte]) ?_
  intro k hk hkk
  by_cases hk2 : k < L.length
  rotate_left
  · have hno : (n : Int) ∉ L := fun h => by
      obtain ⟨i, hi, e⟩ := mem_idx h
      exact hkk i (by omega) e
    rw [if_pos hno]
    repeat' (first | apply w_seq | apply w_ops0 | apply w_exit | apply w_ret | apply a_n | apply a_x | apply o_nil | (apply o_val rfl rfl; (focus ((try simp (disch := omega) only [simB0, ZA, reduceEqDiff, ↓reduceIte, reduceAdd, reduceLeDiff, ZV, reduceCtorEq]); first | with_reducible rfl | (apply s_ite; (focus omega); with_reducible rfl)))) | (apply w_cond; (focus ((try simp only [simB0, ZA, reduceEqDiff, ↓reduceIte, reduceAdd, reduceLeDiff]); (try with_reducible rfl); done)); all_goals (intro _hg; (try simp only [ZB] at _hg); try first | exact absurd trivial _hg | (exfalso; omega))) | (refine e_ends rfl ?_) | (apply r_2; (iterate 2 (focus (simp only [rv, simB0, ZA, reduceEqDiff, ↓reduceIte, reduceAdd, reduceLeDiff]; with_reducible rfl)))))
    all_goals exact rt _ _ _
  by_cases hh : L.getD k default = (n : Int)
  · have hyes : (n : Int) ∈ L := by rw [← hh]; exact mem_getD hk2
    have dh : decide (L.getD k default = (n : Int)) = true := decide_eq_true hh
    rw [if_neg (fun h => h hyes)]
    repeat' (first | apply w_seq | apply w_ops0 | apply w_block | apply w_skip | apply w_ret | apply a_n | apply a_r | apply o_nil | (apply o_val rfl rfl; (focus ((try simp (disch := omega) only [simB0, ZA, reduceEqDiff, ↓reduceIte, reduceAdd, reduceLeDiff, ZV, reduceCtorEq, dh]); first | with_reducible rfl | (apply s_ite; (focus omega); with_reducible rfl)))) | (apply w_condT; (focus (simp only [simB0, ZA, reduceEqDiff, ↓reduceIte, reduceAdd, reduceLeDiff, dh]; done))) | (apply w_cond; (focus ((try simp only [simB0, ZA, reduceEqDiff, ↓reduceIte, reduceAdd, reduceLeDiff, dh]); (try with_reducible rfl); done)); all_goals (intro _hg; (try simp only [ZB] at _hg); try first | exact absurd trivial _hg | (exfalso; omega))) | (refine e_ends rfl ?_) | (apply r_2; (iterate 2 (focus (simp only [rv, simB0, ZA, reduceEqDiff, ↓reduceIte, reduceAdd, reduceLeDiff, dh]; with_reducible rfl)))))
    all_goals exact rt _ _ _
  · have dh : decide (L.getD k default = (n : Int)) = false := decide_eq_false hh
    repeat' (first | apply w_seq | apply w_ops0 | apply w_block | apply w_skip | apply a_n | apply o_nil | (apply o_val rfl rfl; (focus ((try simp (disch := omega) only [simB0, ZA, reduceEqDiff, ↓reduceIte, reduceAdd, reduceLeDiff, ZV, reduceCtorEq, dh]); first | with_reducible rfl | (apply s_ite; (focus omega); with_reducible rfl)))) | (apply w_condF; (focus (simp only [simB0, ZA, reduceEqDiff, ↓reduceIte, reduceAdd, reduceLeDiff, dh]; done))) | (apply w_cond; (focus ((try simp only [simB0, ZA, reduceEqDiff, ↓reduceIte, reduceAdd, reduceLeDiff, dh]); (try with_reducible rfl); done)); all_goals (intro _hg; (try simp only [ZB] at _hg); try first | exact absurd trivial _hg | (exfalso; omega))))
    all_goals exact ⟨hk2, hh, by simp (disch := omega) only [agr, ZG, reduceEqDiff, ↓reduceIte], rfl, rfl⟩

end Go.Proofs.Ytpbjhjkfobapeaa

/- Q46: contracts of functions and plain laws; for all inputs that the theorems name. -/
namespace Go.Proofs.Ytpbjhjkfobapeaa
open Go Go.Abs
open Nat (reduceEqDiff reduceAdd reduceLeDiff)
attribute [local irreducible] awp2 aops2 ains aloop athen bbind obind gbind acond res1 Go.Abs.Fn PCall Go.Abs.Pure SnapArgs SnapL Yl

set_option maxHeartbeats 2000000 in
theorem law3_c (m : MachV) (r f t s : Int) (l : List UInt8) (hs : ShM m) (hl : Sh l) : Go.Abs.Pure Try.prog 3 [encM m, encPl r f t s, encS l] (.bool true) := by
  refine Pure.of_c2 follows is3 (Nat.le_of_ble_eq_true rfl) ?_
  simp only [b3, O, G, N, M, D, F, B2, cFal, cTru]
  have haw := awake_c
  have hfw := few_c m hs
  have em := encM_dat m
  have hl' : l.length ≤ 9223372036854775807 := hl
  by_cases hF : fewB m = true ∧ l.length ≤ 200
  rotate_left
  · cases hf : fewB m with
    | false =>
      rw [hf] at hfw
      unfold encPl encM MachV.cells at *
      repeat' (first | apply w_seq | apply w_ops0 | apply w_ret | apply a_n | apply a_r | apply o_nil | (apply o_val rfl rfl; (focus ((try simp (disch := omega) only [simB0, ZA, reduceEqDiff, ↓reduceIte, reduceAdd, reduceLeDiff, ZV, reduceCtorEq, ME, acells, alenStr_encS]); first | with_reducible rfl | (apply s_ite; (focus omega); with_reducible rfl)))) | (apply o_callD; (iterate 2 (focus ((try simp only [simB0, ZA, reduceEqDiff, ↓reduceIte, reduceAdd, reduceLeDiff, ME, acells, alenStr_encS]); (try with_reducible rfl); done))); (focus (first | (exact haw) | (exact hfw))); (focus ((first | refine snap_plain ?_ rfl | apply snap_data); repeat' (first | exact snapL_nil | apply snapL_i | apply snapL_dat | exact em)))) | (apply e_box rfl; (iterate 2 (focus ((try simp only [simB0, ZA, reduceEqDiff, ↓reduceIte, reduceAdd, reduceLeDiff, ME, acells, alenStr_encS]); (try with_reducible rfl); done))); (focus (simp only [SO, Bool.and_self, one_encV, one_encVV, ME, acells, alenStr_encS]))) | (apply o_gF; (focus (simp only [simB0, ZA, reduceEqDiff, ↓reduceIte, reduceAdd, reduceLeDiff, or_true, true_or, ME, acells, alenStr_encS]; done))) | (apply w_condT; (focus (simp only [simB0, ZA, reduceEqDiff, ↓reduceIte, reduceAdd, reduceLeDiff, ME, acells, alenStr_encS]; done))) | (refine e_ends rfl ?_) | (apply r_1; (focus (simp only [rv, simB0, ZA, reduceEqDiff, ↓reduceIte, reduceAdd, reduceLeDiff, ME, acells, alenStr_encS]; with_reducible rfl))))
      all_goals exact snap_bool rfl
    | true =>
      rw [hf] at hfw
      have dl : decide ((200 : Int) < (l.length : Int)) = true := decide_eq_true (by have : ¬ l.length ≤ 200 := fun h => hF ⟨hf, h⟩; omega)
      unfold encPl encM MachV.cells at *
      repeat' (first | apply w_seq | apply w_ops0 | apply w_ret | apply a_n | apply a_r | apply o_nil | (apply o_val rfl rfl; (focus ((try simp (disch := omega) only [simB0, ZA, reduceEqDiff, ↓reduceIte, reduceAdd, reduceLeDiff, ZV, reduceCtorEq, ME, acells, alenStr_encS, dl]); first | with_reducible rfl | (apply s_ite; (focus omega); with_reducible rfl)))) | (apply o_callD; (iterate 2 (focus ((try simp only [simB0, ZA, reduceEqDiff, ↓reduceIte, reduceAdd, reduceLeDiff, ME, acells, alenStr_encS, dl]); (try with_reducible rfl); done))); (focus (first | (exact haw) | (exact hfw))); (focus ((first | refine snap_plain ?_ rfl | apply snap_data); repeat' (first | exact snapL_nil | apply snapL_i | apply snapL_dat | exact em)))) | (apply e_box rfl; (iterate 2 (focus ((try simp only [simB0, ZA, reduceEqDiff, ↓reduceIte, reduceAdd, reduceLeDiff, ME, acells, alenStr_encS, dl]); (try with_reducible rfl); done))); (focus (simp only [SO, Bool.and_self, one_encV, one_encVV, ME, acells, alenStr_encS, dl]))) | (apply o_gT; (focus (simp only [simB0, ZA, reduceEqDiff, ↓reduceIte, reduceAdd, reduceLeDiff, ME, acells, alenStr_encS, dl]; done))) | (apply w_condT; (focus (simp only [simB0, ZA, reduceEqDiff, ↓reduceIte, reduceAdd, reduceLeDiff, ME, acells, alenStr_encS, dl]; done))) | (refine e_ends rfl ?_) | (apply r_1; (focus (simp only [rv, simB0, ZA, reduceEqDiff, ↓reduceIte, reduceAdd, reduceLeDiff, ME, acells, alenStr_encS, dl]; with_reducible rfl))))
      all_goals exact snap_bool rfl
  obtain ⟨hf, h200⟩ := hF
  rw [hf] at hfw
  have dl : decide ((200 : Int) < (l.length : Int)) = false := decide_eq_false (by omega)
  have a1 := encode_c m r f t s hs
  have a2 := encode_r m r f t s hs
  have a3 := length_c m r f t hs
  have a4 := length_r m r f t hs
  have a5 := decode_c m r f t l hs hl
  have a6 := decode_r m r f t l hs (by omega)
  generalize encodeB m r f t s = A at *
  generalize lengthB m r f t = B at *
  generalize decodeB m r f t l = C at *
  have z1 : decide (A.1 = A.1) = true := decide_eq_true rfl
  have z2 : decide (A.2 = A.2) = true := decide_eq_true rfl
  have z3 : decide (B.1 = B.1) = true := decide_eq_true rfl
  have z4 : decide (B.2 = B.2) = true := decide_eq_true rfl
  have z5 : decide (C.1 = C.1) = true := decide_eq_true rfl
  have z6 : decide (C.2 = C.2) = true := decide_eq_true rfl
  unfold encPl encM MachV.cells at *
  repeat' (first | apply w_seq | apply w_ops0 | apply w_skip | apply w_ret | apply a_n | apply o_nil | (apply o_val rfl rfl; (focus ((try simp (disch := omega) only [simB0, ZA, reduceEqDiff, ↓reduceIte, reduceAdd, reduceLeDiff, ZV, reduceCtorEq, ME, acells, alenStr_encS, dl, str_eq2, z1, z2, z3, z4, z5, z6]); first | with_reducible rfl | (apply s_ite; (focus omega); with_reducible rfl)))) | (apply o_callD; (iterate 2 (focus ((try simp only [simB0, ZA, reduceEqDiff, ↓reduceIte, reduceAdd, reduceLeDiff, ME, acells, alenStr_encS, dl, str_eq2, z1, z2, z3, z4, z5, z6]); (try with_reducible rfl); done))); (focus (first | (exact haw) | (exact hfw) | (exact a1) | (exact a2) | (exact a3) | (exact a4) | (exact a5) | (exact a6))); (focus ((first | refine snap_plain ?_ rfl | apply snap_data); repeat' (first | exact snapL_nil | apply snapL_i | apply snapL_dat | exact em | exact encS_dat _)))) | (apply e_box rfl; (iterate 2 (focus ((try simp only [simB0, ZA, reduceEqDiff, ↓reduceIte, reduceAdd, reduceLeDiff, ME, acells, alenStr_encS, dl, str_eq2, z1, z2, z3, z4, z5, z6]); (try with_reducible rfl); done))); (focus (simp only [SO, Bool.and_self, one_encV, one_encVV, ME, acells, alenStr_encS, dl, str_eq2, z1, z2, z3, z4, z5, z6]))) | (apply o_gT; (focus (simp only [simB0, ZA, reduceEqDiff, ↓reduceIte, reduceAdd, reduceLeDiff, ME, acells, alenStr_encS, dl, str_eq2, z1, z2, z3, z4, z5, z6]; done))) | (apply o_gB; (focus ((try simp only [simB0, ZA, reduceEqDiff, ↓reduceIte, reduceAdd, reduceLeDiff, ME, acells, alenStr_encS, dl, str_eq2, z1, z2, z3, z4, z5, z6]); (try with_reducible rfl); done)); all_goals (intro _hg; (try simp only [ZB] at _hg); try first | exact absurd trivial _hg | (exfalso; omega))) | (apply w_condF; (focus (simp only [simB0, ZA, reduceEqDiff, ↓reduceIte, reduceAdd, reduceLeDiff, ME, acells, alenStr_encS, dl, str_eq2, z1, z2, z3, z4, z5, z6]; done))) | (refine e_ends rfl ?_) | (apply r_1; (focus (simp only [rv, simB0, ZA, reduceEqDiff, ↓reduceIte, reduceAdd, reduceLeDiff, ME, acells, alenStr_encS, dl, str_eq2, z1, z2, z3, z4, z5, z6]; with_reducible rfl))))
  all_goals first | exact snap_bool rfl | trace_state

end Go.Proofs.Ytpbjhjkfobapeaa
