/- Texts of this claim, one after the other: Q7, Q8, Q9, Q10, Q11, Q12, Q13, Q14, Q15, Q16, Q17. -/
import Derived.Test.YtpbjhjkfobapeaaXG4

set_option linter.unusedSimpArgs false
set_option linter.unusedVariables false

/- Q7: contracts of functions and plain laws; for all inputs that the theorems name. -/
namespace Go.Proofs.Ytpbjhjkfobapeaa
open Go Go.Abs
open Nat (reduceEqDiff reduceAdd reduceLeDiff)

def placeB (m : MachV) (k p q : Nat) : Bool := decide (((((m.symbols.getD k default).getD p default).getD q default).length : Int) = if p = q then 0 else (((m.out.getD k default).getD p default).length : Int))
def recvB (m : MachV) (k p : Nat) : Bool := decide ((((m.symbols.getD k default).getD p default).length : Int) = m.n) && (List.range ((m.symbols.getD k default).getD p default).length).all fun q => placeB m k p q
def sendB (m : MachV) (k : Nat) : Bool := decide (((m.symbols.getD k default).length : Int) = m.n) && (List.range (m.symbols.getD k default).length).all fun p => recvB m k p
def shapedB (m : MachV) : Bool := decide ((m.first.length : Int) = m.n ∧ (m.out.length : Int) = m.rounds + 1 ∧ (m.symbols.length : Int) = m.rounds) &&
  (m.first.all (fun l => decide ((l.length : Int) = m.ins)) && (m.out.all (fun l => decide ((l.length : Int) = m.n)) && (List.range m.symbols.length).all (fun k => sendB m k)))

structure ShM (m : MachV) : Prop where
  first : Sh m.first
  first1 : ∀ l ∈ m.first, Sh l
  out : Sh m.out
  out1 : ∀ l ∈ m.out, Sh l
  out2 : ∀ l ∈ m.out, ∀ x ∈ l, Sh x
  out3 : ∀ l ∈ m.out, ∀ x ∈ l, x.length ≤ 140737488355328
  symbols : Sh m.symbols
  symbols1 : ∀ l ∈ m.symbols, Sh l
  symbols2 : ∀ l ∈ m.symbols, ∀ x ∈ l, Sh x
  symbols3 : ∀ l ∈ m.symbols, ∀ x ∈ l, ∀ y ∈ x, Sh y
  steps : Sh m.steps
attribute [local irreducible] awp2 aops2 ains aloop athen bbind obind gbind acond res1 Go.Abs.Fn PCall Go.Abs.Pure SnapArgs SnapL Yl

theorem shaped_c (m : MachV) (hs : ShM m) (hn : 1 ≤ m.n ∧ m.n ≤ 5) (hr : 0 ≤ m.rounds ∧ m.rounds ≤ 6) : Pure Try.prog 56 [encM m] (.bool (shapedB m)) := by
  refine Pure.of_c2 follows is56 (Nat.le_of_ble_eq_true rfl) ?_
  simp only [b56, O, G, N, M, D, F, B2, cFal, cTru]
  obtain ⟨s1, s2, s3, s4, s5, s5b, s6, s7, s8, s9, s10⟩ := hs
  have e1 : m.first.length ≤ 9223372036854775807 := s1
  have e2 : m.out.length ≤ 9223372036854775807 := s3
  have e3 : m.symbols.length ≤ 9223372036854775807 := s6
  refine w_seq ?_
  repeat' (first | apply w_ops0 | apply a_n | apply o_nil | (apply o_val rfl rfl; (focus ((try simp (disch := omega) only [simB0, ZA, reduceEqDiff, ↓reduceIte, reduceAdd, reduceLeDiff, ZV, reduceCtorEq, ME]); first | with_reducible rfl | (apply s_ite; (focus omega); with_reducible rfl)))) | (apply e_box rfl; (iterate 2 (focus ((try simp only [simB0, ZA, reduceEqDiff, ↓reduceIte, reduceAdd, reduceLeDiff, ME]); (try with_reducible rfl); done))); (focus (simp only [SO, Bool.and_self, one_encV, one_encVV, ME]))))
  refine w_seqC (fun T H nx => T 1 = .ptr 0 8 0 ∧ H = hupd noBoxes 0 m.cells ∧ ((m.first.length : Int) = m.n ∧ (m.out.length : Int) = m.rounds + 1 ∧ (m.symbols.length : Int) = m.rounds)) ?_ ?_
  · repeat' (first | apply w_seq | apply w_ops0 | apply w_skip | apply w_ret | apply a_n | apply a_r | apply o_nil | (apply o_val rfl rfl; (focus ((try simp (disch := omega) only [simB0, ZA, reduceEqDiff, ↓reduceIte, reduceAdd, reduceLeDiff, ZV, reduceCtorEq, ME]); first | with_reducible rfl | (apply s_ite; (focus omega); with_reducible rfl)))) | (apply o_gT; (focus (simp only [simB0, ZA, reduceEqDiff, ↓reduceIte, reduceAdd, reduceLeDiff, ME]; done))) | (apply o_gF; (focus (simp only [simB0, ZA, reduceEqDiff, ↓reduceIte, reduceAdd, reduceLeDiff, or_true, true_or, ME]; done))) | (apply w_condT; (focus (simp only [simB0, ZA, reduceEqDiff, ↓reduceIte, reduceAdd, reduceLeDiff, ME]; done))) | ((first | apply o_gB | apply w_cond); (focus ((try simp only [simB0, ZA, reduceEqDiff, ↓reduceIte, reduceAdd, reduceLeDiff, ME]); (try with_reducible rfl); done)); all_goals (intro _hg; (try simp only [ZB] at _hg); try first | exact absurd trivial _hg | (exfalso; omega))) | (refine e_ends rfl ?_) | (apply r_1; (focus (simp only [rv, simB0, ZA, reduceEqDiff, ↓reduceIte, reduceAdd, reduceLeDiff, ME]; with_reducible rfl))))
    all_goals first
      | exact ⟨rfl, rfl, by omega, by omega, by omega⟩
      | (refine snap_bool ?_
         unfold shapedB; rw [decide_eq_false (by omega)]; rfl)
  rintro T H nx ⟨t1, rfl, hl⟩
  have hb : shapedB m = (m.first.all (fun l => decide ((l.length : Int) = m.ins)) && (m.out.all (fun l => decide ((l.length : Int) = m.n)) && (List.range m.symbols.length).all (fun k => sendB m k))) := by
    unfold shapedB; rw [decide_eq_true hl, Bool.true_and]
  rw [hb]
  clear hb
  refine w_seqC (fun T H nx => T 1 = .ptr 0 8 0 ∧ H = hupd noBoxes 0 m.cells ∧ m.first.all (fun l => decide ((l.length : Int) = m.ins)) = true) ?_ ?_
  · repeat' (first | apply w_seq | apply w_ops0 | apply w_block | apply a_n | apply o_nil | (apply o_val rfl rfl; (focus ((try simp (disch := omega) only [simB0, ZA, reduceEqDiff, ↓reduceIte, reduceAdd, reduceLeDiff, ZV, reduceCtorEq, ME, t1]); first | with_reducible rfl | (apply s_ite; (focus omega); with_reducible rfl)))) | apply w_loop)
    refine loopA (fun k => [(1, .ptr 0 8 0), (38, encVV m.first), (39, .int .i64 m.first.length), (40, .int .i64 k)]) m.first.length (fun k => ((m.first.getD k default).length : Int) = m.ins) (by simp (disch := omega) only [agr, ZG, reduceEqDiff, ↓reduceIte, t1]) ?_
    rintro k h1 h2
    have hsk : k < m.first.length → (m.first.getD k default).length ≤ 9223372036854775807 := fun h => s2 _ (mem_getD h)
    repeat' (first | apply w_seq | apply w_ops0 | apply w_block | apply w_skip | apply w_exit | apply w_ret | apply a_n | apply a_x | apply a_r | apply o_nil | (apply o_val rfl rfl; (focus ((try simp (disch := omega) only [simB0, ZA, reduceEqDiff, ↓reduceIte, reduceAdd, reduceLeDiff, ZV, reduceCtorEq, ME]); first | with_reducible rfl | (apply s_ite; (focus omega); with_reducible rfl)))) | (apply w_cond; (focus ((try simp only [simB0, ZA, reduceEqDiff, ↓reduceIte, reduceAdd, reduceLeDiff, ME]); (try with_reducible rfl); done)); all_goals (intro _hg; (try simp only [ZB] at _hg); try first | exact absurd trivial _hg | (exfalso; omega))) | (refine e_ends rfl ?_) | (apply r_1; (focus (simp only [rv, simB0, ZA, reduceEqDiff, ↓reduceIte, reduceAdd, reduceLeDiff, ME]; with_reducible rfl))))
    · refine snap_bool ?_
      have : m.first.all (fun l => decide ((l.length : Int) = m.ins)) = false := all_false (k := k) (by omega) (decide_eq_false (by omega))
      rw [this]; rfl
    · exact ⟨by omega, by omega, by simp (disch := omega) only [agr, ZG, reduceEqDiff, ↓reduceIte], rfl, rfl⟩
    · exact ⟨rfl, rfl, all_true fun i hi => decide_eq_true (h2 i (by omega))⟩
  clear t1
  rintro T H nx ⟨t1, rfl, h1⟩
  rw [h1, Bool.true_and]
  clear h1
  refine w_seqC (fun T H nx => T 1 = .ptr 0 8 0 ∧ H = hupd noBoxes 0 m.cells ∧ ∀ i, i < m.out.length → ((m.out.getD i default).length : Int) = m.n) ?_ ?_
  · repeat' (first | apply w_seq | apply w_ops0 | apply w_block | apply a_n | apply o_nil | (apply o_val rfl rfl; (focus ((try simp (disch := omega) only [simB0, ZA, reduceEqDiff, ↓reduceIte, reduceAdd, reduceLeDiff, ZV, reduceCtorEq, ME, t1]); first | with_reducible rfl | (apply s_ite; (focus omega); with_reducible rfl)))) | apply w_loop)
    refine loopA (fun k => [(1, .ptr 0 8 0), (51, encV3 m.out), (52, .int .i64 m.out.length), (53, .int .i64 k)]) m.out.length (fun k => ((m.out.getD k default).length : Int) = m.n) (by simp (disch := omega) only [agr, ZG, reduceEqDiff, ↓reduceIte, t1]) ?_
    rintro k h1 h2
    repeat' (first | apply w_seq | apply w_ops0 | apply w_block | apply w_skip | apply w_exit | apply w_ret | apply a_n | apply a_x | apply a_r | apply o_nil | (apply o_val rfl rfl; (focus ((try simp (disch := omega) only [simB0, ZA, reduceEqDiff, ↓reduceIte, reduceAdd, reduceLeDiff, ZV, reduceCtorEq, ME]); first | with_reducible rfl | (apply s_ite; (focus omega); with_reducible rfl)))) | (apply w_cond; (focus ((try simp only [simB0, ZA, reduceEqDiff, ↓reduceIte, reduceAdd, reduceLeDiff, ME]); (try with_reducible rfl); done)); all_goals (intro _hg; (try simp only [ZB] at _hg); try first | exact absurd trivial _hg | (exfalso; omega))) | (refine e_ends rfl ?_) | (apply r_1; (focus (simp only [rv, simB0, ZA, reduceEqDiff, ↓reduceIte, reduceAdd, reduceLeDiff, ME]; with_reducible rfl))))
    · refine snap_bool ?_
      have : m.out.all (fun l => decide ((l.length : Int) = m.n)) = false := all_false (k := k) (by omega) (decide_eq_false (by omega))
      rw [this]; rfl
    · exact ⟨by omega, by omega, by simp (disch := omega) only [agr, ZG, reduceEqDiff, ↓reduceIte], rfl, rfl⟩
    · exact ⟨rfl, rfl, fun i hi => h2 i (by omega)⟩
  clear t1
  rintro T H nx ⟨t1, rfl, ho⟩
  have ho1 : m.out.all (fun l => decide ((l.length : Int) = m.n)) = true := all_true fun i hi => decide_eq_true (ho i hi)
  rw [ho1, Bool.true_and]
  repeat' (first | apply w_seq | apply w_ops0 | apply w_block | apply a_n | apply o_nil | (apply o_val rfl rfl; (focus ((try simp (disch := omega) only [simB0, ZA, reduceEqDiff, ↓reduceIte, reduceAdd, reduceLeDiff, ZV, reduceCtorEq, ME, t1]); first | with_reducible rfl | (apply s_ite; (focus omega); with_reducible rfl)))) | apply w_loop)
  refine loopA (fun k => [(1, .ptr 0 8 0), (64, encV4 m.symbols), (65, .int .i64 m.symbols.length), (66, .int .i64 k)]) m.symbols.length (fun k => sendB m k = true) (by simp (disch := omega) only [agr, ZG, reduceEqDiff, ↓reduceIte, t1]) ?_
  clear t1
  rintro k h1 h2
  by_cases hk : k < m.symbols.length
  rotate_left
  · repeat' (first | apply w_seq | apply w_ops0 | apply w_exit | apply w_ret | apply a_n | apply a_x | apply o_nil | (apply o_val rfl rfl; (focus ((try simp (disch := omega) only [simB0, ZA, reduceEqDiff, ↓reduceIte, reduceAdd, reduceLeDiff, ZV, reduceCtorEq, ME]); first | with_reducible rfl | (apply s_ite; (focus omega); with_reducible rfl)))) | (apply w_cond; (focus ((try simp only [simB0, ZA, reduceEqDiff, ↓reduceIte, reduceAdd, reduceLeDiff, ME]); (try with_reducible rfl); done)); all_goals (intro _hg; (try simp only [ZB] at _hg); try first | exact absurd trivial _hg | (exfalso; omega))) | (refine e_ends rfl ?_) | (apply r_1; (focus (simp only [rv, simB0, ZA, reduceEqDiff, ↓reduceIte, reduceAdd, reduceLeDiff, ME]; with_reducible rfl))))
    exact snap_bool (range_all_true fun i hi => h2 i (by omega)).symm
  have hok := ho k (by omega)
  have hsk := s7 _ (mem_getD hk)
  have hsk2 := s8 _ (mem_getD hk)
  have hsk3 := s9 _ (mem_getD hk)
  have hk0 : sendB m k = (decide (((m.symbols.getD k default).length : Int) = m.n) && (List.range (m.symbols.getD k default).length).all fun p => recvB m k p) := rfl
  have hpd : ∀ p, recvB m k p = (decide ((((m.symbols.getD k default).getD p default).length : Int) = m.n) && (List.range ((m.symbols.getD k default).getD p default).length).all fun q => placeB m k p q) := fun p => rfl
  have hqd : ∀ p q, placeB m k p q = decide (((((m.symbols.getD k default).getD p default).getD q default).length : Int) = if p = q then 0 else (((m.out.getD k default).getD p default).length : Int)) := fun p q => rfl
  generalize hS : m.symbols.getD k default = S at *
  have hS' : S.length ≤ 9223372036854775807 := hsk
  repeat' (first | apply w_seq | apply w_ops0 | apply w_block | apply w_skip | apply w_ret | apply a_n | apply a_r | apply o_nil | (apply o_val rfl rfl; (focus ((try simp (disch := omega) only [simB0, ZA, reduceEqDiff, ↓reduceIte, reduceAdd, reduceLeDiff, ZV, reduceCtorEq, ME, hS]); first | with_reducible rfl | (apply s_ite; (focus omega); with_reducible rfl)))) | (apply w_cond; (focus ((try simp only [simB0, ZA, reduceEqDiff, ↓reduceIte, reduceAdd, reduceLeDiff, ME, hS]); (try with_reducible rfl); done)); all_goals (intro _hg; (try simp only [ZB] at _hg); try first | exact absurd trivial _hg | (exfalso; omega))) | (refine e_ends rfl ?_) | (apply r_1; (focus (simp only [rv, simB0, ZA, reduceEqDiff, ↓reduceIte, reduceAdd, reduceLeDiff, ME, hS]; with_reducible rfl))) | apply w_loop)
  · refine snap_bool ?_
    symm
    refine range_all_false hk ?_
    rw [hk0, decide_eq_false ‹_›]; rfl
  refine loopA (fun p => [(1, .ptr 0 8 0), (7, .int .i64 k), (64, encV4 m.symbols), (65, .int .i64 m.symbols.length), (66, .int .i64 k), (76, encV3 S), (77, .int .i64 S.length), (78, .int .i64 p)]) S.length (fun p => recvB m k p = true) (by simp (disch := omega) only [agr, ZG, reduceEqDiff, ↓reduceIte]) ?_
  rintro p g1 g2
  by_cases hp : p < S.length
  rotate_left
  · repeat' (first | apply w_seq | apply w_ops0 | apply w_exit | apply a_n | apply a_x | apply o_nil | (apply o_val rfl rfl; (focus ((try simp (disch := omega) only [simB0, ZA, reduceEqDiff, ↓reduceIte, reduceAdd, reduceLeDiff, ZV, reduceCtorEq, ME]); first | with_reducible rfl | (apply s_ite; (focus omega); with_reducible rfl)))) | (apply w_cond; (focus ((try simp only [simB0, ZA, reduceEqDiff, ↓reduceIte, reduceAdd, reduceLeDiff, ME]); (try with_reducible rfl); done)); all_goals (intro _hg; (try simp only [ZB] at _hg); try first | exact absurd trivial _hg | (exfalso; omega))))
    refine ⟨by omega, ?_, by simp (disch := omega) only [agr, ZG, reduceEqDiff, ↓reduceIte], rfl, rfl⟩
    rw [hk0, decide_eq_true (by omega), Bool.true_and]
    exact range_all_true fun i hi => g2 i (by omega)
  have hsp := hsk2 _ (mem_getD hp)
  have hsp2 := hsk3 _ (mem_getD hp)
  have hpd := hpd p
  have hqd := hqd p
  generalize hR : S.getD p default = R at *
  have hR' : R.length ≤ 9223372036854775807 := hsp
  repeat' (first | apply w_seq | apply w_ops0 | apply w_block | apply w_skip | apply w_ret | apply a_n | apply a_r | apply o_nil | (apply o_val rfl rfl; (focus ((try simp (disch := omega) only [simB0, ZA, reduceEqDiff, ↓reduceIte, reduceAdd, reduceLeDiff, ZV, reduceCtorEq, ME, hR]); first | with_reducible rfl | (apply s_ite; (focus omega); with_reducible rfl)))) | (apply w_cond; (focus ((try simp only [simB0, ZA, reduceEqDiff, ↓reduceIte, reduceAdd, reduceLeDiff, ME, hR]); (try with_reducible rfl); done)); all_goals (intro _hg; (try simp only [ZB] at _hg); try first | exact absurd trivial _hg | (exfalso; omega))) | (refine e_ends rfl ?_) | (apply r_1; (focus (simp only [rv, simB0, ZA, reduceEqDiff, ↓reduceIte, reduceAdd, reduceLeDiff, ME, hR]; with_reducible rfl))) | apply w_loop)
  · refine snap_bool ?_
    symm
    refine range_all_false hk ?_
    rw [hk0, range_all_false hp (by rw [hpd, decide_eq_false ‹_›]; rfl), Bool.and_false]
  refine loopA (fun q => [(1, .ptr 0 8 0), (7, .int .i64 k), (9, .int .i64 p), (64, encV4 m.symbols), (65, .int .i64 m.symbols.length), (66, .int .i64 k), (76, encV3 S), (77, .int .i64 S.length), (78, .int .i64 p), (88, encVV R), (89, .int .i64 R.length), (90, .int .i64 q)]) R.length (fun q => placeB m k p q = true) (by simp (disch := omega) only [agr, ZG, reduceEqDiff, ↓reduceIte]) ?_
  rintro q f1 f2
  by_cases hq : q < R.length
  rotate_left
  · repeat' (first | apply w_seq | apply w_ops0 | apply w_exit | apply a_n | apply a_x | apply o_nil | (apply o_val rfl rfl; (focus ((try simp (disch := omega) only [simB0, ZA, reduceEqDiff, ↓reduceIte, reduceAdd, reduceLeDiff, ZV, reduceCtorEq, ME]); first | with_reducible rfl | (apply s_ite; (focus omega); with_reducible rfl)))) | (apply w_cond; (focus ((try simp only [simB0, ZA, reduceEqDiff, ↓reduceIte, reduceAdd, reduceLeDiff, ME]); (try with_reducible rfl); done)); all_goals (intro _hg; (try simp only [ZB] at _hg); try first | exact absurd trivial _hg | (exfalso; omega))))
    refine ⟨by omega, ?_, by simp (disch := omega) only [agr, ZG, reduceEqDiff, ↓reduceIte], rfl, rfl⟩
    rw [hpd, decide_eq_true (by omega), Bool.true_and]
    exact range_all_true fun i hi => f2 i (by omega)
  have hqd := hqd q
  have hsq := hsp2 _ (mem_getD hq)
  have hsq' : (R.getD q default).length ≤ 9223372036854775807 := hsq
  repeat' (first | apply w_seq | apply w_ops0 | apply w_block | apply w_skip | apply w_ret | apply a_n | apply a_r | apply o_nil | (apply o_val rfl rfl; (focus ((try simp (disch := omega) only [simB0, ZA, reduceEqDiff, ↓reduceIte, reduceAdd, reduceLeDiff, ZV, reduceCtorEq, ME]); first | with_reducible rfl | (apply s_ite; (focus omega); with_reducible rfl)))) | (apply w_cond; (focus ((try simp only [simB0, ZA, reduceEqDiff, ↓reduceIte, reduceAdd, reduceLeDiff, ME]); (try with_reducible rfl); done)); all_goals (intro _hg; (try simp only [ZB] at _hg); try first | exact absurd trivial _hg | (exfalso; omega))) | (refine e_ends rfl ?_) | (apply r_1; (focus (simp only [rv, simB0, ZA, reduceEqDiff, ↓reduceIte, reduceAdd, reduceLeDiff, ME]; with_reducible rfl))))
  all_goals first
    | (refine snap_bool ?_
       symm
       refine range_all_false hk ?_
       rw [hk0, range_all_false hp (by rw [hpd, range_all_false hq (by rw [hqd, decide_eq_false (by split <;> omega)]), Bool.and_false]), Bool.and_false])
    | (refine ⟨by omega, ?_, by simp (disch := omega) only [agr, ZG, reduceEqDiff, ↓reduceIte], rfl, rfl⟩
       rw [hqd, decide_eq_true (by split <;> omega)])

end Go.Proofs.Ytpbjhjkfobapeaa

/- Q8: contracts of functions and plain laws; for all inputs that the theorems name. -/
namespace Go.Proofs.Ytpbjhjkfobapeaa
open Go Go.Abs
open Nat (reduceEqDiff reduceAdd reduceLeDiff)

theorem shaped_len {m : MachV} (h : shapedB m = true) : (m.first.length : Int) = m.n ∧ (m.out.length : Int) = m.rounds + 1 ∧ (m.symbols.length : Int) = m.rounds := by
  unfold shapedB at h
  rw [Bool.and_eq_true, decide_eq_true_iff] at h
  exact h.1
theorem shaped_first {m : MachV} (h : shapedB m = true) {l : List Int} (hl : l ∈ m.first) : (l.length : Int) = m.ins := by
  unfold shapedB at h
  simp only [Bool.and_eq_true, List.all_eq_true, decide_eq_true_iff] at h
  exact h.2.1 l hl
theorem shaped_out {m : MachV} (h : shapedB m = true) {k : Nat} (hk : k < m.out.length) : ((m.out.getD k default).length : Int) = m.n := by
  unfold shapedB at h
  simp only [Bool.and_eq_true, List.all_eq_true, decide_eq_true_iff] at h
  exact h.2.2.1 _ (mem_getD hk)
theorem shaped_sym {m : MachV} (h : shapedB m = true) {k : Nat} (hk : k < m.symbols.length) : ((m.symbols.getD k default).length : Int) = m.n ∧ ∀ p, p < (m.symbols.getD k default).length → (((m.symbols.getD k default).getD p default).length : Int) = m.n ∧
    ∀ q, q < ((m.symbols.getD k default).getD p default).length → ((((m.symbols.getD k default).getD p default).getD q default).length : Int) = if p = q then 0 else (((m.out.getD k default).getD p default).length : Int) := by
  unfold shapedB at h
  simp only [Bool.and_eq_true, List.all_eq_true, decide_eq_true_iff, List.mem_range] at h
  have h := h.2.2.2 k hk
  unfold sendB at h
  simp only [Bool.and_eq_true, List.all_eq_true, decide_eq_true_iff, List.mem_range] at h
  refine ⟨h.1, fun p hp => ?_⟩
  have h := h.2 p hp
  unfold recvB at h
  simp only [Bool.and_eq_true, List.all_eq_true, decide_eq_true_iff, List.mem_range] at h
  refine ⟨h.1, fun q hq => ?_⟩
  have h := h.2 q hq
  unfold placeB at h
  rwa [decide_eq_true_iff] at h

def firstB (m : MachV) (p : Nat) : Bool := allB (m.first.getD p default) (-1) (((m.out.getD 0 default).getD p default).length - 1)
def rangedB (m : MachV) : Bool := (List.range m.first.length).all (fun p => firstB m p) && (m.out.all (fun l => l.all fun x => allB x (-1) (m.outs - 1)) && m.symbols.all (fun s => s.all fun l => l.all fun x => allB x 0 1048576))
attribute [local irreducible] awp2 aops2 ains aloop athen bbind obind gbind acond res1 Go.Abs.Fn PCall Go.Abs.Pure SnapArgs SnapL Yl

theorem ranged1_c (m : MachV) (x : List Int) (hx : Sh x) (ho : 1 ≤ m.outs ∧ m.outs ≤ 8) : Pure Try.prog 83 [encV x, .iptr m.cells 0] (.bool (!allB x (-1) (m.outs - 1))) := by
  refine Pure.of_c2 follows is83 (Nat.le_of_ble_eq_true rfl) ?_
  simp only [b83, O, G, N, M, D, F, B2, cFal, cTru]
  repeat' (first | apply w_seq | apply w_ops0 | apply w_ret | apply a_n | apply o_nil | (apply o_val rfl rfl; (focus ((try simp (disch := omega) only [simB0, ZA, reduceEqDiff, ↓reduceIte, reduceAdd, reduceLeDiff, ZV, reduceCtorEq, ME]); first | with_reducible rfl | (apply s_ite; (focus omega); with_reducible rfl)))) | (apply o_callD; (iterate 2 (focus ((try simp only [simB0, ZA, reduceEqDiff, ↓reduceIte, reduceAdd, reduceLeDiff, ME]); (try with_reducible rfl); done))); (focus (first | (exact all_c _ _ _ hx))); (focus ((first | refine snap_plain ?_ rfl | apply snap_data); repeat' (first | exact snapL_nil | apply snapL_i | apply snapL_dat)))) | (refine e_ends rfl ?_) | (apply r_1; (focus (simp only [rv, simB0, ZA, reduceEqDiff, ↓reduceIte, reduceAdd, reduceLeDiff, ME]; with_reducible rfl))))
  exact .bool _

theorem ranged2_c (x : List Int) (hx : Sh x) : Pure Try.prog 84 [encV x] (.bool (!allB x 0 1048576)) := by
  refine Pure.of_c2 follows is84 (Nat.le_of_ble_eq_true rfl) ?_
  simp only [b84, O, G, N, M, D, F, B2, cFal, cTru]
  repeat' (first | apply w_seq | apply w_ops0 | apply w_ret | apply a_n | apply o_nil | (apply o_val rfl rfl; (focus ((try simp (disch := omega) only [simB0, ZA, reduceEqDiff, ↓reduceIte, reduceAdd, reduceLeDiff, ZV, reduceCtorEq]); first | with_reducible rfl | (apply s_ite; (focus omega); with_reducible rfl)))) | (apply o_callD; (iterate 2 (focus ((try simp only [simB0, ZA, reduceEqDiff, ↓reduceIte, reduceAdd, reduceLeDiff]); (try with_reducible rfl); done))); (focus (first | (exact all_c _ _ _ hx))); (focus ((first | refine snap_plain ?_ rfl | apply snap_data); repeat' (first | exact snapL_nil | apply snapL_i | apply snapL_dat)))) | (refine e_ends rfl ?_) | (apply r_1; (focus (simp only [rv, simB0, ZA, reduceEqDiff, ↓reduceIte, reduceAdd, reduceLeDiff]; with_reducible rfl))))
  exact .bool _

theorem not_any_all {α : Type} {l : List α} {p : α → Bool} : (!l.any fun x => !p x) = l.all p := by
  rw [List.not_any_eq_all_not]; simp
theorem any_not_all {α : Type} {l : List α} {p : α → Bool} : (l.any fun x => !p x) = !l.all p := by
  rw [← not_any_all, Bool.not_not]

theorem ranged_c (m : MachV) (hs : ShM m) (hn : 1 ≤ m.n ∧ m.n ≤ 5) (hr : 0 ≤ m.rounds ∧ m.rounds ≤ 6) (ho : 1 ≤ m.outs ∧ m.outs ≤ 8) (hsh : shapedB m = true) : Pure Try.prog 58 [encM m] (.bool (rangedB m)) := by
  refine Pure.of_c2 follows is58 (Nat.le_of_ble_eq_true rfl) ?_
  simp only [b58, O, G, N, M, D, F, B2, cFal, cTru]
  obtain ⟨s1, s2, s3, s4, s5, s5b, s6, s7, s8, s9, s10⟩ := hs
  have e1 : m.first.length ≤ 9223372036854775807 := s1
  have e2 : m.out.length ≤ 9223372036854775807 := s3
  have e3 : m.symbols.length ≤ 9223372036854775807 := s6
  obtain ⟨l1, l2, l3⟩ := shaped_len hsh
  have l0 := shaped_out hsh (k := 0) (by omega)
  refine w_seq ?_
  repeat' (first | apply w_ops0 | apply a_n | apply o_nil | (apply o_val rfl rfl; (focus ((try simp (disch := omega) only [simB0, ZA, reduceEqDiff, ↓reduceIte, reduceAdd, reduceLeDiff, ZV, reduceCtorEq, ME]); first | with_reducible rfl | (apply s_ite; (focus omega); with_reducible rfl)))) | (apply e_box rfl; (iterate 2 (focus ((try simp only [simB0, ZA, reduceEqDiff, ↓reduceIte, reduceAdd, reduceLeDiff, ME]); (try with_reducible rfl); done))); (focus (simp only [SO, Bool.and_self, one_encV, one_encVV, ME]))))
  refine w_seqC (fun T H nx => T 1 = .ptr 0 8 0 ∧ H = hupd noBoxes 0 m.cells ∧ (List.range m.first.length).all (fun p => firstB m p) = true) ?_ ?_
  · repeat' (first | apply w_seq | apply w_ops0 | apply w_block | apply a_n | apply o_nil | (apply o_val rfl rfl; (focus ((try simp (disch := omega) only [simB0, ZA, reduceEqDiff, ↓reduceIte, reduceAdd, reduceLeDiff, ZV, reduceCtorEq, ME]); first | with_reducible rfl | (apply s_ite; (focus omega); with_reducible rfl)))) | apply w_loop)
    refine loopA (fun k => [(1, .ptr 0 8 0), (12, encVV m.first), (13, .int .i64 m.first.length), (14, .int .i64 k)]) m.first.length (fun k => firstB m k = true) (by simp (disch := omega) only [agr, ZG, reduceEqDiff, ↓reduceIte, List.length_cons, List.length_nil, reduceAdd, Nat.zero_add]) ?_
    rintro k h1 h2
    by_cases hk : k < m.first.length
    rotate_left
    · repeat' (first | apply w_seq | apply w_ops0 | apply w_exit | apply a_n | apply a_x | apply o_nil | (apply o_val rfl rfl; (focus ((try simp (disch := omega) only [simB0, ZA, reduceEqDiff, ↓reduceIte, reduceAdd, reduceLeDiff, ZV, reduceCtorEq, ME]); first | with_reducible rfl | (apply s_ite; (focus omega); with_reducible rfl)))) | (apply w_cond; (focus ((try simp only [simB0, ZA, reduceEqDiff, ↓reduceIte, reduceAdd, reduceLeDiff, ME]); (try with_reducible rfl); done)); all_goals (intro _hg; (try simp only [ZB] at _hg); try first | exact absurd trivial _hg | (exfalso; omega))))
      exact ⟨rfl, rfl, range_all_true fun i hi => h2 i (by omega)⟩
    have ha := s2 _ (mem_getD hk)
    have hb := s5 _ (mem_getD (l := m.out) (k := 0) (by omega)) _ (mem_getD (l := m.out.getD 0 default) (k := k) (by omega))
    have hb' : ((m.out.getD 0 default).getD k default).length ≤ 9223372036854775807 := hb
    have hac := all_c (m.first.getD k default) (-1) (((m.out.getD 0 default).getD k default).length - 1) ha
    repeat' (first | apply w_seq | apply w_ops0 | apply w_block | apply w_skip | apply w_ret | apply a_n | apply a_r | apply o_nil | (apply o_val rfl rfl; (focus ((try simp (disch := omega) only [simB0, ZA, reduceEqDiff, ↓reduceIte, reduceAdd, reduceLeDiff, ZV, reduceCtorEq, ME, Int.toNat_zero]); first | with_reducible rfl | (apply s_ite; (focus omega); with_reducible rfl)))) | (apply o_callD; (iterate 2 (focus ((try simp only [simB0, ZA, reduceEqDiff, ↓reduceIte, reduceAdd, reduceLeDiff, ME, Int.toNat_zero]); (try with_reducible rfl); done))); (focus (first | (exact hac))); (focus ((first | refine snap_plain ?_ rfl | apply snap_data); repeat' (first | exact snapL_nil | apply snapL_i | apply snapL_dat)))) | (apply w_cond; (focus ((try simp only [simB0, ZA, reduceEqDiff, ↓reduceIte, reduceAdd, reduceLeDiff, ME, Int.toNat_zero]); (try with_reducible rfl); done)); all_goals (intro _hg; (try simp only [ZB] at _hg); try first | exact absurd trivial _hg | (exfalso; omega))) | (refine e_ends rfl ?_) | (apply r_1; (focus (simp only [rv, simB0, ZA, reduceEqDiff, ↓reduceIte, reduceAdd, reduceLeDiff, ME, Int.toNat_zero]; with_reducible rfl))))
    · refine snap_bool ?_
      unfold rangedB
      rw [range_all_false hk (by simpa [firstB] using ‹_›)]; rfl
    · refine ⟨hk, by simpa [firstB] using ‹_›, by simp (disch := omega) only [agr, ZG, reduceEqDiff, ↓reduceIte], rfl, rfl⟩
  rintro T H nx ⟨t1, rfl, h1⟩
  have hb : rangedB m = (m.out.all (fun l => l.all fun x => allB x (-1) (m.outs - 1)) && m.symbols.all (fun s => s.all fun l => l.all fun x => allB x 0 1048576)) := by
    unfold rangedB; rw [h1, Bool.true_and]
  rw [hb]
  clear hb h1
  refine w_seqC (fun T H nx => T 1 = .ptr 0 8 0 ∧ H = hupd noBoxes 0 m.cells ∧ m.out.all (fun l => l.all fun x => allB x (-1) (m.outs - 1)) = true) ?_ ?_
  · repeat' (first | apply w_seq | apply w_ops0 | apply w_block | apply a_n | apply o_nil | (apply o_val rfl rfl; (focus ((try simp (disch := omega) only [simB0, ZA, reduceEqDiff, ↓reduceIte, reduceAdd, reduceLeDiff, ZV, reduceCtorEq, ME, t1]); first | with_reducible rfl | (apply s_ite; (focus omega); with_reducible rfl)))) | apply w_loop)
    refine loopA (fun k => [(1, .ptr 0 8 0), (33, encV3 m.out), (34, .int .i64 m.out.length), (35, .int .i64 k)]) m.out.length (fun k => ((m.out.getD k default).all fun x => allB x (-1) (m.outs - 1)) = true) (by simp (disch := omega) only [agr, ZG, reduceEqDiff, ↓reduceIte, t1]) ?_
    rintro k h1 h2
    by_cases hk : k < m.out.length
    rotate_left
    · repeat' (first | apply w_seq | apply w_ops0 | apply w_exit | apply a_n | apply a_x | apply o_nil | (apply o_val rfl rfl; (focus ((try simp (disch := omega) only [simB0, ZA, reduceEqDiff, ↓reduceIte, reduceAdd, reduceLeDiff, ZV, reduceCtorEq, ME]); first | with_reducible rfl | (apply s_ite; (focus omega); with_reducible rfl)))) | (apply w_cond; (focus ((try simp only [simB0, ZA, reduceEqDiff, ↓reduceIte, reduceAdd, reduceLeDiff, ME]); (try with_reducible rfl); done)); all_goals (intro _hg; (try simp only [ZB] at _hg); try first | exact absurd trivial _hg | (exfalso; omega))))
      exact ⟨rfl, rfl, all_true fun i hi => h2 i (by omega)⟩
    have hm := mem_getD hk
    repeat' (first | apply w_seq | apply w_ops0 | apply w_block | apply w_skip | apply a_n | apply o_nil | (apply o_val rfl rfl; (focus ((try simp (disch := omega) only [simB0, ZA, reduceEqDiff, ↓reduceIte, reduceAdd, reduceLeDiff, ZV, reduceCtorEq, ME]); first | with_reducible rfl | (apply s_ite; (focus omega); with_reducible rfl)))) | (apply w_cond; (focus ((try simp only [simB0, ZA, reduceEqDiff, ↓reduceIte, reduceAdd, reduceLeDiff, ME]); (try with_reducible rfl); done)); all_goals (intro _hg; (try simp only [ZB] at _hg); try first | exact absurd trivial _hg | (exfalso; omega))))
    refine o_callP (xs := [encVV (m.out.getD k default), .func 83 [.ptr 0 8 0]]) (ys := [encVV (m.out.getD k default), .func 83 [.iptr m.cells 0]]) (by ((try simp only [simB0, ZA, reduceEqDiff, ↓reduceIte, reduceAdd, reduceLeDiff]); (try with_reducible rfl))) (by ((try simp only [simB0, ZA, reduceEqDiff, ↓reduceIte, reduceAdd, reduceLeDiff]); (try with_reducible rfl))) (containsFV_c (m.out.getD k default) (fun x => !allB x (-1) (m.outs - 1)) 83 [.iptr m.cells 0] (DatL.cons (Dat.iptr (mach_dat m)) DatL.nil) (fun x hx => ranged1_c m x (s5 _ hm x hx) ho) (s4 _ hm)) (snap_plain (snapL_cons (encVV_dat _ _) (snapL_cons (snap_func (snapL_cons (snap_ptr (b := 0) (n := 8) (cs := m.cells) (by ((try simp only [simB0, ZA, reduceEqDiff, ↓reduceIte, reduceAdd, reduceLeDiff, ME]); (try with_reducible rfl))) rfl (snapL_datL (mach_dat m))) snapL_nil)) snapL_nil)) rfl) ?_
    rw [any_not_all]
    repeat' (first | apply w_seq | apply w_ops0 | apply w_skip | apply w_ret | apply a_n | apply a_r | apply o_nil | (apply o_val rfl rfl; (focus ((try simp (disch := omega) only [simB0, ZA, reduceEqDiff, ↓reduceIte, reduceAdd, reduceLeDiff, ZV, reduceCtorEq, ME]); first | with_reducible rfl | (apply s_ite; (focus omega); with_reducible rfl)))) | (apply w_cond; (focus ((try simp only [simB0, ZA, reduceEqDiff, ↓reduceIte, reduceAdd, reduceLeDiff, ME]); (try with_reducible rfl); done)); all_goals (intro _hg; (try simp only [ZB] at _hg); try first | exact absurd trivial _hg | (exfalso; omega))) | (refine e_ends rfl ?_) | (apply r_1; (focus (simp only [rv, simB0, ZA, reduceEqDiff, ↓reduceIte, reduceAdd, reduceLeDiff, ME]; with_reducible rfl))))
    · refine snap_bool ?_
      have : m.out.all (fun l => l.all fun x => allB x (-1) (m.outs - 1)) = false := all_false hk _hg
      rw [this]; rfl
    · exact ⟨hk, _hg, by simp (disch := omega) only [agr, ZG, reduceEqDiff, ↓reduceIte], rfl, rfl⟩
  clear t1
  rintro T H nx ⟨t1, rfl, h1⟩
  rw [h1, Bool.true_and]
  clear h1
  repeat' (first | apply w_seq | apply w_ops0 | apply w_block | apply a_n | apply o_nil | (apply o_val rfl rfl; (focus ((try simp (disch := omega) only [simB0, ZA, reduceEqDiff, ↓reduceIte, reduceAdd, reduceLeDiff, ZV, reduceCtorEq, ME, t1]); first | with_reducible rfl | (apply s_ite; (focus omega); with_reducible rfl)))) | apply w_loop)
  refine loopA (fun k => [(1, .ptr 0 8 0), (44, encV4 m.symbols), (45, .int .i64 m.symbols.length), (46, .int .i64 k)]) m.symbols.length (fun k => ((m.symbols.getD k default).all fun l => l.all fun x => allB x 0 1048576) = true) (by simp (disch := omega) only [agr, ZG, reduceEqDiff, ↓reduceIte, t1]) ?_
  clear t1
  rintro k h1 h2
  by_cases hk : k < m.symbols.length
  rotate_left
  · repeat' (first | apply w_seq | apply w_ops0 | apply w_exit | apply w_ret | apply a_n | apply a_x | apply o_nil | (apply o_val rfl rfl; (focus ((try simp (disch := omega) only [simB0, ZA, reduceEqDiff, ↓reduceIte, reduceAdd, reduceLeDiff, ZV, reduceCtorEq, ME]); first | with_reducible rfl | (apply s_ite; (focus omega); with_reducible rfl)))) | (apply w_cond; (focus ((try simp only [simB0, ZA, reduceEqDiff, ↓reduceIte, reduceAdd, reduceLeDiff, ME]); (try with_reducible rfl); done)); all_goals (intro _hg; (try simp only [ZB] at _hg); try first | exact absurd trivial _hg | (exfalso; omega))) | (refine e_ends rfl ?_) | (apply r_1; (focus (simp only [rv, simB0, ZA, reduceEqDiff, ↓reduceIte, reduceAdd, reduceLeDiff, ME]; with_reducible rfl))))
    exact snap_bool (all_true fun i hi => h2 i (by omega)).symm
  have hsk := s7 _ (mem_getD hk)
  have hsk2 := s8 _ (mem_getD hk)
  have hsk3 := s9 _ (mem_getD hk)
  have hfl : ∀ p, p < (m.symbols.getD k default).length → (((m.symbols.getD k default).getD p default).all fun x => allB x 0 1048576) = false → m.symbols.all (fun s => s.all fun l => l.all fun x => allB x 0 1048576) = false := fun p hp h => all_false hk (all_false hp h)
  generalize hS : m.symbols.getD k default = S at *
  have hS' : S.length ≤ 9223372036854775807 := hsk
  repeat' (first | apply w_seq | apply w_ops0 | apply w_block | apply w_skip | apply a_n | apply o_nil | (apply o_val rfl rfl; (focus ((try simp (disch := omega) only [simB0, ZA, reduceEqDiff, ↓reduceIte, reduceAdd, reduceLeDiff, ZV, reduceCtorEq, ME, hS]); first | with_reducible rfl | (apply s_ite; (focus omega); with_reducible rfl)))) | (apply w_cond; (focus ((try simp only [simB0, ZA, reduceEqDiff, ↓reduceIte, reduceAdd, reduceLeDiff, ME, hS]); (try with_reducible rfl); done)); all_goals (intro _hg; (try simp only [ZB] at _hg); try first | exact absurd trivial _hg | (exfalso; omega))) | apply w_loop)
  refine loopA (fun p => [(1, .ptr 0 8 0), (44, encV4 m.symbols), (45, .int .i64 m.symbols.length), (46, .int .i64 k), (50, encV3 S), (51, .int .i64 S.length), (52, .int .i64 p)]) S.length (fun p => ((S.getD p default).all fun x => allB x 0 1048576) = true) (by simp (disch := omega) only [agr, ZG, reduceEqDiff, ↓reduceIte]) ?_
  rintro p g1 g2
  by_cases hp : p < S.length
  rotate_left
  · repeat' (first | apply w_seq | apply w_ops0 | apply w_exit | apply a_n | apply a_x | apply o_nil | (apply o_val rfl rfl; (focus ((try simp (disch := omega) only [simB0, ZA, reduceEqDiff, ↓reduceIte, reduceAdd, reduceLeDiff, ZV, reduceCtorEq, ME]); first | with_reducible rfl | (apply s_ite; (focus omega); with_reducible rfl)))) | (apply w_cond; (focus ((try simp only [simB0, ZA, reduceEqDiff, ↓reduceIte, reduceAdd, reduceLeDiff, ME]); (try with_reducible rfl); done)); all_goals (intro _hg; (try simp only [ZB] at _hg); try first | exact absurd trivial _hg | (exfalso; omega))))
    exact ⟨by omega, all_true fun i hi => g2 i (by omega), by simp (disch := omega) only [agr, ZG, reduceEqDiff, ↓reduceIte], rfl, rfl⟩
  have hm := mem_getD hp
  have hc := containsFV_c (S.getD p default) (fun x => !allB x 0 1048576) 84 [] DatL.nil (fun x hx => ranged2_c x (hsk3 _ hm x hx)) (hsk2 _ hm)
  rw [any_not_all] at hc
  repeat' (first | apply w_seq | apply w_ops0 | apply w_block | apply w_skip | apply w_ret | apply a_n | apply a_r | apply o_nil | (apply o_val rfl rfl; (focus ((try simp (disch := omega) only [simB0, ZA, reduceEqDiff, ↓reduceIte, reduceAdd, reduceLeDiff, ZV, reduceCtorEq, ME]); first | with_reducible rfl | (apply s_ite; (focus omega); with_reducible rfl)))) | (apply o_callD; (iterate 2 (focus ((try simp only [simB0, ZA, reduceEqDiff, ↓reduceIte, reduceAdd, reduceLeDiff, ME]); (try with_reducible rfl); done))); (focus (first | (exact hc))); (focus ((first | refine snap_plain ?_ rfl | apply snap_data); repeat' (first | exact snapL_nil | apply snapL_i | apply snapL_dat | exact Dat.func DatL.nil)))) | (apply w_cond; (focus ((try simp only [simB0, ZA, reduceEqDiff, ↓reduceIte, reduceAdd, reduceLeDiff, ME]); (try with_reducible rfl); done)); all_goals (intro _hg; (try simp only [ZB] at _hg); try first | exact absurd trivial _hg | (exfalso; omega))) | (refine e_ends rfl ?_) | (apply r_1; (focus (simp only [rv, simB0, ZA, reduceEqDiff, ↓reduceIte, reduceAdd, reduceLeDiff, ME]; with_reducible rfl))))
  · exact snap_bool (hfl p hp _hg).symm
  · exact ⟨hp, _hg, by simp (disch := omega) only [agr, ZG, reduceEqDiff, ↓reduceIte], rfl, rfl⟩

end Go.Proofs.Ytpbjhjkfobapeaa

/- Q9: contracts of functions and plain laws; for all inputs that the theorems name. -/
namespace Go.Proofs.Ytpbjhjkfobapeaa
open Go Go.Abs
open Nat (reduceEqDiff reduceAdd reduceLeDiff)

theorem sls_lo {a b h0 h1 h2 h3 h4 t n : Int} (h : 0 ≤ n ∧ n ≤ 5) : aslsA 5 (.iptr [.int .i64 a, .int .i64 b, .int .i64 h0, .int .i64 h1, .int .i64 h2, .int .i64 h3, .int .i64 h4, .int .i64 t] 2) (some (.int .i64 n)) none none = some (encV ([h0, h1, h2, h3, h4].drop n.toNat)) := by
  have : n = 0 ∨ n = 1 ∨ n = 2 ∨ n = 3 ∨ n = 4 ∨ n = 5 := by omega
  rcases this with rfl | rfl | rfl | rfl | rfl | rfl <;> rfl
theorem sls_hi {a b h0 h1 h2 h3 h4 t n : Int} (h : 0 ≤ n ∧ n ≤ 5) : aslsA 5 (.iptr [.int .i64 a, .int .i64 b, .int .i64 h0, .int .i64 h1, .int .i64 h2, .int .i64 h3, .int .i64 h4, .int .i64 t] 2) none (some (.int .i64 n)) none = some (encV ([h0, h1, h2, h3, h4].take n.toNat)) := by
  have : n = 0 ∨ n = 1 ∨ n = 2 ∨ n = 3 ∨ n = 4 ∨ n = 5 := by omega
  rcases this with rfl | rfl | rfl | rfl | rfl | rfl <;> rfl
theorem sls_all {a b h0 h1 h2 h3 h4 t : Int} : aslsA 5 (.iptr [.int .i64 a, .int .i64 b, .int .i64 h0, .int .i64 h1, .int .i64 h2, .int .i64 h3, .int .i64 h4, .int .i64 t] 2) none none none = some (encV [h0, h1, h2, h3, h4]) := rfl

def orI : List Int → Int
  | [] => 0
  | x :: l => if x ≠ 0 then x else orI l
def StepV.key (s : StepV) : List Int := s.round :: s.proc :: s.heard
def orderS (a b : StepV) : Int := order a.key b.key
theorem order_cons (x y : Int) (l k : List Int) : order (x :: l) (y :: k) = if (if x < y then (-1 : Int) else if x > y then 1 else 0) ≠ 0 then (if x < y then (-1 : Int) else if x > y then 1 else 0) else order l k := by
  simp only [order]
  by_cases h : x < y
  · simp only [if_pos h]; rw [if_pos (by decide)]
  · simp only [if_neg h]
    by_cases h2 : x > y
    · simp only [if_pos h2]; rw [if_pos (by decide)]
    · simp only [if_neg h2]; rw [if_neg (by decide)]
theorem order_or (a b : StepV) : orderS a b = orI [if a.round < b.round then -1 else if a.round > b.round then 1 else 0, if a.proc < b.proc then -1 else if a.proc > b.proc then 1 else 0, order a.heard b.heard] := by
  unfold orderS StepV.key
  rw [order_cons, order_cons]
  simp only [orI]
  congr 1
  congr 1
  split
  · rfl
  · omega

def heardB (m : MachV) (x : StepV) (q : Nat) : Bool := if (q : Int) = x.proc then inB (x.heard.getD q default) 0 ((((m.out.getD x.round.toNat default).getD q default).length : Int) - 1) else inB (x.heard.getD q default) (-1) 1048576
def stepI (m : MachV) (x : StepV) : Int :=
  if !(inB x.round 0 (m.rounds - 1) && (inB x.proc 0 (m.n - 1) && inB x.to 0 ((((m.out.getD (x.round + 1).toNat default).getD x.proc.toNat default).length : Int) - 1))) then 2 else
  if !allB (x.heard.drop m.n.toNat) (-1) (-1) then 3 else if !(List.range m.n.toNat).all (fun q => heardB m x q) then 2 else 0
attribute [local irreducible] awp2 aops2 ains aloop athen bbind obind gbind acond res1 Go.Abs.Fn PCall Go.Abs.Pure SnapArgs SnapL Yl

theorem or_c (l : List Int) (hl : Sh l) : Pure Try.prog 85 [encV l] (.int .i64 (orI l)) := by
  refine Pure.of_c2 follows is85 (Nat.le_of_ble_eq_true rfl) ?_
  simp only [b85, O, G, N, M, D, F, B2, cFal, cTru]
  have hl' : l.length ≤ 9223372036854775807 := hl
  repeat' (first | apply w_seq | apply w_ops0 | apply w_block | apply a_n | apply o_nil | (apply o_val rfl rfl; (focus ((try simp (disch := omega) only [simB0, ZA, reduceEqDiff, ↓reduceIte, reduceAdd, reduceLeDiff, ZV, reduceCtorEq]); first | with_reducible rfl | (apply s_ite; (focus omega); with_reducible rfl)))) | apply w_loop)
  refine loop0 (X := Nat) (fun k => [(3, .int .i64 0), (6, encV l), (7, .int .i64 l.length), (8, .int .i64 k)]) (fun k => k ≤ l.length ∧ orI l = orI (l.drop k)) (fun k => l.length - k) 0 ⟨Nat.zero_le _, rfl⟩ (by simp (disch := omega) only [agr, ZG, reduceEqDiff, ↓reduceIte]) ?_
  rintro k ⟨h1, h2⟩
  by_cases hk : k < l.length
  · have hd := drop_cons hk
    repeat' (first | apply w_seq | apply w_ops0 | apply w_block | apply w_skip | apply w_ret | apply a_n | apply a_r | apply o_nil | (apply o_val rfl rfl; (focus ((try simp (disch := omega) only [simB0, ZA, reduceEqDiff, ↓reduceIte, reduceAdd, reduceLeDiff, ZV, reduceCtorEq]); first | with_reducible rfl | (apply s_ite; (focus omega); with_reducible rfl)))) | (apply w_cond; (focus ((try simp only [simB0, ZA, reduceEqDiff, ↓reduceIte, reduceAdd, reduceLeDiff]); (try with_reducible rfl); done)); all_goals (intro _hg; (try simp only [ZB] at _hg); try first | exact absurd trivial _hg | (exfalso; omega))) | (refine e_ends rfl ?_) | (apply r_1; (focus (simp only [rv, simB0, ZA, reduceEqDiff, ↓reduceIte, reduceAdd, reduceLeDiff]; with_reducible rfl))))
    · refine snap_int ?_
      rw [h2, hd, orI, if_pos ‹_›]
    · refine ⟨k + 1, ⟨by omega, ?_⟩, by omega, by simp (disch := omega) only [agr, ZG, reduceEqDiff, ↓reduceIte], rfl, rfl⟩
      rw [h2, hd, orI, if_neg ‹_›]
  · repeat' (first | apply w_seq | apply w_ops0 | apply w_exit | apply w_ret | apply a_n | apply a_x | apply o_nil | (apply o_val rfl rfl; (focus ((try simp (disch := omega) only [simB0, ZA, reduceEqDiff, ↓reduceIte, reduceAdd, reduceLeDiff, ZV, reduceCtorEq]); first | with_reducible rfl | (apply s_ite; (focus omega); with_reducible rfl)))) | (apply w_cond; (focus ((try simp only [simB0, ZA, reduceEqDiff, ↓reduceIte, reduceAdd, reduceLeDiff]); (try with_reducible rfl); done)); all_goals (intro _hg; (try simp only [ZB] at _hg); try first | exact absurd trivial _hg | (exfalso; omega))) | (refine e_ends rfl ?_) | (apply r_1; (focus (simp only [rv, simB0, ZA, reduceEqDiff, ↓reduceIte, reduceAdd, reduceLeDiff]; with_reducible rfl))))
    refine snap_int ?_
    rw [h2, List.drop_eq_nil_of_le (by omega)]; rfl

theorem order_c (a b : StepV) : Pure Try.prog 60 [encStep a, encStep b] (.int .i64 (orderS a b)) := by
  refine Pure.of_c2 follows is60 (Nat.le_of_ble_eq_true rfl) ?_
  simp only [b60, O, G, N, M, D, F, B2, cFal, cTru]
  rw [order_or]
  have hcp := compare_c a.heard b.heard (by show _ ≤ _; simp [StepV.heard]) (by show _ ≤ _; simp [StepV.heard])
  unfold StepV.heard at *
  refine w_seq ?_
  repeat' (first | apply w_ops0 | apply a_n | apply o_nil | (apply o_val rfl rfl; (focus ((try simp (disch := omega) only [simB0, ZA, reduceEqDiff, ↓reduceIte, reduceAdd, reduceLeDiff, ZV, reduceCtorEq, ME]); first | with_reducible rfl | (apply s_ite; (focus omega); with_reducible rfl)))) | (apply e_box rfl; (iterate 2 (focus ((try simp only [simB0, ZA, reduceEqDiff, ↓reduceIte, reduceAdd, reduceLeDiff, ME]); (try with_reducible rfl); done))); (focus (simp only [SO, Bool.and_self, one_encV, one_encVV, ME]))))
  refine w_seq ?_
  refine w_mixS1F _ noBoxes [(2, .iptr a.cells 0), (3, .iptr b.cells 0)] Fz.all ⟨.inr ?_, .inr ?_, trivial⟩ ?_
  · ((try simp only [simB0, ZA, reduceEqDiff, ↓reduceIte, reduceAdd, reduceLeDiff]); (try with_reducible rfl))
    exact snap_ptr (b := 0) (n := 8) (cs := a.cells) (by ((try simp only [simB0, ZA, reduceEqDiff, ↓reduceIte, reduceAdd, reduceLeDiff, ME]); (try with_reducible rfl))) rfl (snapL_datL (step_dat a))
  · ((try simp only [simB0, ZA, reduceEqDiff, ↓reduceIte, reduceAdd, reduceLeDiff]); (try with_reducible rfl))
    exact snap_ptr (b := 1) (n := 8) (cs := b.cells) (by ((try simp only [simB0, ZA, reduceEqDiff, ↓reduceIte, reduceAdd, reduceLeDiff, ME]); (try with_reducible rfl))) rfl (snapL_datL (step_dat b))
  repeat' (first | (apply o_val rfl rfl; (focus ((try simp (disch := omega) only [simB0, ZA, reduceEqDiff, ↓reduceIte, reduceAdd, reduceLeDiff, ZV, reduceCtorEq, ME, sls_all]); first | with_reducible rfl | (apply s_ite; (focus omega); with_reducible rfl)))) | (apply o_callD; (iterate 2 (focus ((try simp only [simB0, ZA, reduceEqDiff, ↓reduceIte, reduceAdd, reduceLeDiff, ME, sls_all]); (try with_reducible rfl); done))); (focus (first | (exact cmp_c _ _) | (exact hcp))); (focus ((first | refine snap_plain ?_ rfl | apply snap_data); repeat' (first | exact snapL_nil | apply snapL_i | apply snapL_dat)))) | (apply e_bld rfl; (focus (exact Nat.succ_ne_zero _)); (focus ((try simp only [simB0, ZA, reduceEqDiff, ↓reduceIte, reduceAdd, reduceLeDiff, ME, sls_all]); (try with_reducible rfl); done)); (focus ((try simp only [simB0, ZA, reduceEqDiff, ↓reduceIte, reduceAdd, reduceLeDiff, SO, Bool.and_self, one_encV, one_encVV, ME, sls_all]); (try with_reducible rfl); done))))
  refine o_callP (xs := [.msl 2 3 1 0 3]) (by ((try simp only [simB0, ZA, reduceEqDiff, ↓reduceIte, reduceAdd, reduceLeDiff]); (try with_reducible rfl))) (by ((try simp only [simB0, ZA, reduceEqDiff, ↓reduceIte, reduceAdd, reduceLeDiff]); (try with_reducible rfl))) (or_c [if a.round < b.round then -1 else if a.round > b.round then 1 else 0, if a.proc < b.proc then -1 else if a.proc > b.proc then 1 else 0, order [a.h0, a.h1, a.h2, a.h3, a.h4] [b.h0, b.h1, b.h2, b.h3, b.h4]] (by show _ ≤ _; simp)) (snap_plain (snapL_cons (snap_row hupd_self' rfl rfl) snapL_nil) rfl) ?_
  repeat' (first | apply w_ret | apply a_n | apply o_nil | (apply o_val rfl rfl; (focus ((try simp (disch := omega) only [simB0, ZA, reduceEqDiff, ↓reduceIte, reduceAdd, reduceLeDiff, ZV, reduceCtorEq]); first | with_reducible rfl | (apply s_ite; (focus omega); with_reducible rfl)))) | (refine e_ends rfl ?_) | (apply r_1; (focus (simp only [rv, simB0, ZA, reduceEqDiff, ↓reduceIte, reduceAdd, reduceLeDiff]; with_reducible rfl))))
  exact .int _ _

theorem step_c (m : MachV) (x : StepV) (hs : ShM m) (hn : 1 ≤ m.n ∧ m.n ≤ 5) (hr : 0 ≤ m.rounds ∧ m.rounds ≤ 6) (hsh : shapedB m = true) : Pure Try.prog 59 [encM m, encStep x] (.int .i64 (stepI m x)) := by
  refine Pure.of_c2 follows is59 (Nat.le_of_ble_eq_true rfl) ?_
  simp only [b59, O, G, N, M, D, F, B2, cFal, cTru]
  obtain ⟨s1, s2, s3, s4, s5, s5b, s6, s7, s8, s9, s10⟩ := hs
  have e2 : m.out.length ≤ 9223372036854775807 := s3
  obtain ⟨l1, l2, l3⟩ := shaped_len hsh
  refine w_seq ?_
  repeat' (first | apply w_ops0 | apply a_n | apply o_nil | (apply o_val rfl rfl; (focus ((try simp (disch := omega) only [simB0, ZA, reduceEqDiff, ↓reduceIte, reduceAdd, reduceLeDiff, ZV, reduceCtorEq, ME]); first | with_reducible rfl | (apply s_ite; (focus omega); with_reducible rfl)))) | (apply e_box rfl; (iterate 2 (focus ((try simp only [simB0, ZA, reduceEqDiff, ↓reduceIte, reduceAdd, reduceLeDiff, ME]); (try with_reducible rfl); done))); (focus (simp only [SO, Bool.and_self, one_encV, one_encVV, ME]))))
  refine w_seqC (fun T H nx => T 2 = .ptr 0 8 0 ∧ T 3 = .ptr 1 8 0 ∧ H = hupd (hupd noBoxes 0 m.cells) 1 x.cells ∧ (0 ≤ x.round ∧ x.round ≤ m.rounds - 1 ∧ 0 ≤ x.proc ∧ x.proc ≤ m.n - 1) ∧
    (inB x.round 0 (m.rounds - 1) && (inB x.proc 0 (m.n - 1) && inB x.to 0 ((((m.out.getD (x.round + 1).toNat default).getD x.proc.toNat default).length : Int) - 1))) = true) ?_ ?_
  · by_cases h1 : 0 ≤ x.round ∧ x.round ≤ m.rounds - 1
    rotate_left
    · have i1 : inB x.round 0 (m.rounds - 1) = false := decide_eq_false h1
      have hc := in_c x.round 0 (m.rounds - 1)
      rw [i1] at hc
      repeat' (first | apply w_seq | apply w_ops0 | apply w_mixS1 | apply w_ret | apply a_n | apply a_r | apply o_nil | (apply o_val rfl rfl; (focus ((try simp (disch := omega) only [simB0, ZA, reduceEqDiff, ↓reduceIte, reduceAdd, reduceLeDiff, ZV, reduceCtorEq, ME, Bool.false_eq_true]); first | with_reducible rfl | (apply s_ite; (focus omega); with_reducible rfl)))) | (apply o_callD; (iterate 2 (focus ((try simp only [simB0, ZA, reduceEqDiff, ↓reduceIte, reduceAdd, reduceLeDiff, ME, Bool.false_eq_true]); (try with_reducible rfl); done))); (focus (first | (exact hc))); (focus ((first | refine snap_plain ?_ rfl | apply snap_data); repeat' (first | exact snapL_nil | apply snapL_i | apply snapL_dat)))) | (apply o_gF; (focus (simp only [simB0, ZA, reduceEqDiff, ↓reduceIte, reduceAdd, reduceLeDiff, or_true, true_or, ME, Bool.false_eq_true]; done))) | (apply w_condT; (focus (simp only [simB0, ZA, reduceEqDiff, ↓reduceIte, reduceAdd, reduceLeDiff, ME, Bool.false_eq_true]; done))) | (refine e_ends rfl ?_) | (apply r_1; (focus (simp only [rv, simB0, ZA, reduceEqDiff, ↓reduceIte, reduceAdd, reduceLeDiff, ME, Bool.false_eq_true]; with_reducible rfl))))
      refine snap_int ?_
      unfold stepI; rw [i1]; simp
    have i1 : inB x.round 0 (m.rounds - 1) = true := decide_eq_true h1
    have hc := in_c x.round 0 (m.rounds - 1)
    rw [i1] at hc
    by_cases h2 : 0 ≤ x.proc ∧ x.proc ≤ m.n - 1
    rotate_left
    · have i2 : inB x.proc 0 (m.n - 1) = false := decide_eq_false h2
      have hc2 := in_c x.proc 0 (m.n - 1)
      rw [i2] at hc2
      repeat' (first | apply w_seq | apply w_ops0 | apply w_mixS1 | apply w_ret | apply a_n | apply a_r | apply o_nil | (apply o_val rfl rfl; (focus ((try simp (disch := omega) only [simB0, ZA, reduceEqDiff, ↓reduceIte, reduceAdd, reduceLeDiff, ZV, reduceCtorEq, ME, Bool.false_eq_true]); first | with_reducible rfl | (apply s_ite; (focus omega); with_reducible rfl)))) | (apply o_callD; (iterate 2 (focus ((try simp only [simB0, ZA, reduceEqDiff, ↓reduceIte, reduceAdd, reduceLeDiff, ME, Bool.false_eq_true]); (try with_reducible rfl); done))); (focus (first | (exact hc) | (exact hc2))); (focus ((first | refine snap_plain ?_ rfl | apply snap_data); repeat' (first | exact snapL_nil | apply snapL_i | apply snapL_dat)))) | (apply o_gT; (focus (simp only [simB0, ZA, reduceEqDiff, ↓reduceIte, reduceAdd, reduceLeDiff, ME, Bool.false_eq_true]; done))) | (apply o_gF; (focus (simp only [simB0, ZA, reduceEqDiff, ↓reduceIte, reduceAdd, reduceLeDiff, or_true, true_or, ME, Bool.false_eq_true]; done))) | (apply w_condT; (focus (simp only [simB0, ZA, reduceEqDiff, ↓reduceIte, reduceAdd, reduceLeDiff, ME, Bool.false_eq_true]; done))) | (refine e_ends rfl ?_) | (apply r_1; (focus (simp only [rv, simB0, ZA, reduceEqDiff, ↓reduceIte, reduceAdd, reduceLeDiff, ME, Bool.false_eq_true]; with_reducible rfl))))
      refine snap_int ?_
      unfold stepI; rw [i1, i2]; simp
    have i2 : inB x.proc 0 (m.n - 1) = true := decide_eq_true h2
    have hc2 := in_c x.proc 0 (m.n - 1)
    rw [i2] at hc2
    have hlo := shaped_out hsh (k := (x.round + 1).toNat) (by omega)
    have hsz := s5 _ (mem_getD (l := m.out) (k := (x.round + 1).toNat) (by omega)) _ (mem_getD (l := m.out.getD (x.round + 1).toNat default) (k := x.proc.toNat) (by omega))
    have hsz' : ((m.out.getD (x.round + 1).toNat default).getD x.proc.toNat default).length ≤ 9223372036854775807 := hsz
    have hc3 := in_c x.to 0 ((((m.out.getD (x.round + 1).toNat default).getD x.proc.toNat default).length : Int) - 1)
    cases i3 : inB x.to 0 ((((m.out.getD (x.round + 1).toNat default).getD x.proc.toNat default).length : Int) - 1) with
    | false =>
      rw [i3] at hc3
      repeat' (first | apply w_seq | apply w_ops0 | apply w_mixS1 | apply w_ret | apply a_n | apply a_r | apply o_nil | (apply o_val rfl rfl; (focus ((try simp (disch := omega) only [simB0, ZA, reduceEqDiff, ↓reduceIte, reduceAdd, reduceLeDiff, ZV, reduceCtorEq, ME, Bool.false_eq_true]); first | with_reducible rfl | (apply s_ite; (focus omega); with_reducible rfl)))) | (apply o_callD; (iterate 2 (focus ((try simp only [simB0, ZA, reduceEqDiff, ↓reduceIte, reduceAdd, reduceLeDiff, ME, Bool.false_eq_true]); (try with_reducible rfl); done))); (focus (first | (exact hc) | (exact hc2) | (exact hc3))); (focus ((first | refine snap_plain ?_ rfl | apply snap_data); repeat' (first | exact snapL_nil | apply snapL_i | apply snapL_dat)))) | (apply o_gT; (focus (simp only [simB0, ZA, reduceEqDiff, ↓reduceIte, reduceAdd, reduceLeDiff, ME, Bool.false_eq_true]; done))) | (apply w_condT; (focus (simp only [simB0, ZA, reduceEqDiff, ↓reduceIte, reduceAdd, reduceLeDiff, ME, Bool.false_eq_true]; done))) | (refine e_ends rfl ?_) | (apply r_1; (focus (simp only [rv, simB0, ZA, reduceEqDiff, ↓reduceIte, reduceAdd, reduceLeDiff, ME, Bool.false_eq_true]; with_reducible rfl))))
      refine snap_int ?_
      unfold stepI; rw [i1, i2, i3]; simp
    | true =>
      rw [i3] at hc3
      repeat' (first | apply w_seq | apply w_mixS1 | apply w_skip | apply a_n | apply o_nil | (apply o_val rfl rfl; (focus ((try simp (disch := omega) only [simB0, ZA, reduceEqDiff, ↓reduceIte, reduceAdd, reduceLeDiff, ZV, reduceCtorEq, ME, Bool.false_eq_true]); first | with_reducible rfl | (apply s_ite; (focus omega); with_reducible rfl)))) | (apply o_callD; (iterate 2 (focus ((try simp only [simB0, ZA, reduceEqDiff, ↓reduceIte, reduceAdd, reduceLeDiff, ME, Bool.false_eq_true]); (try with_reducible rfl); done))); (focus (first | (exact hc) | (exact hc2) | (exact hc3))); (focus ((first | refine snap_plain ?_ rfl | apply snap_data); repeat' (first | exact snapL_nil | apply snapL_i | apply snapL_dat)))) | (apply o_gT; (focus (simp only [simB0, ZA, reduceEqDiff, ↓reduceIte, reduceAdd, reduceLeDiff, ME, Bool.false_eq_true]; done))) | (apply w_condF; (focus (simp only [simB0, ZA, reduceEqDiff, ↓reduceIte, reduceAdd, reduceLeDiff, ME, Bool.false_eq_true]; done))))
      exact ⟨rfl, rfl, rfl, ⟨h1.1, h1.2, h2.1, h2.2⟩, by rw [i1, i2]; rfl⟩
  rintro T H nx ⟨t2, t3, rfl, ⟨r1, r2, r3, r4⟩, hb⟩
  have hst : stepI m x = if !allB (x.heard.drop m.n.toNat) (-1) (-1) then 3 else if !(List.range m.n.toNat).all (fun q => heardB m x q) then 2 else 0 := by
    unfold stepI; rw [hb]; rfl
  rw [hst]
  have hh : x.heard = [x.h0, x.h1, x.h2, x.h3, x.h4] := rfl
  have hlh : x.heard.length = 5 := rfl
  have hal := all_c (x.heard.drop m.n.toNat) (-1) (-1) (by show _ ≤ _; rw [List.length_drop]; omega)
  rw [hh] at hal
  clear hb hst
  refine w_seq (w_seq ?_)
  refine w_ops0F (only 1 x.cells) _ [(2, .ptr 0 8 0), (3, .iptr x.cells 0)] (Fz.one (by ((try simp only [simB0, ZA, reduceEqDiff, ↓reduceIte, reduceAdd, reduceLeDiff]); (try with_reducible rfl)))) ⟨.inl t2, .inr ?_, trivial⟩ ?_
  · rw [t3]
    exact snap_ptr (cs := x.cells) only_at rfl (snapL_datL (step_dat x))
  repeat' (first | apply w_seq | apply w_ops0 | apply w_skip | apply w_ret | apply a_n | apply a_r | apply o_nil | (apply o_val rfl rfl; (focus ((try simp (disch := omega) only [simB0, ZA, reduceEqDiff, ↓reduceIte, reduceAdd, reduceLeDiff, ZV, reduceCtorEq, ME, sls_lo (show 0 ≤ m.n ∧ m.n ≤ 5 by omega)]); first | with_reducible rfl | (apply s_ite; (focus omega); with_reducible rfl)))) | (apply o_callD; (iterate 2 (focus ((try simp only [simB0, ZA, reduceEqDiff, ↓reduceIte, reduceAdd, reduceLeDiff, ME, sls_lo (show 0 ≤ m.n ∧ m.n ≤ 5 by omega)]); (try with_reducible rfl); done))); (focus (first | (exact hal))); (focus ((first | refine snap_plain ?_ rfl | apply snap_data); repeat' (first | exact snapL_nil | apply snapL_i | apply snapL_dat)))) | (apply w_cond; (focus ((try simp only [simB0, ZA, reduceEqDiff, ↓reduceIte, reduceAdd, reduceLeDiff, ME, sls_lo (show 0 ≤ m.n ∧ m.n ≤ 5 by omega)]); (try with_reducible rfl); done)); all_goals (intro _hg; (try simp only [ZB] at _hg); try first | exact absurd trivial _hg | (exfalso; omega))) | (refine e_ends rfl ?_) | (apply r_1; (focus (simp only [rv, simB0, ZA, reduceEqDiff, ↓reduceIte, reduceAdd, reduceLeDiff, ME, sls_lo (show 0 ≤ m.n ∧ m.n ≤ 5 by omega)]; with_reducible rfl))))
  · refine snap_int ?_
    rw [hh, _hg]; rfl
  have hg2 : allB (x.heard.drop m.n.toNat) (-1) (-1) = true := _hg
  rw [hg2]
  simp only [Bool.not_true, Bool.false_eq_true, if_false]
  repeat' (first | apply w_block | apply a_n | apply o_nil | (apply o_val rfl rfl; (focus ((try simp (disch := omega) only [simB0, ZA, reduceEqDiff, ↓reduceIte, reduceAdd, reduceLeDiff, ZV, reduceCtorEq, ME, sls_hi (show 0 ≤ m.n ∧ m.n ≤ 5 by omega)]); first | with_reducible rfl | (apply s_ite; (focus omega); with_reducible rfl)))) | apply w_loop)
  have hlt : (x.heard.take m.n.toNat).length = m.n.toNat := by rw [List.length_take]; omega
  refine loopA (fun q => [(2, .ptr 0 8 0), (3, .iptr x.cells 0), (51, encV (x.heard.take m.n.toNat)), (52, .int .i64 m.n.toNat), (53, .int .i64 q)]) m.n.toNat (fun q => heardB m x q = true) (by simp (disch := omega) only [agr, ZG, reduceEqDiff, ↓reduceIte, show [x.h0, x.h1, x.h2, x.h3, x.h4] = x.heard from rfl, hlt]) ?_
  rintro q f1 f2
  by_cases hq : q < m.n.toNat
  rotate_left
  · repeat' (first | apply w_seq | apply w_ops0 | apply w_exit | apply w_ret | apply a_n | apply a_x | apply o_nil | (apply o_val rfl rfl; (focus ((try simp (disch := omega) only [simB0, ZA, reduceEqDiff, ↓reduceIte, reduceAdd, reduceLeDiff, ZV, reduceCtorEq, ME]); first | with_reducible rfl | (apply s_ite; (focus omega); with_reducible rfl)))) | (apply w_cond; (focus ((try simp only [simB0, ZA, reduceEqDiff, ↓reduceIte, reduceAdd, reduceLeDiff, ME]); (try with_reducible rfl); done)); all_goals (intro _hg; (try simp only [ZB] at _hg); try first | exact absurd trivial _hg | (exfalso; omega))) | (refine e_ends rfl ?_) | (apply r_1; (focus (simp only [rv, simB0, ZA, reduceEqDiff, ↓reduceIte, reduceAdd, reduceLeDiff, ME]; with_reducible rfl))))
    refine snap_int ?_
    rw [range_all_true fun i hi => f2 i (by omega)]; rfl
  have hgt : (x.heard.take m.n.toNat).getD q default = x.heard.getD q default := getD_take hq
  have hlo := shaped_out hsh (k := x.round.toNat) (by omega)
  have hsz := s5 _ (mem_getD (l := m.out) (k := x.round.toNat) (by omega)) _ (mem_getD (l := m.out.getD x.round.toNat default) (k := q) (by omega))
  have hsz' : ((m.out.getD x.round.toNat default).getD q default).length ≤ 9223372036854775807 := hsz
  have c1 := in_c (x.heard.getD q default) 0 ((((m.out.getD x.round.toNat default).getD q default).length : Int) - 1)
  have c2 := in_c (x.heard.getD q default) (-1) 1048576
  by_cases hqp : (q : Int) = x.proc
  · have hv : heardB m x q = inB (x.heard.getD q default) 0 ((((m.out.getD x.round.toNat default).getD q default).length : Int) - 1) := by
      unfold heardB; rw [if_pos hqp]
    rw [← hv] at c1
    have dq1 : decide ((q : Int) = x.proc) = true := decide_eq_true hqp
    have dq2 : decide ((q : Int) ≠ x.proc) = false := decide_eq_false (fun h => h hqp)
    repeat' (first | apply w_seq | apply w_ops0 | apply w_block | apply w_skip | apply w_ret | apply a_n | apply a_r | apply o_nil | (apply o_val rfl rfl; (focus ((try simp (disch := omega) only [simB0, ZA, reduceEqDiff, ↓reduceIte, reduceAdd, reduceLeDiff, ZV, reduceCtorEq, ME, hlt, hgt, dq1, dq2, Bool.false_eq_true]); first | with_reducible rfl | (apply s_ite; (focus omega); with_reducible rfl)))) | (apply o_callD; (iterate 2 (focus ((try simp only [simB0, ZA, reduceEqDiff, ↓reduceIte, reduceAdd, reduceLeDiff, ME, hlt, hgt, dq1, dq2, Bool.false_eq_true]); (try with_reducible rfl); done))); (focus (first | (exact c1))); (focus ((first | refine snap_plain ?_ rfl | apply snap_data); repeat' (first | exact snapL_nil | apply snapL_i | apply snapL_dat)))) | (apply o_gT; (focus (simp only [simB0, ZA, reduceEqDiff, ↓reduceIte, reduceAdd, reduceLeDiff, ME, hlt, hgt, dq1, dq2, Bool.false_eq_true]; done))) | (apply o_gF; (focus (simp only [simB0, ZA, reduceEqDiff, ↓reduceIte, reduceAdd, reduceLeDiff, or_true, true_or, ME, hlt, hgt, dq1, dq2, Bool.false_eq_true]; done))) | (apply w_condT; (focus (simp only [simB0, ZA, reduceEqDiff, ↓reduceIte, reduceAdd, reduceLeDiff, ME, hlt, hgt, dq1, dq2, Bool.false_eq_true]; done))) | (apply w_condF; (focus (simp only [simB0, ZA, reduceEqDiff, ↓reduceIte, reduceAdd, reduceLeDiff, ME, hlt, hgt, dq1, dq2, Bool.false_eq_true]; done))) | ((first | apply o_gB | apply w_cond); (focus ((try simp only [simB0, ZA, reduceEqDiff, ↓reduceIte, reduceAdd, reduceLeDiff, ME, hlt, hgt, dq1, dq2, Bool.false_eq_true]); (try with_reducible rfl); done)); all_goals (intro _hg; (try simp only [ZB] at _hg); try first | exact absurd trivial _hg | (exfalso; omega))) | (refine e_ends rfl ?_) | (apply r_1; (focus (simp only [rv, simB0, ZA, reduceEqDiff, ↓reduceIte, reduceAdd, reduceLeDiff, ME, hlt, hgt, dq1, dq2, Bool.false_eq_true]; with_reducible rfl))))
    all_goals first
      | exact ⟨hq, _hg, by simp (disch := omega) only [agr, ZG, reduceEqDiff, ↓reduceIte], rfl, rfl⟩
      | (refine snap_int ?_
         rw [range_all_false hq _hg]; rfl)
  · have hv : heardB m x q = inB (x.heard.getD q default) (-1) 1048576 := by
      unfold heardB; rw [if_neg hqp]
    rw [← hv] at c2
    have dq1 : decide ((q : Int) = x.proc) = false := decide_eq_false hqp
    have dq2 : decide ((q : Int) ≠ x.proc) = true := decide_eq_true hqp
    repeat' (first | apply w_seq | apply w_ops0 | apply w_block | apply w_skip | apply w_ret | apply a_n | apply a_r | apply o_nil | (apply o_val rfl rfl; (focus ((try simp (disch := omega) only [simB0, ZA, reduceEqDiff, ↓reduceIte, reduceAdd, reduceLeDiff, ZV, reduceCtorEq, ME, hlt, hgt, dq1, dq2, Bool.false_eq_true]); first | with_reducible rfl | (apply s_ite; (focus omega); with_reducible rfl)))) | (apply o_callD; (iterate 2 (focus ((try simp only [simB0, ZA, reduceEqDiff, ↓reduceIte, reduceAdd, reduceLeDiff, ME, hlt, hgt, dq1, dq2, Bool.false_eq_true]); (try with_reducible rfl); done))); (focus (first | (exact c2))); (focus ((first | refine snap_plain ?_ rfl | apply snap_data); repeat' (first | exact snapL_nil | apply snapL_i | apply snapL_dat)))) | (apply o_gT; (focus (simp only [simB0, ZA, reduceEqDiff, ↓reduceIte, reduceAdd, reduceLeDiff, ME, hlt, hgt, dq1, dq2, Bool.false_eq_true]; done))) | (apply o_gF; (focus (simp only [simB0, ZA, reduceEqDiff, ↓reduceIte, reduceAdd, reduceLeDiff, or_true, true_or, ME, hlt, hgt, dq1, dq2, Bool.false_eq_true]; done))) | (apply w_cond; (focus ((try simp only [simB0, ZA, reduceEqDiff, ↓reduceIte, reduceAdd, reduceLeDiff, ME, hlt, hgt, dq1, dq2, Bool.false_eq_true]); (try with_reducible rfl); done)); all_goals (intro _hg; (try simp only [ZB] at _hg); try first | exact absurd trivial _hg | (exfalso; omega))) | (refine e_ends rfl ?_) | (apply r_1; (focus (simp only [rv, simB0, ZA, reduceEqDiff, ↓reduceIte, reduceAdd, reduceLeDiff, ME, hlt, hgt, dq1, dq2, Bool.false_eq_true]; with_reducible rfl))))
    all_goals first
      | exact ⟨hq, _hg, by simp (disch := omega) only [agr, ZG, reduceEqDiff, ↓reduceIte], rfl, rfl⟩
      | (refine snap_int ?_
         rw [range_all_false hq _hg]; rfl)

end Go.Proofs.Ytpbjhjkfobapeaa

/- Q10: contracts of functions and plain laws; for all inputs that the theorems name. -/
namespace Go.Proofs.Ytpbjhjkfobapeaa
open Go Go.Abs
open Nat (reduceEqDiff reduceAdd reduceLeDiff)

def stepsF (m : MachV) : Option StepV → List StepV → Int
  | _, [] => 0
  | prev, s :: l => if stepI m s ≠ 0 then stepI m s else if prev.any (fun p => decide (0 ≤ orderS p s)) = true then 14 else stepsF m (some s) l
def numsB (m : MachV) : Bool := inB m.n 1 5 && (inB m.rounds 0 6 && (inB m.ins 1 8 && inB m.outs 1 8))
def chkM (m : MachV) : Int :=
  if !numsB m then 2 else if !shapedB m then 15 else if 8192 < statesN m ∨ 65536 < m.steps.length then 5 else if !rangedB m then 2 else stepsF m none m.steps
def prevS (m : MachV) (k : Nat) : Option StepV := if k = 0 then none else some (m.steps.getD (k - 1) default)

theorem lens_le {l : List (List Int)} {b : Nat} (h : ∀ x ∈ l, x.length ≤ b) : lens l ≤ l.length * b := by
  induction l with
  | nil => simp [lens]
  | cons x l ih =>
    have h1 := h x (by simp)
    have h2 := ih (fun y hy => h y (by simp [hy]))
    simp only [lens, List.map_cons, List.sum_cons, List.length_cons] at h2 ⊢
    rw [Nat.add_mul]; omega
theorem sumlens_le {l : List (List (List Int))} {b : Nat} (h : ∀ x ∈ l, lens x ≤ b) : (l.map lens).sum ≤ l.length * b := by
  induction l with
  | nil => simp
  | cons x l ih =>
    have h1 := h x (by simp)
    have h2 := ih (fun y hy => h y (by simp [hy]))
    simp only [List.map_cons, List.sum_cons, List.length_cons] at h2 ⊢
    rw [Nat.add_mul]; omega
theorem states_le {m : MachV} (hs : ShM m) (hn : 1 ≤ m.n ∧ m.n ≤ 5) (hr : 0 ≤ m.rounds ∧ m.rounds ≤ 6) (hsh : shapedB m = true) : statesN m ≤ 7 * (5 * 140737488355328) := by
  obtain ⟨l1, l2, l3⟩ := shaped_len hsh
  have h : ∀ x ∈ m.out, lens x ≤ 5 * 140737488355328 := fun x hx => by
    refine Nat.le_trans (lens_le (hs.out3 x hx)) (Nat.mul_le_mul_right _ ?_)
    obtain ⟨i, hi, e⟩ := List.getElem_of_mem hx
    have := shaped_out hsh hi
    rw [show m.out.getD i default = x by simp [List.getD, hi, e]] at this
    omega
  have h2 := sumlens_le h
  have h3 : m.out.length * (5 * 140737488355328) ≤ 7 * (5 * 140737488355328) := Nat.mul_le_mul_right _ (by omega)
  exact Nat.le_trans h2 h3
attribute [local irreducible] awp2 aops2 ains aloop athen bbind obind gbind acond res1 Go.Abs.Fn PCall Go.Abs.Pure SnapArgs SnapL Yl

theorem check_c (m : MachV) (hs : ShM m) : Pure Try.prog 26 [encM m] (.int .i64 (chkM m)) := by
  refine Pure.of_c2 follows is26 (Nat.le_of_ble_eq_true rfl) ?_
  simp only [b26, O, G, N, M, D, F, B2, cFal, cTru]
  have hs0 := hs
  obtain ⟨s1, s2, s3, s4, s5, s5b, s6, s7, s8, s9, s10⟩ := hs0
  have e10 : m.steps.length ≤ 9223372036854775807 := s10
  have c1 := in_c m.n 1 5
  have c2 := in_c m.rounds 0 6
  have c3 := in_c m.ins 1 8
  have c4 := in_c m.outs 1 8
  refine w_seq ?_
  repeat' (first | apply w_ops0 | apply a_n | apply o_nil | (apply o_val rfl rfl; (focus ((try simp (disch := omega) only [simB0, ZA, reduceEqDiff, ↓reduceIte, reduceAdd, reduceLeDiff, ZV, reduceCtorEq, ME]); first | with_reducible rfl | (apply s_ite; (focus omega); with_reducible rfl)))) | (apply e_box rfl; (iterate 2 (focus ((try simp only [simB0, ZA, reduceEqDiff, ↓reduceIte, reduceAdd, reduceLeDiff, ME]); (try with_reducible rfl); done))); (focus (simp only [SO, Bool.and_self, one_encV, one_encVV, ME]))))
  refine w_seqC (fun T H nx => T 1 = .ptr 0 8 0 ∧ H = hupd noBoxes 0 m.cells ∧ nx = 1 ∧ (1 ≤ m.n ∧ m.n ≤ 5) ∧ (0 ≤ m.rounds ∧ m.rounds ≤ 6) ∧ shapedB m = true ∧ chkM m = stepsF m none m.steps) ?_ ?_
  · refine w_block ?_
    refine w_seqC (fun T H nx => T 1 = .ptr 0 8 0 ∧ H = hupd noBoxes 0 m.cells ∧ nx = 1 ∧ T 6 = .bool (!numsB m)) ?_ ?_
    · repeat' (first | apply w_ops0 | apply a_n | apply o_nil | (apply o_val rfl rfl; (focus ((try simp (disch := omega) only [simB0, ZA, reduceEqDiff, ↓reduceIte, reduceAdd, reduceLeDiff, ZV, reduceCtorEq, ME]); first | with_reducible rfl | (apply s_ite; (focus omega); with_reducible rfl)))) | (apply o_callD; (iterate 2 (focus ((try simp only [simB0, ZA, reduceEqDiff, ↓reduceIte, reduceAdd, reduceLeDiff, ME]); (try with_reducible rfl); done))); (focus (first | (exact c1) | (exact c2) | (exact c3) | (exact c4))); (focus ((first | refine snap_plain ?_ rfl | apply snap_data); repeat' (first | exact snapL_nil | apply snapL_i | apply snapL_dat)))) | (apply o_gT; (focus (simp only [simB0, ZA, reduceEqDiff, ↓reduceIte, reduceAdd, reduceLeDiff, ME]; done))) | (apply o_gF; (focus (simp only [simB0, ZA, reduceEqDiff, ↓reduceIte, reduceAdd, reduceLeDiff, or_true, true_or, ME]; done))) | (apply o_gB; (focus ((try simp only [simB0, ZA, reduceEqDiff, ↓reduceIte, reduceAdd, reduceLeDiff, ME]); (try with_reducible rfl); done)); all_goals (intro _hg; (try simp only [ZB] at _hg); try first | exact absurd trivial _hg | (exfalso; omega))))
      all_goals (refine ⟨rfl, rfl, rfl, ?_⟩; ((try simp only [simB0, ZA, reduceEqDiff, ↓reduceIte, reduceAdd, reduceLeDiff]); (try with_reducible rfl)); unfold numsB; simp [*])
    rintro T H nx ⟨t1, rfl, rfl, t6⟩
    by_cases hN : numsB m = true
    rotate_left
    · have e : chkM m = 2 := by
        unfold chkM; rw [Bool.not_eq_true] at hN; rw [hN]; rfl
      rw [e]
      rw [Bool.not_eq_true] at hN
      rw [hN] at t6
      repeat' (first | apply w_seq | apply w_ops0 | apply w_ret | apply a_n | apply a_r | apply o_nil | (apply o_val rfl rfl; (focus ((try simp (disch := omega) only [simB0, ZA, reduceEqDiff, ↓reduceIte, reduceAdd, reduceLeDiff, ZV, reduceCtorEq, ME, t1, t6]); first | with_reducible rfl | (apply s_ite; (focus omega); with_reducible rfl)))) | (apply w_condT; (focus (simp only [simB0, ZA, reduceEqDiff, ↓reduceIte, reduceAdd, reduceLeDiff, ME, t1, t6]; done))) | (refine e_ends rfl ?_) | (apply r_1; (focus (simp only [rv, simB0, ZA, reduceEqDiff, ↓reduceIte, reduceAdd, reduceLeDiff, ME, t1, t6]; with_reducible rfl))))
      exact .int _ _
    have hN0 := hN
    unfold numsB at hN
    simp only [Bool.and_eq_true] at hN
    obtain ⟨i1, i2, i3, i4⟩ := hN
    rw [hN0] at t6
    have n1 : 1 ≤ m.n ∧ m.n ≤ 5 := of_decide_eq_true i1
    have n2 : 0 ≤ m.rounds ∧ m.rounds ≤ 6 := of_decide_eq_true i2
    have n4 : 1 ≤ m.outs ∧ m.outs ≤ 8 := of_decide_eq_true i4
    have c5 := shaped_c m hs n1 n2
    cases hsh : shapedB m with
    | false =>
      have e : chkM m = 15 := by
        unfold chkM; rw [hN0, hsh]; rfl
      rw [e]
      rw [hsh] at c5
      have em := encM_dat m
      unfold encM MachV.cells at c5 em
      repeat' (first | apply w_seq | apply w_ops0 | apply w_ret | apply a_n | apply a_r | apply o_nil | (apply o_val rfl rfl; (focus ((try simp (disch := omega) only [simB0, ZA, reduceEqDiff, ↓reduceIte, reduceAdd, reduceLeDiff, ZV, reduceCtorEq, ME, t1, t6, Bool.false_eq_true]); first | with_reducible rfl | (apply s_ite; (focus omega); with_reducible rfl)))) | (apply o_callD; (iterate 2 (focus ((try simp only [simB0, ZA, reduceEqDiff, ↓reduceIte, reduceAdd, reduceLeDiff, ME, t1, t6, Bool.false_eq_true]); (try with_reducible rfl); done))); (focus (first | (exact c5))); (focus ((first | refine snap_plain ?_ rfl | apply snap_data); repeat' (first | exact snapL_nil | apply snapL_i | apply snapL_dat | exact em)))) | (apply w_condT; (focus (simp only [simB0, ZA, reduceEqDiff, ↓reduceIte, reduceAdd, reduceLeDiff, ME, t1, t6, Bool.false_eq_true]; done))) | (apply w_condF; (focus (simp only [simB0, ZA, reduceEqDiff, ↓reduceIte, reduceAdd, reduceLeDiff, ME, t1, t6, Bool.false_eq_true]; done))) | (refine e_ends rfl ?_) | (apply r_1; (focus (simp only [rv, simB0, ZA, reduceEqDiff, ↓reduceIte, reduceAdd, reduceLeDiff, ME, t1, t6, Bool.false_eq_true]; with_reducible rfl))))
      exact .int _ _
    | true =>
      rw [hsh] at c5
      have hle := states_le hs n1 n2 hsh
      have c6 := states_c m s3 (by omega) s4
      have c7 := ranged_c m hs n1 n2 n4 hsh
      have em := encM_dat m
      have e : ¬ (8192 < statesN m ∨ 65536 < m.steps.length) → rangedB m = true → chkM m = stepsF m none m.steps := fun h1 h2 => by
        unfold chkM; rw [hN0, hsh, if_neg h1, h2]; rfl
      have e5 : (8192 < statesN m ∨ 65536 < m.steps.length) → chkM m = 5 := fun h1 => by
        unfold chkM; rw [hN0, hsh, if_pos h1]; rfl
      have e2 : ¬ (8192 < statesN m ∨ 65536 < m.steps.length) → rangedB m = false → chkM m = 2 := fun h1 h2 => by
        unfold chkM; rw [hN0, hsh, if_neg h1, h2]; rfl
      unfold encM MachV.cells at c5 c6 c7 em
      generalize statesN m = q at *
      repeat' (first | apply w_seq | apply w_ops0 | apply w_skip | apply w_ret | apply a_n | apply a_r | apply o_nil | (apply o_val rfl rfl; (focus ((try simp (disch := omega) only [simB0, ZA, reduceEqDiff, ↓reduceIte, reduceAdd, reduceLeDiff, ZV, reduceCtorEq, ME, t1, t6, Bool.false_eq_true]); first | with_reducible rfl | (apply s_ite; (focus omega); with_reducible rfl)))) | (apply o_callD; (iterate 2 (focus ((try simp only [simB0, ZA, reduceEqDiff, ↓reduceIte, reduceAdd, reduceLeDiff, ME, t1, t6, Bool.false_eq_true]); (try with_reducible rfl); done))); (focus (first | (exact c5) | (exact c6) | (exact c7))); (focus ((first | refine snap_plain ?_ rfl | apply snap_data); repeat' (first | exact snapL_nil | apply snapL_i | apply snapL_dat | exact em)))) | (apply o_gT; (focus (simp only [simB0, ZA, reduceEqDiff, ↓reduceIte, reduceAdd, reduceLeDiff, ME, t1, t6, Bool.false_eq_true]; done))) | (apply o_gF; (focus (simp only [simB0, ZA, reduceEqDiff, ↓reduceIte, reduceAdd, reduceLeDiff, or_true, true_or, ME, t1, t6, Bool.false_eq_true]; done))) | (apply w_condT; (focus (simp only [simB0, ZA, reduceEqDiff, ↓reduceIte, reduceAdd, reduceLeDiff, ME, t1, t6, Bool.false_eq_true]; done))) | (apply w_condF; (focus (simp only [simB0, ZA, reduceEqDiff, ↓reduceIte, reduceAdd, reduceLeDiff, ME, t1, t6, Bool.false_eq_true]; done))) | ((first | apply o_gB | apply w_cond); (focus ((try simp only [simB0, ZA, reduceEqDiff, ↓reduceIte, reduceAdd, reduceLeDiff, ME, t1, t6, Bool.false_eq_true]); (try with_reducible rfl); done)); all_goals (intro _hg; (try simp only [ZB] at _hg); try first | exact absurd trivial _hg | (exfalso; omega))) | (refine e_ends rfl ?_) | (apply r_1; (focus (simp only [rv, simB0, ZA, reduceEqDiff, ↓reduceIte, reduceAdd, reduceLeDiff, ME, t1, t6, Bool.false_eq_true]; with_reducible rfl))))
      all_goals first
        | (rw [e5 (by omega)]; exact .int _ _)
        | (rw [e2 (by omega) _hg]; exact .int _ _)
        | exact ⟨by ((try simp only [simB0, ZA, reduceEqDiff, ↓reduceIte, reduceAdd, reduceLeDiff, t1]); (try with_reducible rfl)), rfl, rfl, n1, n2, by first | exact hsh | rfl, e (by omega) _hg⟩
  rintro T H nx ⟨t1, rfl, rfl, n1, n2, hsh, hchk⟩
  rw [hchk]
  clear c1 c2 c3 c4 hchk
  repeat' (first | apply w_seq | apply w_ops0 | apply w_block | apply a_n | apply o_nil | (apply o_val rfl rfl; (focus ((try simp (disch := omega) only [simB0, ZA, reduceEqDiff, ↓reduceIte, reduceAdd, reduceLeDiff, ZV, reduceCtorEq, ME, t1]); first | with_reducible rfl | (apply s_ite; (focus omega); with_reducible rfl)))) | apply w_loop)
  refine loopI (X := Nat) (fun k => [(1, .ptr 0 8 0), (48, encSteps m.steps), (49, .int .i64 m.steps.length), (50, .int .i64 k)])
    (fun k H nx => k ≤ m.steps.length ∧ 1 ≤ nx ∧ H 0 = some m.cells ∧ stepsF m none m.steps = stepsF m (prevS m k) (m.steps.drop k)) (fun k => m.steps.length - k) 0 ⟨Nat.zero_le _, Nat.le_refl _, hupd_self', rfl⟩ (by simp (disch := omega) only [agr, ZG, reduceEqDiff, ↓reduceIte, t1]) ?_
  clear t1
  rintro k H nx ⟨h1, h2, g0, hF⟩
  by_cases hk : k < m.steps.length
  rotate_left
  · repeat' (first | apply w_seq | apply w_ops0 | apply w_exit | apply w_ret | apply a_n | apply a_x | apply o_nil | (apply o_val rfl rfl; (focus ((try simp (disch := omega) only [simB0, ZA, reduceEqDiff, ↓reduceIte, reduceAdd, reduceLeDiff, ZV, reduceCtorEq, ME]); first | with_reducible rfl | (apply s_ite; (focus omega); with_reducible rfl)))) | (apply w_cond; (focus ((try simp only [simB0, ZA, reduceEqDiff, ↓reduceIte, reduceAdd, reduceLeDiff, ME]); (try with_reducible rfl); done)); all_goals (intro _hg; (try simp only [ZB] at _hg); try first | exact absurd trivial _hg | (exfalso; omega))) | (refine e_ends rfl ?_) | (apply r_1; (focus (simp only [rv, simB0, ZA, reduceEqDiff, ↓reduceIte, reduceAdd, reduceLeDiff, ME]; with_reducible rfl))))
    rw [hF, List.drop_eq_nil_of_le (by omega)]
    exact .int _ _
  have hd := drop_cons hk
  have hst := step_c m (m.steps.getD k default) hs n1 n2 hsh
  have hor := order_c (m.steps.getD (k - 1) default) (m.steps.getD k default)
  rw [hd, stepsF] at hF
  have em := encM_dat m
  have es := encStep_dat (m.steps.getD k default)
  have es2 := encStep_dat (m.steps.getD (k - 1) default)
  have hpv : prevS m k = if k = 0 then none else some (m.steps.getD (k - 1) default) := rfl
  have hpv2 : prevS m (k + 1) = some (m.steps.getD k default) := rfl
  generalize hs1 : m.steps.getD k default = s at *
  generalize hs2 : m.steps.getD (k - 1) default = s' at *
  generalize hei : stepI m s = ei at *
  generalize hoi : orderS s' s = oi at *
  have et : ((k : Int) - 1).toNat = k - 1 := by omega
  unfold encM MachV.cells at hst em
  unfold encStep StepV.cells at hst hor es es2
  rw [show m.cells = _ from rfl] at g0
  by_cases hk0 : k = 0
  · rw [hpv, if_pos hk0] at hF
    simp only [Option.any_none, Bool.false_eq_true, if_false] at hF
    have dk : decide ((0 : Int) < k) = false := decide_eq_false (by omega)
    repeat' (first | apply w_seq | apply w_ops0 | apply w_mixS1 | apply w_block | apply w_skip | apply w_ret | apply a_n | apply a_r | apply o_nil | (apply o_val rfl; (focus (first | rfl | (simp (disch := omega) only [dm2, oldP, newP, simB0, ZA, reduceEqDiff, ↓reduceIte, reduceAdd, reduceLeDiff, decide_eq_true_eq]; first | done | omega))); (focus ((try simp (disch := omega) only [simB2, ZA, reduceEqDiff, ↓reduceIte, reduceAdd, reduceLeDiff, ZV, reduceCtorEq, ME, g0, hs1, hs2, et, dk]); first | with_reducible rfl | (apply s_ite; (focus omega); with_reducible rfl)))) | (apply o_callD; (iterate 2 (focus ((try simp (disch := omega) only [simB2, ZA, reduceEqDiff, ↓reduceIte, reduceAdd, reduceLeDiff, ME, g0, hs1, hs2, et, dk]); (try with_reducible rfl); done))); (focus (first | (exact hst))); (focus ((first | refine snap_plain ?_ rfl | apply snap_data); repeat' (first | exact snapL_nil | apply snapL_i | apply snapL_dat | exact em | exact es)))) | (apply e_alloc rfl; (focus ((try simp (disch := omega) only [simB2, ZA, reduceEqDiff, ↓reduceIte, reduceAdd, reduceLeDiff, ME, g0, hs1, hs2, et, dk]); (try with_reducible rfl); done)); (focus (simp (disch := omega) only [SO, Bool.and_self, one_encV, one_encVV, ME, g0, hs1, hs2, et, dk]))) | (apply e_st; (focus (first | rfl | (simp (disch := omega) only [dm2, oldP, newP, simB0, ZA, reduceEqDiff, ↓reduceIte, reduceAdd, reduceLeDiff, decide_eq_true_eq]; first | done | omega))); (iterate 4 (focus ((try simp (disch := omega) only [simB2, ZA, reduceEqDiff, ↓reduceIte, reduceAdd, reduceLeDiff, ME, g0, hs1, hs2, et, dk]); (try with_reducible rfl); done))); (focus (simp (disch := omega) only [SO, Bool.and_self, one_encV, one_encVV, ME, g0, hs1, hs2, et, dk])); (iterate 3 (focus ((try simp (disch := omega) only [SL, reduceAdd, Nat.reduceMul, List.length_map]); first | done | omega)))) | (apply o_gF; (focus (simp (disch := omega) only [simB2, ZA, reduceEqDiff, ↓reduceIte, reduceAdd, reduceLeDiff, or_true, true_or, ME, g0, hs1, hs2, et, dk]; done))) | (apply w_condF; (focus (simp (disch := omega) only [simB2, ZA, reduceEqDiff, ↓reduceIte, reduceAdd, reduceLeDiff, ME, g0, hs1, hs2, et, dk]; done))) | (apply w_cond; (focus ((try simp (disch := omega) only [simB2, ZA, reduceEqDiff, ↓reduceIte, reduceAdd, reduceLeDiff, ME, g0, hs1, hs2, et, dk]); (try with_reducible rfl); done)); all_goals (intro _hg; (try simp (disch := omega) only [ZB] at _hg); try first | exact absurd trivial _hg | (exfalso; omega))) | (refine e_ends rfl ?_) | (apply r_1; (focus (simp (disch := omega) only [rv, simB2, ZA, reduceEqDiff, ↓reduceIte, reduceAdd, reduceLeDiff, ME, g0, hs1, hs2, et, dk]; with_reducible rfl))))
    · rw [hF, if_pos _hg]; exact .int _ _
    all_goals
      refine ⟨k + 1, by omega, ⟨by omega, by omega, ?_, ?_⟩, by simp (disch := omega) only [agr, ZG, reduceEqDiff, ↓reduceIte]⟩
      · rw [hupd_ne (by omega), hupd_ne (by omega), g0]
      · rw [hF, if_neg ‹_›, hpv2]
  · rw [hpv, if_neg hk0, Option.any_some, hoi] at hF
    have dk : decide ((0 : Int) < k) = true := decide_eq_true (by omega)
    repeat' (first | apply w_seq | apply w_ops0 | apply w_mixS1 | apply w_block | apply w_skip | apply w_ret | apply a_n | apply a_r | apply o_nil | (apply o_val rfl; (focus (first | rfl | (simp (disch := omega) only [dm2, oldP, newP, simB0, ZA, reduceEqDiff, ↓reduceIte, reduceAdd, reduceLeDiff, decide_eq_true_eq]; first | done | omega))); (focus ((try simp (disch := omega) only [simB2, ZA, reduceEqDiff, ↓reduceIte, reduceAdd, reduceLeDiff, ZV, reduceCtorEq, ME, g0, hs1, hs2, et, dk]); first | with_reducible rfl | (apply s_ite; (focus omega); with_reducible rfl)))) | (apply o_callD; (iterate 2 (focus ((try simp (disch := omega) only [simB2, ZA, reduceEqDiff, ↓reduceIte, reduceAdd, reduceLeDiff, ME, g0, hs1, hs2, et, dk]); (try with_reducible rfl); done))); (focus (first | (exact hst) | (exact hor))); (focus ((first | refine snap_plain ?_ rfl | apply snap_data); repeat' (first | exact snapL_nil | apply snapL_i | apply snapL_dat | exact em | exact es | exact es2)))) | (apply e_alloc rfl; (focus ((try simp (disch := omega) only [simB2, ZA, reduceEqDiff, ↓reduceIte, reduceAdd, reduceLeDiff, ME, g0, hs1, hs2, et, dk]); (try with_reducible rfl); done)); (focus (simp (disch := omega) only [SO, Bool.and_self, one_encV, one_encVV, ME, g0, hs1, hs2, et, dk]))) | (apply e_st; (focus (first | rfl | (simp (disch := omega) only [dm2, oldP, newP, simB0, ZA, reduceEqDiff, ↓reduceIte, reduceAdd, reduceLeDiff, decide_eq_true_eq]; first | done | omega))); (iterate 4 (focus ((try simp (disch := omega) only [simB2, ZA, reduceEqDiff, ↓reduceIte, reduceAdd, reduceLeDiff, ME, g0, hs1, hs2, et, dk]); (try with_reducible rfl); done))); (focus (simp (disch := omega) only [SO, Bool.and_self, one_encV, one_encVV, ME, g0, hs1, hs2, et, dk])); (iterate 3 (focus ((try simp (disch := omega) only [SL, reduceAdd, Nat.reduceMul, List.length_map]); first | done | omega)))) | (apply o_gT; (focus (simp (disch := omega) only [simB2, ZA, reduceEqDiff, ↓reduceIte, reduceAdd, reduceLeDiff, ME, g0, hs1, hs2, et, dk]; done))) | (apply w_cond; (focus ((try simp (disch := omega) only [simB2, ZA, reduceEqDiff, ↓reduceIte, reduceAdd, reduceLeDiff, ME, g0, hs1, hs2, et, dk]); (try with_reducible rfl); done)); all_goals (intro _hg; (try simp (disch := omega) only [ZB] at _hg); try first | exact absurd trivial _hg | (exfalso; omega))) | (refine e_ends rfl ?_) | (apply r_1; (focus (simp (disch := omega) only [rv, simB2, ZA, reduceEqDiff, ↓reduceIte, reduceAdd, reduceLeDiff, ME, g0, hs1, hs2, et, dk]; with_reducible rfl))))
    · rw [hF, if_pos _hg]; exact .int _ _
    · rw [hF, if_neg ‹_›, if_pos (decide_eq_true _hg)]; exact .int _ _
    · refine ⟨k + 1, by omega, ⟨by omega, by omega, ?_, ?_⟩, by simp (disch := omega) only [agr, ZG, reduceEqDiff, ↓reduceIte]⟩
      · rw [hupd_ne (by omega), hupd_ne (by omega), g0]
      · rw [hF, if_neg ‹_›, if_neg (by simpa using _hg), hpv2]

end Go.Proofs.Ytpbjhjkfobapeaa

/- Q11: contracts of functions and plain laws; for all inputs that the theorems name. -/
namespace Go.Proofs.Ytpbjhjkfobapeaa
open Go Go.Abs
open Nat (reduceEqDiff reduceAdd reduceLeDiff)

structure PlaceV where
  r : Int
  f : Int
  t : Int
  deriving DecidableEq, Inhabited
def encP (x : PlaceV) : AV := .agg [.int .i64 x.r, .int .i64 x.f, .int .i64 x.t]
theorem encP_dat (x : PlaceV) : Dat (encP x) := Dat.agg (DatL.cons .int (DatL.cons .int (DatL.cons .int DatL.nil)))
theorem ksame_P (a b : PlaceV) : ksame (.st [.int, .int, .int]) (encP a) (encP b) = some (decide (a = b)) := by
  obtain ⟨a1, a2, a3⟩ := a
  obtain ⟨b1, b2, b3⟩ := b
  have e : ∀ a b : Int, (a == b) = decide (a = b) := fun a b => by rw [Bool.eq_iff_iff]; simp
  simp only [ksame, encP, sameL, same1, if_true, e, PlaceV.mk.injEq]
  by_cases h1 : a1 = b1
  · by_cases h2 : a2 = b2
    · by_cases h3 : a3 = b3
      · simp only [h1, h2, h3, decide_true, and_self]
      · simp only [h1, h2, h3, decide_true, decide_false, and_false]
    · by_cases h3 : a3 = b3
      · simp only [h1, h2, h3, decide_true, decide_false, and_true, and_false]
      · simp only [h1, h2, h3, decide_true, decide_false, and_true, and_false]
  · by_cases h2 : a2 = b2
    · by_cases h3 : a3 = b3
      · simp only [h1, h2, h3, decide_true, decide_false, false_and]
      · simp only [h1, h2, h3, decide_true, decide_false, false_and]
    · by_cases h3 : a3 = b3
      · simp only [h1, h2, h3, decide_true, decide_false, false_and]
      · simp only [h1, h2, h3, decide_true, decide_false, false_and]
theorem mfind_P (v : PlaceV) (ks : List PlaceV) : mfind (.st [.int, .int, .int]) (encP v) (ks.map encP) = some (if v ∈ ks then some (ks.idxOf v) else none) := mfind_map _ encP ksame_P v ks

def placeI (m : MachV) (r f t : Int) : Int := if chkM m ≠ 0 then chkM m else if r < 0 ∨ m.rounds ≤ r ∨ f < 0 ∨ m.n ≤ f ∨ t < 0 ∨ m.n ≤ t then 2 else if f = t then 11 else 0
def symV (m : MachV) (x : PlaceV) : List Int := ((m.symbols.getD x.r.toNat default).getD x.f.toNat default).getD x.t.toNat default
attribute [local irreducible] awp2 aops2 ains aloop athen bbind obind gbind acond res1 Go.Abs.Fn PCall Go.Abs.Pure SnapArgs SnapL Yl

theorem place_c (m : MachV) (r f t : Int) (hs : ShM m) : Pure Try.prog 30 [encP ⟨r, f, t⟩, encM m] (.int .i64 (placeI m r f t)) := by
  refine Pure.of_c2 follows is30 (Nat.le_of_ble_eq_true rfl) ?_
  simp only [b30, O, G, N, M, D, F, B2, cFal, cTru]
  have hc := check_c m hs
  have em := encM_dat m
  unfold encM MachV.cells at hc em ⊢
  unfold encP placeI
  generalize chkM m = c at *
  refine w_seq ?_
  repeat' (first | apply w_ops0 | apply a_n | apply o_nil | (apply o_val rfl rfl; (focus ((try simp (disch := omega) only [simB0, ZA, reduceEqDiff, ↓reduceIte, reduceAdd, reduceLeDiff, ZV, reduceCtorEq, ME]); first | with_reducible rfl | (apply s_ite; (focus omega); with_reducible rfl)))) | (apply e_box rfl; (iterate 2 (focus ((try simp only [simB0, ZA, reduceEqDiff, ↓reduceIte, reduceAdd, reduceLeDiff, ME]); (try with_reducible rfl); done))); (focus (simp only [SO, Bool.and_self, one_encV, one_encVV, ME]))))
  refine w_seqC (fun T H nx => T 2 = .ptr 0 3 0 ∧ T 3 = .ptr 1 8 0 ∧ H = hupd (hupd noBoxes 0 [.int .i64 r, .int .i64 f, .int .i64 t]) 1 m.cells ∧ c = 0) ?_ ?_
  · repeat' (first | apply w_seq | apply w_ops0 | apply w_skip | apply w_ret | apply a_n | apply a_r | apply o_nil | (apply o_val rfl rfl; (focus ((try simp (disch := omega) only [simB0, ZA, reduceEqDiff, ↓reduceIte, reduceAdd, reduceLeDiff, ZV, reduceCtorEq, ME]); first | with_reducible rfl | (apply s_ite; (focus omega); with_reducible rfl)))) | (apply o_callD; (iterate 2 (focus ((try simp only [simB0, ZA, reduceEqDiff, ↓reduceIte, reduceAdd, reduceLeDiff, ME]); (try with_reducible rfl); done))); (focus (first | (exact hc))); (focus ((first | refine snap_plain ?_ rfl | apply snap_data); repeat' (first | exact snapL_nil | apply snapL_i | apply snapL_dat | exact em)))) | (apply w_cond; (focus ((try simp only [simB0, ZA, reduceEqDiff, ↓reduceIte, reduceAdd, reduceLeDiff, ME]); (try with_reducible rfl); done)); all_goals (intro _hg; (try simp only [ZB] at _hg); try first | exact absurd trivial _hg | (exfalso; omega))) | (refine e_ends rfl ?_) | (apply r_1; (focus (simp only [rv, simB0, ZA, reduceEqDiff, ↓reduceIte, reduceAdd, reduceLeDiff, ME]; with_reducible rfl))))
    · rw [if_pos _hg]; exact .int _ _
    · exact ⟨rfl, rfl, rfl, by omega⟩
  rintro T H nx ⟨t2, t3, rfl, rfl⟩
  rw [if_neg (by simp)]
  repeat' (first | apply w_seq | apply w_ops0 | apply w_block | apply w_skip | apply w_ret | apply a_n | apply a_r | apply o_nil | (apply o_val rfl rfl; (focus ((try simp (disch := omega) only [simB0, ZA, reduceEqDiff, ↓reduceIte, reduceAdd, reduceLeDiff, ZV, reduceCtorEq, ME, t2, t3]); first | with_reducible rfl | (apply s_ite; (focus omega); with_reducible rfl)))) | (apply o_gT; (focus (simp only [simB0, ZA, reduceEqDiff, ↓reduceIte, reduceAdd, reduceLeDiff, ME, t2, t3]; done))) | (apply o_gF; (focus (simp only [simB0, ZA, reduceEqDiff, ↓reduceIte, reduceAdd, reduceLeDiff, or_true, true_or, ME, t2, t3]; done))) | (apply w_condT; (focus (simp only [simB0, ZA, reduceEqDiff, ↓reduceIte, reduceAdd, reduceLeDiff, ME, t2, t3]; done))) | ((first | apply o_gB | apply w_cond); (focus ((try simp only [simB0, ZA, reduceEqDiff, ↓reduceIte, reduceAdd, reduceLeDiff, ME, t2, t3]); (try with_reducible rfl); done)); all_goals (intro _hg; (try simp only [ZB] at _hg); try first | exact absurd trivial _hg | (exfalso; omega))) | (refine e_ends rfl ?_) | (apply r_1; (focus (simp only [rv, simB0, ZA, reduceEqDiff, ↓reduceIte, reduceAdd, reduceLeDiff, ME, t2, t3]; with_reducible rfl))))
  all_goals first
    | (rw [if_pos (by omega)]; exact .int _ _)
    | (rw [if_neg (by omega), if_pos (by omega)]; exact .int _ _)
    | (rw [if_neg (by omega), if_neg (by omega)]; exact .int _ _)

theorem mset_same (ks : List (PlaceV)) (key : PlaceV) (g : PlaceV → AV) : msetV (g key) (if key ∈ ks then some (ks.idxOf key) else none) (ks.map g) = (if key ∈ ks then ks else ks ++ [key]).map g := by
  split
  · rename_i h
    show (ks.map g).set _ _ = ks.map g
    refine List.ext_getElem (by simp) (fun i h1 h2 => ?_)
    rw [List.getElem_set]
    split
    · rename_i e
      subst e
      simp
    · rfl
  · simp [msetV]
theorem msetK_same (ks : List (PlaceV)) (key : PlaceV) : msetK (encP key) (if key ∈ ks then some (ks.idxOf key) else none) (ks.map encP) = (if key ∈ ks then ks else ks ++ [key]).map encP := by
  split <;> simp [msetK]

theorem symbols_c (m : MachV) (r f t : Nat) (hs : ShM m) (h1 : r < m.symbols.length) (h2 : f < (m.symbols.getD r default).length) (h3 : t < ((m.symbols.getD r default).getD f default).length) : Pure Try.prog 31 [encM m, encP (⟨(r : Int), (f : Int), (t : Int)⟩ : PlaceV)] (encV (symV m (⟨(r : Int), (f : Int), (t : Int)⟩ : PlaceV))) := by
  refine Pure.of_c2 follows is31 (Nat.le_of_ble_eq_true rfl) ?_
  simp only [b31, O, G, N, M, D, F, B2, cFal, cTru]
  obtain ⟨s1, s2, s3, s4, s5, s5b, s6, s7, s8, s9, s10⟩ := hs
  have e6 : m.symbols.length ≤ 9223372036854775807 := s6
  have hpc : (encP (⟨(r : Int), (f : Int), (t : Int)⟩ : PlaceV)).cells = [.int .i64 (r : Int), .int .i64 (f : Int), .int .i64 (t : Int)] := rfl
  refine w_seq ?_
  repeat' (first | apply w_ops0 | apply a_n | apply o_nil | (apply o_val rfl rfl; (focus ((try simp (disch := omega) only [simB0, ZA, reduceEqDiff, ↓reduceIte, reduceAdd, reduceLeDiff, ZV, reduceCtorEq, ME, hpc]); first | with_reducible rfl | (apply s_ite; (focus omega); with_reducible rfl)))) | (apply e_box rfl; (iterate 2 (focus ((try simp only [simB0, ZA, reduceEqDiff, ↓reduceIte, reduceAdd, reduceLeDiff, ME, hpc]); (try with_reducible rfl); done))); (focus (simp only [SO, Bool.and_self, one_encV, one_encVV, ME, hpc]))))
  refine w_seq ?_
  repeat' (first | apply w_ops0)
  refine o_mkm ?_
  repeat' (first | apply w_seq | apply w_ops0 | apply w_block | apply a_n | apply o_nil | (apply o_val rfl rfl; (focus ((try simp (disch := omega) only [simB0, ZA, reduceEqDiff, ↓reduceIte, reduceAdd, reduceLeDiff, ZV, reduceCtorEq, ME]); first | with_reducible rfl | (apply s_ite; (focus omega); with_reducible rfl)))) | apply w_loop)
  let g : PlaceV → AV := fun x => encV (symV m x)
  refine loopI (X := Nat) (fun k => [(3, .ptr 1 3 0), (5, .mp 2), (14, encV4 m.symbols), (15, .int .i64 m.symbols.length), (16, .int .i64 k)])
    (fun k H nx => k ≤ m.symbols.length ∧ H 1 = some [.int .i64 (r : Int), .int .i64 (f : Int), .int .i64 (t : Int)] ∧ ∃ ks : List (PlaceV), H 2 = some [.omap (ks.map encP) (ks.map g)] ∧ (r < k → (⟨(r : Int), (f : Int), (t : Int)⟩ : PlaceV) ∈ ks)) (fun k => m.symbols.length - k) 0 ⟨Nat.zero_le _, rfl, [], rfl, fun h => by omega⟩ (by simp (disch := omega) only [agr, ZG, reduceEqDiff, ↓reduceIte, List.length_cons, List.length_nil, reduceAdd, Nat.zero_add]) ?_
  rintro k H nx ⟨k1, g1, ks, g2, k2⟩
  by_cases hk : k < m.symbols.length
  rotate_left
  · repeat' (first | apply w_seq | apply w_ops0 | apply w_exit | apply a_n | apply a_x | apply o_nil | (apply o_val rfl rfl; (focus ((try simp (disch := omega) only [simB0, ZA, reduceEqDiff, ↓reduceIte, reduceAdd, reduceLeDiff, ZV, reduceCtorEq, ME, g1]); first | with_reducible rfl | (apply s_ite; (focus omega); with_reducible rfl)))) | (apply w_cond; (focus ((try simp only [simB0, ZA, reduceEqDiff, ↓reduceIte, reduceAdd, reduceLeDiff, ME, g1]); (try with_reducible rfl); done)); all_goals (intro _hg; (try simp only [ZB] at _hg); try first | exact absurd trivial _hg | (exfalso; omega))))
    have hm := k2 (by omega)
    refine o_mget (kv := encP (⟨(r : Int), (f : Int), (t : Int)⟩ : PlaceV)) (by ((try simp only [simB0, ZA, reduceEqDiff, ↓reduceIte, reduceAdd, reduceLeDiff]); (try with_reducible rfl))) g2 (by ((try simp only [simB0, ZA, reduceEqDiff, ↓reduceIte, reduceAdd, reduceLeDiff]); (try with_reducible rfl)); rfl) rfl (mfind_P _ _) ?_
    rw [if_pos hm]
    have hi : ks.idxOf (⟨(r : Int), (f : Int), (t : Int)⟩ : PlaceV) < ks.length := List.idxOf_lt_length_iff.2 hm
    have e : Go.Abs.mget .esl false (some (ks.idxOf (⟨(r : Int), (f : Int), (t : Int)⟩ : PlaceV))) (ks.map g) = g (⟨(r : Int), (f : Int), (t : Int)⟩ : PlaceV) := by
      simp [Go.Abs.mget, List.getD, hi]
    rw [e]
    repeat' (first | apply w_ret | apply a_n | apply o_nil | (apply o_val rfl rfl; (focus ((try simp (disch := omega) only [simB0, ZA, reduceEqDiff, ↓reduceIte, reduceAdd, reduceLeDiff, ZV, reduceCtorEq]); first | with_reducible rfl | (apply s_ite; (focus omega); with_reducible rfl)))) | (refine e_ends rfl ?_) | (apply r_1; (focus (simp only [rv, simB0, ZA, reduceEqDiff, ↓reduceIte, reduceAdd, reduceLeDiff]; with_reducible rfl))))
    exact encV_dat _ _
  have hm1 := mem_getD hk
  have hr1 : k = r → m.symbols.getD k default = m.symbols.getD r default := fun e => by rw [e]
  have hg : ∀ p q : Nat, g (⟨(k : Int), (p : Int), (q : Int)⟩ : PlaceV) = encV (((m.symbols.getD k default).getD p default).getD q default) := fun p q => rfl
  have hsk := s7 _ hm1
  have hsk2 := s8 _ hm1
  have hsk3 := s9 _ hm1
  generalize hS : m.symbols.getD k default = S at *
  have hS' : S.length ≤ 9223372036854775807 := hsk
  repeat' (first | apply w_seq | apply w_ops0 | apply w_block | apply w_skip | apply a_n | apply o_nil | (apply o_val rfl rfl; (focus ((try simp (disch := omega) only [simB0, ZA, reduceEqDiff, ↓reduceIte, reduceAdd, reduceLeDiff, ZV, reduceCtorEq, ME, hS]); first | with_reducible rfl | (apply s_ite; (focus omega); with_reducible rfl)))) | (apply w_cond; (focus ((try simp only [simB0, ZA, reduceEqDiff, ↓reduceIte, reduceAdd, reduceLeDiff, ME, hS]); (try with_reducible rfl); done)); all_goals (intro _hg; (try simp only [ZB] at _hg); try first | exact absurd trivial _hg | (exfalso; omega))) | apply w_loop)
  refine loopI (X := Nat) (fun p => [(3, .ptr 1 3 0), (5, .mp 2), (6, .int .i64 k), (14, encV4 m.symbols), (15, .int .i64 m.symbols.length), (16, .int .i64 k), (21, encV3 S), (22, .int .i64 S.length), (23, .int .i64 p)])
    (fun p H nx => p ≤ S.length ∧ H 1 = some [.int .i64 (r : Int), .int .i64 (f : Int), .int .i64 (t : Int)] ∧ ∃ ks : List (PlaceV), H 2 = some [.omap (ks.map encP) (ks.map g)] ∧ (r < k ∨ r = k ∧ f < p → (⟨(r : Int), (f : Int), (t : Int)⟩ : PlaceV) ∈ ks)) (fun p => S.length - p) 0 ⟨Nat.zero_le _, g1, ks, g2, fun h => k2 (by omega)⟩ (by simp (disch := omega) only [agr, ZG, reduceEqDiff, ↓reduceIte]) ?_
  clear g1 g2 k2 ks
  rintro p H nx ⟨p1, g1, ks, g2, k2⟩
  by_cases hp : p < S.length
  rotate_left
  · repeat' (first | apply w_seq | apply w_ops0 | apply w_exit | apply a_n | apply a_x | apply o_nil | (apply o_val rfl rfl; (focus ((try simp (disch := omega) only [simB0, ZA, reduceEqDiff, ↓reduceIte, reduceAdd, reduceLeDiff, ZV, reduceCtorEq, ME]); first | with_reducible rfl | (apply s_ite; (focus omega); with_reducible rfl)))) | (apply w_cond; (focus ((try simp only [simB0, ZA, reduceEqDiff, ↓reduceIte, reduceAdd, reduceLeDiff, ME]); (try with_reducible rfl); done)); all_goals (intro _hg; (try simp only [ZB] at _hg); try first | exact absurd trivial _hg | (exfalso; omega))))
    refine ⟨k + 1, by omega, ⟨by omega, g1, ks, g2, fun h => k2 ?_⟩, by simp (disch := omega) only [agr, ZG, reduceEqDiff, ↓reduceIte]⟩
    rcases Nat.lt_succ_iff_lt_or_eq.1 h with h | h
    · exact .inl h
    · have := hr1 h.symm
      rw [← this] at h2
      exact .inr ⟨h, by omega⟩
  have hm2 := mem_getD hp
  have hr2 : k = r → p = f → S.getD p default = (m.symbols.getD r default).getD f default := fun e e' => by rw [hr1 e, e']
  have hg := hg p
  have hsp := hsk2 _ hm2
  have hsp2 := hsk3 _ hm2
  generalize hR : S.getD p default = R at *
  have hR' : R.length ≤ 9223372036854775807 := hsp
  repeat' (first | apply w_seq | apply w_ops0 | apply w_block | apply w_skip | apply a_n | apply o_nil | (apply o_val rfl rfl; (focus ((try simp (disch := omega) only [simB0, ZA, reduceEqDiff, ↓reduceIte, reduceAdd, reduceLeDiff, ZV, reduceCtorEq, ME, hR]); first | with_reducible rfl | (apply s_ite; (focus omega); with_reducible rfl)))) | (apply w_cond; (focus ((try simp only [simB0, ZA, reduceEqDiff, ↓reduceIte, reduceAdd, reduceLeDiff, ME, hR]); (try with_reducible rfl); done)); all_goals (intro _hg; (try simp only [ZB] at _hg); try first | exact absurd trivial _hg | (exfalso; omega))) | apply w_loop)
  refine loopI (X := Nat) (fun q => [(3, .ptr 1 3 0), (5, .mp 2), (6, .int .i64 k), (8, .int .i64 p), (14, encV4 m.symbols), (15, .int .i64 m.symbols.length), (16, .int .i64 k), (21, encV3 S), (22, .int .i64 S.length), (23, .int .i64 p), (28, encVV R), (29, .int .i64 R.length), (30, .int .i64 q)])
    (fun q H nx => q ≤ R.length ∧ H 1 = some [.int .i64 (r : Int), .int .i64 (f : Int), .int .i64 (t : Int)] ∧ ∃ ks : List (PlaceV), H 2 = some [.omap (ks.map encP) (ks.map g)] ∧ (r < k ∨ r = k ∧ (f < p ∨ f = p ∧ t < q) → (⟨(r : Int), (f : Int), (t : Int)⟩ : PlaceV) ∈ ks)) (fun q => R.length - q) 0 ⟨Nat.zero_le _, g1, ks, g2, fun h => k2 (by omega)⟩ (by simp (disch := omega) only [agr, ZG, reduceEqDiff, ↓reduceIte]) ?_
  clear g1 g2 k2 ks
  rintro q H nx ⟨q1, g1, ks, g2, k2⟩
  by_cases hq : q < R.length
  rotate_left
  · repeat' (first | apply w_seq | apply w_ops0 | apply w_exit | apply a_n | apply a_x | apply o_nil | (apply o_val rfl rfl; (focus ((try simp (disch := omega) only [simB0, ZA, reduceEqDiff, ↓reduceIte, reduceAdd, reduceLeDiff, ZV, reduceCtorEq, ME]); first | with_reducible rfl | (apply s_ite; (focus omega); with_reducible rfl)))) | (apply w_cond; (focus ((try simp only [simB0, ZA, reduceEqDiff, ↓reduceIte, reduceAdd, reduceLeDiff, ME]); (try with_reducible rfl); done)); all_goals (intro _hg; (try simp only [ZB] at _hg); try first | exact absurd trivial _hg | (exfalso; omega))))
    refine ⟨p + 1, by omega, ⟨by omega, g1, ks, g2, fun h => k2 ?_⟩, by simp (disch := omega) only [agr, ZG, reduceEqDiff, ↓reduceIte]⟩
    rcases h with h | ⟨h, h'⟩
    · exact .inl h
    · rcases Nat.lt_succ_iff_lt_or_eq.1 h' with h' | h'
      · exact .inr ⟨h, .inl h'⟩
      · have := hr2 h.symm h'.symm
        rw [← this] at h3
        exact .inr ⟨h, .inr ⟨h', by omega⟩⟩
  have hg := hg q
  have hmr : mfind (.st [.int, .int, .int]) (encP (⟨(k : Int), (p : Int), (q : Int)⟩ : PlaceV)) (ks.map encP) = _ := mfind_P _ _
  repeat' (first | apply w_seq | apply w_ops0 | apply w_block | apply w_skip | apply a_n | apply o_nil | (apply o_val rfl rfl; (focus ((try simp (disch := omega) only [simB0, ZA, reduceEqDiff, ↓reduceIte, reduceAdd, reduceLeDiff, ZV, reduceCtorEq, ME, g1]); first | with_reducible rfl | (apply s_ite; (focus omega); with_reducible rfl)))) | (apply w_cond; (focus ((try simp only [simB0, ZA, reduceEqDiff, ↓reduceIte, reduceAdd, reduceLeDiff, ME, g1]); (try with_reducible rfl); done)); all_goals (intro _hg; (try simp only [ZB] at _hg); try first | exact absurd trivial _hg | (exfalso; omega))))
  refine o_mput (kv := encP (⟨(k : Int), (p : Int), (q : Int)⟩ : PlaceV)) (xv := g (⟨(k : Int), (p : Int), (q : Int)⟩ : PlaceV)) (by ((try simp only [simB0, ZA, reduceEqDiff, ↓reduceIte, reduceAdd, reduceLeDiff]); (try with_reducible rfl))) g2 (by ((try simp only [simB0, ZA, reduceEqDiff, ↓reduceIte, reduceAdd, reduceLeDiff]); (try with_reducible rfl)); rfl) (by ((try simp only [simB0, ZA, reduceEqDiff, ↓reduceIte, reduceAdd, reduceLeDiff]); (try with_reducible rfl)); exact hg.symm) rfl hmr ?_
  rw [mset_same ks _ g, msetK_same]
  repeat' (first | apply w_ops0 | apply a_n | apply o_nil | (apply o_val rfl rfl; (focus ((try simp (disch := omega) only [simB0, ZA, reduceEqDiff, ↓reduceIte, reduceAdd, reduceLeDiff, ZV, reduceCtorEq, ME]); first | with_reducible rfl | (apply s_ite; (focus omega); with_reducible rfl)))))
  refine ⟨q + 1, by omega, ⟨by omega, by rw [hupd_ne (by omega), g1], _, hupd_self', fun h => ?_⟩, by simp (disch := omega) only [agr, ZG, reduceEqDiff, ↓reduceIte]⟩
  have hold : ∀ x, x ∈ ks → x ∈ (if (⟨(k : Int), (p : Int), (q : Int)⟩ : PlaceV) ∈ ks then ks else ks ++ [(⟨(k : Int), (p : Int), (q : Int)⟩ : PlaceV)]) := fun x hx => by
    split
    · exact hx
    · simp [hx]
  have hnew : (⟨(k : Int), (p : Int), (q : Int)⟩ : PlaceV) ∈ (if (⟨(k : Int), (p : Int), (q : Int)⟩ : PlaceV) ∈ ks then ks else ks ++ [(⟨(k : Int), (p : Int), (q : Int)⟩ : PlaceV)]) := by
    split
    · assumption
    · simp
  by_cases he : r = k ∧ f = p ∧ t = q
  · obtain ⟨rfl, rfl, rfl⟩ := he
    exact hnew
  · exact hold _ (k2 (by omega))

end Go.Proofs.Ytpbjhjkfobapeaa

/- Q12: contracts of functions and plain laws; for all inputs that the theorems name. -/
namespace Go.Proofs.Ytpbjhjkfobapeaa
open Go Go.Abs
open Nat (reduceEqDiff reduceAdd reduceLeDiff)

structure GoodM (m : MachV) : Prop where
  n : 1 ≤ m.n ∧ m.n ≤ 5
  r : 0 ≤ m.rounds ∧ m.rounds ≤ 6
  i : 1 ≤ m.ins ∧ m.ins ≤ 8
  o : 1 ≤ m.outs ∧ m.outs ≤ 8
  sh : shapedB m = true
  rg : rangedB m = true
  st : statesN m ≤ 8192
  sl : m.steps.length ≤ 65536
  sf : stepsF m none m.steps = 0
theorem chk_zero {m : MachV} (h : chkM m = 0) : GoodM m := by
  unfold chkM at h
  cases h1 : numsB m with
  | false => rw [h1] at h; cases h
  | true =>
    cases h2 : shapedB m with
    | false => rw [h1, h2] at h; cases h
    | true =>
      rw [h1, h2] at h
      simp only [Bool.not_true, Bool.false_eq_true, if_false] at h
      split at h
      · cases h
      · rename_i h3
        cases h4 : rangedB m with
        | false => rw [h4] at h; cases h
        | true =>
          rw [h4] at h
          simp only [Bool.not_true, Bool.false_eq_true, if_false] at h
          unfold numsB at h1
          simp only [Bool.and_eq_true] at h1
          obtain ⟨i1, i2, i3, i4⟩ := h1
          exact ⟨of_decide_eq_true i1, of_decide_eq_true i2, of_decide_eq_true i3, of_decide_eq_true i4, h2, h4, by omega, by omega, h⟩
theorem place_zero {m : MachV} {r f t : Int} (h : placeI m r f t = 0) : GoodM m ∧ 0 ≤ r ∧ r < m.rounds ∧ 0 ≤ f ∧ f < m.n ∧ 0 ≤ t ∧ t < m.n ∧ f ≠ t := by
  unfold placeI at h
  by_cases h1 : chkM m ≠ 0
  · rw [if_pos h1] at h; exact absurd h h1
  · rw [if_neg h1] at h
    by_cases h2 : r < 0 ∨ m.rounds ≤ r ∨ f < 0 ∨ m.n ≤ f ∨ t < 0 ∨ m.n ≤ t
    · rw [if_pos h2] at h; cases h
    · rw [if_neg h2] at h
      by_cases h3 : f = t
      · rw [if_pos h3] at h; cases h
      · exact ⟨chk_zero (by simpa using h1), by omega, by omega, by omega, by omega, by omega, by omega, h3⟩
theorem sym_in {m : MachV} {r f t : Int} (h : placeI m r f t = 0) : ∃ R F U : Nat, r = R ∧ f = F ∧ t = U ∧ R < m.symbols.length ∧ F < (m.symbols.getD R default).length ∧ U < ((m.symbols.getD R default).getD F default).length := by
  obtain ⟨hg, h1, h2, h3, h4, h5, h6, h7⟩ := place_zero h
  obtain ⟨l1, l2, l3⟩ := shaped_len hg.sh
  refine ⟨r.toNat, f.toNat, t.toNat, by omega, by omega, by omega, by omega, ?_⟩
  obtain ⟨s1, s2⟩ := shaped_sym hg.sh (k := r.toNat) (by omega)
  obtain ⟨s3, s4⟩ := s2 f.toNat (by omega)
  exact ⟨by omega, by omega⟩
theorem ranged_sym {m : MachV} (h : rangedB m = true) {s : List (List (List Int))} (hs : s ∈ m.symbols) {l : List (List Int)} (hl : l ∈ s) {x : List Int} (hx : x ∈ l) {v : Int} (hv : v ∈ x) : 0 ≤ v ∧ v ≤ 1048576 := by
  unfold rangedB at h
  simp only [Bool.and_eq_true, List.all_eq_true] at h
  have := h.2.2 s hs l hl x hx
  unfold allB at this
  rw [List.all_eq_true] at this
  exact of_decide_eq_true (this v hv)
theorem symV_range {m : MachV} {r f t : Int} (h : placeI m r f t = 0) {v : Int} (hv : v ∈ symV m ⟨r, f, t⟩) : 0 ≤ v ∧ v ≤ 1048576 := by
  obtain ⟨R, F, U, rfl, rfl, rfl, h1, h2, h3⟩ := sym_in h
  exact ranged_sym (place_zero h).1.rg (mem_getD h1) (mem_getD h2) (mem_getD h3) hv
theorem symV_sh {m : MachV} (hs : ShM m) {r f t : Int} (h : placeI m r f t = 0) : Sh (symV m ⟨r, f, t⟩) := by
  obtain ⟨R, F, U, rfl, rfl, rfl, h1, h2, h3⟩ := sym_in h
  exact hs.symbols3 _ (mem_getD h1) _ (mem_getD h2) _ (mem_getD h3)

def encodeB (m : MachV) (r f t s : Int) : List UInt8 × Int :=
  if placeI m r f t ≠ 0 then ([], placeI m r f t) else if s < 0 ∨ ((symV m ⟨r, f, t⟩).length : Int) ≤ s then ([], 6) else (messageB r f t ((symV m ⟨r, f, t⟩).getD s.toNat default), 0)
def lengthB (m : MachV) (r f t : Int) : Int × Int :=
  if placeI m r f t ≠ 0 then (0, placeI m r f t) else ((symV m ⟨r, f, t⟩).foldl (fun o s => max o ((messageB r f t s).length : Int)) 0, 0)
theorem message_len (r f t s : Int) : (messageB r f t s).length ≤ 15 := by
  have := vint_len s.toNat
  simp [messageB, sealB]; omega
attribute [local irreducible] awp2 aops2 ains aloop athen bbind obind gbind acond res1 Go.Abs.Fn PCall Go.Abs.Pure SnapArgs SnapL Yl

theorem sym_c (m : MachV) (r f t : Int) (hs : ShM m) (h : placeI m r f t = 0) : Pure Try.prog 31 [encM m, encP ⟨r, f, t⟩] (encV (symV m ⟨r, f, t⟩)) := by
  obtain ⟨R, F, U, rfl, rfl, rfl, h1, h2, h3⟩ := sym_in h
  exact symbols_c m R F U hs h1 h2 h3

theorem encode_c (m : MachV) (r f t s : Int) (hs : ShM m) : Pure Try.prog 13 [encM m, .int .i64 r, .int .i64 f, .int .i64 t, .int .i64 s] (.tup [encS (encodeB m r f t s).1, .int .i64 (encodeB m r f t s).2]) := by
  refine Pure.of_c2 follows is13 (Nat.le_of_ble_eq_true rfl) ?_
  simp only [b13, O, G, N, M, D, F, B2, cFal, cTru]
  have hp := place_c m r f t hs
  have em := encM_dat m
  have ep := encP_dat ⟨r, f, t⟩
  have e0 : encS [] = .str ⟨⟨[]⟩⟩ := rfl
  by_cases h0 : placeI m r f t = 0
  rotate_left
  · have e : encodeB m r f t s = ([], placeI m r f t) := by unfold encodeB; rw [if_pos h0]
    rw [e]
    unfold encM MachV.cells at hp em
    unfold encP at hp ep
    repeat' (first | apply w_seq | apply w_ops0 | apply w_ret | apply a_n | apply a_r | apply o_nil | (apply o_val rfl rfl; (focus ((try simp (disch := omega) only [simB0, ZA, reduceEqDiff, ↓reduceIte, reduceAdd, reduceLeDiff, ZV, reduceCtorEq, ME, h0, ne_eq, decide_true, decide_false, not_false_eq_true]); first | with_reducible rfl | (apply s_ite; (focus omega); with_reducible rfl)))) | (apply o_callD; (iterate 2 (focus ((try simp only [simB0, ZA, reduceEqDiff, ↓reduceIte, reduceAdd, reduceLeDiff, ME, h0, ne_eq, decide_true, decide_false, not_false_eq_true]); (try with_reducible rfl); done))); (focus (first | (exact hp))); (focus ((first | refine snap_plain ?_ rfl | apply snap_data); repeat' (first | exact snapL_nil | apply snapL_i | apply snapL_dat | exact em | exact ep)))) | (apply e_alloc rfl; (focus ((try simp only [simB0, ZA, reduceEqDiff, ↓reduceIte, reduceAdd, reduceLeDiff, ME, h0, ne_eq, decide_true, decide_false, not_false_eq_true]); (try with_reducible rfl); done)); (focus (simp only [SO, Bool.and_self, one_encV, one_encVV, ME, h0, ne_eq, decide_true, decide_false, not_false_eq_true]))) | (apply e_box rfl; (iterate 2 (focus ((try simp only [simB0, ZA, reduceEqDiff, ↓reduceIte, reduceAdd, reduceLeDiff, ME, h0, ne_eq, decide_true, decide_false, not_false_eq_true]); (try with_reducible rfl); done))); (focus (simp only [SO, Bool.and_self, one_encV, one_encVV, ME, h0, ne_eq, decide_true, decide_false, not_false_eq_true]))) | (apply e_st rfl; (iterate 4 (focus ((try simp only [simB0, ZA, reduceEqDiff, ↓reduceIte, reduceAdd, reduceLeDiff, ME, h0, ne_eq, decide_true, decide_false, not_false_eq_true]); (try with_reducible rfl); done))); (focus (simp only [SO, Bool.and_self, one_encV, one_encVV, ME, h0, ne_eq, decide_true, decide_false, not_false_eq_true])); (iterate 3 (focus ((try simp only [SL, reduceAdd, Nat.reduceMul, List.length_map]); first | done | omega)))) | (apply w_condT; (focus (simp only [simB0, ZA, reduceEqDiff, ↓reduceIte, reduceAdd, reduceLeDiff, ME, h0, ne_eq, decide_true, decide_false, not_false_eq_true]; done))) | (refine e_ends rfl ?_) | (apply r_2; (iterate 2 (focus (simp only [rv, simB0, ZA, reduceEqDiff, ↓reduceIte, reduceAdd, reduceLeDiff, ME, h0, ne_eq, decide_true, decide_false, not_false_eq_true]; with_reducible rfl)))))
    exact (Dat.tup (DatL.cons Dat.str (DatL.cons .int DatL.nil))) _
  rw [h0] at hp
  have hy := sym_c m r f t hs h0
  have hsh := symV_sh hs h0
  have hrg : ∀ v ∈ symV m ⟨r, f, t⟩, 0 ≤ v ∧ v ≤ 1048576 := fun v hv => symV_range h0 hv
  have e : encodeB m r f t s = if s < 0 ∨ ((symV m ⟨r, f, t⟩).length : Int) ≤ s then ([], 6) else (messageB r f t ((symV m ⟨r, f, t⟩).getD s.toNat default), 0) := by
    unfold encodeB; rw [if_neg (by simpa using h0)]
  rw [e]
  clear e
  generalize symV m ⟨r, f, t⟩ = l at *
  unfold encM MachV.cells at hp em hy
  unfold encP at hp hy ep
  by_cases hsl : s < 0 ∨ (l.length : Int) ≤ s
  · rw [if_pos hsl]
    repeat' (first | apply w_seq | apply w_ops0 | apply w_skip | apply w_ret | apply a_n | apply a_r | apply o_nil | (apply o_val rfl rfl; (focus ((try simp (disch := omega) only [simB0, ZA, reduceEqDiff, ↓reduceIte, reduceAdd, reduceLeDiff, ZV, reduceCtorEq, ME]); first | with_reducible rfl | (apply s_ite; (focus omega); with_reducible rfl)))) | (apply o_callD; (iterate 2 (focus ((try simp only [simB0, ZA, reduceEqDiff, ↓reduceIte, reduceAdd, reduceLeDiff, ME]); (try with_reducible rfl); done))); (focus (first | (exact hp) | (exact hy))); (focus ((first | refine snap_plain ?_ rfl | apply snap_data); repeat' (first | exact snapL_nil | apply snapL_i | apply snapL_dat | exact em | exact ep)))) | (apply e_alloc rfl; (focus ((try simp only [simB0, ZA, reduceEqDiff, ↓reduceIte, reduceAdd, reduceLeDiff, ME]); (try with_reducible rfl); done)); (focus (simp only [SO, Bool.and_self, one_encV, one_encVV, ME]))) | (apply e_box rfl; (iterate 2 (focus ((try simp only [simB0, ZA, reduceEqDiff, ↓reduceIte, reduceAdd, reduceLeDiff, ME]); (try with_reducible rfl); done))); (focus (simp only [SO, Bool.and_self, one_encV, one_encVV, ME]))) | (apply e_st rfl; (iterate 4 (focus ((try simp only [simB0, ZA, reduceEqDiff, ↓reduceIte, reduceAdd, reduceLeDiff, ME]); (try with_reducible rfl); done))); (focus (simp only [SO, Bool.and_self, one_encV, one_encVV, ME])); (iterate 3 (focus ((try simp only [SL, reduceAdd, Nat.reduceMul, List.length_map]); first | done | omega)))) | (apply o_gT; (focus (simp only [simB0, ZA, reduceEqDiff, ↓reduceIte, reduceAdd, reduceLeDiff, ME]; done))) | (apply o_gF; (focus (simp only [simB0, ZA, reduceEqDiff, ↓reduceIte, reduceAdd, reduceLeDiff, or_true, true_or, ME]; done))) | (apply w_condT; (focus (simp only [simB0, ZA, reduceEqDiff, ↓reduceIte, reduceAdd, reduceLeDiff, ME]; done))) | ((first | apply o_gB | apply w_cond); (focus ((try simp only [simB0, ZA, reduceEqDiff, ↓reduceIte, reduceAdd, reduceLeDiff, ME]); (try with_reducible rfl); done)); all_goals (intro _hg; (try simp only [ZB] at _hg); try first | exact absurd trivial _hg | (exfalso; omega))) | (refine e_ends rfl ?_) | (apply r_2; (iterate 2 (focus (simp only [rv, simB0, ZA, reduceEqDiff, ↓reduceIte, reduceAdd, reduceLeDiff, ME]; with_reducible rfl)))))
    all_goals exact (Dat.tup (DatL.cons Dat.str (DatL.cons .int DatL.nil))) _
  · rw [if_neg hsl]
    have hv := hrg _ (mem_getD (l := l) (k := s.toNat) (by omega))
    have hm := message_c r f t (l.getD s.toNat default) (by omega)
    repeat' (first | apply w_seq | apply w_ops0 | apply w_mixS1 | apply w_skip | apply w_ret | apply a_n | apply o_nil | (apply o_val rfl rfl; (focus ((try simp (disch := omega) only [simB0, ZA, reduceEqDiff, ↓reduceIte, reduceAdd, reduceLeDiff, ZV, reduceCtorEq, ME]); first | with_reducible rfl | (apply s_ite; (focus omega); with_reducible rfl)))) | (apply o_callD; (iterate 2 (focus ((try simp only [simB0, ZA, reduceEqDiff, ↓reduceIte, reduceAdd, reduceLeDiff, ME]); (try with_reducible rfl); done))); (focus (first | (exact hp) | (exact hy) | (exact hm))); (focus ((first | refine snap_plain ?_ rfl | apply snap_data); repeat' (first | exact snapL_nil | apply snapL_i | apply snapL_dat | exact em | exact ep)))) | (apply e_alloc rfl; (focus ((try simp only [simB0, ZA, reduceEqDiff, ↓reduceIte, reduceAdd, reduceLeDiff, ME]); (try with_reducible rfl); done)); (focus (simp only [SO, Bool.and_self, one_encV, one_encVV, ME]))) | (apply e_box rfl; (iterate 2 (focus ((try simp only [simB0, ZA, reduceEqDiff, ↓reduceIte, reduceAdd, reduceLeDiff, ME]); (try with_reducible rfl); done))); (focus (simp only [SO, Bool.and_self, one_encV, one_encVV, ME]))) | (apply e_st rfl; (iterate 4 (focus ((try simp only [simB0, ZA, reduceEqDiff, ↓reduceIte, reduceAdd, reduceLeDiff, ME]); (try with_reducible rfl); done))); (focus (simp only [SO, Bool.and_self, one_encV, one_encVV, ME])); (iterate 3 (focus ((try simp only [SL, reduceAdd, Nat.reduceMul, List.length_map]); first | done | omega)))) | (apply o_gT; (focus (simp only [simB0, ZA, reduceEqDiff, ↓reduceIte, reduceAdd, reduceLeDiff, ME]; done))) | ((first | apply o_gB | apply w_cond); (focus ((try simp only [simB0, ZA, reduceEqDiff, ↓reduceIte, reduceAdd, reduceLeDiff, ME]); (try with_reducible rfl); done)); all_goals (intro _hg; (try simp only [ZB] at _hg); try first | exact absurd trivial _hg | (exfalso; omega))) | (refine e_ends rfl ?_) | (apply r_2; (iterate 2 (focus (simp only [rv, simB0, ZA, reduceEqDiff, ↓reduceIte, reduceAdd, reduceLeDiff, ME]; with_reducible rfl)))))
    all_goals exact (Dat.tup (DatL.cons (encS_dat _) (DatL.cons .int DatL.nil))) _

theorem length_c (m : MachV) (r f t : Int) (hs : ShM m) : Pure Try.prog 15 [encM m, .int .i64 r, .int .i64 f, .int .i64 t] (.tup [.int .i64 (lengthB m r f t).1, .int .i64 (lengthB m r f t).2]) := by
  refine Pure.of_c2 follows is15 (Nat.le_of_ble_eq_true rfl) ?_
  simp only [b15, O, G, N, M, D, F, B2, cFal, cTru]
  have hp := place_c m r f t hs
  have em := encM_dat m
  have ep := encP_dat ⟨r, f, t⟩
  by_cases h0 : placeI m r f t = 0
  rotate_left
  · have e : lengthB m r f t = (0, placeI m r f t) := by unfold lengthB; rw [if_pos h0]
    rw [e]
    unfold encM MachV.cells at hp em
    unfold encP at hp ep
    repeat' (first | apply w_seq | apply w_ops0 | apply w_ret | apply a_n | apply a_r | apply o_nil | (apply o_val rfl rfl; (focus ((try simp (disch := omega) only [simB0, ZA, reduceEqDiff, ↓reduceIte, reduceAdd, reduceLeDiff, ZV, reduceCtorEq, ME, h0, ne_eq, decide_true, decide_false, not_false_eq_true]); first | with_reducible rfl | (apply s_ite; (focus omega); with_reducible rfl)))) | (apply o_callD; (iterate 2 (focus ((try simp only [simB0, ZA, reduceEqDiff, ↓reduceIte, reduceAdd, reduceLeDiff, ME, h0, ne_eq, decide_true, decide_false, not_false_eq_true]); (try with_reducible rfl); done))); (focus (first | (exact hp))); (focus ((first | refine snap_plain ?_ rfl | apply snap_data); repeat' (first | exact snapL_nil | apply snapL_i | apply snapL_dat | exact em | exact ep)))) | (apply e_alloc rfl; (focus ((try simp only [simB0, ZA, reduceEqDiff, ↓reduceIte, reduceAdd, reduceLeDiff, ME, h0, ne_eq, decide_true, decide_false, not_false_eq_true]); (try with_reducible rfl); done)); (focus (simp only [SO, Bool.and_self, one_encV, one_encVV, ME, h0, ne_eq, decide_true, decide_false, not_false_eq_true]))) | (apply e_box rfl; (iterate 2 (focus ((try simp only [simB0, ZA, reduceEqDiff, ↓reduceIte, reduceAdd, reduceLeDiff, ME, h0, ne_eq, decide_true, decide_false, not_false_eq_true]); (try with_reducible rfl); done))); (focus (simp only [SO, Bool.and_self, one_encV, one_encVV, ME, h0, ne_eq, decide_true, decide_false, not_false_eq_true]))) | (apply e_st rfl; (iterate 4 (focus ((try simp only [simB0, ZA, reduceEqDiff, ↓reduceIte, reduceAdd, reduceLeDiff, ME, h0, ne_eq, decide_true, decide_false, not_false_eq_true]); (try with_reducible rfl); done))); (focus (simp only [SO, Bool.and_self, one_encV, one_encVV, ME, h0, ne_eq, decide_true, decide_false, not_false_eq_true])); (iterate 3 (focus ((try simp only [SL, reduceAdd, Nat.reduceMul, List.length_map]); first | done | omega)))) | (apply w_condT; (focus (simp only [simB0, ZA, reduceEqDiff, ↓reduceIte, reduceAdd, reduceLeDiff, ME, h0, ne_eq, decide_true, decide_false, not_false_eq_true]; done))) | (refine e_ends rfl ?_) | (apply r_2; (iterate 2 (focus (simp only [rv, simB0, ZA, reduceEqDiff, ↓reduceIte, reduceAdd, reduceLeDiff, ME, h0, ne_eq, decide_true, decide_false, not_false_eq_true]; with_reducible rfl)))))
    exact (Dat.tup (DatL.cons .int (DatL.cons .int DatL.nil))) _
  rw [h0] at hp
  have hy := sym_c m r f t hs h0
  have hsh := symV_sh hs h0
  have hrg : ∀ v ∈ symV m ⟨r, f, t⟩, 0 ≤ v ∧ v ≤ 1048576 := fun v hv => symV_range h0 hv
  have e : lengthB m r f t = ((symV m ⟨r, f, t⟩).foldl (fun o s => max o ((messageB r f t s).length : Int)) 0, 0) := by
    unfold lengthB; rw [if_neg (by simpa using h0)]
  rw [e]
  clear e
  generalize symV m ⟨r, f, t⟩ = l at *
  have hl' : l.length ≤ 9223372036854775807 := hsh
  unfold encM MachV.cells at hp em hy
  unfold encP at hp hy ep
  repeat' (first | apply w_seq | apply w_ops0 | apply w_block | apply w_skip | apply a_n | apply o_nil | (apply o_val rfl rfl; (focus ((try simp (disch := omega) only [simB0, ZA, reduceEqDiff, ↓reduceIte, reduceAdd, reduceLeDiff, ZV, reduceCtorEq, ME]); first | with_reducible rfl | (apply s_ite; (focus omega); with_reducible rfl)))) | (apply o_callD; (iterate 2 (focus ((try simp only [simB0, ZA, reduceEqDiff, ↓reduceIte, reduceAdd, reduceLeDiff, ME]); (try with_reducible rfl); done))); (focus (first | (exact hp) | (exact hy))); (focus ((first | refine snap_plain ?_ rfl | apply snap_data); repeat' (first | exact snapL_nil | apply snapL_i | apply snapL_dat | exact em | exact ep)))) | (apply e_alloc rfl; (focus ((try simp only [simB0, ZA, reduceEqDiff, ↓reduceIte, reduceAdd, reduceLeDiff, ME]); (try with_reducible rfl); done)); (focus (simp only [SO, Bool.and_self, one_encV, one_encVV, ME]))) | (apply e_box rfl; (iterate 2 (focus ((try simp only [simB0, ZA, reduceEqDiff, ↓reduceIte, reduceAdd, reduceLeDiff, ME]); (try with_reducible rfl); done))); (focus (simp only [SO, Bool.and_self, one_encV, one_encVV, ME]))) | (apply e_st rfl; (iterate 4 (focus ((try simp only [simB0, ZA, reduceEqDiff, ↓reduceIte, reduceAdd, reduceLeDiff, ME]); (try with_reducible rfl); done))); (focus (simp only [SO, Bool.and_self, one_encV, one_encVV, ME])); (iterate 3 (focus ((try simp only [SL, reduceAdd, Nat.reduceMul, List.length_map]); first | done | omega)))) | (apply w_cond; (focus ((try simp only [simB0, ZA, reduceEqDiff, ↓reduceIte, reduceAdd, reduceLeDiff, ME]); (try with_reducible rfl); done)); all_goals (intro _hg; (try simp only [ZB] at _hg); try first | exact absurd trivial _hg | (exfalso; omega))) | apply w_loop)
  refine loop0 (X := Nat) (fun k => [(10, .ptr 1 3 0), (12, .int .i64 ((l.take k).foldl (fun o s => max o ((messageB r f t s).length : Int)) 0)), (27, encV l), (28, .int .i64 l.length), (29, .int .i64 k)]) (fun k => k ≤ l.length) (fun k => l.length - k) 0 (Nat.zero_le _) (by simp (disch := omega) only [agr, ZG, reduceEqDiff, ↓reduceIte, List.take_zero, List.foldl_nil, List.length_cons, List.length_nil, reduceAdd, Nat.zero_add]) ?_
  rintro k h1
  by_cases hk : k < l.length
  · have hv := hrg _ (mem_getD hk)
    have hm := message_c r f t (l.getD k default) (by omega)
    have ht := take_succ' hk
    repeat' (first | apply w_seq | apply w_ops0 | apply w_block | apply w_skip | apply a_n | apply o_nil | (apply o_val rfl rfl; (focus ((try simp (disch := omega) only [simB0, ZA, reduceEqDiff, ↓reduceIte, reduceAdd, reduceLeDiff, ZV, reduceCtorEq, ME, alenStr_encS]); first | with_reducible rfl | (apply s_ite; (focus omega); with_reducible rfl)))) | (apply o_callD; (iterate 2 (focus ((try simp only [simB0, ZA, reduceEqDiff, ↓reduceIte, reduceAdd, reduceLeDiff, ME, alenStr_encS]); (try with_reducible rfl); done))); (focus (first | (exact hm))); (focus ((first | refine snap_plain ?_ rfl | apply snap_data); repeat' (first | exact snapL_nil | apply snapL_i | apply snapL_dat | exact ep)))) | (apply w_cond; (focus ((try simp only [simB0, ZA, reduceEqDiff, ↓reduceIte, reduceAdd, reduceLeDiff, ME, alenStr_encS]); (try with_reducible rfl); done)); all_goals (intro _hg; (try simp only [ZB] at _hg); try first | exact absurd trivial _hg | (exfalso; omega))))
    refine ⟨k + 1, by omega, by omega, ?_, rfl, rfl⟩
    rw [ht, List.foldl_append]
    simp (disch := omega) only [agr, ZG, reduceEqDiff, ↓reduceIte, List.foldl_cons, List.foldl_nil]
  · repeat' (first | apply w_seq | apply w_ops0 | apply w_exit | apply w_ret | apply a_n | apply a_x | apply o_nil | (apply o_val rfl rfl; (focus ((try simp (disch := omega) only [simB0, ZA, reduceEqDiff, ↓reduceIte, reduceAdd, reduceLeDiff, ZV, reduceCtorEq, ME]); first | with_reducible rfl | (apply s_ite; (focus omega); with_reducible rfl)))) | (apply w_cond; (focus ((try simp only [simB0, ZA, reduceEqDiff, ↓reduceIte, reduceAdd, reduceLeDiff, ME]); (try with_reducible rfl); done)); all_goals (intro _hg; (try simp only [ZB] at _hg); try first | exact absurd trivial _hg | (exfalso; omega))) | (refine e_ends rfl ?_) | (apply r_2; (iterate 2 (focus (simp only [rv, simB0, ZA, reduceEqDiff, ↓reduceIte, reduceAdd, reduceLeDiff, ME]; with_reducible rfl)))))
    rw [List.take_of_length_le (by omega)]
    exact (Dat.tup (DatL.cons .int (DatL.cons .int DatL.nil))) _

end Go.Proofs.Ytpbjhjkfobapeaa

/- Q13: contracts of functions and plain laws; for all inputs that the theorems name. -/
namespace Go.Proofs.Ytpbjhjkfobapeaa
open Go Go.Abs
open Nat (reduceEqDiff reduceAdd reduceLeDiff)

def rightB (l : List UInt8) : Bool := decide (6 ≤ l.length) && decide (csum (l.take (l.length - 2)) = ((l.getD (l.length - 2) default).toNat * 256 + (l.getD (l.length - 1) default).toNat : Nat))
def openedB (l : List UInt8) : List UInt8 × Int := if rightB l = true then (l.take (l.length - 2), 0) else ([], 24)

def numP : Bool → Nat → Nat → Nat → List UInt8 → Option (Nat × List UInt8)
  | _, 0, _, _, _ => none
  | _, _ + 1, _, _, [] => none
  | first, k + 1, unit, acc, c :: l => if c.toNat < 128 then (if first = false ∧ c.toNat = 0 then none else some (acc + c.toNat * unit, l)) else numP false k (unit * 128) (acc + c.toNat % 128 * unit) l
def numR (bs : List UInt8) : Option (Nat × List UInt8) := numP true 4 1 0 bs

theorem and127u (c : UInt8) (tb tf : Bool) : abin2 .and tb tf (.int .u8 (c.toNat : Int)) (.int .u8 127) = some (.int .u8 ((c.toNat % 128 : Nat) : Int)) := by
  have hc := UInt8.toNat_lt c
  have h1 : (BitVec.ofInt IntKind.u8.bits (c.toNat : Int)).toNat = c.toNat := Go.Abs.bits_nat (k := .u8) hc
  have h2 : (BitVec.ofInt IntKind.u8.bits (127 : Int)).toNat = 127 := rfl
  show (if (IntKind.u8 = IntKind.u8) then aarith .and .u8 _ _ else none) = _
  rw [if_pos rfl]
  simp only [aarith]
  rw [BitVec.toNat_and, h1, h2, show (127 : Nat) = 2 ^ 7 - 1 from rfl, mask_nat, wrapU8]
  congr 2
  omega
theorem or_add {n x k : Nat} (h : n < 2 ^ k) : n ||| (x * 2 ^ k) = n + x * 2 ^ k := by
  have := Nat.two_pow_add_eq_or_of_lt (i := k) (b := n) h x
  rw [Nat.or_comm, Nat.mul_comm x, ← this, Nat.add_comm]
theorem pow7 (i : Nat) : 2 ^ (7 * i) = 128 ^ i := by rw [Nat.pow_mul]
attribute [local irreducible] awp2 aops2 ains aloop athen bbind obind gbind acond res1 Go.Abs.Fn PCall Go.Abs.Pure SnapArgs SnapL Yl

theorem opened_c (l : List UInt8) (hl : Sh l) : Pure Try.prog 35 [encS l] (.tup [encS (openedB l).1, .int .i64 (openedB l).2]) := by
  refine Pure.of_c2 follows is35 (Nat.le_of_ble_eq_true rfl) ?_
  simp only [b35, O, G, N, M, D, F, B2, cFal, cTru]
  have hl' : l.length ≤ 9223372036854775807 := hl
  have e0 : encS [] = .str ⟨⟨[]⟩⟩ := rfl
  by_cases h6 : 6 ≤ l.length
  rotate_left
  · have e : openedB l = ([], 24) := by
      unfold openedB rightB; rw [decide_eq_false h6]; rfl
    rw [e, e0]
    repeat' (first | apply w_seq | apply w_ops0 | apply w_mix1 | apply w_ret | apply a_n | apply a_r | apply o_nil | (apply o_val rfl rfl; (focus ((try simp (disch := omega) only [simB0, ZA, reduceEqDiff, ↓reduceIte, reduceAdd, reduceLeDiff, ZV, reduceCtorEq, alenStr_encS]); first | with_reducible rfl | (apply s_ite; (focus omega); with_reducible rfl)))) | (apply o_gF; (focus (simp only [simB0, ZA, reduceEqDiff, ↓reduceIte, reduceAdd, reduceLeDiff, or_true, true_or, alenStr_encS]; done))) | (apply o_gB; (focus ((try simp only [simB0, ZA, reduceEqDiff, ↓reduceIte, reduceAdd, reduceLeDiff, alenStr_encS]); (try with_reducible rfl); done)); all_goals (intro _hg; (try simp only [ZB] at _hg); try first | exact absurd trivial _hg | (exfalso; omega))) | (apply w_condT; (focus (simp only [simB0, ZA, reduceEqDiff, ↓reduceIte, reduceAdd, reduceLeDiff, alenStr_encS]; done))) | (refine e_ends rfl ?_) | (apply r_2; (iterate 2 (focus (simp only [rv, simB0, ZA, reduceEqDiff, ↓reduceIte, reduceAdd, reduceLeDiff, alenStr_encS]; with_reducible rfl)))))
    exact (Dat.tup (DatL.cons Dat.str (DatL.cons .int DatL.nil))) _
  obtain ⟨N, hN⟩ : ∃ N : Nat, l.length = N + 2 := ⟨l.length - 2, by omega⟩
  have hsub : (l.length : Int) - 2 = (N : Int) := by omega
  have hck := checksum_c (l.take N) (by show _ ≤ _; rw [List.length_take]; omega)
  have hbd := csum_bd (l.take N)
  have hR : rightB l = decide (csum (l.take N) = ((l.getD N default).toNat * 256 + (l.getD (N + 1) default).toNat : Nat)) := by
    unfold rightB
    rw [decide_eq_true h6, Bool.true_and, show l.length - 2 = N by omega, show l.length - 1 = N + 1 by omega]
  have hO : openedB l = if rightB l = true then (l.take N, 0) else ([], 24) := by
    unfold openedB; rw [show l.length - 2 = N by omega]
  have b1 := byte_lt (l.getD N default)
  have b2 := byte_lt (l.getD (N + 1) default)
  have tN : ((N : Int) + 1).toNat = N + 1 := by omega
  rw [hR] at hO
  have x1 : aixStr (encS l) (.int .i64 (N : Int)) = some (encB (l.getD N default)) := by
    have := aixStr_encS (l := l) (k := .i64) (n := (N : Int)) (by omega) (by omega)
    rwa [Int.toNat_natCast] at this
  have x2 : aixStr (encS l) (.int .i64 ((N : Int) + 1)) = some (encB (l.getD (N + 1) default)) := by
    have := aixStr_encS (l := l) (k := .i64) (n := (N : Int) + 1) (by omega) (by omega)
    rwa [tN] at this
  have s1 : aslstr (encS l) none (some (.int .i64 (N : Int))) = some (encS (l.take N)) := aslstr_hi (by omega)
  generalize hA : (l.getD N default).toNat = A at *
  generalize hB : (l.getD (N + 1) default).toNat = B at *
  have a1 : ∀ (tb tf : Bool) (k' : IntKind), abin2 .shl tb tf (.int .i64 (A : Int)) (.int k' 8) = some (.int .i64 ((A * 256 : Nat) : Int)) := fun tb tf k' => by
    have := shl_nat (k := .i64) (k' := k') (a := A) (b := 8) (tb := tb) (tf := tf) (by simp [IntKind.bits]) (by simp [IntKind.bits]; omega)
    rwa [show ((8 : Nat) : Int) = 8 from rfl] at this
  have a2 : ∀ (tb tf : Bool), abin2 .or tb tf (.int .i64 ((A * 256 : Nat) : Int)) (.int .i64 (B : Int)) = some (.int .i64 ((A * 256 + B : Nat) : Int)) := fun tb tf => by
    have := or_nat (k := .i64) (a := A * 256) (b := B) (tb := tb) (tf := tf) (by simp [IntKind.bits]; omega) (by simp [IntKind.bits]; omega)
    rw [this]
    congr 3
    have := or_add (n := B) (x := A) (k := 8) (by have : (2 : Nat) ^ 8 = 256 := rfl; omega)
    rw [show (2 : Nat) ^ 8 = 256 from rfl] at this
    rw [Nat.or_comm, this, Nat.add_comm]
  generalize csum (l.take N) = q at *
  repeat' (first | apply w_seq | apply w_ops0 | apply w_mix1 | apply w_skip | apply w_ret | apply a_n | apply a_r | apply o_nil | (apply o_val rfl rfl; (focus ((try simp (disch := omega) only [simB0, ZA, reduceEqDiff, ↓reduceIte, reduceAdd, reduceLeDiff, ZV, reduceCtorEq, alenStr_encS, hsub, x1, x2, s1, a1, a2, encB, hA, hB]); first | with_reducible rfl | (apply s_ite; (focus omega); with_reducible rfl)))) | (apply o_callD; (iterate 2 (focus ((try simp only [simB0, ZA, reduceEqDiff, ↓reduceIte, reduceAdd, reduceLeDiff, alenStr_encS, hsub, x1, x2, s1, a1, a2, encB, hA, hB]); (try with_reducible rfl); done))); (focus (first | (exact hck))); (focus ((first | refine snap_plain ?_ rfl | apply snap_data); repeat' (first | exact snapL_nil | apply snapL_i | apply snapL_dat | exact encS_dat _)))) | (apply o_gT; (focus (simp only [simB0, ZA, reduceEqDiff, ↓reduceIte, reduceAdd, reduceLeDiff, alenStr_encS, hsub, x1, x2, s1, a1, a2, encB, hA, hB]; done))) | ((first | apply o_gB | apply w_cond); (focus ((try simp only [simB0, ZA, reduceEqDiff, ↓reduceIte, reduceAdd, reduceLeDiff, alenStr_encS, hsub, x1, x2, s1, a1, a2, encB, hA, hB]); (try with_reducible rfl); done)); all_goals (intro _hg; (try simp only [ZB] at _hg); try first | exact absurd trivial _hg | (exfalso; omega))) | (refine e_ends rfl ?_) | (apply r_2; (iterate 2 (focus (simp only [rv, simB0, ZA, reduceEqDiff, ↓reduceIte, reduceAdd, reduceLeDiff, alenStr_encS, hsub, x1, x2, s1, a1, a2, encB, hA, hB]; with_reducible rfl)))))
  · rw [hO, if_neg (by simpa using _hg), e0]
    exact (Dat.tup (DatL.cons Dat.str (DatL.cons .int DatL.nil))) _
  · rw [hO, if_pos (by simpa using _hg)]
    exact (Dat.tup (DatL.cons (encS_dat _) (DatL.cons .int DatL.nil))) _

end Go.Proofs.Ytpbjhjkfobapeaa

/- Q14: contracts of functions and plain laws; for all inputs that the theorems name. -/
namespace Go.Proofs.Ytpbjhjkfobapeaa
open Go Go.Abs
open Nat (reduceEqDiff reduceAdd reduceLeDiff)

def anilck : AV → Option AV
  | .ptr b n o => some (.ptr b n o)
  | .iptr c o => some (.iptr c o)
  | .func f c => some (.func f c)
  | _ => none
theorem NK : (∀ (T : Tm) (H : Hp) (x : Opd), ival T H (.nilck x) = anilck (ov T x)) ∧ (∀ b n o : Nat, anilck (.ptr b n o) = some (.ptr b n o)) ∧ (∀ (c : List AV) (o : Nat), anilck (.iptr c o) = some (.iptr c o)) :=
  ⟨fun T H x => by simp only [ival]; cases ov T x <;> rfl, fun _ _ _ => rfl, fun _ _ => rfl⟩

def nextR (bs : List UInt8) (bad : Bool) : Int × List UInt8 × Bool := if bad = true then (0, bs, true) else match numR bs with
  | some (n, l) => (n, l, false)
  | none => (0, bs, true)
theorem numP_nil (f : Bool) (k u a : Nat) : numP f k u a [] = none := by cases k <;> rfl
theorem numP_bd : ∀ (k : Nat) (f : Bool) (u a : Nat) (l : List UInt8) (n : Nat) (r : List UInt8), numP f k u a l = some (n, r) → n + u ≤ a + u * 128 ^ k ∧ r.length < l.length
  | 0, _, _, _, _, _, _, h => by cases h
  | k + 1, _, _, _, [], _, _, h => by cases h
  | k + 1, f, u, a, c :: l, n, r, h => by
    simp only [numP] at h
    have hp : 1 ≤ 128 ^ k := Nat.one_le_pow _ _ (by omega)
    have hM : u * 128 ^ (k + 1) = 128 * (u * 128 ^ k) := by rw [Nat.pow_succ, ← Nat.mul_assoc, Nat.mul_comm]
    have hge : u ≤ u * 128 ^ k := Nat.le_mul_of_pos_right _ hp
    split at h
    · rename_i hc
      split at h
      · cases h
      · cases h
        have : c.toNat * u ≤ 127 * u := Nat.mul_le_mul_right _ (by omega)
        exact ⟨by rw [hM]; omega, by simp⟩
    · have := numP_bd k false (u * 128) (a + c.toNat % 128 * u) l n r h
      have h2 : c.toNat % 128 * u ≤ 127 * u := Nat.mul_le_mul_right _ (by omega)
      have h3 : u * 128 * 128 ^ k = 128 * (u * 128 ^ k) := by rw [Nat.mul_comm u 128, Nat.mul_assoc]
      rw [h3] at this
      exact ⟨by rw [hM]; omega, by simp; omega⟩
theorem nextR_bd (bs : List UInt8) (bad : Bool) : 0 ≤ (nextR bs bad).1 ∧ (nextR bs bad).1 < 268435456 ∧ (nextR bs bad).2.1.length ≤ bs.length := by
  unfold nextR
  split
  · exact ⟨by simp, by simp, Nat.le_refl _⟩
  · cases h : numR bs with
    | none => exact ⟨by simp, by simp, Nat.le_refl _⟩
    | some p =>
      obtain ⟨n, l⟩ := p
      have := numP_bd 4 true 1 0 bs n l h
      have e : (128 : Nat) ^ 4 = 268435456 := rfl
      simp only
      omega
attribute [local irreducible] awp2 aops2 ains aloop athen bbind obind gbind acond res1 Go.Abs.Fn PCall Go.Abs.Pure SnapArgs SnapL Yl

theorem number_f (b : Nat) (bs : List UInt8) (bad : Bool) (H : Hp) (nx : Nat) (hb : H b = some [encBs bs, .bool bad]) (hl : Sh bs) : Abs.Fn Try.prog 36 [.ptr b 2 0] H nx fun r H' nx' => r = .int .i64 (nextR bs bad).1 ∧ H' = hupd H b [encBs (nextR bs bad).2.1, .bool (nextR bs bad).2.2] ∧ nx' = nx := by
  refine Abs.Fn.of_c2 follows is36 (Nat.le_of_ble_eq_true rfl) ?_
  simp only [b36, O, G, N, M, D, F, B2, cFal, cTru]
  have hl' : bs.length ≤ 9223372036854775807 := hl
  cases bad with
  | true =>
    repeat' (first | apply w_seq | apply w_ops0 | apply w_block | apply a_n | apply o_nil | (apply o_val rfl rfl; (focus ((try simp (disch := omega) only [simB0, ZA, reduceEqDiff, ↓reduceIte, reduceAdd, reduceLeDiff, ZV, reduceCtorEq, hb, Bool.false_eq_true]); first | with_reducible rfl | (apply s_ite; (focus omega); with_reducible rfl)))) | apply w_loop)
    refine loop0 (X := Unit) (fun _ => [(0, .ptr b 2 0), (4, .int .i64 0)]) (fun _ => True) (fun _ => 0) () trivial (by simp (disch := omega) only [agr, ZG, reduceEqDiff, ↓reduceIte]) ?_
    rintro _ _
    repeat' (first | apply w_seq | apply w_ops0 | apply w_exit | apply w_ret | apply a_n | apply a_x | apply o_nil | (apply o_val rfl rfl; (focus ((try simp (disch := omega) only [simB0, ZA, reduceEqDiff, ↓reduceIte, reduceAdd, reduceLeDiff, ZV, reduceCtorEq, NK, hb, alenS_encBs, encBs_cells, encBs_one, Bool.false_eq_true]); first | with_reducible rfl | (apply s_ite; (focus omega); with_reducible rfl)))) | (apply e_st rfl; (iterate 4 (focus ((try simp only [simB0, ZA, reduceEqDiff, ↓reduceIte, reduceAdd, reduceLeDiff, NK, hb, alenS_encBs, encBs_cells, encBs_one, Bool.false_eq_true]); (try with_reducible rfl); done))); (focus (simp only [SO, Bool.and_self, one_encV, one_encVV, NK, hb, alenS_encBs, encBs_cells, encBs_one, Bool.false_eq_true])); (iterate 3 (focus ((try simp only [SL, reduceAdd, Nat.reduceMul, List.length_map]); first | done | omega)))) | (apply o_gT; (focus (simp only [simB0, ZA, reduceEqDiff, ↓reduceIte, reduceAdd, reduceLeDiff, NK, hb, alenS_encBs, encBs_cells, encBs_one, Bool.false_eq_true]; done))) | (apply o_gF; (focus (simp only [simB0, ZA, reduceEqDiff, ↓reduceIte, reduceAdd, reduceLeDiff, or_true, true_or, NK, hb, alenS_encBs, encBs_cells, encBs_one, Bool.false_eq_true]; done))) | (apply o_gB; (focus ((try simp only [simB0, ZA, reduceEqDiff, ↓reduceIte, reduceAdd, reduceLeDiff, NK, hb, alenS_encBs, encBs_cells, encBs_one, Bool.false_eq_true]); (try with_reducible rfl); done)); all_goals (intro _hg; (try simp only [ZB] at _hg); try first | exact absurd trivial _hg | (exfalso; omega))) | (apply w_condF; (focus (simp only [simB0, ZA, reduceEqDiff, ↓reduceIte, reduceAdd, reduceLeDiff, NK, hb, alenS_encBs, encBs_cells, encBs_one, Bool.false_eq_true]; done))) | (refine e_ends rfl ?_) | (apply r_1; (focus (simp only [rv, simB0, ZA, reduceEqDiff, ↓reduceIte, reduceAdd, reduceLeDiff, NK, hb, alenS_encBs, encBs_cells, encBs_one, Bool.false_eq_true]; with_reducible rfl))))
    all_goals exact ⟨rfl, rfl, rfl⟩
  | false =>
    have hR : nextR bs false = match numR bs with
      | some (n, l) => ((n : Int), l, false)
      | none => (0, bs, true) := by unfold nextR; rw [if_neg (by simp)]
    repeat' (first | apply w_seq | apply w_ops0 | apply w_block | apply a_n | apply o_nil | (apply o_val rfl rfl; (focus ((try simp (disch := omega) only [simB0, ZA, reduceEqDiff, ↓reduceIte, reduceAdd, reduceLeDiff, ZV, reduceCtorEq, hb, Bool.false_eq_true]); first | with_reducible rfl | (apply s_ite; (focus omega); with_reducible rfl)))) | apply w_loop)
    refine loop0 (X := Nat × Nat) (fun x => [(0, .ptr b 2 0), (3, .int .i64 (x.2 : Int)), (4, .int .i64 (x.1 : Int))]) (fun x => x.1 ≤ 4 ∧ x.2 < 128 ^ x.1 ∧ x.1 ≤ bs.length ∧ numR bs = numP (decide (x.1 = 0)) (4 - x.1) (128 ^ x.1) x.2 (bs.drop x.1)) (fun x => 4 - x.1) (0, 0) ⟨by omega, by simp, by omega, rfl⟩ (by simp (disch := omega) only [agr, ZG, reduceEqDiff, ↓reduceIte]) ?_
    rintro ⟨i, n⟩ ⟨h1, h2, h3, h4⟩
    dsimp only at h1 h2 h3 h4 ⊢
    by_cases hi : i < 4 ∧ i < bs.length
    rotate_left
    · have hnone : numR bs = none := by
        rw [h4]
        by_cases h5 : i < 4
        · rw [List.drop_eq_nil_of_le (by omega), numP_nil]
        · rw [show 4 - i = 0 by omega]; rfl
      rw [hnone] at hR
      rw [hR]
      repeat' (first | apply w_seq | apply w_ops0 | apply w_exit | apply w_ret | apply a_n | apply a_x | apply o_nil | (apply o_val rfl rfl; (focus ((try simp (disch := omega) only [simB0, ZA, reduceEqDiff, ↓reduceIte, reduceAdd, reduceLeDiff, ZV, reduceCtorEq, NK, hb, alenS_encBs, encBs_cells, encBs_one, Bool.false_eq_true]); first | with_reducible rfl | (apply s_ite; (focus omega); with_reducible rfl)))) | (apply e_st rfl; (iterate 4 (focus ((try simp only [simB0, ZA, reduceEqDiff, ↓reduceIte, reduceAdd, reduceLeDiff, NK, hb, alenS_encBs, encBs_cells, encBs_one, Bool.false_eq_true]); (try with_reducible rfl); done))); (focus (simp only [SO, Bool.and_self, one_encV, one_encVV, NK, hb, alenS_encBs, encBs_cells, encBs_one, Bool.false_eq_true])); (iterate 3 (focus ((try simp only [SL, reduceAdd, Nat.reduceMul, List.length_map]); first | done | omega)))) | (apply o_gT; (focus (simp only [simB0, ZA, reduceEqDiff, ↓reduceIte, reduceAdd, reduceLeDiff, NK, hb, alenS_encBs, encBs_cells, encBs_one, Bool.false_eq_true]; done))) | (apply o_gF; (focus (simp only [simB0, ZA, reduceEqDiff, ↓reduceIte, reduceAdd, reduceLeDiff, or_true, true_or, NK, hb, alenS_encBs, encBs_cells, encBs_one, Bool.false_eq_true]; done))) | (apply o_gB; (focus ((try simp only [simB0, ZA, reduceEqDiff, ↓reduceIte, reduceAdd, reduceLeDiff, NK, hb, alenS_encBs, encBs_cells, encBs_one, Bool.false_eq_true]); (try with_reducible rfl); done)); all_goals (intro _hg; (try simp only [ZB] at _hg); try first | exact absurd trivial _hg | (exfalso; omega))) | (apply w_condF; (focus (simp only [simB0, ZA, reduceEqDiff, ↓reduceIte, reduceAdd, reduceLeDiff, NK, hb, alenS_encBs, encBs_cells, encBs_one, Bool.false_eq_true]; done))) | (refine e_ends rfl ?_) | (apply r_1; (focus (simp only [rv, simB0, ZA, reduceEqDiff, ↓reduceIte, reduceAdd, reduceLeDiff, NK, hb, alenS_encBs, encBs_cells, encBs_one, Bool.false_eq_true]; with_reducible rfl))))
      all_goals exact ⟨rfl, rfl, rfl⟩
    have hd := drop_cons hi.2
    obtain ⟨k, hk⟩ : ∃ k, 4 - i = k + 1 := ⟨3 - i, by omega⟩
    rw [hd, hk, numP] at h4
    have hb4 : 128 ^ i ≤ 128 ^ 3 := Nat.pow_le_pow_right (by omega) (by omega)
    have hb4' : (128 : Nat) ^ 3 = 2097152 := rfl
    have hsucc : 128 ^ (i + 1) = 128 ^ i * 128 := Nat.pow_succ 128 i
    have hc1 := byte_lt (bs.getD i default)
    have hmul : (bs.getD i default).toNat % 128 * 128 ^ i ≤ 127 * 128 ^ i := Nat.mul_le_mul_right _ (by omega)
    have a1 := fun tb tf => and127u (bs.getD i default) tb tf
    have a2 : ∀ (tb tf : Bool) (k' : IntKind), abin2 .shl tb tf (.int .i64 (((bs.getD i default).toNat % 128 : Nat) : Int)) (.int k' (7 * (i : Int))) = some (.int .i64 (((bs.getD i default).toNat % 128 * 128 ^ i : Nat) : Int)) := fun tb tf k' => by
      have := shl_nat (k := .i64) (k' := k') (a := (bs.getD i default).toNat % 128) (b := 7 * i) (tb := tb) (tf := tf) (by simp [IntKind.bits]; omega) (by rw [pow7]; simp only [IntKind.bits]; omega)
      rw [pow7] at this
      rw [← this]; rfl
    have a3 : ∀ (tb tf : Bool), abin2 .or tb tf (.int .i64 (n : Int)) (.int .i64 (((bs.getD i default).toNat % 128 * 128 ^ i : Nat) : Int)) = some (.int .i64 ((n + (bs.getD i default).toNat % 128 * 128 ^ i : Nat) : Int)) := fun tb tf => by
      have := or_nat (k := .i64) (a := n) (b := (bs.getD i default).toNat % 128 * 128 ^ i) (tb := tb) (tf := tf) (by simp only [IntKind.bits]; omega) (by simp only [IntKind.bits]; omega)
      rw [this]
      congr 3
      rw [← pow7]
      exact or_add (by rw [pow7]; exact h2)
    generalize hcc : (bs.getD i default) = c at *
    generalize hun : 128 ^ i = u at *
    have hsl : asls 1 (encBs bs) (some (.int .i64 ((i : Int) + 1))) none none = some (encBs (bs.drop (i + 1))) := by
      have := asls_encL_lo (sz := 1) (f := encB) (l := bs) (k := i + 1) (by omega)
      rwa [show ((i + 1 : Nat) : Int) = (i : Int) + 1 by omega] at this
    have hcm : c.toNat < 128 → c.toNat % 128 = c.toNat := fun h => Nat.mod_eq_of_lt h
    repeat' (first | apply w_seq | apply w_ops0 | apply w_block | apply w_skip | apply w_exit | apply w_ret | apply a_n | apply a_x | apply a_r | apply o_nil | (apply o_val rfl rfl; (focus ((try simp (disch := omega) only [simB0, ZA, reduceEqDiff, ↓reduceIte, reduceAdd, reduceLeDiff, ZV, reduceCtorEq, NK, hb, alenS_encBs, aixS_encBs, encBs_cells, encBs_one, encB, hcc, a1, a2, a3, hsl, Bool.false_eq_true]); first | with_reducible rfl | (apply s_ite; (focus omega); with_reducible rfl)))) | (apply e_st rfl; (iterate 4 (focus ((try simp only [simB0, ZA, reduceEqDiff, ↓reduceIte, reduceAdd, reduceLeDiff, NK, hb, alenS_encBs, aixS_encBs, encBs_cells, encBs_one, encB, hcc, a1, a2, a3, hsl, Bool.false_eq_true]); (try with_reducible rfl); done))); (focus (simp only [SO, Bool.and_self, one_encV, one_encVV, NK, hb, alenS_encBs, aixS_encBs, encBs_cells, encBs_one, encB, hcc, a1, a2, a3, hsl, Bool.false_eq_true])); (iterate 3 (focus ((try simp only [SL, reduceAdd, Nat.reduceMul, List.length_map]); first | done | omega)))) | (apply o_gT; (focus (simp only [simB0, ZA, reduceEqDiff, ↓reduceIte, reduceAdd, reduceLeDiff, NK, hb, alenS_encBs, aixS_encBs, encBs_cells, encBs_one, encB, hcc, a1, a2, a3, hsl, Bool.false_eq_true]; done))) | (apply o_gF; (focus (simp only [simB0, ZA, reduceEqDiff, ↓reduceIte, reduceAdd, reduceLeDiff, or_true, true_or, NK, hb, alenS_encBs, aixS_encBs, encBs_cells, encBs_one, encB, hcc, a1, a2, a3, hsl, Bool.false_eq_true]; done))) | (apply w_condT; (focus (simp only [simB0, ZA, reduceEqDiff, ↓reduceIte, reduceAdd, reduceLeDiff, NK, hb, alenS_encBs, aixS_encBs, encBs_cells, encBs_one, encB, hcc, a1, a2, a3, hsl, Bool.false_eq_true]; done))) | (apply w_condF; (focus (simp only [simB0, ZA, reduceEqDiff, ↓reduceIte, reduceAdd, reduceLeDiff, NK, hb, alenS_encBs, aixS_encBs, encBs_cells, encBs_one, encB, hcc, a1, a2, a3, hsl, Bool.false_eq_true]; done))) | ((first | apply o_gB | apply w_cond); (focus ((try simp only [simB0, ZA, reduceEqDiff, ↓reduceIte, reduceAdd, reduceLeDiff, NK, hb, alenS_encBs, aixS_encBs, encBs_cells, encBs_one, encB, hcc, a1, a2, a3, hsl, Bool.false_eq_true]); (try with_reducible rfl); done)); all_goals (intro _hg; (try simp only [ZB] at _hg); try first | exact absurd trivial _hg | (exfalso; omega))) | (refine e_ends rfl ?_) | (apply r_1; (focus (simp only [rv, simB0, ZA, reduceEqDiff, ↓reduceIte, reduceAdd, reduceLeDiff, NK, hb, alenS_encBs, aixS_encBs, encBs_cells, encBs_one, encB, hcc, a1, a2, a3, hsl, Bool.false_eq_true]; with_reducible rfl))))
    · have hnone : numR bs = none := by
        rw [h4, if_pos (by omega), if_pos ⟨decide_eq_false (by omega), by omega⟩]
      rw [hnone] at hR
      rw [hR]
      exact ⟨rfl, rfl, rfl⟩
    · have hsome : numR bs = some (n + c.toNat * u, bs.drop (i + 1)) := by
        rw [h4, if_pos (by omega), if_neg (by omega)]
      rw [hsome] at hR
      rw [hR, hcm (by omega)]
      exact ⟨rfl, rfl, rfl⟩
    · have hsome : numR bs = some (n + c.toNat * u, bs.drop (i + 1)) := by
        rw [h4, if_pos (by omega), if_neg (by simp; omega)]
      rw [hsome] at hR
      rw [hR, hcm (by omega)]
      exact ⟨rfl, rfl, rfl⟩
    · refine ⟨(i + 1, n + c.toNat % 128 * u), ⟨by dsimp only; omega, by dsimp only; rw [hsucc]; omega, by dsimp only; omega, ?_⟩, by dsimp only; omega, by simp (disch := omega) only [agr, ZG, reduceEqDiff, ↓reduceIte], rfl, rfl⟩
      dsimp only
      rw [h4, if_neg (by omega), hsucc, show 4 - (i + 1) = k by omega, decide_eq_false (by omega)]

theorem less_f (b : Nat) (bs : List UInt8) (bad : Bool) (H : Hp) (nx : Nat) (hb : H b = some [encBs bs, .bool bad]) (hl : Sh bs) : Abs.Fn Try.prog 78 [.ptr b 2 0] H nx fun r H' nx' => r = .int .i64 ((nextR bs bad).1 - 1) ∧ H' = hupd H b [encBs (nextR bs bad).2.1, .bool (nextR bs bad).2.2] ∧ nx' = nx := by
  refine Abs.Fn.of_c2 follows is78 (Nat.le_of_ble_eq_true rfl) ?_
  simp only [b78, O, G, N, M, D, F, B2, cFal, cTru]
  have hbd := nextR_bd bs bad
  repeat' (first | apply w_seq | apply w_ops0 | apply a_n | apply o_nil | (apply o_val rfl rfl; (focus ((try simp (disch := omega) only [simB0, ZA, reduceEqDiff, ↓reduceIte, reduceAdd, reduceLeDiff, ZV, reduceCtorEq]); first | with_reducible rfl | (apply s_ite; (focus omega); with_reducible rfl)))))
  refine o_callE (by ((try simp only [simB0, ZA, reduceEqDiff, ↓reduceIte, reduceAdd, reduceLeDiff]); (try with_reducible rfl))) (by ((try simp only [simB0, ZA, reduceEqDiff, ↓reduceIte, reduceAdd, reduceLeDiff]); (try with_reducible rfl))) (number_f b bs bad H nx hb hl) ?_
  rintro r H' nx' ⟨rfl, rfl, rfl⟩
  repeat' (first | apply w_ret | apply a_n | apply o_nil | (apply o_val rfl rfl; (focus ((try simp (disch := omega) only [simB0, ZA, reduceEqDiff, ↓reduceIte, reduceAdd, reduceLeDiff, ZV, reduceCtorEq]); first | with_reducible rfl | (apply s_ite; (focus omega); with_reducible rfl)))) | (refine e_ends rfl ?_) | (apply r_1; (focus (simp only [rv, simB0, ZA, reduceEqDiff, ↓reduceIte, reduceAdd, reduceLeDiff]; with_reducible rfl))))
  exact ⟨rfl, rfl, rfl⟩

def repS (sub : Int) : Nat → List UInt8 → Bool → List Int × List UInt8 × Bool
  | 0, bs, bad => ([], bs, bad)
  | k + 1, bs, bad => if bad = true then ([], bs, true) else
    (((nextR bs false).1 - sub) :: (repS sub k (nextR bs false).2.1 (nextR bs false).2.2).1, (repS sub k (nextR bs false).2.1 (nextR bs false).2.2).2)
theorem repS_bad (sub : Int) (k : Nat) (bs : List UInt8) : repS sub k bs true = ([], bs, true) := by cases k <;> rfl
theorem repS_succ (sub : Int) (k : Nat) (bs : List UInt8) : repS sub (k + 1) bs false = (((nextR bs false).1 - sub) :: (repS sub k (nextR bs false).2.1 (nextR bs false).2.2).1, (repS sub k (nextR bs false).2.1 (nextR bs false).2.2).2) := rfl
theorem nextR_cost (bs : List UInt8) : (nextR bs false).2.2 = true ∨ (nextR bs false).2.1.length < bs.length := by
  unfold nextR
  rw [if_neg (by simp)]
  cases h : numR bs with
  | none => exact .inl rfl
  | some p =>
    obtain ⟨n, l⟩ := p
    exact .inr (numP_bd 4 true 1 0 bs n l h).2
theorem repS_len (sub : Int) : ∀ (k : Nat) (bs : List UInt8) (bad : Bool), (repS sub k bs bad).1.length ≤ bs.length + 1 ∧ (repS sub k bs bad).2.1.length ≤ bs.length
  | 0, bs, bad => by simp [repS]
  | k + 1, bs, bad => by
    cases bad with
    | true => rw [repS_bad]; simp
    | false =>
      rw [repS_succ]
      have h1 := repS_len sub k (nextR bs false).2.1 (nextR bs false).2.2
      have h2 := nextR_bd bs false
      rcases nextR_cost bs with h | h
      · rw [h, repS_bad]; rw [h, repS_bad] at h1; simp only [List.length_cons, List.length_nil] at h1 ⊢; omega
      · simp only [List.length_cons]; omega

theorem repeated_f (g : Nat) (sub : Int) (hg : g = 36 ∧ sub = 0 ∨ g = 78 ∧ sub = 1) (b : Nat) (bs : List UInt8) (bad : Bool) (n : Int) (H : Hp) (nx : Nat) (hb : H b = some [encBs bs, .bool bad]) (hlt : b < nx) (hl : bs.length ≤ 1000000000) (hn : n ≤ 4611686018427387904) :
    Abs.Fn Try.prog 77 [.ptr b 2 0, .int .i64 n, .bfn g [.ptr b 2 0]] H nx fun r H' nx' => H' b = some [encBs (repS sub n.toNat bs bad).2.1, .bool (repS sub n.toNat bs bad).2.2] ∧ Row H' 1 r ((repS sub n.toNat bs bad).1.map (AV.int .i64)) ∧ nx ≤ nx' ∧ (∀ i, i < nx → i ≠ b → H' i = H i) ∧ (∀ i, rowB r = some i → nx ≤ i ∧ i < nx') := by
  refine Abs.Fn.of_c2 follows is77 (Nat.le_of_ble_eq_true rfl) ?_
  simp only [b77, O, G, N, M, D, F, B2, cFal, cTru]
  have hcall : ∀ (bs : List UInt8) (bad : Bool) (H : Hp) (nx : Nat), H b = some [encBs bs, .bool bad] → bs.length ≤ 1000000000 → Abs.Fn Try.prog g [.ptr b 2 0] H nx fun r H' nx' => r = .int .i64 ((nextR bs bad).1 - sub) ∧ H' = hupd H b [encBs (nextR bs bad).2.1, .bool (nextR bs bad).2.2] ∧ nx' = nx := by
    intro bs bad H nx hb hl
    rcases hg with ⟨rfl, rfl⟩ | ⟨rfl, rfl⟩
    · have := number_f b bs bad H nx hb (by show _ ≤ _; omega)
      simpa using this
    · exact less_f b bs bad H nx hb (by show _ ≤ _; omega)
  have hsub : 0 ≤ sub ∧ sub ≤ 1 := by omega
  repeat' (first | apply w_seq | apply w_ops0 | apply w_block | apply a_n | apply o_nil | (apply o_val rfl rfl; (focus ((try simp (disch := omega) only [simB0, ZA, reduceEqDiff, ↓reduceIte, reduceAdd, reduceLeDiff, ZV, reduceCtorEq]); first | with_reducible rfl | (apply s_ite; (focus omega); with_reducible rfl)))) | apply w_loop)
  refine loopI (X := AV × Nat × List Int × List UInt8 × Bool) (fun x => [(0, .ptr b 2 0), (1, .int .i64 n), (2, .bfn g [.ptr b 2 0]), (7, x.1), (8, .int .i64 x.2.1)])
    (fun x H' nx' => x.2.1 ≤ n.toNat ∧ H' b = some [encBs x.2.2.2.1, .bool x.2.2.2.2] ∧ x.2.2.2.1.length ≤ bs.length ∧ x.2.2.1.length + x.2.2.2.1.length ≤ bs.length + (if x.2.2.2.2 = true then 1 else 0) ∧ nx ≤ nx' ∧ Row H' 1 x.1 (x.2.2.1.map (AV.int .i64)) ∧ (∀ i, rowB x.1 = some i → nx ≤ i ∧ i < nx') ∧ (∀ i, i < nx → i ≠ b → H' i = H i) ∧
      repS sub n.toNat bs bad = (x.2.2.1 ++ (repS sub (n.toNat - x.2.1) x.2.2.2.1 x.2.2.2.2).1, (repS sub (n.toNat - x.2.1) x.2.2.2.1 x.2.2.2.2).2)) (fun x => n.toNat - x.2.1) (.esl, 0, [], bs, bad)
    ⟨Nat.zero_le _, hb, Nat.le_refl _, by simp, Nat.le_refl _, Row.nil, fun i h => (by cases h), fun _ _ _ => rfl, by simp⟩ (by simp (disch := omega) only [agr, ZG, reduceEqDiff, ↓reduceIte]) ?_
  rintro ⟨s, k, l, cs, bd⟩ H1 nx1 ⟨k1, k2, k3, k4, k5, k6, k7, k8, k9⟩
  dsimp only at k1 k2 k3 k4 k6 k7 k9 ⊢
  by_cases hgo : k < n.toNat ∧ bd = false
  rotate_left
  · have hfin : repS sub (n.toNat - k) cs bd = ([], cs, bd) := by
      cases bd with
      | true => exact repS_bad _ _ _
      | false =>
        have : ¬ k < n.toNat := fun h => hgo ⟨h, rfl⟩
        rw [show n.toNat - k = 0 by omega]; rfl
    rw [hfin, List.append_nil] at k9
    rw [k9]
    by_cases hk : k < n.toNat
    · have hbd : bd = true := by simpa using fun h => hgo ⟨hk, h⟩
      subst hbd
      repeat' (first | apply w_seq | apply w_ops0 | apply w_exit | apply w_ret | apply a_n | apply a_x | apply o_nil | (apply o_val rfl rfl; (focus ((try simp (disch := omega) only [simB0, ZA, reduceEqDiff, ↓reduceIte, reduceAdd, reduceLeDiff, ZV, reduceCtorEq, NK, k2, Bool.false_eq_true]); first | with_reducible rfl | (apply s_ite; (focus omega); with_reducible rfl)))) | (apply o_gT; (focus (simp only [simB0, ZA, reduceEqDiff, ↓reduceIte, reduceAdd, reduceLeDiff, NK, k2, Bool.false_eq_true]; done))) | (apply o_gB; (focus ((try simp only [simB0, ZA, reduceEqDiff, ↓reduceIte, reduceAdd, reduceLeDiff, NK, k2, Bool.false_eq_true]); (try with_reducible rfl); done)); all_goals (intro _hg; (try simp only [ZB] at _hg); try first | exact absurd trivial _hg | (exfalso; omega))) | (apply w_condF; (focus (simp only [simB0, ZA, reduceEqDiff, ↓reduceIte, reduceAdd, reduceLeDiff, NK, k2, Bool.false_eq_true]; done))) | (refine e_ends rfl ?_) | (apply r_1; (focus (simp only [rv, simB0, ZA, reduceEqDiff, ↓reduceIte, reduceAdd, reduceLeDiff, NK, k2, Bool.false_eq_true]; with_reducible rfl))))
      exact ⟨k2, k6, k5, k8, k7⟩
    · repeat' (first | apply w_seq | apply w_ops0 | apply w_exit | apply w_ret | apply a_n | apply a_x | apply o_nil | (apply o_val rfl rfl; (focus ((try simp (disch := omega) only [simB0, ZA, reduceEqDiff, ↓reduceIte, reduceAdd, reduceLeDiff, ZV, reduceCtorEq, NK, k2, Bool.false_eq_true]); first | with_reducible rfl | (apply s_ite; (focus omega); with_reducible rfl)))) | (apply o_gF; (focus (simp only [simB0, ZA, reduceEqDiff, ↓reduceIte, reduceAdd, reduceLeDiff, or_true, true_or, NK, k2, Bool.false_eq_true]; done))) | (apply o_gB; (focus ((try simp only [simB0, ZA, reduceEqDiff, ↓reduceIte, reduceAdd, reduceLeDiff, NK, k2, Bool.false_eq_true]); (try with_reducible rfl); done)); all_goals (intro _hg; (try simp only [ZB] at _hg); try first | exact absurd trivial _hg | (exfalso; omega))) | (apply w_condF; (focus (simp only [simB0, ZA, reduceEqDiff, ↓reduceIte, reduceAdd, reduceLeDiff, NK, k2, Bool.false_eq_true]; done))) | (refine e_ends rfl ?_) | (apply r_1; (focus (simp only [rv, simB0, ZA, reduceEqDiff, ↓reduceIte, reduceAdd, reduceLeDiff, NK, k2, Bool.false_eq_true]; with_reducible rfl))))
      all_goals exact ⟨k2, k6, k5, k8, k7⟩
  obtain ⟨hk, rfl⟩ := hgo
  obtain ⟨q, hq⟩ : ∃ q, n.toNat - k = q + 1 := ⟨n.toNat - k - 1, by omega⟩
  rw [hq, repS_succ] at k9
  have hbd := nextR_bd cs false
  have hcost := nextR_cost cs
  have hone := k6.one
  have k4' : l.length + cs.length ≤ bs.length := by simpa using k4
  repeat' (first | apply w_seq | apply w_ops0 | apply w_block | apply w_skip | apply a_n | apply o_nil | (apply o_val rfl rfl; (focus ((try simp (disch := omega) only [simB0, ZA, reduceEqDiff, ↓reduceIte, reduceAdd, reduceLeDiff, ZV, reduceCtorEq, NK, k2, Bool.false_eq_true]); first | with_reducible rfl | (apply s_ite; (focus omega); with_reducible rfl)))) | (apply o_gT; (focus (simp only [simB0, ZA, reduceEqDiff, ↓reduceIte, reduceAdd, reduceLeDiff, NK, k2, Bool.false_eq_true]; done))) | (apply o_gB; (focus ((try simp only [simB0, ZA, reduceEqDiff, ↓reduceIte, reduceAdd, reduceLeDiff, NK, k2, Bool.false_eq_true]); (try with_reducible rfl); done)); all_goals (intro _hg; (try simp only [ZB] at _hg); try first | exact absurd trivial _hg | (exfalso; omega))) | (apply w_condT; (focus (simp only [simB0, ZA, reduceEqDiff, ↓reduceIte, reduceAdd, reduceLeDiff, NK, k2, Bool.false_eq_true]; done))))
  refine o_bcall (by ((try simp only [simB0, ZA, reduceEqDiff, ↓reduceIte, reduceAdd, reduceLeDiff]); (try with_reducible rfl))) (by ((try simp only [simB0, ZA, reduceEqDiff, ↓reduceIte, reduceAdd, reduceLeDiff]); (try with_reducible rfl))) (Abs.Fn.mono (hcall cs false H1 nx1 k2 (by omega)) ?_)
  rintro r H2 nx2 ⟨rfl, rfl, rfl⟩
  generalize hnx : nextR cs false = res at *
  obtain ⟨v, cs', bd'⟩ := res
  dsimp only at k9 hbd hcost ⊢
  repeat' (first | (apply e_bld rfl; (focus (exact Nat.succ_ne_zero _)); (focus ((try simp (disch := omega) only [simB2, ZA, reduceEqDiff, ↓reduceIte, reduceAdd, reduceLeDiff, hone.1, hone.2]); (try with_reducible rfl); done)); (focus ((try simp (disch := omega) only [simB2, ZA, reduceEqDiff, ↓reduceIte, reduceAdd, reduceLeDiff, SO, Bool.and_self, one_encV, one_encVV, hone.1, hone.2]); (try with_reducible rfl); done))))
  have hll : (l.map (AV.int .i64)).length = l.length := List.length_map _
  have hr6 : Row (hupd (hupd H1 b [encBs cs', .bool bd']) nx2 [.int .i64 (v - sub)]) 1 s (l.map (AV.int .i64)) := k6.same fun i hi => by
    have := k7 i hi
    rw [hupd_ne (by omega), hupd_ne (by omega)]
  refine e_row (k := 1) (new := [.int .i64 (v - sub)]) rfl (by ((try simp only [simB0, ZA, reduceEqDiff, ↓reduceIte, reduceAdd, reduceLeDiff]); (try with_reducible rfl))) hr6 (by ((try simp only [simB0, ZA, reduceEqDiff, ↓reduceIte, reduceAdd, reduceLeDiff]); (try with_reducible rfl))) (by
    have := asrc_msl (H := hupd (hupd H1 b [encBs cs', .bool bd']) nx2 [.int .i64 (v - sub)]) (sz := 1) (b := nx2) (n := 1) (off := 0) (len := 1) (cs := [.int .i64 (v - sub)]) hupd_self' rfl (by omega)
    exact this) rfl rfl Nat.one_pos (by rw [hll]; omega) (by rw [hll]; omega) ?_
  rintro s' H3 nx3 hrow j1 j2 j3 j4
  have hone' := hrow.one
  repeat' (first | apply w_ops0 | apply a_n | apply o_nil | (apply o_val rfl; (focus (first | rfl | (simp (disch := omega) only [dm2, oldP, newP, simB0, ZA, reduceEqDiff, ↓reduceIte, reduceAdd, reduceLeDiff, decide_eq_true_eq]; first | done | omega))); (focus ((try simp (disch := omega) only [simB2, ZA, reduceEqDiff, ↓reduceIte, reduceAdd, reduceLeDiff, ZV, reduceCtorEq, hone'.1, hone'.2]); first | with_reducible rfl | (apply s_ite; (focus omega); with_reducible rfl)))))
  refine ⟨(s', k + 1, l ++ [v - sub], cs', bd'), by dsimp only; omega, ⟨by dsimp only; omega, ?_, ?_, ?_, ?_, ?_, ?_, ?_, ?_⟩, by simp (disch := omega) only [agr, ZG, reduceEqDiff, ↓reduceIte]⟩
  all_goals try dsimp only
  · have hnr : rowB s ≠ some b := fun h => by have := k7 b h; omega
    rw [j3 b (by omega) hnr, hupd_ne (by omega), hupd_self']
  · omega
  · rw [List.length_append, List.length_singleton]
    rcases hcost with h | h
    · rw [if_pos h]; omega
    · omega
  · omega
  · rw [List.map_append]; exact hrow
  · intro i hi
    rcases j4 i hi with h | h
    · have := k7 i h; omega
    · omega
  · intro i hi hne
    have hnr : rowB s ≠ some i := fun h => by have := k7 i h; omega
    rw [j3 i (by omega) hnr, hupd_ne (by omega), hupd_ne (by omega), k8 i hi hne]
  · rw [k9, show n.toNat - (k + 1) = q by omega, List.append_assoc]; rfl

end Go.Proofs.Ytpbjhjkfobapeaa

/- Q15: contracts of functions and plain laws; for all inputs that the theorems name. -/
namespace Go.Proofs.Ytpbjhjkfobapeaa
open Go Go.Abs

/-! ### the bytes of a machine -/
def outB (r : List (List Int)) : List UInt8 := r.flatMap fun l => vints 0 [(l.length : Int)] ++ vints 1 l
def sendV (r : List (List Int)) : List UInt8 := r.flatMap fun l => vints 0 l
def symB (r : List (List (List Int))) : List UInt8 := r.flatMap sendV
def stepB (n : Nat) (x : StepV) : List UInt8 := vints 0 [x.round, x.proc] ++ vints 1 (x.heard.take n) ++ vints 0 [x.to]
def headB (m : MachV) : List UInt8 := [82, 84, 77, 1] ++ vints 0 [m.n, m.rounds, m.ins, m.outs]
def bodyB (m : MachV) : List UInt8 := headB m ++ m.first.flatMap (vints 1) ++ m.out.flatMap outB ++ m.symbols.flatMap symB ++ vints 0 [(m.steps.length : Int)] ++ m.steps.flatMap (stepB m.n.toNat)
def writtenB (m : MachV) : List UInt8 := sealB (bodyB m)

theorem flat_le {α β : Type} {l : List α} {f : α → List β} {b : Nat} (h : ∀ x ∈ l, (f x).length ≤ b) : (l.flatMap f).length ≤ l.length * b := by
  induction l with
  | nil => simp
  | cons x l ih =>
    have h1 := h x (by simp)
    have h2 := ih (fun y hy => h y (by simp [hy]))
    rw [List.flatMap_cons, List.length_append, List.length_cons, Nat.add_mul]
    omega
theorem flat_take {α β : Type} (l : List α) (f : α → List β) (k : Nat) : ((l.take k).flatMap f).length ≤ (l.flatMap f).length := by
  conv => rhs; rw [← List.take_append_drop k l]
  rw [List.flatMap_append, List.length_append]; omega
theorem lens_mem {l : List (List Int)} {x : List Int} (h : x ∈ l) : x.length ≤ lens l := by
  induction l with
  | nil => cases h
  | cons y l ih =>
    simp only [lens, List.map_cons, List.sum_cons]
    rcases List.mem_cons.1 h with rfl | h
    · omega
    · have := ih h; simp only [lens] at this; omega
theorem sumlens_mem {l : List (List (List Int))} {x : List (List Int)} (h : x ∈ l) : lens x ≤ (l.map lens).sum := by
  induction l with
  | nil => cases h
  | cons y l ih =>
    simp only [List.map_cons, List.sum_cons]
    rcases List.mem_cons.1 h with rfl | h
    · omega
    · have := ih h; omega
theorem mem_idx {α : Type} [Inhabited α] {l : List α} {x : α} (h : x ∈ l) : ∃ i, i < l.length ∧ l.getD i default = x := by
  obtain ⟨i, hi, e⟩ := List.getElem_of_mem h
  exact ⟨i, hi, by simp [List.getD, hi, e]⟩
theorem good_first {m : MachV} (h : GoodM m) {l : List Int} (hl : l ∈ m.first) : l.length ≤ 8 := by
  have := shaped_first h.sh hl
  have := h.i
  omega
theorem good_out {m : MachV} (h : GoodM m) {l : List (List Int)} (hl : l ∈ m.out) : l.length ≤ 5 ∧ ∀ x ∈ l, x.length ≤ 8192 := by
  obtain ⟨i, hi, rfl⟩ := mem_idx hl
  have := shaped_out h.sh hi
  have := h.n
  refine ⟨by omega, fun x hx => ?_⟩
  have h1 := lens_mem hx
  have h2 := sumlens_mem hl
  have h3 := h.st
  unfold statesN at h3
  omega
theorem good_sym {m : MachV} (h : GoodM m) {s : List (List (List Int))} (hs : s ∈ m.symbols) : s.length ≤ 5 ∧ ∀ r ∈ s, r.length ≤ 5 ∧ ∀ x ∈ r, x.length ≤ 8192 := by
  obtain ⟨k, hk, rfl⟩ := mem_idx hs
  obtain ⟨s1, s2⟩ := shaped_sym h.sh hk
  obtain ⟨l1, l2, l3⟩ := shaped_len h.sh
  have hn := h.n
  refine ⟨by omega, fun r hr => ?_⟩
  obtain ⟨p, hp, rfl⟩ := mem_idx hr
  obtain ⟨s3, s4⟩ := s2 p hp
  refine ⟨by omega, fun x hx => ?_⟩
  obtain ⟨q, hq, rfl⟩ := mem_idx hx
  have := s4 q hq
  split at this
  · omega
  · have hko : k < m.out.length := by omega
    have h1 := (good_out h (mem_getD hko)).2 _ (mem_getD (l := m.out.getD k default) (k := p) (by have := shaped_out h.sh hko; omega))
    omega
theorem good_len {m : MachV} (h : GoodM m) : m.first.length ≤ 5 ∧ m.out.length ≤ 7 ∧ m.symbols.length ≤ 6 := by
  obtain ⟨l1, l2, l3⟩ := shaped_len h.sh
  have := h.n
  have := h.r
  omega
theorem bodyB_len {m : MachV} (h : GoodM m) : (bodyB m).length ≤ 1000000000 := by
  obtain ⟨l1, l2, l3⟩ := good_len h
  have h1 : (m.first.flatMap (vints 1)).length ≤ m.first.length * 80 := flat_le fun x hx => by
    have := vints_len 1 x
    have := good_first h hx
    omega
  have h2 : (m.out.flatMap outB).length ≤ m.out.length * 500000 := flat_le fun x hx => by
    obtain ⟨g1, g2⟩ := good_out h hx
    have : (outB x).length ≤ x.length * 90000 := flat_le fun y hy => by
      have := vints_len 1 y
      have := vints_len 0 [(y.length : Int)]
      have := g2 y hy
      simp only [List.length_append, List.length_singleton] at *
      omega
    omega
  have h3 : (m.symbols.flatMap symB).length ≤ m.symbols.length * 5000000 := flat_le fun x hx => by
    obtain ⟨g1, g2⟩ := good_sym h hx
    have : (symB x).length ≤ x.length * 500000 := flat_le fun y hy => by
      obtain ⟨g3, g4⟩ := g2 y hy
      have : (sendV y).length ≤ y.length * 90000 := flat_le fun z hz => by
        have := vints_len 0 z
        have := g4 z hz
        omega
      omega
    omega
  have h4 : (m.steps.flatMap (stepB m.n.toNat)).length ≤ m.steps.length * 100 := flat_le fun x hx => by
    unfold stepB
    have := vints_len 0 [x.round, x.proc]
    have := vints_len 1 (x.heard.take m.n.toNat)
    have := vints_len 0 [x.to]
    have hh : x.heard.length = 5 := rfl
    simp only [List.length_append, List.length_take, List.length_cons, List.length_nil] at *
    omega
  have h5 := vints_len 0 [m.n, m.rounds, m.ins, m.outs]
  have h6 := vints_len 0 [(m.steps.length : Int)]
  have h7 := h.sl
  unfold bodyB headB
  simp only [List.length_append, List.length_cons, List.length_nil] at *
  omega

structure JW (m : MachV) (bs : List UInt8) (H : Hp) (nx : Nat) : Prop where
  m0 : H 0 = some m.cells
  out : ∃ s, OutI 2 bs H nx s ∧ rowB s ≠ some 0
theorem JW.lt {m : MachV} {bs : List UInt8} {H : Hp} {nx : Nat} (h : JW m bs H nx) : 2 < nx := by
  obtain ⟨s, h, _⟩ := h.out
  exact h.blt
attribute [local irreducible] awp2 aops2 ains aloop athen bbind obind gbind acond res1 Go.Abs.Fn PCall Go.Abs.Pure SnapArgs SnapL Yl

theorem write_d {m : MachV} {bs : List UInt8} {H : Hp} {nx : Nat} (h : JW m bs H nx) (add : Int) (l : List Int) (hl : bs.length ≤ 1000000000 ∧ l.length ≤ 1000000000) (hn : ∀ n ∈ l, 0 ≤ n + add ∧ n + add ≤ 4611686018427387904) (ha : -1000 ≤ add ∧ add ≤ 1000) :
    Abs.Fn Try.prog 92 [.int .i64 add, encV l, .ptr 2 1 0] H nx fun _ H' nx' => JW m (bs ++ vints add l) H' nx' := by
  obtain ⟨h0, s, hO, hne⟩ := h
  have h2 := hO.blt
  refine Abs.Fn.mono (write_f add l (encV l) s 2 bs H nx hO (Reads.data l) (by omega) hn ha) ?_
  rintro r H' nx' ⟨s', hO', hle, hrow, hfr⟩
  refine ⟨by rw [hfr 0 (by omega) (by omega) hne, h0], s', hO', ?_⟩
  rcases hrow with h | h
  · rw [h]; exact hne
  · intro h'; have := h 0 h'; omega
theorem write_b {m : MachV} {bs : List UInt8} {H : Hp} {nx : Nat} (h : JW m bs H nx) (add : Int) (l : List Int) (n : Nat) (hnl : n = l.length) (hl : bs.length ≤ 1000000000 ∧ l.length ≤ 1000000000) (hn : ∀ n ∈ l, 0 ≤ n + add ∧ n + add ≤ 4611686018427387904) (ha : -1000 ≤ add ∧ add ≤ 1000) :
    Abs.Fn Try.prog 92 [.int .i64 add, .msl nx n 1 0 n, .ptr 2 1 0] (hupd H nx (l.map (AV.int .i64))) (nx + 1) fun _ H' nx' => JW m (bs ++ vints add l) H' nx' := by
  obtain ⟨h0, s, hO, hne⟩ := h
  have h2 := hO.blt
  have hlt := hO.lt
  refine Abs.Fn.mono (write_f add l (.msl nx n 1 0 n) s 2 bs _ (nx + 1) hO.more (Reads.box hupd_self' (by omega) (by omega) (fun h => by have := hlt nx h; omega) hnl) (by omega) hn ha) ?_
  rintro r H' nx' ⟨s', hO', hle, hrow, hfr⟩
  refine ⟨by rw [hfr 0 (by omega) (by omega) hne, hupd_ne (by omega), h0], s', hO', ?_⟩
  rcases hrow with h | h
  · rw [h]; exact hne
  · intro h'; have := h 0 h'; omega

theorem flat_snoc {α β : Type} {l : List α} {f : α → List β} {x : α} : (l ++ [x]).flatMap f = l.flatMap f ++ f x := by simp

end Go.Proofs.Ytpbjhjkfobapeaa

/- Q16: contracts of functions and plain laws; for all inputs that the theorems name. -/
namespace Go.Proofs.Ytpbjhjkfobapeaa
open Go Go.Abs
open Nat (reduceEqDiff reduceAdd reduceLeDiff)

theorem good_fv {m : MachV} (h : GoodM m) {l : List Int} (hl : l ∈ m.first) {v : Int} (hv : v ∈ l) : 0 ≤ v + 1 ∧ v + 1 ≤ 4611686018427387904 := by
  obtain ⟨i, hi, rfl⟩ := mem_idx hl
  obtain ⟨l1, l2, l3⟩ := shaped_len h.sh
  have hr := h.r
  have hrg := h.rg
  unfold rangedB at hrg
  simp only [Bool.and_eq_true, List.all_eq_true, List.mem_range] at hrg
  have := hrg.1 i hi
  unfold firstB allB at this
  rw [List.all_eq_true] at this
  have := of_decide_eq_true (this v hv)
  have h0 : (0 : Nat) < m.out.length := by omega
  have hl0 := shaped_out h.sh h0
  have h1 := (good_out h (mem_getD h0)).2 _ (mem_getD (l := m.out.getD 0 default) (k := i) (by omega))
  omega
theorem good_ov {m : MachV} (h : GoodM m) {r : List (List Int)} (hr : r ∈ m.out) {l : List Int} (hl : l ∈ r) {v : Int} (hv : v ∈ l) : 0 ≤ v + 1 ∧ v + 1 ≤ 4611686018427387904 := by
  have hrg := h.rg
  unfold rangedB at hrg
  simp only [Bool.and_eq_true, List.all_eq_true] at hrg
  have := hrg.2.1 r hr l hl
  unfold allB at this
  rw [List.all_eq_true] at this
  have := of_decide_eq_true (this v hv)
  have := h.o
  omega
theorem good_sv {m : MachV} (h : GoodM m) {s : List (List (List Int))} (hs : s ∈ m.symbols) {r : List (List Int)} (hr : r ∈ s) {l : List Int} (hl : l ∈ r) {v : Int} (hv : v ∈ l) : 0 ≤ v + 0 ∧ v + 0 ≤ 4611686018427387904 := by
  have := ranged_sym h.rg hs hr hl hv
  omega
theorem stepsF_zero {m : MachV} : ∀ (l : List StepV) (p : Option StepV), stepsF m p l = 0 → ∀ s ∈ l, stepI m s = 0
  | [], _, _, s, hs => (by cases hs)
  | x :: l, p, h, s, hs => by
    simp only [stepsF] at h
    by_cases h1 : stepI m x ≠ 0
    · rw [if_pos h1] at h; exact absurd h h1
    · rw [if_neg h1] at h
      split at h
      · cases h
      · rcases List.mem_cons.1 hs with rfl | hs
        · simpa using h1
        · exact stepsF_zero l _ h s hs
theorem good_step {m : MachV} (h : GoodM m) {x : StepV} (hx : x ∈ m.steps) : (0 ≤ x.round ∧ x.round ≤ 6) ∧ (0 ≤ x.proc ∧ x.proc ≤ 5) ∧ (0 ≤ x.to ∧ x.to ≤ 8192) ∧ ∀ q, q < m.n.toNat → -1 ≤ x.heard.getD q default ∧ x.heard.getD q default ≤ 1048576 := by
  have hz := stepsF_zero m.steps none h.sf x hx
  obtain ⟨l1, l2, l3⟩ := shaped_len h.sh
  have hn := h.n
  have hr := h.r
  unfold stepI at hz
  split at hz
  · cases hz
  · rename_i h1
    simp only [Bool.not_eq_true', Bool.not_eq_false, Bool.and_eq_true] at h1
    obtain ⟨i1, i2, i3⟩ := h1
    have i1 := of_decide_eq_true i1
    have i2 := of_decide_eq_true i2
    have i3 := of_decide_eq_true i3
    split at hz
    · cases hz
    · split at hz
      · cases hz
      · rename_i h2 h3
        simp only [Bool.not_eq_true', Bool.not_eq_false, List.all_eq_true, List.mem_range] at h3
        have hko : (x.round + 1).toNat < m.out.length := by omega
        have hlo := shaped_out h.sh hko
        have hb1 := (good_out h (mem_getD hko)).2 _ (mem_getD (l := m.out.getD (x.round + 1).toNat default) (k := x.proc.toNat) (by omega))
        refine ⟨by omega, by omega, by omega, fun q hq => ?_⟩
        have hq3 := h3 q hq
        unfold heardB at hq3
        have hko2 : x.round.toNat < m.out.length := by omega
        have hlo2 := shaped_out h.sh hko2
        have hb2 := (good_out h (mem_getD hko2)).2 _ (mem_getD (l := m.out.getD x.round.toNat default) (k := q) (by omega))
        split at hq3
        · have := of_decide_eq_true hq3; omega
        · have := of_decide_eq_true hq3; omega
theorem JW.box {m : MachV} {bs : List UInt8} {H : Hp} {nx : Nat} {a b : List AV} (h : JW m bs H nx) : JW m bs (hdel (hupd (hupd H nx a) nx b) nx) (nx + 1) := by
  obtain ⟨h0, s, hO, hne⟩ := h
  have h2 := hO.blt
  have hlt := hO.lt
  refine ⟨by rw [hdel_ne (by omega), hupd_ne (by omega), hupd_ne (by omega), h0], s, ⟨by rw [hdel_ne (by omega), hupd_ne (by omega), hupd_ne (by omega), hO.box], hO.row.same fun r hr => ?_, hO.ne, fun r hr => by have := hlt r hr; omega, by omega⟩, hne⟩
  have := hlt r hr
  rw [hdel_ne (by omega), hupd_ne (by omega), hupd_ne (by omega)]
theorem JW.frame {m : MachV} {bs : List UInt8} {H H' : Hp} {nx nx' : Nat} (h : JW m bs H nx) (hs : ∀ i, i < nx → H' i = H i) (hle : nx ≤ nx') : JW m bs H' nx' := by
  obtain ⟨h0, s, ⟨i1, i2, i3, i4, i5⟩, hne⟩ := h
  exact ⟨by rw [hs 0 (by omega), h0], s, ⟨by rw [hs 2 i5, i1], i2.same fun r hr => hs r (i4 r hr), i3, fun r hr => by have := i4 r hr; omega, by omega⟩, hne⟩
attribute [local irreducible] awp2 aops2 ains aloop athen bbind obind gbind acond res1 Go.Abs.Fn PCall Go.Abs.Pure SnapArgs SnapL Yl

theorem written_c (m : MachV) (hg : GoodM m) : Pure Try.prog 42 [encM m] (encS (writtenB m)) := by
  refine Pure.of_c2 follows is42 (Nat.le_of_ble_eq_true rfl) ?_
  simp only [b42, O, G, N, M, D, F, B2, cFal, cTru]
  have hbl := bodyB_len hg
  have hn := hg.n
  have hrr := hg.r
  have hii := hg.i
  have hoo := hg.o
  obtain ⟨l1, l2, l3⟩ := good_len hg
  have e0 : AV.str ⟨#[82, 84, 77, 1]⟩ = encS [82, 84, 77, 1] := rfl
  let B1 := headB m
  let B2 := B1 ++ m.first.flatMap (vints 1)
  let B3 := B2 ++ m.out.flatMap outB
  let B4 := B3 ++ m.symbols.flatMap symB
  let B5 := B4 ++ vints 0 [(m.steps.length : Int)]
  have hB : bodyB m = B5 ++ m.steps.flatMap (stepB m.n.toNat) := rfl
  have hB5 : B5.length ≤ 1000000000 := by
    rw [hB, List.length_append] at hbl; omega
  have hB4 : B4.length ≤ 1000000000 := by
    have : B5 = B4 ++ vints 0 [(m.steps.length : Int)] := rfl
    rw [this, List.length_append] at hB5; omega
  have hB3 : B3.length + (m.symbols.flatMap symB).length ≤ 1000000000 := by
    have : B4 = B3 ++ m.symbols.flatMap symB := rfl
    rw [this, List.length_append] at hB4; omega
  have hB2 : B2.length + (m.out.flatMap outB).length ≤ 1000000000 := by
    have : B3 = B2 ++ m.out.flatMap outB := rfl
    rw [this, List.length_append] at hB3; omega
  have hB1 : B1.length + (m.first.flatMap (vints 1)).length ≤ 1000000000 := by
    have : B2 = B1 ++ m.first.flatMap (vints 1) := rfl
    rw [this, List.length_append] at hB2; omega
  refine w_seq ?_
  repeat' (first | apply w_ops0 | apply a_n | apply o_nil | (apply o_val rfl rfl; (focus ((try simp (disch := omega) only [simB0, ZA, reduceEqDiff, ↓reduceIte, reduceAdd, reduceLeDiff, ZV, reduceCtorEq, ME]); first | with_reducible rfl | (apply s_ite; (focus omega); with_reducible rfl)))) | (apply e_box rfl; (iterate 2 (focus ((try simp only [simB0, ZA, reduceEqDiff, ↓reduceIte, reduceAdd, reduceLeDiff, ME]); (try with_reducible rfl); done))); (focus (simp only [SO, Bool.and_self, one_encV, one_encVV, ME]))))
  refine w_seq ?_
  repeat' (first | apply w_ops0)
  refine o_callE (by ((try simp only [simB0, ZA, reduceEqDiff, ↓reduceIte, reduceAdd, reduceLeDiff]); (try with_reducible rfl))) (by ((try simp only [simB0, ZA, reduceEqDiff, ↓reduceIte, reduceAdd, reduceLeDiff]); (try with_reducible rfl)); rfl) (writer_f [82, 84, 77, 1] (by simp) _ _) ?_
  rintro r H1 nx1 ⟨rfl, rfl, hfr, hO⟩
  simp only [reduceAdd] at hO hfr
  have h0 : H1 0 = some m.cells := (hfr 0 (by omega)).trans rfl
  have hJ : JW m [82, 84, 77, 1] H1 3 := ⟨h0, _, hO, by simp [rowB]⟩
  repeat' (first | apply a_n | apply o_nil | (apply o_val rfl rfl; (focus ((try simp (disch := omega) only [simB0, ZA, reduceEqDiff, ↓reduceIte, reduceAdd, reduceLeDiff, ZV, reduceCtorEq]); first | with_reducible rfl | (apply s_ite; (focus omega); with_reducible rfl)))))
  refine w_seqC (fun T H nx => T 1 = .ptr 0 8 0 ∧ T 3 = .func 92 [.ptr 2 1 0] ∧ T 4 = .func 93 [.ptr 2 1 0] ∧ JW m B1 H nx) ?_ ?_
  · repeat' (first | apply w_ops0 | (apply o_val rfl rfl; (focus ((try simp (disch := omega) only [simB0, ZA, reduceEqDiff, ↓reduceIte, reduceAdd, reduceLeDiff, ZV, reduceCtorEq, ME, h0]); first | with_reducible rfl | (apply s_ite; (focus omega); with_reducible rfl)))) | (apply e_bld rfl; (focus (exact Nat.succ_ne_zero _)); (focus ((try simp only [simB0, ZA, reduceEqDiff, ↓reduceIte, reduceAdd, reduceLeDiff, ME, h0]); (try with_reducible rfl); done)); (focus ((try simp only [simB0, ZA, reduceEqDiff, ↓reduceIte, reduceAdd, reduceLeDiff, SO, Bool.and_self, one_encV, one_encVV, ME, h0]); (try with_reducible rfl); done))))
    refine o_callE (by ((try simp only [simB0, ZA, reduceEqDiff, ↓reduceIte, reduceAdd, reduceLeDiff]); (try with_reducible rfl))) (by ((try simp only [simB0, ZA, reduceEqDiff, ↓reduceIte, reduceAdd, reduceLeDiff]); (try with_reducible rfl))) (write_b hJ 0 [m.n, m.rounds, m.ins, m.outs] 4 rfl (by simp) (by simp; omega) (by omega)) ?_
    rintro r H2 nx2 hJ2
    repeat' (first | apply a_n | apply o_nil)
    exact ⟨rfl, rfl, rfl, hJ2⟩
  clear hO hJ h0 hfr H1
  rintro T H nx ⟨t1, t3, t4, hJ⟩
  have h0 := hJ.m0
  refine w_seqC (fun T H nx => T 1 = .ptr 0 8 0 ∧ T 3 = .func 92 [.ptr 2 1 0] ∧ T 4 = .func 93 [.ptr 2 1 0] ∧ JW m B2 H nx) ?_ ?_
  · repeat' (first | apply w_seq | apply w_ops0 | apply w_block | apply a_n | apply o_nil | (apply o_val rfl rfl; (focus ((try simp (disch := omega) only [simB0, ZA, reduceEqDiff, ↓reduceIte, reduceAdd, reduceLeDiff, ZV, reduceCtorEq, ME, t1, t3, t4, h0]); first | with_reducible rfl | (apply s_ite; (focus omega); with_reducible rfl)))) | apply w_loop)
    refine loopI (X := Nat) (fun k => [(1, .ptr 0 8 0), (3, .func 92 [.ptr 2 1 0]), (4, .func 93 [.ptr 2 1 0]), (35, encVV m.first), (36, .int .i64 m.first.length), (37, .int .i64 k)]) (fun k H nx => k ≤ m.first.length ∧ JW m (B1 ++ (m.first.take k).flatMap (vints 1)) H nx) (fun k => m.first.length - k) 0 ⟨Nat.zero_le _, by simpa using hJ⟩ (by simp (disch := omega) only [agr, ZG, reduceEqDiff, ↓reduceIte, t1, t3, t4]) ?_
    clear hJ h0 t1 t3 t4 H nx
    rintro k H nx ⟨k1, hJ⟩
    by_cases hk : k < m.first.length
    · have hm := mem_getD hk
      have hp := flat_take m.first (vints 1) k
      have hl := good_first hg hm
      repeat' (first | apply w_seq | apply w_ops0 | apply w_block | apply w_skip | apply a_n | apply o_nil | (apply o_val rfl rfl; (focus ((try simp (disch := omega) only [simB0, ZA, reduceEqDiff, ↓reduceIte, reduceAdd, reduceLeDiff, ZV, reduceCtorEq, ME]); first | with_reducible rfl | (apply s_ite; (focus omega); with_reducible rfl)))) | (apply w_cond; (focus ((try simp only [simB0, ZA, reduceEqDiff, ↓reduceIte, reduceAdd, reduceLeDiff, ME]); (try with_reducible rfl); done)); all_goals (intro _hg; (try simp only [ZB] at _hg); try first | exact absurd trivial _hg | (exfalso; omega))))
      refine o_callE (by ((try simp only [simB0, ZA, reduceEqDiff, ↓reduceIte, reduceAdd, reduceLeDiff]); (try with_reducible rfl))) (by ((try simp only [simB0, ZA, reduceEqDiff, ↓reduceIte, reduceAdd, reduceLeDiff]); (try with_reducible rfl))) (write_d hJ 1 (m.first.getD k default) ⟨by rw [List.length_append]; omega, by omega⟩ (fun v hv => good_fv hg hm hv) (by omega)) ?_
      rintro r H2 nx2 hJ2
      repeat' (first | apply w_ops0 | apply a_n | apply o_nil | (apply o_val rfl rfl; (focus ((try simp (disch := omega) only [simB0, ZA, reduceEqDiff, ↓reduceIte, reduceAdd, reduceLeDiff, ZV, reduceCtorEq]); first | with_reducible rfl | (apply s_ite; (focus omega); with_reducible rfl)))))
      refine ⟨k + 1, by omega, ⟨by omega, ?_⟩, by simp (disch := omega) only [agr, ZG, reduceEqDiff, ↓reduceIte]⟩
      rw [take_succ' hk, flat_snoc, ← List.append_assoc]; exact hJ2
    · repeat' (first | apply w_seq | apply w_ops0 | apply w_exit | apply a_n | apply a_x | apply o_nil | (apply o_val rfl rfl; (focus ((try simp (disch := omega) only [simB0, ZA, reduceEqDiff, ↓reduceIte, reduceAdd, reduceLeDiff, ZV, reduceCtorEq, ME]); first | with_reducible rfl | (apply s_ite; (focus omega); with_reducible rfl)))) | (apply w_cond; (focus ((try simp only [simB0, ZA, reduceEqDiff, ↓reduceIte, reduceAdd, reduceLeDiff, ME]); (try with_reducible rfl); done)); all_goals (intro _hg; (try simp only [ZB] at _hg); try first | exact absurd trivial _hg | (exfalso; omega))))
      rw [List.take_of_length_le (by omega)] at hJ
      exact ⟨rfl, rfl, rfl, hJ⟩
  clear hJ h0 t1 t3 t4 H nx
  rintro T H nx ⟨t1, t3, t4, hJ⟩
  have h0 := hJ.m0
  refine w_seqC (fun T H nx => T 1 = .ptr 0 8 0 ∧ T 3 = .func 92 [.ptr 2 1 0] ∧ T 4 = .func 93 [.ptr 2 1 0] ∧ JW m B3 H nx) ?_ ?_
  · repeat' (first | apply w_seq | apply w_ops0 | apply w_block | apply a_n | apply o_nil | (apply o_val rfl rfl; (focus ((try simp (disch := omega) only [simB0, ZA, reduceEqDiff, ↓reduceIte, reduceAdd, reduceLeDiff, ZV, reduceCtorEq, ME, t1, t3, t4, h0]); first | with_reducible rfl | (apply s_ite; (focus omega); with_reducible rfl)))) | apply w_loop)
    refine loopI (X := Nat) (fun k => [(1, .ptr 0 8 0), (3, .func 92 [.ptr 2 1 0]), (4, .func 93 [.ptr 2 1 0]), (46, encV3 m.out), (47, .int .i64 m.out.length), (48, .int .i64 k)]) (fun k H nx => k ≤ m.out.length ∧ JW m (B2 ++ (m.out.take k).flatMap outB) H nx) (fun k => m.out.length - k) 0 ⟨Nat.zero_le _, by simpa using hJ⟩ (by simp (disch := omega) only [agr, ZG, reduceEqDiff, ↓reduceIte, t1, t3, t4]) ?_
    clear hJ h0 t1 t3 t4 H nx
    rintro k H nx ⟨k1, hJ⟩
    by_cases hk : k < m.out.length
    · have hm := mem_getD hk
      have hp := flat_take m.out outB (k + 1)
      rw [take_succ' hk, flat_snoc, List.length_append] at hp
      have hsn : (m.out.take (k + 1)).flatMap outB = (m.out.take k).flatMap outB ++ outB (m.out.getD k default) := by rw [take_succ' hk, flat_snoc]
      obtain ⟨q1, q2⟩ := good_out hg hm
      have hov : ∀ l ∈ m.out.getD k default, ∀ v ∈ l, 0 ≤ v + 1 ∧ v + 1 ≤ 4611686018427387904 := fun l hl v hv => good_ov hg hm hl hv
      generalize hR : m.out.getD k default = R at *
      have hBp : (B2 ++ (m.out.take k).flatMap outB).length + (outB R).length ≤ 1000000000 := by rw [List.length_append]; omega
      generalize hBB : B2 ++ (m.out.take k).flatMap outB = BB at *
      repeat' (first | apply w_seq | apply w_ops0 | apply w_block | apply w_skip | apply a_n | apply o_nil | (apply o_val rfl rfl; (focus ((try simp (disch := omega) only [simB0, ZA, reduceEqDiff, ↓reduceIte, reduceAdd, reduceLeDiff, ZV, reduceCtorEq, ME, hR]); first | with_reducible rfl | (apply s_ite; (focus omega); with_reducible rfl)))) | (apply w_cond; (focus ((try simp only [simB0, ZA, reduceEqDiff, ↓reduceIte, reduceAdd, reduceLeDiff, ME, hR]); (try with_reducible rfl); done)); all_goals (intro _hg; (try simp only [ZB] at _hg); try first | exact absurd trivial _hg | (exfalso; omega))) | apply w_loop)
      refine loopI (X := Nat) (fun p => [(1, .ptr 0 8 0), (3, .func 92 [.ptr 2 1 0]), (4, .func 93 [.ptr 2 1 0]), (46, encV3 m.out), (47, .int .i64 m.out.length), (48, .int .i64 k), (52, encVV R), (53, .int .i64 R.length), (54, .int .i64 p)]) (fun p H nx => p ≤ R.length ∧ JW m (BB ++ outB (R.take p)) H nx) (fun p => R.length - p) 0 ⟨Nat.zero_le _, by simpa [outB] using hJ⟩ (by simp (disch := omega) only [agr, ZG, reduceEqDiff, ↓reduceIte]) ?_
      clear hJ H nx
      rintro p H nx ⟨p1, hJ⟩
      by_cases hp : p < R.length
      · have hm2 := mem_getD hp
        have hpp : (outB (R.take (p + 1))).length ≤ (outB R).length := flat_take R _ (p + 1)
        have hsn2 : outB (R.take (p + 1)) = outB (R.take p) ++ (vints 0 [((R.getD p default).length : Int)] ++ vints 1 (R.getD p default)) := by
          unfold outB; rw [take_succ' hp, flat_snoc]
        rw [hsn2] at hpp
        simp only [List.length_append] at hpp
        have hl8 := q2 _ hm2
        have hvv := hov _ hm2
        generalize hLL : R.getD p default = L at *
        repeat' (first | apply w_seq | apply w_ops0 | apply w_block | apply w_skip | apply a_n | apply o_nil | (apply o_val rfl rfl; (focus ((try simp (disch := omega) only [simB0, ZA, reduceEqDiff, ↓reduceIte, reduceAdd, reduceLeDiff, ZV, reduceCtorEq, ME, hLL]); first | with_reducible rfl | (apply s_ite; (focus omega); with_reducible rfl)))) | (apply e_bld rfl; (focus (exact Nat.succ_ne_zero _)); (focus ((try simp only [simB0, ZA, reduceEqDiff, ↓reduceIte, reduceAdd, reduceLeDiff, ME, hLL]); (try with_reducible rfl); done)); (focus ((try simp only [simB0, ZA, reduceEqDiff, ↓reduceIte, reduceAdd, reduceLeDiff, SO, Bool.and_self, one_encV, one_encVV, ME, hLL]); (try with_reducible rfl); done))) | (apply w_cond; (focus ((try simp only [simB0, ZA, reduceEqDiff, ↓reduceIte, reduceAdd, reduceLeDiff, ME, hLL]); (try with_reducible rfl); done)); all_goals (intro _hg; (try simp only [ZB] at _hg); try first | exact absurd trivial _hg | (exfalso; omega))))
        refine o_callE (by ((try simp only [simB0, ZA, reduceEqDiff, ↓reduceIte, reduceAdd, reduceLeDiff]); (try with_reducible rfl))) (by ((try simp only [simB0, ZA, reduceEqDiff, ↓reduceIte, reduceAdd, reduceLeDiff]); (try with_reducible rfl))) (write_b hJ 0 [(L.length : Int)] 1 rfl ⟨by rw [List.length_append]; omega, by simp⟩ (by simp; omega) (by omega)) ?_
        rintro r H2 nx2 hJ2
        repeat' (first | apply w_ops0 | apply a_n | apply o_nil | (apply o_val rfl rfl; (focus ((try simp (disch := omega) only [simB0, ZA, reduceEqDiff, ↓reduceIte, reduceAdd, reduceLeDiff, ZV, reduceCtorEq]); first | with_reducible rfl | (apply s_ite; (focus omega); with_reducible rfl)))))
        refine o_callE (by ((try simp only [simB0, ZA, reduceEqDiff, ↓reduceIte, reduceAdd, reduceLeDiff]); (try with_reducible rfl))) (by ((try simp only [simB0, ZA, reduceEqDiff, ↓reduceIte, reduceAdd, reduceLeDiff]); (try with_reducible rfl))) (write_d hJ2 1 L ⟨by simp only [List.length_append]; omega, by omega⟩ hvv (by omega)) ?_
        rintro r H3 nx3 hJ3
        repeat' (first | apply w_ops0 | apply a_n | apply o_nil | (apply o_val rfl rfl; (focus ((try simp (disch := omega) only [simB0, ZA, reduceEqDiff, ↓reduceIte, reduceAdd, reduceLeDiff, ZV, reduceCtorEq]); first | with_reducible rfl | (apply s_ite; (focus omega); with_reducible rfl)))))
        refine ⟨p + 1, by omega, ⟨by omega, ?_⟩, by simp (disch := omega) only [agr, ZG, reduceEqDiff, ↓reduceIte]⟩
        rw [hsn2]
        simpa only [List.append_assoc] using hJ3
      · repeat' (first | apply w_seq | apply w_ops0 | apply w_exit | apply a_n | apply a_x | apply o_nil | (apply o_val rfl rfl; (focus ((try simp (disch := omega) only [simB0, ZA, reduceEqDiff, ↓reduceIte, reduceAdd, reduceLeDiff, ZV, reduceCtorEq, ME]); first | with_reducible rfl | (apply s_ite; (focus omega); with_reducible rfl)))) | (apply w_cond; (focus ((try simp only [simB0, ZA, reduceEqDiff, ↓reduceIte, reduceAdd, reduceLeDiff, ME]); (try with_reducible rfl); done)); all_goals (intro _hg; (try simp only [ZB] at _hg); try first | exact absurd trivial _hg | (exfalso; omega))))
        rw [List.take_of_length_le (by omega)] at hJ
        refine ⟨k + 1, by omega, ⟨by omega, ?_⟩, by simp (disch := omega) only [agr, ZG, reduceEqDiff, ↓reduceIte]⟩
        rw [hsn, ← List.append_assoc, hBB]; exact hJ
    · repeat' (first | apply w_seq | apply w_ops0 | apply w_exit | apply a_n | apply a_x | apply o_nil | (apply o_val rfl rfl; (focus ((try simp (disch := omega) only [simB0, ZA, reduceEqDiff, ↓reduceIte, reduceAdd, reduceLeDiff, ZV, reduceCtorEq, ME]); first | with_reducible rfl | (apply s_ite; (focus omega); with_reducible rfl)))) | (apply w_cond; (focus ((try simp only [simB0, ZA, reduceEqDiff, ↓reduceIte, reduceAdd, reduceLeDiff, ME]); (try with_reducible rfl); done)); all_goals (intro _hg; (try simp only [ZB] at _hg); try first | exact absurd trivial _hg | (exfalso; omega))))
      rw [List.take_of_length_le (by omega)] at hJ
      exact ⟨rfl, rfl, rfl, hJ⟩
  clear hJ h0 t1 t3 t4 H nx
  rintro T H nx ⟨t1, t3, t4, hJ⟩
  have h0 := hJ.m0
  refine w_seqC (fun T H nx => T 1 = .ptr 0 8 0 ∧ T 3 = .func 92 [.ptr 2 1 0] ∧ T 4 = .func 93 [.ptr 2 1 0] ∧ JW m B4 H nx) ?_ ?_
  · repeat' (first | apply w_seq | apply w_ops0 | apply w_block | apply a_n | apply o_nil | (apply o_val rfl rfl; (focus ((try simp (disch := omega) only [simB0, ZA, reduceEqDiff, ↓reduceIte, reduceAdd, reduceLeDiff, ZV, reduceCtorEq, ME, t1, t3, t4, h0]); first | with_reducible rfl | (apply s_ite; (focus omega); with_reducible rfl)))) | apply w_loop)
    refine loopI (X := Nat) (fun k => [(1, .ptr 0 8 0), (3, .func 92 [.ptr 2 1 0]), (4, .func 93 [.ptr 2 1 0]), (69, encV4 m.symbols), (70, .int .i64 m.symbols.length), (71, .int .i64 k)]) (fun k H nx => k ≤ m.symbols.length ∧ JW m (B3 ++ (m.symbols.take k).flatMap symB) H nx) (fun k => m.symbols.length - k) 0 ⟨Nat.zero_le _, by simpa using hJ⟩ (by simp (disch := omega) only [agr, ZG, reduceEqDiff, ↓reduceIte, t1, t3, t4]) ?_
    clear hJ h0 t1 t3 t4 H nx
    rintro k H nx ⟨k1, hJ⟩
    by_cases hk : k < m.symbols.length
    rotate_left
    · repeat' (first | apply w_seq | apply w_ops0 | apply w_exit | apply a_n | apply a_x | apply o_nil | (apply o_val rfl rfl; (focus ((try simp (disch := omega) only [simB0, ZA, reduceEqDiff, ↓reduceIte, reduceAdd, reduceLeDiff, ZV, reduceCtorEq, ME]); first | with_reducible rfl | (apply s_ite; (focus omega); with_reducible rfl)))) | (apply w_cond; (focus ((try simp only [simB0, ZA, reduceEqDiff, ↓reduceIte, reduceAdd, reduceLeDiff, ME]); (try with_reducible rfl); done)); all_goals (intro _hg; (try simp only [ZB] at _hg); try first | exact absurd trivial _hg | (exfalso; omega))))
      rw [List.take_of_length_le (by omega)] at hJ
      exact ⟨rfl, rfl, rfl, hJ⟩
    have hm := mem_getD hk
    have hp := flat_take m.symbols symB (k + 1)
    rw [take_succ' hk, flat_snoc, List.length_append] at hp
    have hsn : (m.symbols.take (k + 1)).flatMap symB = (m.symbols.take k).flatMap symB ++ symB (m.symbols.getD k default) := by rw [take_succ' hk, flat_snoc]
    obtain ⟨q1, q2⟩ := good_sym hg hm
    have hov : ∀ r ∈ m.symbols.getD k default, ∀ l ∈ r, ∀ v ∈ l, 0 ≤ v + 0 ∧ v + 0 ≤ 4611686018427387904 := fun r hr l hl v hv => good_sv hg hm hr hl hv
    generalize hR : m.symbols.getD k default = R at *
    have hBp : (B3 ++ (m.symbols.take k).flatMap symB).length + (symB R).length ≤ 1000000000 := by rw [List.length_append]; omega
    generalize hBB : B3 ++ (m.symbols.take k).flatMap symB = BB at *
    repeat' (first | apply w_seq | apply w_ops0 | apply w_block | apply w_skip | apply a_n | apply o_nil | (apply o_val rfl rfl; (focus ((try simp (disch := omega) only [simB0, ZA, reduceEqDiff, ↓reduceIte, reduceAdd, reduceLeDiff, ZV, reduceCtorEq, ME, hR]); first | with_reducible rfl | (apply s_ite; (focus omega); with_reducible rfl)))) | (apply w_cond; (focus ((try simp only [simB0, ZA, reduceEqDiff, ↓reduceIte, reduceAdd, reduceLeDiff, ME, hR]); (try with_reducible rfl); done)); all_goals (intro _hg; (try simp only [ZB] at _hg); try first | exact absurd trivial _hg | (exfalso; omega))) | apply w_loop)
    refine loopI (X := Nat) (fun p => [(1, .ptr 0 8 0), (3, .func 92 [.ptr 2 1 0]), (4, .func 93 [.ptr 2 1 0]), (69, encV4 m.symbols), (70, .int .i64 m.symbols.length), (71, .int .i64 k), (75, encV3 R), (76, .int .i64 R.length), (77, .int .i64 p)]) (fun p H nx => p ≤ R.length ∧ JW m (BB ++ symB (R.take p)) H nx) (fun p => R.length - p) 0 ⟨Nat.zero_le _, by simpa [symB] using hJ⟩ (by simp (disch := omega) only [agr, ZG, reduceEqDiff, ↓reduceIte]) ?_
    clear hJ H nx
    rintro p H nx ⟨p1, hJ⟩
    by_cases hp : p < R.length
    rotate_left
    · repeat' (first | apply w_seq | apply w_ops0 | apply w_exit | apply a_n | apply a_x | apply o_nil | (apply o_val rfl rfl; (focus ((try simp (disch := omega) only [simB0, ZA, reduceEqDiff, ↓reduceIte, reduceAdd, reduceLeDiff, ZV, reduceCtorEq, ME]); first | with_reducible rfl | (apply s_ite; (focus omega); with_reducible rfl)))) | (apply w_cond; (focus ((try simp only [simB0, ZA, reduceEqDiff, ↓reduceIte, reduceAdd, reduceLeDiff, ME]); (try with_reducible rfl); done)); all_goals (intro _hg; (try simp only [ZB] at _hg); try first | exact absurd trivial _hg | (exfalso; omega))))
      rw [List.take_of_length_le (by omega)] at hJ
      refine ⟨k + 1, by omega, ⟨by omega, ?_⟩, by simp (disch := omega) only [agr, ZG, reduceEqDiff, ↓reduceIte]⟩
      rw [hsn, ← List.append_assoc, hBB]; exact hJ
    have hm2 := mem_getD hp
    have hpp : (symB (R.take (p + 1))).length ≤ (symB R).length := flat_take R _ (p + 1)
    have hsn2 : symB (R.take (p + 1)) = symB (R.take p) ++ sendV (R.getD p default) := by
      unfold symB; rw [take_succ' hp, flat_snoc]
    rw [hsn2, List.length_append] at hpp
    obtain ⟨q3, q4⟩ := q2 _ hm2
    have hvv := hov _ hm2
    generalize hLL : R.getD p default = S at *
    have hBp2 : (BB ++ symB (R.take p)).length + (sendV S).length ≤ 1000000000 := by rw [List.length_append]; omega
    generalize hCC : BB ++ symB (R.take p) = CC at *
    repeat' (first | apply w_seq | apply w_ops0 | apply w_block | apply w_skip | apply a_n | apply o_nil | (apply o_val rfl rfl; (focus ((try simp (disch := omega) only [simB0, ZA, reduceEqDiff, ↓reduceIte, reduceAdd, reduceLeDiff, ZV, reduceCtorEq, ME, hLL]); first | with_reducible rfl | (apply s_ite; (focus omega); with_reducible rfl)))) | (apply w_cond; (focus ((try simp only [simB0, ZA, reduceEqDiff, ↓reduceIte, reduceAdd, reduceLeDiff, ME, hLL]); (try with_reducible rfl); done)); all_goals (intro _hg; (try simp only [ZB] at _hg); try first | exact absurd trivial _hg | (exfalso; omega))) | apply w_loop)
    refine loopI (X := Nat) (fun q => [(1, .ptr 0 8 0), (3, .func 92 [.ptr 2 1 0]), (4, .func 93 [.ptr 2 1 0]), (69, encV4 m.symbols), (70, .int .i64 m.symbols.length), (71, .int .i64 k), (75, encV3 R), (76, .int .i64 R.length), (77, .int .i64 p), (81, encVV S), (82, .int .i64 S.length), (83, .int .i64 q)]) (fun q H nx => q ≤ S.length ∧ JW m (CC ++ sendV (S.take q)) H nx) (fun q => S.length - q) 0 ⟨Nat.zero_le _, by simpa [sendV] using hJ⟩ (by simp (disch := omega) only [agr, ZG, reduceEqDiff, ↓reduceIte]) ?_
    clear hJ H nx
    rintro q H nx ⟨q1', hJ⟩
    by_cases hq : q < S.length
    rotate_left
    · repeat' (first | apply w_seq | apply w_ops0 | apply w_exit | apply a_n | apply a_x | apply o_nil | (apply o_val rfl rfl; (focus ((try simp (disch := omega) only [simB0, ZA, reduceEqDiff, ↓reduceIte, reduceAdd, reduceLeDiff, ZV, reduceCtorEq, ME]); first | with_reducible rfl | (apply s_ite; (focus omega); with_reducible rfl)))) | (apply w_cond; (focus ((try simp only [simB0, ZA, reduceEqDiff, ↓reduceIte, reduceAdd, reduceLeDiff, ME]); (try with_reducible rfl); done)); all_goals (intro _hg; (try simp only [ZB] at _hg); try first | exact absurd trivial _hg | (exfalso; omega))))
      rw [List.take_of_length_le (by omega)] at hJ
      refine ⟨p + 1, by omega, ⟨by omega, ?_⟩, by simp (disch := omega) only [agr, ZG, reduceEqDiff, ↓reduceIte]⟩
      rw [hsn2, ← List.append_assoc, hCC]; exact hJ
    have hm3 := mem_getD hq
    have hqq : (sendV (S.take q)).length ≤ (sendV S).length := flat_take S _ q
    have hl8 := q4 _ hm3
    repeat' (first | apply w_seq | apply w_ops0 | apply w_block | apply w_skip | apply a_n | apply o_nil | (apply o_val rfl rfl; (focus ((try simp (disch := omega) only [simB0, ZA, reduceEqDiff, ↓reduceIte, reduceAdd, reduceLeDiff, ZV, reduceCtorEq, ME]); first | with_reducible rfl | (apply s_ite; (focus omega); with_reducible rfl)))) | (apply w_cond; (focus ((try simp only [simB0, ZA, reduceEqDiff, ↓reduceIte, reduceAdd, reduceLeDiff, ME]); (try with_reducible rfl); done)); all_goals (intro _hg; (try simp only [ZB] at _hg); try first | exact absurd trivial _hg | (exfalso; omega))))
    refine o_callE (by ((try simp only [simB0, ZA, reduceEqDiff, ↓reduceIte, reduceAdd, reduceLeDiff]); (try with_reducible rfl))) (by ((try simp only [simB0, ZA, reduceEqDiff, ↓reduceIte, reduceAdd, reduceLeDiff]); (try with_reducible rfl))) (write_d hJ 0 (S.getD q default) ⟨by rw [List.length_append]; omega, by omega⟩ (hvv _ hm3) (by omega)) ?_
    rintro r H2 nx2 hJ2
    repeat' (first | apply w_ops0 | apply a_n | apply o_nil | (apply o_val rfl rfl; (focus ((try simp (disch := omega) only [simB0, ZA, reduceEqDiff, ↓reduceIte, reduceAdd, reduceLeDiff, ZV, reduceCtorEq]); first | with_reducible rfl | (apply s_ite; (focus omega); with_reducible rfl)))))
    refine ⟨q + 1, by omega, ⟨by omega, ?_⟩, by simp (disch := omega) only [agr, ZG, reduceEqDiff, ↓reduceIte]⟩
    unfold sendV at hJ2 ⊢
    rw [take_succ' hq, flat_snoc, ← List.append_assoc]; exact hJ2
  clear hJ h0 t1 t3 t4 H nx
  rintro T H nx ⟨t1, t3, t4, hJ⟩
  have h0 := hJ.m0
  have hsl := hg.sl
  refine w_seqC (fun T H nx => T 1 = .ptr 0 8 0 ∧ T 3 = .func 92 [.ptr 2 1 0] ∧ T 4 = .func 93 [.ptr 2 1 0] ∧ JW m B5 H nx) ?_ ?_
  · repeat' (first | apply w_ops0 | (apply o_val rfl rfl; (focus ((try simp (disch := omega) only [simB0, ZA, reduceEqDiff, ↓reduceIte, reduceAdd, reduceLeDiff, ZV, reduceCtorEq, ME, t1, t3, t4, h0]); first | with_reducible rfl | (apply s_ite; (focus omega); with_reducible rfl)))) | (apply e_bld rfl; (focus (exact Nat.succ_ne_zero _)); (focus ((try simp only [simB0, ZA, reduceEqDiff, ↓reduceIte, reduceAdd, reduceLeDiff, ME, t1, t3, t4, h0]); (try with_reducible rfl); done)); (focus ((try simp only [simB0, ZA, reduceEqDiff, ↓reduceIte, reduceAdd, reduceLeDiff, SO, Bool.and_self, one_encV, one_encVV, ME, t1, t3, t4, h0]); (try with_reducible rfl); done))))
    refine o_callE (by ((try simp only [simB0, ZA, reduceEqDiff, ↓reduceIte, reduceAdd, reduceLeDiff, t3]); (try with_reducible rfl))) (by ((try simp only [simB0, ZA, reduceEqDiff, ↓reduceIte, reduceAdd, reduceLeDiff]); (try with_reducible rfl))) (write_b hJ 0 [(m.steps.length : Int)] 1 rfl ⟨by omega, by simp⟩ (by simp; omega) (by omega)) ?_
    rintro r H2 nx2 hJ2
    repeat' (first | apply a_n | apply o_nil)
    exact ⟨by ((try simp only [simB0, ZA, reduceEqDiff, ↓reduceIte, reduceAdd, reduceLeDiff, t1]); (try with_reducible rfl)), by ((try simp only [simB0, ZA, reduceEqDiff, ↓reduceIte, reduceAdd, reduceLeDiff, t3]); (try with_reducible rfl)), by ((try simp only [simB0, ZA, reduceEqDiff, ↓reduceIte, reduceAdd, reduceLeDiff, t4]); (try with_reducible rfl)), hJ2⟩
  clear hJ h0 t1 t3 t4 H nx
  rintro T H nx ⟨t1, t3, t4, hJ⟩
  have h0 := hJ.m0
  refine w_seqC (fun T H nx => T 4 = .func 93 [.ptr 2 1 0] ∧ JW m (bodyB m) H nx) ?_ ?_
  · repeat' (first | apply w_seq | apply w_ops0 | apply w_block | apply a_n | apply o_nil | (apply o_val rfl rfl; (focus ((try simp (disch := omega) only [simB0, ZA, reduceEqDiff, ↓reduceIte, reduceAdd, reduceLeDiff, ZV, reduceCtorEq, ME, t1, t3, t4, h0]); first | with_reducible rfl | (apply s_ite; (focus omega); with_reducible rfl)))) | apply w_loop)
    refine loopI (X := Nat) (fun k => [(1, .ptr 0 8 0), (3, .func 92 [.ptr 2 1 0]), (4, .func 93 [.ptr 2 1 0]), (100, encSteps m.steps), (101, .int .i64 m.steps.length), (102, .int .i64 k)]) (fun k H nx => k ≤ m.steps.length ∧ JW m (B5 ++ (m.steps.take k).flatMap (stepB m.n.toNat)) H nx) (fun k => m.steps.length - k) 0 ⟨Nat.zero_le _, by simpa using hJ⟩ (by simp (disch := omega) only [agr, ZG, reduceEqDiff, ↓reduceIte, t1, t3, t4]) ?_
    clear hJ h0 t1 t3 t4 H nx
    rintro k H nx ⟨k1, hJ⟩
    by_cases hk : k < m.steps.length
    rotate_left
    · repeat' (first | apply w_seq | apply w_ops0 | apply w_exit | apply a_n | apply a_x | apply o_nil | (apply o_val rfl rfl; (focus ((try simp (disch := omega) only [simB0, ZA, reduceEqDiff, ↓reduceIte, reduceAdd, reduceLeDiff, ZV, reduceCtorEq, ME]); first | with_reducible rfl | (apply s_ite; (focus omega); with_reducible rfl)))) | (apply w_cond; (focus ((try simp only [simB0, ZA, reduceEqDiff, ↓reduceIte, reduceAdd, reduceLeDiff, ME]); (try with_reducible rfl); done)); all_goals (intro _hg; (try simp only [ZB] at _hg); try first | exact absurd trivial _hg | (exfalso; omega))))
      rw [List.take_of_length_le (by omega)] at hJ
      exact ⟨rfl, hJ⟩
    have hm := mem_getD hk
    obtain ⟨g1, g2, g3, g4⟩ := good_step hg hm
    have hp := flat_take m.steps (stepB m.n.toNat) (k + 1)
    rw [take_succ' hk, flat_snoc, List.length_append] at hp
    have hsn : (m.steps.take (k + 1)).flatMap (stepB m.n.toNat) = (m.steps.take k).flatMap (stepB m.n.toNat) ++ stepB m.n.toNat (m.steps.getD k default) := by rw [take_succ' hk, flat_snoc]
    rw [hB, List.length_append] at hbl
    generalize hR : m.steps.getD k default = x at *
    have hsb : stepB m.n.toNat x = vints 0 [x.round, x.proc] ++ vints 1 (x.heard.take m.n.toNat) ++ vints 0 [x.to] := rfl
    rw [hsb] at hp
    simp only [List.length_append] at hp
    have hBp : (B5 ++ (m.steps.take k).flatMap (stepB m.n.toNat)).length + ((vints 0 [x.round, x.proc]).length + (vints 1 (x.heard.take m.n.toNat)).length + (vints 0 [x.to]).length) ≤ 1000000000 := by rw [List.length_append]; omega
    rw [hsb] at hsn
    clear hsb hp hbl
    generalize hBB : B5 ++ (m.steps.take k).flatMap (stepB m.n.toNat) = BB at *
    have h2nx := hJ.lt
    have hh : x.heard = [x.h0, x.h1, x.h2, x.h3, x.h4] := rfl
    have hvT : ∀ v ∈ x.heard.take m.n.toNat, 0 ≤ v + 1 ∧ v + 1 ≤ 4611686018427387904 := fun v hv => by
      obtain ⟨q, hq, rfl⟩ := mem_idx hv
      rw [List.length_take] at hq
      rw [getD_take (by omega)]
      have := g4 q (by omega)
      omega
    refine w_seq ?_
    repeat' (first | apply w_ops0 | apply a_n | apply o_nil | (apply o_val rfl rfl; (focus ((try simp (disch := omega) only [simB0, ZA, reduceEqDiff, ↓reduceIte, reduceAdd, reduceLeDiff, ZV, reduceCtorEq]); first | with_reducible rfl | (apply s_ite; (focus omega); with_reducible rfl)))))
    refine w_seq ?_
    repeat' (first | apply w_skip | apply a_n | (apply w_cond; (focus ((try simp only [simB0, ZA, reduceEqDiff, ↓reduceIte, reduceAdd, reduceLeDiff, ME]); (try with_reducible rfl); done)); all_goals (intro _hg; (try simp only [ZB] at _hg); try first | exact absurd trivial _hg | (exfalso; omega))))
    refine w_seq (w_block (w_seq ?_))
    repeat' (first | apply w_ops0 | apply a_n | apply o_nil | (apply o_val rfl; (focus (first | rfl | (simp (disch := omega) only [dm2, oldP, newP, simB0, ZA, reduceEqDiff, ↓reduceIte, reduceAdd, reduceLeDiff, decide_eq_true_eq]; first | done | omega))); (focus ((try simp (disch := omega) only [simB2, ZA, reduceEqDiff, ↓reduceIte, reduceAdd, reduceLeDiff, ZV, reduceCtorEq, ME, hR, StepV.cells]); first | with_reducible rfl | (apply s_ite; (focus omega); with_reducible rfl)))) | (apply e_alloc rfl; (focus ((try simp (disch := omega) only [simB2, ZA, reduceEqDiff, ↓reduceIte, reduceAdd, reduceLeDiff, ME, hR, StepV.cells]); (try with_reducible rfl); done)); (focus (simp (disch := omega) only [SO, Bool.and_self, one_encV, one_encVV, ME, hR, StepV.cells]))) | (apply e_st; (focus (first | rfl | (simp (disch := omega) only [dm2, oldP, newP, simB0, ZA, reduceEqDiff, ↓reduceIte, reduceAdd, reduceLeDiff, decide_eq_true_eq]; first | done | omega))); (iterate 4 (focus ((try simp (disch := omega) only [simB2, ZA, reduceEqDiff, ↓reduceIte, reduceAdd, reduceLeDiff, ME, hR, StepV.cells]); (try with_reducible rfl); done))); (focus (simp (disch := omega) only [SO, Bool.and_self, one_encV, one_encVV, ME, hR, StepV.cells])); (iterate 3 (focus ((try simp (disch := omega) only [SL, reduceAdd, Nat.reduceMul, List.length_map]); first | done | omega)))))
    refine w_seq ?_
    refine w_ops0F (only nx x.cells) _ [(1, .ptr 0 8 0), (3, .func 92 [.ptr 2 1 0]), (4, .func 93 [.ptr 2 1 0]), (18, .iptr x.cells 0), (100, encSteps m.steps), (101, .int .i64 m.steps.length), (102, .int .i64 k)] (Fz.one hupd_self') ⟨.inl (by ((try simp only [simB0, ZA, reduceEqDiff, ↓reduceIte, reduceAdd, reduceLeDiff]); (try with_reducible rfl))), .inl (by ((try simp only [simB0, ZA, reduceEqDiff, ↓reduceIte, reduceAdd, reduceLeDiff]); (try with_reducible rfl))), .inl (by ((try simp only [simB0, ZA, reduceEqDiff, ↓reduceIte, reduceAdd, reduceLeDiff]); (try with_reducible rfl))), .inr ?_, .inl (by ((try simp only [simB0, ZA, reduceEqDiff, ↓reduceIte, reduceAdd, reduceLeDiff]); (try with_reducible rfl))), .inl (by ((try simp only [simB0, ZA, reduceEqDiff, ↓reduceIte, reduceAdd, reduceLeDiff]); (try with_reducible rfl))), .inl (by ((try simp only [simB0, ZA, reduceEqDiff, ↓reduceIte, reduceAdd, reduceLeDiff]); (try with_reducible rfl))), trivial⟩ ?_
    · ((try simp only [simB0, ZA, reduceEqDiff, ↓reduceIte, reduceAdd, reduceLeDiff]); (try with_reducible rfl))
      exact snap_ptr (cs := x.cells) only_at rfl (snapL_datL (step_dat x))
    repeat' (first | (apply o_val rfl; (focus (first | rfl | (simp (disch := omega) only [dm2, oldP, newP, simB0, ZA, reduceEqDiff, ↓reduceIte, reduceAdd, reduceLeDiff, decide_eq_true_eq]; first | done | omega))); (focus ((try simp (disch := omega) only [simB2, ZA, reduceEqDiff, ↓reduceIte, reduceAdd, reduceLeDiff, ZV, reduceCtorEq, ME, StepV.cells]); first | with_reducible rfl | (apply s_ite; (focus omega); with_reducible rfl)))) | (apply e_bld rfl; (focus (exact Nat.succ_ne_zero _)); (focus ((try simp (disch := omega) only [simB2, ZA, reduceEqDiff, ↓reduceIte, reduceAdd, reduceLeDiff, ME, StepV.cells]); (try with_reducible rfl); done)); (focus ((try simp (disch := omega) only [simB2, ZA, reduceEqDiff, ↓reduceIte, reduceAdd, reduceLeDiff, SO, Bool.and_self, one_encV, one_encVV, ME, StepV.cells]); (try with_reducible rfl); done))))
    refine o_callE (by ((try simp only [simB0, ZA, reduceEqDiff, ↓reduceIte, reduceAdd, reduceLeDiff]); (try with_reducible rfl))) (by ((try simp only [simB0, ZA, reduceEqDiff, ↓reduceIte, reduceAdd, reduceLeDiff]); (try with_reducible rfl))) (write_b hJ.box 0 [x.round, x.proc] 2 rfl ⟨by omega, by simp⟩ (by simp; omega) (by omega)) ?_
    clear hJ h2nx
    rintro r H nx hJ
    have h0 := hJ.m0
    repeat' (first | apply a_n | apply o_nil)
    refine w_seq ?_
    repeat' (first | apply w_ops0 | (apply o_val rfl rfl; (focus ((try simp (disch := omega) only [simB0, ZA, reduceEqDiff, ↓reduceIte, reduceAdd, reduceLeDiff, ZV, reduceCtorEq, ME, h0, sls_hi (show 0 ≤ m.n ∧ m.n ≤ 5 by omega)]); first | with_reducible rfl | (apply s_ite; (focus omega); with_reducible rfl)))))
    refine o_callE (by ((try simp only [simB0, ZA, reduceEqDiff, ↓reduceIte, reduceAdd, reduceLeDiff]); (try with_reducible rfl))) (by ((try simp only [simB0, ZA, reduceEqDiff, ↓reduceIte, reduceAdd, reduceLeDiff, hh]); (try with_reducible rfl))) (write_d hJ 1 (x.heard.take m.n.toNat) ⟨by rw [List.length_append]; omega, by rw [List.length_take]; simp [hh]; omega⟩ hvT (by omega)) ?_
    clear hJ h0
    rintro r H nx hJ
    repeat' (first | apply w_ops0 | apply a_n | apply o_nil | (apply o_val rfl rfl; (focus ((try simp (disch := omega) only [simB0, ZA, reduceEqDiff, ↓reduceIte, reduceAdd, reduceLeDiff, ZV, reduceCtorEq, ME]); first | with_reducible rfl | (apply s_ite; (focus omega); with_reducible rfl)))) | (apply e_bld rfl; (focus (exact Nat.succ_ne_zero _)); (focus ((try simp only [simB0, ZA, reduceEqDiff, ↓reduceIte, reduceAdd, reduceLeDiff, ME]); (try with_reducible rfl); done)); (focus ((try simp only [simB0, ZA, reduceEqDiff, ↓reduceIte, reduceAdd, reduceLeDiff, SO, Bool.and_self, one_encV, one_encVV, ME]); (try with_reducible rfl); done))))
    refine o_callE (by ((try simp only [simB0, ZA, reduceEqDiff, ↓reduceIte, reduceAdd, reduceLeDiff]); (try with_reducible rfl))) (by ((try simp only [simB0, ZA, reduceEqDiff, ↓reduceIte, reduceAdd, reduceLeDiff]); (try with_reducible rfl))) (write_b hJ 0 [x.to] 1 rfl ⟨by rw [List.length_append, List.length_append]; omega, by simp⟩ (by simp; omega) (by omega)) ?_
    clear hJ
    rintro r H nx hJ
    repeat' (first | apply w_ops0 | apply a_n | apply o_nil | (apply o_val rfl rfl; (focus ((try simp (disch := omega) only [simB0, ZA, reduceEqDiff, ↓reduceIte, reduceAdd, reduceLeDiff, ZV, reduceCtorEq]); first | with_reducible rfl | (apply s_ite; (focus omega); with_reducible rfl)))))
    refine ⟨k + 1, by omega, ⟨by omega, ?_⟩, by simp (disch := omega) only [agr, ZG, reduceEqDiff, ↓reduceIte]⟩
    rw [hsn, ← List.append_assoc, hBB]
    simpa only [List.append_assoc] using hJ
  clear hJ h0 t1 t3 t4 H nx
  rintro T H nx ⟨t4, hJ⟩
  obtain ⟨s, hs, hne⟩ := hJ.out
  repeat' (first | apply w_seq | apply w_ops0 | (apply o_val rfl rfl; (focus ((try simp (disch := omega) only [simB0, ZA, reduceEqDiff, ↓reduceIte, reduceAdd, reduceLeDiff, ZV, reduceCtorEq, t4]); first | with_reducible rfl | (apply s_ite; (focus omega); with_reducible rfl)))))
  refine o_callE (by ((try simp only [simB0, ZA, reduceEqDiff, ↓reduceIte, reduceAdd, reduceLeDiff, t4]); (try with_reducible rfl))) (by ((try simp only [simB0, ZA, reduceEqDiff, ↓reduceIte, reduceAdd, reduceLeDiff]); (try with_reducible rfl))) (done_f 2 s H nx hs.box) ?_
  rintro v3 H3 nx3 ⟨rfl, rfl, rfl⟩
  skip
  refine o_callE (by ((try simp only [simB0, ZA, reduceEqDiff, ↓reduceIte, reduceAdd, reduceLeDiff]); (try with_reducible rfl))) (by ((try simp only [simB0, ZA, reduceEqDiff, ↓reduceIte, reduceAdd, reduceLeDiff]); (try with_reducible rfl))) (sealed_f _ _ _ _ hs.row hs.lt (by omega)) ?_
  rintro v4 H4 nx4 rfl
  repeat' (first | apply w_ret | apply a_n | apply o_nil | (apply o_val rfl rfl; (focus ((try simp (disch := omega) only [simB0, ZA, reduceEqDiff, ↓reduceIte, reduceAdd, reduceLeDiff, ZV, reduceCtorEq]); first | with_reducible rfl | (apply s_ite; (focus omega); with_reducible rfl)))) | (refine e_ends rfl ?_) | (apply r_1; (focus (simp only [rv, simB0, ZA, reduceEqDiff, ↓reduceIte, reduceAdd, reduceLeDiff]; with_reducible rfl))))
  exact encS_dat _ _

end Go.Proofs.Ytpbjhjkfobapeaa

/- Q17: contracts of functions and plain laws; for all inputs that the theorems name. -/
namespace Go.Proofs.Ytpbjhjkfobapeaa
open Go Go.Abs
open Nat (reduceEqDiff reduceAdd reduceLeDiff)

def machB (m : MachV) : List UInt8 × Int := if chkM m ≠ 0 then ([], chkM m) else if 65536 < (writtenB m).length then ([], 13) else (writtenB m, 0)
theorem writtenB_len {m : MachV} (h : GoodM m) : (writtenB m).length ≤ 1000000002 := by
  have := bodyB_len h
  simp [writtenB, sealB]; omega
attribute [local irreducible] awp2 aops2 ains aloop athen bbind obind gbind acond res1 Go.Abs.Fn PCall Go.Abs.Pure SnapArgs SnapL Yl

theorem machine_c (m : MachV) (hs : ShM m) : Pure Try.prog 19 [encM m] (.tup [encS (machB m).1, .int .i64 (machB m).2]) := by
  refine Pure.of_c2 follows is19 (Nat.le_of_ble_eq_true rfl) ?_
  simp only [b19, O, G, N, M, D, F, B2, cFal, cTru]
  have hp := check_c m hs
  have em := encM_dat m
  have e0 : encS [] = .str ⟨⟨[]⟩⟩ := rfl
  by_cases h0 : chkM m = 0
  rotate_left
  · have e : machB m = ([], chkM m) := by unfold machB; rw [if_pos h0]
    rw [e]
    unfold encM MachV.cells at hp em
    repeat' (first | apply w_seq | apply w_ops0 | apply w_ret | apply a_n | apply a_r | apply o_nil | (apply o_val rfl rfl; (focus ((try simp (disch := omega) only [simB0, ZA, reduceEqDiff, ↓reduceIte, reduceAdd, reduceLeDiff, ZV, reduceCtorEq, ME, h0, ne_eq, decide_true, decide_false, not_false_eq_true]); first | with_reducible rfl | (apply s_ite; (focus omega); with_reducible rfl)))) | (apply o_callD; (iterate 2 (focus ((try simp only [simB0, ZA, reduceEqDiff, ↓reduceIte, reduceAdd, reduceLeDiff, ME, h0, ne_eq, decide_true, decide_false, not_false_eq_true]); (try with_reducible rfl); done))); (focus (first | (exact hp))); (focus ((first | refine snap_plain ?_ rfl | apply snap_data); repeat' (first | exact snapL_nil | apply snapL_i | apply snapL_dat | exact em)))) | (apply e_box rfl; (iterate 2 (focus ((try simp only [simB0, ZA, reduceEqDiff, ↓reduceIte, reduceAdd, reduceLeDiff, ME, h0, ne_eq, decide_true, decide_false, not_false_eq_true]); (try with_reducible rfl); done))); (focus (simp only [SO, Bool.and_self, one_encV, one_encVV, ME, h0, ne_eq, decide_true, decide_false, not_false_eq_true]))) | (apply w_condT; (focus (simp only [simB0, ZA, reduceEqDiff, ↓reduceIte, reduceAdd, reduceLeDiff, ME, h0, ne_eq, decide_true, decide_false, not_false_eq_true]; done))) | (refine e_ends rfl ?_) | (apply r_2; (iterate 2 (focus (simp only [rv, simB0, ZA, reduceEqDiff, ↓reduceIte, reduceAdd, reduceLeDiff, ME, h0, ne_eq, decide_true, decide_false, not_false_eq_true]; with_reducible rfl)))))
    exact (Dat.tup (DatL.cons Dat.str (DatL.cons .int DatL.nil))) _
  have hg := chk_zero h0
  have hw := written_c m hg
  have hwl := writtenB_len hg
  rw [h0] at hp
  have e : machB m = if 65536 < (writtenB m).length then ([], 13) else (writtenB m, 0) := by unfold machB; rw [if_neg (by simpa using h0)]
  rw [e]
  clear e
  generalize writtenB m = W at *
  unfold encM MachV.cells at hp em hw
  by_cases hl : 65536 < W.length
  · rw [if_pos hl]
    repeat' (first | apply w_seq | apply w_ops0 | apply w_skip | apply w_ret | apply a_n | apply a_r | apply o_nil | (apply o_val rfl rfl; (focus ((try simp (disch := omega) only [simB0, ZA, reduceEqDiff, ↓reduceIte, reduceAdd, reduceLeDiff, ZV, reduceCtorEq, ME, alenStr_encS]); first | with_reducible rfl | (apply s_ite; (focus omega); with_reducible rfl)))) | (apply o_callD; (iterate 2 (focus ((try simp only [simB0, ZA, reduceEqDiff, ↓reduceIte, reduceAdd, reduceLeDiff, ME, alenStr_encS]); (try with_reducible rfl); done))); (focus (first | (exact hp) | (exact hw))); (focus ((first | refine snap_plain ?_ rfl | apply snap_data); repeat' (first | exact snapL_nil | apply snapL_i | apply snapL_dat | exact em)))) | (apply e_box rfl; (iterate 2 (focus ((try simp only [simB0, ZA, reduceEqDiff, ↓reduceIte, reduceAdd, reduceLeDiff, ME, alenStr_encS]); (try with_reducible rfl); done))); (focus (simp only [SO, Bool.and_self, one_encV, one_encVV, ME, alenStr_encS]))) | (apply w_cond; (focus ((try simp only [simB0, ZA, reduceEqDiff, ↓reduceIte, reduceAdd, reduceLeDiff, ME, alenStr_encS]); (try with_reducible rfl); done)); all_goals (intro _hg; (try simp only [ZB] at _hg); try first | exact absurd trivial _hg | (exfalso; omega))) | (refine e_ends rfl ?_) | (apply r_2; (iterate 2 (focus (simp only [rv, simB0, ZA, reduceEqDiff, ↓reduceIte, reduceAdd, reduceLeDiff, ME, alenStr_encS]; with_reducible rfl)))))
    all_goals exact (Dat.tup (DatL.cons Dat.str (DatL.cons .int DatL.nil))) _
  · rw [if_neg hl]
    repeat' (first | apply w_seq | apply w_ops0 | apply w_skip | apply w_ret | apply a_n | apply o_nil | (apply o_val rfl rfl; (focus ((try simp (disch := omega) only [simB0, ZA, reduceEqDiff, ↓reduceIte, reduceAdd, reduceLeDiff, ZV, reduceCtorEq, ME, alenStr_encS]); first | with_reducible rfl | (apply s_ite; (focus omega); with_reducible rfl)))) | (apply o_callD; (iterate 2 (focus ((try simp only [simB0, ZA, reduceEqDiff, ↓reduceIte, reduceAdd, reduceLeDiff, ME, alenStr_encS]); (try with_reducible rfl); done))); (focus (first | (exact hp) | (exact hw))); (focus ((first | refine snap_plain ?_ rfl | apply snap_data); repeat' (first | exact snapL_nil | apply snapL_i | apply snapL_dat | exact em | exact encS_dat _)))) | (apply e_box rfl; (iterate 2 (focus ((try simp only [simB0, ZA, reduceEqDiff, ↓reduceIte, reduceAdd, reduceLeDiff, ME, alenStr_encS]); (try with_reducible rfl); done))); (focus (simp only [SO, Bool.and_self, one_encV, one_encVV, ME, alenStr_encS]))) | (apply w_cond; (focus ((try simp only [simB0, ZA, reduceEqDiff, ↓reduceIte, reduceAdd, reduceLeDiff, ME, alenStr_encS]); (try with_reducible rfl); done)); all_goals (intro _hg; (try simp only [ZB] at _hg); try first | exact absurd trivial _hg | (exfalso; omega))) | (refine e_ends rfl ?_) | (apply r_2; (iterate 2 (focus (simp only [rv, simB0, ZA, reduceEqDiff, ↓reduceIte, reduceAdd, reduceLeDiff, ME, alenStr_encS]; with_reducible rfl)))))
    all_goals exact (Dat.tup (DatL.cons (encS_dat _) (DatL.cons .int DatL.nil))) _

end Go.Proofs.Ytpbjhjkfobapeaa
