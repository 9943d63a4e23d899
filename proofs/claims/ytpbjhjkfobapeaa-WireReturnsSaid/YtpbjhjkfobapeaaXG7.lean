/- Texts of this claim, one after the other: Q34, Q35, Q36, Q37, Q38, Q39, Q40, Q41, Q42. -/
import Derived.Test.YtpbjhjkfobapeaaXG6
import Derived.Test.YtpbjhjkfobapeaaXG4

/- Q34: contracts of functions and plain laws; for all inputs that the theorems name. -/
set_option linter.unusedSimpArgs false
set_option linter.unusedVariables false
namespace Go.Proofs.Ytpbjhjkfobapeaa
open Go Go.Abs Go.RowKit

/-! ### the arguments of the laws, opened -/
section
variable {H : Type} {enc : TypeId × Value → H} {W : World}
theorem oi : Opens enc Try.prog W 3 (AV.int .i64) (fun n => (Lit.int .i64 n).wf = true) := opens_int Try.underlying3
theorem oL1 : Opens enc Try.prog W 59 encV (fun l => l.length ≤ 17592186044416) :=
  (opens_slice Try.underlying59 (sz := 1) (by_ := 8) (by kernel_rfl) (by kernel_rfl) Nat.one_pos (fun _ => rfl) oi).mono fun l h => by have := h.2.2; omega
theorem oL2 : Opens enc Try.prog W 22 encVV (fun l => l.length ≤ 17592186044416 ∧ ∀ x ∈ l, x.length ≤ 17592186044416) :=
  (opens_slice Try.underlying22 (sz := 1) (by_ := 24) (by kernel_rfl) (by kernel_rfl) Nat.one_pos (fun _ => rfl) oL1).mono fun l h => ⟨by have := h.2.2; omega, h.1⟩
theorem oL3 : Opens enc Try.prog W 25 encV3 (fun l => l.length ≤ 17592186044416 ∧ ∀ x ∈ l, x.length ≤ 17592186044416 ∧ ∀ y ∈ x, y.length ≤ 17592186044416) :=
  (opens_slice Try.underlying25 (sz := 1) (by_ := 24) (by kernel_rfl) (by kernel_rfl) Nat.one_pos (fun _ => rfl) oL2).mono fun l h => ⟨by have := h.2.2; omega, h.1⟩
theorem oL4 : Opens enc Try.prog W 23 encV4 (fun l => l.length ≤ 17592186044416 ∧ ∀ x ∈ l, x.length ≤ 17592186044416 ∧ ∀ y ∈ x, y.length ≤ 17592186044416 ∧ ∀ z ∈ y, z.length ≤ 17592186044416) :=
  (opens_slice Try.underlying23 (sz := 1) (by_ := 24) (by kernel_rfl) (by kernel_rfl) Nat.one_pos (fun _ => rfl) oL3).mono fun l h => ⟨by have := h.2.2; omega, h.1⟩
theorem oA5 : Opens enc Try.prog W 91 (fun l : List Int => .agg (l.flatMap fun a => (AV.int .i64 a).cells)) (fun l => l.length = 5 ∧ ∀ a ∈ l, (Lit.int .i64 a).wf = true) :=
  opens_arr Try.underlying91 (sz := 1) (by kernel_rfl) (by kernel_rfl) oi
set_option maxRecDepth 100000 in
theorem oStep : Opens enc Try.prog W 93 encStep (fun _ => True) :=
  (opens_struct Try.underlying93 (by kernel_rfl) (opensF_cons (off := 0) (off' := 1) rfl (by kernel_rfl) oi (opensF_cons (off := 1) (off' := 2) rfl (by kernel_rfl) oi (opensF_cons (off := 2) (off' := 7) rfl (by kernel_rfl) oA5 (opensF_cons (off := 7) (off' := 8) rfl (by kernel_rfl) oi opensF_nil))))).map
    (fun a => (⟨a.1, a.2.1, a.2.2.1.getD 0 0, a.2.2.1.getD 1 0, a.2.2.1.getD 2 0, a.2.2.1.getD 3 0, a.2.2.1.getD 4 0, a.2.2.2.1⟩ : StepV)) (fun _ _ => trivial) (by
      rintro ⟨a, b, l, t, u⟩ ⟨_, _, ⟨h, _⟩, _, _⟩
      match l, h with
      | [h0, h1, h2, h3, h4], _ => rfl)
theorem oSteps : Opens enc Try.prog W 24 encSteps (fun l => l.length ≤ 17592186044416) :=
  (opens_slice Try.underlying24 (sz := 8) (by_ := 64) (by kernel_rfl) (by kernel_rfl) (by omega) (fun _ => rfl) oStep).mono fun l h => by have := h.2.2; omega
set_option maxRecDepth 100000 in
theorem oM : Opens enc Try.prog W 27 encM ShM :=
  (opens_struct Try.underlying27 (by kernel_rfl) (opensF_cons (off := 0) (off' := 1) rfl (by kernel_rfl) oi (opensF_cons (off := 1) (off' := 2) rfl (by kernel_rfl) oi (opensF_cons (off := 2) (off' := 3) rfl (by kernel_rfl) oi (opensF_cons (off := 3) (off' := 4) rfl (by kernel_rfl) oi (opensF_cons (off := 4) (off' := 5) rfl (by kernel_rfl) oL2 (opensF_cons (off := 5) (off' := 6) rfl (by kernel_rfl) oL4 (opensF_cons (off := 6) (off' := 7) rfl (by kernel_rfl) oSteps (opensF_cons (off := 7) (off' := 8) rfl (by kernel_rfl) oL3 opensF_nil))))))))).map
    (fun a => (⟨a.1, a.2.1, a.2.2.1, a.2.2.2.1, a.2.2.2.2.1, a.2.2.2.2.2.1, a.2.2.2.2.2.2.1, a.2.2.2.2.2.2.2.1⟩ : MachV)) (by
      rintro ⟨n, r, i, o, F, S, T, O, u⟩ ⟨_, _, _, _, hF, hS, hT, hO, _⟩
      dsimp only at *
      exact ⟨by show F.length ≤ _; omega, fun l hl => by have := hF.2 l hl; show _ ≤ _; omega, by show O.length ≤ _; omega, fun l hl => by have := (hO.2 l hl).1; show _ ≤ _; omega, fun l hl x hx => by have := (hO.2 l hl).2 x hx; show _ ≤ _; omega,
        fun l hl x hx => by have := (hO.2 l hl).2 x hx; omega, by show S.length ≤ _; omega, fun l hl => by have := (hS.2 l hl).1; show _ ≤ _; omega, fun l hl x hx => by have := ((hS.2 l hl).2 x hx).1; show _ ≤ _; omega,
        fun l hl x hx y hy => by have := ((hS.2 l hl).2 x hx).2 y hy; show _ ≤ _; omega, by show T.length ≤ _; omega⟩) (fun _ _ => rfl)
theorem oPair8 : Opens enc Try.prog W 60 (fun l : List Int => .agg (l.flatMap fun a => (AV.int .u8 a).cells)) (fun l => l.length = 2 ∧ ∀ a ∈ l, (Lit.int .u8 a).wf = true) :=
  opens_arr Try.underlying60 (sz := 1) (by kernel_rfl) (by kernel_rfl) (opens_int Try.underlying5)
set_option maxRecDepth 100000 in
theorem oPlace : Opens enc Try.prog W 29 (fun l : Int × Int × Int × Int => .agg [.int .i64 l.1, .int .i64 l.2.1, .int .i64 l.2.2.1, .int .i64 l.2.2.2]) (fun l => (Lit.int .i64 l.1).wf = true ∧ (Lit.int .i64 l.2.1).wf = true ∧ (Lit.int .i64 l.2.2.1).wf = true ∧ (Lit.int .i64 l.2.2.2).wf = true) :=
  (opens_struct Try.underlying29 (by kernel_rfl) (opensF_cons (off := 0) (off' := 1) rfl (by kernel_rfl) oi (opensF_cons (off := 1) (off' := 2) rfl (by kernel_rfl) oi (opensF_cons (off := 2) (off' := 3) rfl (by kernel_rfl) oi (opensF_cons (off := 3) (off' := 4) rfl (by kernel_rfl) oi opensF_nil))))).map
    (fun a => (a.1, a.2.1, a.2.2.1, a.2.2.2.1)) (fun a h => ⟨h.1, h.2.1, h.2.2.1, h.2.2.2.1⟩) (fun _ _ => rfl)
end

theorem calls_of_pureO {f : FuncId} {xs : List AV} {vs : List Value} (h : Go.Abs.Pure Try.prog f xs (.bool true)) (w : World) (hv : RelL (E0 (oldB w)) w xs vs) :
    Calls Try.prog f vs.toArray w fun e w' => e = .returned (.bool true) ∧ Below w.heap.size w w' := by
  refine (h.2 (oldB w) w vs (fun _ h => h) hv).mono ?_
  rintro e w' ⟨v, imm', rfl, hb, _, _, _, hr⟩
  cases hr
  exact ⟨rfl, hb⟩
theorem laid : laidOutB Try.prog = true := by kernel_rfl
theorem wf8 {a : Int} (h : (Lit.int .u8 a).wf = true) : ∃ y : UInt8, a = (y.toNat : Int) := by
  simp only [Lit.wf, Bool.and_eq_true, decide_eq_true_eq] at h
  have h1 : IntKind.min .u8 = 0 := by decide
  have h2 : IntKind.max .u8 = 255 := by decide
  refine ⟨UInt8.ofNat a.toNat, ?_⟩
  rw [UInt8.toNat_ofNat']; omega

end Go.Proofs.Ytpbjhjkfobapeaa

/- Q35: contracts of functions and plain laws; for all inputs that the theorems name. -/
set_option linter.unusedSimpArgs false
set_option linter.unusedVariables false
namespace Go.Proofs.Ytpbjhjkfobapeaa
open Go Go.Abs
attribute [local irreducible] awp2 aops2 ains aloop athen bbind obind gbind acond res1 Go.Abs.Fn PCall Go.Abs.Pure SnapArgs SnapL Yl

/-! ### the reference's machine.Check -/
theorem in_r (n a b : Int) : Pure Try.prog 70 [.int .i64 n, .int .i64 a, .int .i64 b] (.bool (inB n a b)) := by
  refine Pure.of_c2 follows is70 (Nat.le_of_ble_eq_true rfl) ?_
  simp only [b70, O, G, N, M, D, F, B2, cFal, cTru]
  repeat' (first | refine w_seq ?_ | refine w_ops0 ?_ | refine w_ret ?_ | refine a_n ?_ | refine o_nil ?_ | (apply o_val rfl rfl; (focus ((try simp (disch := omega) only [simB0, ZA, Nat.reduceEqDiff, ↓reduceIte, Nat.reduceAdd, Nat.reduceLeDiff, ZV, reduceCtorEq]); first | with_reducible rfl | (apply s_ite; (focus omega); with_reducible rfl)))) | (apply o_gT; (focus (simp only [simB0, ZA, Nat.reduceEqDiff, ↓reduceIte, Nat.reduceAdd, Nat.reduceLeDiff]; done))) | (apply o_gF; (focus (simp only [simB0, ZA, Nat.reduceEqDiff, ↓reduceIte, Nat.reduceAdd, Nat.reduceLeDiff, or_true, true_or]; done))) | (apply o_gB; (focus ((try simp only [simB0, ZA, Nat.reduceEqDiff, ↓reduceIte, Nat.reduceAdd, Nat.reduceLeDiff]); (try with_reducible rfl); done)); all_goals (intro _hg; (try simp only [ZB] at _hg); try first | exact absurd trivial _hg | (exfalso; omega))) | (refine e_ends rfl ?_) | (apply r_1; (focus (simp only [rv, simB0, ZA, Nat.reduceEqDiff, ↓reduceIte, Nat.reduceAdd, Nat.reduceLeDiff]; with_reducible rfl))))
  all_goals (refine snap_bool ?_; unfold inB)
  · exact decide_eq_decide.2 (by omega)
  · rw [decide_eq_false (by omega)]

theorem numbers_r (l : List Int) (a b : Int) (hl : Sh l) : Pure Try.prog 94 [encV l, .int .i64 a, .int .i64 b] (.bool (allB l a b)) := by
  refine Pure.of_c2 follows is94 (Nat.le_of_ble_eq_true rfl) ?_
  simp only [b94, O, G, N, M, D, F, B2, cFal, cTru]
  have hl' : l.length ≤ 9223372036854775807 := hl
  repeat' (first | refine w_seq ?_ | refine w_ops0 ?_ | refine w_block ?_ | refine a_n ?_ | refine o_nil ?_ | (apply o_val rfl rfl; (focus ((try simp (disch := omega) only [simB0, ZA, Nat.reduceEqDiff, ↓reduceIte, Nat.reduceAdd, Nat.reduceLeDiff, ZV, reduceCtorEq]); first | with_reducible rfl | (apply s_ite; (focus omega); with_reducible rfl)))) | refine w_loop ?_)
  refine loopA (fun k => [(0, encV l), (1, .int .i64 a), (2, .int .i64 b), (7, .int .i64 k)]) l.length (fun k => inB (l.getD k default) a b = true) (by simp (disch := omega) only [agr, ZG, Nat.reduceEqDiff, ↓reduceIte]) ?_
  intro k hk hp
  by_cases hk2 : k < l.length
  rotate_left
  · repeat' (first | refine w_seq ?_ | refine w_ops0 ?_ | refine w_exit ?_ | refine w_ret ?_ | refine a_n ?_ | refine a_x ?_ | refine o_nil ?_ | (apply o_val rfl rfl; (focus ((try simp (disch := omega) only [simB0, ZA, Nat.reduceEqDiff, ↓reduceIte, Nat.reduceAdd, Nat.reduceLeDiff, ZV, reduceCtorEq]); first | with_reducible rfl | (apply s_ite; (focus omega); with_reducible rfl)))) | (apply w_cond; (focus ((try simp only [simB0, ZA, Nat.reduceEqDiff, ↓reduceIte, Nat.reduceAdd, Nat.reduceLeDiff]); (try with_reducible rfl); done)); all_goals (intro _hg; (try simp only [ZB] at _hg); try first | exact absurd trivial _hg | (exfalso; omega))) | (refine e_ends rfl ?_) | (apply r_1; (focus (simp only [rv, simB0, ZA, Nat.reduceEqDiff, ↓reduceIte, Nat.reduceAdd, Nat.reduceLeDiff]; with_reducible rfl))))
    exact snap_bool (all_true (p := fun n => inB n a b) fun i hi => hp i (by omega)).symm
  have hc := in_r (l.getD k default) a b
  have hfin : inB (l.getD k default) a b = false → allB l a b = false := fun h => all_false (p := fun n => inB n a b) hk2 h
  generalize inB (l.getD k default) a b = r at *
  cases r with
  | false =>
    repeat' (first | refine w_seq ?_ | refine w_ops0 ?_ | refine w_block ?_ | refine w_skip ?_ | refine w_ret ?_ | refine a_n ?_ | refine a_r ?_ | refine o_nil ?_ | (apply o_val rfl rfl; (focus ((try simp (disch := omega) only [simB0, ZA, Nat.reduceEqDiff, ↓reduceIte, Nat.reduceAdd, Nat.reduceLeDiff, ZV, reduceCtorEq]); first | with_reducible rfl | (apply s_ite; (focus omega); with_reducible rfl)))) | (apply o_callD; (iterate 2 (focus ((try simp only [simB0, ZA, Nat.reduceEqDiff, ↓reduceIte, Nat.reduceAdd, Nat.reduceLeDiff]); (try with_reducible rfl); done))); (focus (first | (exact hc))); (focus ((first | refine snap_plain ?_ rfl | apply snap_data); repeat' (first | exact snapL_nil | apply snapL_i | apply snapL_dat)))) | (apply w_condT; (focus (simp only [simB0, ZA, Nat.reduceEqDiff, ↓reduceIte, Nat.reduceAdd, Nat.reduceLeDiff]; done))) | (apply w_cond; (focus ((try simp only [simB0, ZA, Nat.reduceEqDiff, ↓reduceIte, Nat.reduceAdd, Nat.reduceLeDiff]); (try with_reducible rfl); done)); all_goals (intro _hg; (try simp only [ZB] at _hg); try first | exact absurd trivial _hg | (exfalso; omega))) | (refine e_ends rfl ?_) | (apply r_1; (focus (simp only [rv, simB0, ZA, Nat.reduceEqDiff, ↓reduceIte, Nat.reduceAdd, Nat.reduceLeDiff]; with_reducible rfl))))
    exact snap_bool (hfin rfl).symm
  | true =>
    repeat' (first | refine w_seq ?_ | refine w_ops0 ?_ | refine w_block ?_ | refine w_skip ?_ | refine a_n ?_ | refine o_nil ?_ | (apply o_val rfl rfl; (focus ((try simp (disch := omega) only [simB0, ZA, Nat.reduceEqDiff, ↓reduceIte, Nat.reduceAdd, Nat.reduceLeDiff, ZV, reduceCtorEq]); first | with_reducible rfl | (apply s_ite; (focus omega); with_reducible rfl)))) | (apply o_callD; (iterate 2 (focus ((try simp only [simB0, ZA, Nat.reduceEqDiff, ↓reduceIte, Nat.reduceAdd, Nat.reduceLeDiff]); (try with_reducible rfl); done))); (focus (first | (exact hc))); (focus ((first | refine snap_plain ?_ rfl | apply snap_data); repeat' (first | exact snapL_nil | apply snapL_i | apply snapL_dat)))) | (apply w_condF; (focus (simp only [simB0, ZA, Nat.reduceEqDiff, ↓reduceIte, Nat.reduceAdd, Nat.reduceLeDiff]; done))) | (apply w_cond; (focus ((try simp only [simB0, ZA, Nat.reduceEqDiff, ↓reduceIte, Nat.reduceAdd, Nat.reduceLeDiff]); (try with_reducible rfl); done)); all_goals (intro _hg; (try simp only [ZB] at _hg); try first | exact absurd trivial _hg | (exfalso; omega))))
    exact ⟨hk2, rfl, by simp (disch := omega) only [agr, ZG, Nat.reduceEqDiff, ↓reduceIte], rfl, rfl⟩

theorem shaped_r (m : MachV) (hs : ShM m) (hn : 1 ≤ m.n ∧ m.n ≤ 5) (hr : 0 ≤ m.rounds ∧ m.rounds ≤ 6) : Pure Try.prog 71 [encM m] (.bool (shapedB m)) := by
  refine Pure.of_c2 follows is71 (Nat.le_of_ble_eq_true rfl) ?_
  simp only [b71, O, G, N, M, D, F, B2, cFal, cTru]
  obtain ⟨s1, s2, s3, s4, s5, s5b, s6, s7, s8, s9, s10⟩ := hs
  have e1 : m.first.length ≤ 9223372036854775807 := s1
  have e2 : m.out.length ≤ 9223372036854775807 := s3
  have e3 : m.symbols.length ≤ 9223372036854775807 := s6
  unfold encM MachV.cells
  refine w_seq ?_
  repeat' (first | refine w_ops0 ?_ | refine a_n ?_ | refine o_nil ?_ | (apply o_val rfl rfl; (focus ((try simp (disch := omega) only [simB0, ZA, Nat.reduceEqDiff, ↓reduceIte, Nat.reduceAdd, Nat.reduceLeDiff, ZV, reduceCtorEq, ME, acells]); first | with_reducible rfl | (apply s_ite; (focus omega); with_reducible rfl)))) | (apply e_box rfl; (iterate 2 (focus ((try simp only [simB0, ZA, Nat.reduceEqDiff, ↓reduceIte, Nat.reduceAdd, Nat.reduceLeDiff, ME, acells]); (try with_reducible rfl); done))); (focus (simp only [SO, Bool.and_self, one_encV, one_encVV, ME, acells]))))
  refine w_seqC (fun T H nx => T 1 = .ptr 0 8 0 ∧ H = hupd noBoxes 0 m.cells ∧ ((m.first.length : Int) = m.n ∧ (m.out.length : Int) = m.rounds + 1 ∧ (m.symbols.length : Int) = m.rounds)) ?_ ?_
  · repeat' (first | refine w_seq ?_ | refine w_ops0 ?_ | refine w_skip ?_ | refine w_ret ?_ | refine a_n ?_ | refine a_r ?_ | refine o_nil ?_ | (apply o_val rfl rfl; (focus ((try simp (disch := omega) only [simB0, ZA, Nat.reduceEqDiff, ↓reduceIte, Nat.reduceAdd, Nat.reduceLeDiff, ZV, reduceCtorEq, ME, acells]); first | with_reducible rfl | (apply s_ite; (focus omega); with_reducible rfl)))) | (apply o_gT; (focus (simp only [simB0, ZA, Nat.reduceEqDiff, ↓reduceIte, Nat.reduceAdd, Nat.reduceLeDiff, ME, acells]; done))) | (apply o_gF; (focus (simp only [simB0, ZA, Nat.reduceEqDiff, ↓reduceIte, Nat.reduceAdd, Nat.reduceLeDiff, or_true, true_or, ME, acells]; done))) | (apply w_condT; (focus (simp only [simB0, ZA, Nat.reduceEqDiff, ↓reduceIte, Nat.reduceAdd, Nat.reduceLeDiff, ME, acells]; done))) | ((first | apply o_gB | apply w_cond); (focus ((try simp only [simB0, ZA, Nat.reduceEqDiff, ↓reduceIte, Nat.reduceAdd, Nat.reduceLeDiff, ME, acells]); (try with_reducible rfl); done)); all_goals (intro _hg; (try simp only [ZB] at _hg); try first | exact absurd trivial _hg | (exfalso; omega))) | (refine e_ends rfl ?_) | (apply r_1; (focus (simp only [rv, simB0, ZA, Nat.reduceEqDiff, ↓reduceIte, Nat.reduceAdd, Nat.reduceLeDiff, ME, acells]; with_reducible rfl))))
    all_goals first
      | exact ⟨rfl, rfl, by omega, by omega, by omega⟩
      | (refine snap_bool ?_
         unfold shapedB; rw [decide_eq_false (by omega)]; rfl)
  rintro T H nx ⟨t1, rfl, hl⟩
  have hb : shapedB m = (m.first.all (fun l => decide ((l.length : Int) = m.ins)) && (m.out.all (fun l => decide ((l.length : Int) = m.n)) && (List.range m.symbols.length).all (fun k => sendB m k))) := by
    unfold shapedB; rw [decide_eq_true hl, Bool.true_and]
  rw [hb]
  clear hb
  unfold MachV.cells
  obtain ⟨l1, l2, l3⟩ := hl
  refine w_seqC (fun T H nx => T 1 = .ptr 0 8 0 ∧ H = hupd noBoxes 0 m.cells ∧ m.first.all (fun l => decide ((l.length : Int) = m.ins)) = true) ?_ ?_
  · repeat' (first | refine w_seq ?_ | refine w_ops0 ?_ | refine w_block ?_ | refine a_n ?_ | refine o_nil ?_ | (apply o_val rfl rfl; (focus ((try simp (disch := omega) only [simB0, ZA, Nat.reduceEqDiff, ↓reduceIte, Nat.reduceAdd, Nat.reduceLeDiff, ZV, reduceCtorEq, ME, t1]); first | with_reducible rfl | (apply s_ite; (focus omega); with_reducible rfl)))) | refine w_loop ?_)
    refine loopA (fun k => [(1, .ptr 0 8 0), (3, .int .i64 k)]) m.first.length (fun k => ((m.first.getD k default).length : Int) = m.ins) (by simp (disch := omega) only [agr, ZG, Nat.reduceEqDiff, ↓reduceIte, t1]) ?_
    rintro k h1 h2
    have hsk : k < m.first.length → (m.first.getD k default).length ≤ 9223372036854775807 := fun h => s2 _ (mem_getD h)
    by_cases hk : k < m.first.length
    · repeat' (first | refine w_seq ?_ | refine w_ops0 ?_ | refine w_ops1 ?_ | refine w_block ?_ | refine w_skip ?_ | refine w_ret ?_ | refine a_n ?_ | refine a_r ?_ | refine o_nil ?_ | (apply o_val rfl rfl; (focus ((try simp (disch := omega) only [simB0, ZA, Nat.reduceEqDiff, ↓reduceIte, Nat.reduceAdd, Nat.reduceLeDiff, ZV, reduceCtorEq, ME]); first | with_reducible rfl | (apply s_ite; (focus omega); with_reducible rfl)))) | (apply w_cond; (focus ((try simp only [simB0, ZA, Nat.reduceEqDiff, ↓reduceIte, Nat.reduceAdd, Nat.reduceLeDiff, ME]); (try with_reducible rfl); done)); all_goals (intro _hg; (try simp only [ZB] at _hg); try first | exact absurd trivial _hg | (exfalso; omega))) | (refine e_ends rfl ?_) | (apply r_1; (focus (simp only [rv, simB0, ZA, Nat.reduceEqDiff, ↓reduceIte, Nat.reduceAdd, Nat.reduceLeDiff, ME]; with_reducible rfl))))
      · refine snap_bool ?_
        have : m.first.all (fun l => decide ((l.length : Int) = m.ins)) = false := all_false (k := k) (by omega) (decide_eq_false (by omega))
        rw [this]; rfl
      · exact ⟨by omega, by omega, by simp (disch := omega) only [agr, ZG, Nat.reduceEqDiff, ↓reduceIte], rfl, rfl⟩
    · repeat' (first | refine w_seq ?_ | refine w_ops0 ?_ | refine w_exit ?_ | refine a_n ?_ | refine a_x ?_ | refine o_nil ?_ | (apply o_val rfl rfl; (focus ((try simp (disch := omega) only [simB0, ZA, Nat.reduceEqDiff, ↓reduceIte, Nat.reduceAdd, Nat.reduceLeDiff, ZV, reduceCtorEq, ME]); first | with_reducible rfl | (apply s_ite; (focus omega); with_reducible rfl)))) | (apply w_cond; (focus ((try simp only [simB0, ZA, Nat.reduceEqDiff, ↓reduceIte, Nat.reduceAdd, Nat.reduceLeDiff, ME]); (try with_reducible rfl); done)); all_goals (intro _hg; (try simp only [ZB] at _hg); try first | exact absurd trivial _hg | (exfalso; omega))))
      exact ⟨rfl, rfl, all_true fun i hi => decide_eq_true (h2 i (by omega))⟩
  clear t1
  rintro T H nx ⟨t1, rfl, h1⟩
  rw [h1, Bool.true_and]
  clear h1
  unfold MachV.cells
  refine w_seqC (fun T H nx => T 1 = .ptr 0 8 0 ∧ H = hupd noBoxes 0 m.cells ∧ ∀ i, i < m.out.length → ((m.out.getD i default).length : Int) = m.n) ?_ ?_
  · repeat' (first | refine w_seq ?_ | refine w_ops0 ?_ | refine w_block ?_ | refine a_n ?_ | refine o_nil ?_ | (apply o_val rfl rfl; (focus ((try simp (disch := omega) only [simB0, ZA, Nat.reduceEqDiff, ↓reduceIte, Nat.reduceAdd, Nat.reduceLeDiff, ZV, reduceCtorEq, ME, t1]); first | with_reducible rfl | (apply s_ite; (focus omega); with_reducible rfl)))) | refine w_loop ?_)
    refine loopA (fun k => [(1, .ptr 0 8 0), (4, .int .i64 k)]) m.out.length (fun k => ((m.out.getD k default).length : Int) = m.n) (by simp (disch := omega) only [agr, ZG, Nat.reduceEqDiff, ↓reduceIte, t1]) ?_
    rintro k h1 h2
    by_cases hk : k < m.out.length
    · repeat' (first | refine w_seq ?_ | refine w_ops0 ?_ | refine w_ops1 ?_ | refine w_block ?_ | refine w_skip ?_ | refine w_ret ?_ | refine a_n ?_ | refine a_r ?_ | refine o_nil ?_ | (apply o_val rfl rfl; (focus ((try simp (disch := omega) only [simB0, ZA, Nat.reduceEqDiff, ↓reduceIte, Nat.reduceAdd, Nat.reduceLeDiff, ZV, reduceCtorEq, ME]); first | with_reducible rfl | (apply s_ite; (focus omega); with_reducible rfl)))) | (apply w_cond; (focus ((try simp only [simB0, ZA, Nat.reduceEqDiff, ↓reduceIte, Nat.reduceAdd, Nat.reduceLeDiff, ME]); (try with_reducible rfl); done)); all_goals (intro _hg; (try simp only [ZB] at _hg); try first | exact absurd trivial _hg | (exfalso; omega))) | (refine e_ends rfl ?_) | (apply r_1; (focus (simp only [rv, simB0, ZA, Nat.reduceEqDiff, ↓reduceIte, Nat.reduceAdd, Nat.reduceLeDiff, ME]; with_reducible rfl))))
      · refine snap_bool ?_
        have : m.out.all (fun l => decide ((l.length : Int) = m.n)) = false := all_false (k := k) (by omega) (decide_eq_false (by omega))
        rw [this]; rfl
      · exact ⟨by omega, by omega, by simp (disch := omega) only [agr, ZG, Nat.reduceEqDiff, ↓reduceIte], rfl, rfl⟩
    · repeat' (first | refine w_seq ?_ | refine w_ops0 ?_ | refine w_exit ?_ | refine a_n ?_ | refine a_x ?_ | refine o_nil ?_ | (apply o_val rfl rfl; (focus ((try simp (disch := omega) only [simB0, ZA, Nat.reduceEqDiff, ↓reduceIte, Nat.reduceAdd, Nat.reduceLeDiff, ZV, reduceCtorEq, ME]); first | with_reducible rfl | (apply s_ite; (focus omega); with_reducible rfl)))) | (apply w_cond; (focus ((try simp only [simB0, ZA, Nat.reduceEqDiff, ↓reduceIte, Nat.reduceAdd, Nat.reduceLeDiff, ME]); (try with_reducible rfl); done)); all_goals (intro _hg; (try simp only [ZB] at _hg); try first | exact absurd trivial _hg | (exfalso; omega))))
      exact ⟨rfl, rfl, fun i hi => h2 i (by omega)⟩
  clear t1
  rintro T H nx ⟨t1, rfl, ho⟩
  have ho1 : m.out.all (fun l => decide ((l.length : Int) = m.n)) = true := all_true fun i hi => decide_eq_true (ho i hi)
  rw [ho1, Bool.true_and]
  unfold MachV.cells
  repeat' (first | refine w_seq ?_ | refine w_ops0 ?_ | refine w_block ?_ | refine a_n ?_ | refine o_nil ?_ | (apply o_val rfl rfl; (focus ((try simp (disch := omega) only [simB0, ZA, Nat.reduceEqDiff, ↓reduceIte, Nat.reduceAdd, Nat.reduceLeDiff, ZV, reduceCtorEq, ME, t1]); first | with_reducible rfl | (apply s_ite; (focus omega); with_reducible rfl)))) | refine w_loop ?_)
  refine loopA (fun k => [(1, .ptr 0 8 0), (5, .int .i64 k)]) m.symbols.length (fun k => sendB m k = true) (by simp (disch := omega) only [agr, ZG, Nat.reduceEqDiff, ↓reduceIte, t1]) ?_
  clear t1
  rintro k h1 h2
  by_cases hk : k < m.symbols.length
  rotate_left
  · repeat' (first | refine w_seq ?_ | refine w_ops0 ?_ | refine w_exit ?_ | refine w_ret ?_ | refine a_n ?_ | refine a_x ?_ | refine o_nil ?_ | (apply o_val rfl rfl; (focus ((try simp (disch := omega) only [simB0, ZA, Nat.reduceEqDiff, ↓reduceIte, Nat.reduceAdd, Nat.reduceLeDiff, ZV, reduceCtorEq, ME]); first | with_reducible rfl | (apply s_ite; (focus omega); with_reducible rfl)))) | (apply w_cond; (focus ((try simp only [simB0, ZA, Nat.reduceEqDiff, ↓reduceIte, Nat.reduceAdd, Nat.reduceLeDiff, ME]); (try with_reducible rfl); done)); all_goals (intro _hg; (try simp only [ZB] at _hg); try first | exact absurd trivial _hg | (exfalso; omega))) | (refine e_ends rfl ?_) | (apply r_1; (focus (simp only [rv, simB0, ZA, Nat.reduceEqDiff, ↓reduceIte, Nat.reduceAdd, Nat.reduceLeDiff, ME]; with_reducible rfl))))
    exact snap_bool (range_all_true fun i hi => h2 i (by omega)).symm
  have hok := ho k (by omega)
  have hk0 : sendB m k = (decide (((m.symbols.getD k default).length : Int) = m.n) && (List.range (m.symbols.getD k default).length).all fun p => recvB m k p) := rfl
  have hpd : ∀ p, recvB m k p = (decide ((((m.symbols.getD k default).getD p default).length : Int) = m.n) && (List.range ((m.symbols.getD k default).getD p default).length).all fun q => placeB m k p q) := fun p => rfl
  have hqd : ∀ p q, placeB m k p q = decide (((((m.symbols.getD k default).getD p default).getD q default).length : Int) = if p = q then 0 else (((m.out.getD k default).getD p default).length : Int)) := fun p q => rfl
  generalize hS : m.symbols.getD k default = S at *
  generalize hO : m.out.getD k default = O at *
  repeat' (first | refine w_seq ?_ | refine w_ops0 ?_ | refine w_ops1 ?_ | refine w_block ?_ | refine w_skip ?_ | refine w_ret ?_ | refine a_n ?_ | refine a_r ?_ | refine o_nil ?_ | (apply o_val rfl rfl; (focus ((try simp (disch := omega) only [simB0, ZA, Nat.reduceEqDiff, ↓reduceIte, Nat.reduceAdd, Nat.reduceLeDiff, ZV, reduceCtorEq, ME, hS]); first | with_reducible rfl | (apply s_ite; (focus omega); with_reducible rfl)))) | (apply w_cond; (focus ((try simp only [simB0, ZA, Nat.reduceEqDiff, ↓reduceIte, Nat.reduceAdd, Nat.reduceLeDiff, ME, hS]); (try with_reducible rfl); done)); all_goals (intro _hg; (try simp only [ZB] at _hg); try first | exact absurd trivial _hg | (exfalso; omega))) | (refine e_ends rfl ?_) | (apply r_1; (focus (simp only [rv, simB0, ZA, Nat.reduceEqDiff, ↓reduceIte, Nat.reduceAdd, Nat.reduceLeDiff, ME, hS]; with_reducible rfl))) | refine w_loop ?_)
  · refine snap_bool ?_
    symm
    refine range_all_false hk ?_
    rw [hk0, decide_eq_false ‹_›]; rfl
  have hSn : (S.length : Int) = m.n := by omega
  refine loopA (fun p => [(1, .ptr 0 8 0), (5, .int .i64 k), (6, .int .i64 p)]) S.length (fun p => recvB m k p = true) (by simp (disch := omega) only [agr, ZG, Nat.reduceEqDiff, ↓reduceIte]) ?_
  rintro p g1 g2
  by_cases hp : p < S.length
  rotate_left
  · repeat' (first | refine w_seq ?_ | refine w_ops0 ?_ | refine w_exit ?_ | refine a_n ?_ | refine a_x ?_ | refine o_nil ?_ | (apply o_val rfl rfl; (focus ((try simp (disch := omega) only [simB0, ZA, Nat.reduceEqDiff, ↓reduceIte, Nat.reduceAdd, Nat.reduceLeDiff, ZV, reduceCtorEq, ME]); first | with_reducible rfl | (apply s_ite; (focus omega); with_reducible rfl)))) | (apply w_cond; (focus ((try simp only [simB0, ZA, Nat.reduceEqDiff, ↓reduceIte, Nat.reduceAdd, Nat.reduceLeDiff, ME]); (try with_reducible rfl); done)); all_goals (intro _hg; (try simp only [ZB] at _hg); try first | exact absurd trivial _hg | (exfalso; omega))))
    refine ⟨by omega, ?_, by simp (disch := omega) only [agr, ZG, Nat.reduceEqDiff, ↓reduceIte], rfl, rfl⟩
    rw [hk0, decide_eq_true (by omega), Bool.true_and]
    exact range_all_true fun i hi => g2 i (by omega)
  have hpd := hpd p
  have hqd := hqd p
  generalize hR : S.getD p default = R at *
  generalize hV : O.getD p default = V at *
  repeat' (first | refine w_seq ?_ | refine w_ops0 ?_ | refine w_ops1 ?_ | refine w_block ?_ | refine w_skip ?_ | refine w_ret ?_ | refine a_n ?_ | refine a_r ?_ | refine o_nil ?_ | (apply o_val rfl rfl; (focus ((try simp (disch := omega) only [simB0, ZA, Nat.reduceEqDiff, ↓reduceIte, Nat.reduceAdd, Nat.reduceLeDiff, ZV, reduceCtorEq, ME, hS, hR]); first | with_reducible rfl | (apply s_ite; (focus omega); with_reducible rfl)))) | (apply w_cond; (focus ((try simp only [simB0, ZA, Nat.reduceEqDiff, ↓reduceIte, Nat.reduceAdd, Nat.reduceLeDiff, ME, hS, hR]); (try with_reducible rfl); done)); all_goals (intro _hg; (try simp only [ZB] at _hg); try first | exact absurd trivial _hg | (exfalso; omega))) | (refine e_ends rfl ?_) | (apply r_1; (focus (simp only [rv, simB0, ZA, Nat.reduceEqDiff, ↓reduceIte, Nat.reduceAdd, Nat.reduceLeDiff, ME, hS, hR]; with_reducible rfl))) | refine w_loop ?_)
  · refine snap_bool ?_
    symm
    refine range_all_false hk ?_
    rw [hk0, range_all_false hp (by rw [hpd, decide_eq_false ‹_›]; rfl), Bool.and_false]
  have hRn : (R.length : Int) = m.n := by omega
  refine loopA (fun q => [(1, .ptr 0 8 0), (5, .int .i64 k), (6, .int .i64 p), (7, .int .i64 q)]) R.length (fun q => placeB m k p q = true) (by simp (disch := omega) only [agr, ZG, Nat.reduceEqDiff, ↓reduceIte]) ?_
  rintro q f1 f2
  by_cases hq : q < R.length
  rotate_left
  · repeat' (first | refine w_seq ?_ | refine w_ops0 ?_ | refine w_exit ?_ | refine a_n ?_ | refine a_x ?_ | refine o_nil ?_ | (apply o_val rfl rfl; (focus ((try simp (disch := omega) only [simB0, ZA, Nat.reduceEqDiff, ↓reduceIte, Nat.reduceAdd, Nat.reduceLeDiff, ZV, reduceCtorEq, ME]); first | with_reducible rfl | (apply s_ite; (focus omega); with_reducible rfl)))) | (apply w_cond; (focus ((try simp only [simB0, ZA, Nat.reduceEqDiff, ↓reduceIte, Nat.reduceAdd, Nat.reduceLeDiff, ME]); (try with_reducible rfl); done)); all_goals (intro _hg; (try simp only [ZB] at _hg); try first | exact absurd trivial _hg | (exfalso; omega))))
    refine ⟨by omega, ?_, by simp (disch := omega) only [agr, ZG, Nat.reduceEqDiff, ↓reduceIte], rfl, rfl⟩
    rw [hpd, decide_eq_true (by omega), Bool.true_and]
    exact range_all_true fun i hi => f2 i (by omega)
  have hqd := hqd q
  have hbad : placeB m k p q = false → (List.range m.symbols.length).all (fun k => sendB m k) = false := fun h => range_all_false hk (by
    rw [hk0, range_all_false hp (by rw [hpd, range_all_false hq h, Bool.and_false]), Bool.and_false])
  by_cases hpq : p = q
  · have hpq' : decide ((p : Int) = (q : Int)) = true := decide_eq_true (by omega)
    have hpq2 : decide ((p : Int) ≠ (q : Int)) = false := decide_eq_false (by omega)
    rw [if_pos hpq] at hqd
    repeat' (first | refine w_seq ?_ | refine w_ops0 ?_ | refine w_ops1 ?_ | refine w_block ?_ | refine w_skip ?_ | refine w_ret ?_ | refine a_n ?_ | refine a_r ?_ | refine o_nil ?_ | (apply o_val rfl rfl; (focus ((try simp (disch := omega) only [simB0, ZA, Nat.reduceEqDiff, ↓reduceIte, Nat.reduceAdd, Nat.reduceLeDiff, ZV, reduceCtorEq, ME, hS, hR, hO, hV, hpq', hpq2]); first | with_reducible rfl | (apply s_ite; (focus omega); with_reducible rfl)))) | (apply o_gT; (focus (simp only [simB0, ZA, Nat.reduceEqDiff, ↓reduceIte, Nat.reduceAdd, Nat.reduceLeDiff, ME, hS, hR, hO, hV, hpq', hpq2]; done))) | (apply o_gF; (focus (simp only [simB0, ZA, Nat.reduceEqDiff, ↓reduceIte, Nat.reduceAdd, Nat.reduceLeDiff, or_true, true_or, ME, hS, hR, hO, hV, hpq', hpq2]; done))) | (apply w_condT; (focus (simp only [simB0, ZA, Nat.reduceEqDiff, ↓reduceIte, Nat.reduceAdd, Nat.reduceLeDiff, ME, hS, hR, hO, hV, hpq', hpq2]; done))) | (apply w_condF; (focus (simp only [simB0, ZA, Nat.reduceEqDiff, ↓reduceIte, Nat.reduceAdd, Nat.reduceLeDiff, ME, hS, hR, hO, hV, hpq', hpq2]; done))) | ((first | apply o_gB | apply w_cond); (focus ((try simp only [simB0, ZA, Nat.reduceEqDiff, ↓reduceIte, Nat.reduceAdd, Nat.reduceLeDiff, ME, hS, hR, hO, hV, hpq', hpq2]); (try with_reducible rfl); done)); all_goals (intro _hg; (try simp only [ZB] at _hg); try first | exact absurd trivial _hg | (exfalso; omega))) | (refine e_ends rfl ?_) | (apply r_1; (focus (simp only [rv, simB0, ZA, Nat.reduceEqDiff, ↓reduceIte, Nat.reduceAdd, Nat.reduceLeDiff, ME, hS, hR, hO, hV, hpq', hpq2]; with_reducible rfl))))
    all_goals first
      | exact snap_bool (hbad (by rw [hqd, decide_eq_false (by omega)])).symm
      | exact ⟨by omega, by rw [hqd, decide_eq_true (by omega)], by simp (disch := omega) only [agr, ZG, Nat.reduceEqDiff, ↓reduceIte], rfl, rfl⟩
  · have hpq' : decide ((p : Int) = (q : Int)) = false := decide_eq_false (by omega)
    have hpq2 : decide ((p : Int) ≠ (q : Int)) = true := decide_eq_true (by omega)
    rw [if_neg hpq] at hqd
    repeat' (first | refine w_seq ?_ | refine w_ops0 ?_ | refine w_ops1 ?_ | refine w_block ?_ | refine w_skip ?_ | refine w_ret ?_ | refine a_n ?_ | refine a_r ?_ | refine o_nil ?_ | (apply o_val rfl rfl; (focus ((try simp (disch := omega) only [simB0, ZA, Nat.reduceEqDiff, ↓reduceIte, Nat.reduceAdd, Nat.reduceLeDiff, ZV, reduceCtorEq, ME, hS, hR, hO, hV, hpq', hpq2]); first | with_reducible rfl | (apply s_ite; (focus omega); with_reducible rfl)))) | (apply o_gT; (focus (simp only [simB0, ZA, Nat.reduceEqDiff, ↓reduceIte, Nat.reduceAdd, Nat.reduceLeDiff, ME, hS, hR, hO, hV, hpq', hpq2]; done))) | (apply o_gF; (focus (simp only [simB0, ZA, Nat.reduceEqDiff, ↓reduceIte, Nat.reduceAdd, Nat.reduceLeDiff, or_true, true_or, ME, hS, hR, hO, hV, hpq', hpq2]; done))) | (apply w_cond; (focus ((try simp only [simB0, ZA, Nat.reduceEqDiff, ↓reduceIte, Nat.reduceAdd, Nat.reduceLeDiff, ME, hS, hR, hO, hV, hpq', hpq2]); (try with_reducible rfl); done)); all_goals (intro _hg; (try simp only [ZB] at _hg); try first | exact absurd trivial _hg | (exfalso; omega))) | (refine e_ends rfl ?_) | (apply r_1; (focus (simp only [rv, simB0, ZA, Nat.reduceEqDiff, ↓reduceIte, Nat.reduceAdd, Nat.reduceLeDiff, ME, hS, hR, hO, hV, hpq', hpq2]; with_reducible rfl))))
    all_goals first
      | exact snap_bool (hbad (by rw [hqd, decide_eq_false (by omega)])).symm
      | exact ⟨by omega, by rw [hqd, decide_eq_true (by omega)], by simp (disch := omega) only [agr, ZG, Nat.reduceEqDiff, ↓reduceIte], rfl, rfl⟩

end Go.Proofs.Ytpbjhjkfobapeaa

/- Q36: contracts of functions and plain laws; for all inputs that the theorems name. -/
set_option linter.unusedSimpArgs false
set_option linter.unusedVariables false
namespace Go.Proofs.Ytpbjhjkfobapeaa
open Go Go.Abs

theorem all_idx {α : Type} [Inhabited α] {l : List α} {p : α → Bool} : l.all p = true ↔ ∀ i, i < l.length → p (l.getD i default) = true :=
  ⟨fun h i hi => List.all_eq_true.1 h _ (mem_getD hi), all_true⟩
theorem ranged_iff {m : MachV} (hsh : shapedB m = true) (hn : 1 ≤ m.n ∧ m.n ≤ 5) (hr : 0 ≤ m.rounds ∧ m.rounds ≤ 6) : rangedB m = true ↔ ∀ p, p < m.first.length → firstB m p = true ∧ ∀ k, k < m.out.length → allB ((m.out.getD k default).getD p default) (-1) (m.outs - 1) = true ∧ (k < m.symbols.length → ∀ q, q < m.first.length → allB (((m.symbols.getD k default).getD p default).getD q default) 0 1048576 = true) := by
  obtain ⟨l1, l2, l3⟩ := shaped_len hsh
  unfold rangedB
  simp only [Bool.and_eq_true, List.all_eq_true, List.mem_range]
  constructor
  · rintro ⟨h1, h2, h3⟩ p hp
    refine ⟨h1 p hp, fun k hk => ⟨?_, fun hk2 q hq => ?_⟩⟩
    · exact h2 _ (mem_getD hk) _ (mem_getD (by have := shaped_out hsh hk; omega))
    · obtain ⟨s1, s2⟩ := shaped_sym hsh hk2
      exact h3 _ (mem_getD hk2) _ (mem_getD (by omega)) _ (mem_getD (by have := (s2 p (by omega)).1; omega))
  · intro h
    refine ⟨fun p hp => (h p hp).1, fun l hl x hx => ?_, fun s hs l hl x hx => ?_⟩
    · obtain ⟨k, hk, rfl⟩ := mem_idx hl
      obtain ⟨p, hp, rfl⟩ := mem_idx hx
      have := shaped_out hsh hk
      exact ((h p (by omega)).2 k hk).1
    · obtain ⟨k, hk, rfl⟩ := mem_idx hs
      obtain ⟨p, hp, rfl⟩ := mem_idx hl
      obtain ⟨q, hq, rfl⟩ := mem_idx hx
      obtain ⟨s1, s2⟩ := shaped_sym hsh hk
      have := (s2 p hp).1
      exact ((h p (by omega)).2 k (by omega)).2 hk q (by omega)
theorem bool_false {b : Bool} {P : Prop} (h : b = true ↔ P) (hn : ¬ P) : b = false := by
  cases b with
  | false => rfl
  | true => exact absurd (h.1 rfl) hn
attribute [local irreducible] awp2 aops2 ains aloop athen bbind obind gbind acond res1 Go.Abs.Fn PCall Go.Abs.Pure SnapArgs SnapL Yl

theorem ranged_r (m : MachV) (hs : ShM m) (hn : 1 ≤ m.n ∧ m.n ≤ 5) (hr : 0 ≤ m.rounds ∧ m.rounds ≤ 6) (ho : 1 ≤ m.outs ∧ m.outs ≤ 8) (hsh : shapedB m = true) : Pure Try.prog 72 [encM m] (.bool (rangedB m)) := by
  refine Pure.of_c2 follows is72 (Nat.le_of_ble_eq_true rfl) ?_
  simp only [b72, O, G, N, M, D, F, B2, cFal, cTru]
  have hiff := ranged_iff hsh hn hr
  obtain ⟨l1, l2, l3⟩ := shaped_len hsh
  have hso := fun {k : Nat} (hk : k < m.out.length) => shaped_out hsh hk
  have hss := fun {k : Nat} (hk : k < m.symbols.length) => shaped_sym hsh hk
  obtain ⟨s1, s2, s3, s4, s5, s5b, s6, s7, s8, s9, s10⟩ := hs
  unfold encM MachV.cells
  repeat' (first | refine w_seq ?_ | refine w_ops0 ?_ | refine w_block ?_ | refine a_n ?_ | refine o_nil ?_ | (apply o_val rfl rfl; (focus ((try simp (disch := omega) only [simB0, ZA, Nat.reduceEqDiff, ↓reduceIte, Nat.reduceAdd, Nat.reduceLeDiff, ZV, reduceCtorEq, ME, acells]); first | with_reducible rfl | (apply s_ite; (focus omega); with_reducible rfl)))) | (apply e_box rfl; (iterate 2 (focus ((try simp only [simB0, ZA, Nat.reduceEqDiff, ↓reduceIte, Nat.reduceAdd, Nat.reduceLeDiff, ME, acells]); (try with_reducible rfl); done))); (focus (simp only [SO, Bool.and_self, one_encV, one_encVV, ME, acells]))) | refine w_loop ?_)
  refine loopA (fun p => [(1, .ptr 0 8 0), (3, .int .i64 p)]) m.first.length (fun p => firstB m p = true ∧ ∀ k, k < m.out.length → allB ((m.out.getD k default).getD p default) (-1) (m.outs - 1) = true ∧ (k < m.symbols.length → ∀ q, q < m.first.length → allB (((m.symbols.getD k default).getD p default).getD q default) 0 1048576 = true)) (by simp (disch := omega) only [agr, ZG, Nat.reduceEqDiff, ↓reduceIte, List.length_cons, List.length_nil]) ?_
  intro p hp hpp
  by_cases hp2 : p < m.first.length
  rotate_left
  · repeat' (first | refine w_seq ?_ | refine w_ops0 ?_ | refine w_exit ?_ | refine w_ret ?_ | refine a_n ?_ | refine a_x ?_ | refine o_nil ?_ | (apply o_val rfl rfl; (focus ((try simp (disch := omega) only [simB0, ZA, Nat.reduceEqDiff, ↓reduceIte, Nat.reduceAdd, Nat.reduceLeDiff, ZV, reduceCtorEq, ME]); first | with_reducible rfl | (apply s_ite; (focus omega); with_reducible rfl)))) | (apply w_cond; (focus ((try simp only [simB0, ZA, Nat.reduceEqDiff, ↓reduceIte, Nat.reduceAdd, Nat.reduceLeDiff, ME]); (try with_reducible rfl); done)); all_goals (intro _hg; (try simp only [ZB] at _hg); try first | exact absurd trivial _hg | (exfalso; omega))) | (refine e_ends rfl ?_) | (apply r_1; (focus (simp only [rv, simB0, ZA, Nat.reduceEqDiff, ↓reduceIte, Nat.reduceAdd, Nat.reduceLeDiff, ME]; with_reducible rfl))))
    exact snap_bool (hiff.2 fun i hi => hpp i (by omega)).symm
  have h0 : 0 < m.out.length := by omega
  have hso0 := hso h0
  have hF := s2 _ (mem_getD hp2)
  have hO0 := s5 _ (mem_getD h0) _ (mem_getD (k := p) (by omega))
  have hn1 := numbers_r (m.first.getD p default) (-1) ((((m.out.getD 0 default).getD p default).length : Int) - 1) hF
  have hfd : firstB m p = allB (m.first.getD p default) (-1) (((m.out.getD 0 default).getD p default).length - 1) := rfl
  have hlen0 : ((m.out.getD 0 default).getD p default).length ≤ 9223372036854775807 := hO0
  have hbadF : firstB m p = false → rangedB m = false := fun h => bool_false hiff fun hh => by rw [(hh p hp2).1] at h; cases h
  have g00 : (m.out.getD (0 : Int).toNat default) = m.out.getD 0 default := rfl
  generalize hA : m.first.getD p default = A at *
  generalize hB : m.out.getD 0 default = B at *
  generalize hC : B.getD p default = C at *
  rw [← hfd] at hn1
  cases hfb : firstB m p with
  | false =>
    rw [hfb] at hn1
    repeat' (first | refine w_seq ?_ | refine w_ops0 ?_ | refine w_mixS1 ?_ | refine w_block ?_ | refine w_skip ?_ | refine w_ret ?_ | refine a_n ?_ | refine a_r ?_ | refine o_nil ?_ | (apply o_val rfl rfl; (focus ((try simp (disch := omega) only [simB0, ZA, Nat.reduceEqDiff, ↓reduceIte, Nat.reduceAdd, Nat.reduceLeDiff, ZV, reduceCtorEq, ME, hA, hB, hC, g00, Int.toNat_zero]); first | with_reducible rfl | (apply s_ite; (focus omega); with_reducible rfl)))) | (apply o_callD; (iterate 2 (focus ((try simp only [simB0, ZA, Nat.reduceEqDiff, ↓reduceIte, Nat.reduceAdd, Nat.reduceLeDiff, ME, hA, hB, hC, g00, Int.toNat_zero]); (try with_reducible rfl); done))); (focus (first | (exact hn1))); (focus ((first | refine snap_plain ?_ rfl | apply snap_data); repeat' (first | exact snapL_nil | apply snapL_i | apply snapL_dat | exact encV_dat _)))) | (apply w_condT; (focus (simp only [simB0, ZA, Nat.reduceEqDiff, ↓reduceIte, Nat.reduceAdd, Nat.reduceLeDiff, ME, hA, hB, hC, g00, Int.toNat_zero]; done))) | (apply w_cond; (focus ((try simp only [simB0, ZA, Nat.reduceEqDiff, ↓reduceIte, Nat.reduceAdd, Nat.reduceLeDiff, ME, hA, hB, hC, g00, Int.toNat_zero]); (try with_reducible rfl); done)); all_goals (intro _hg; (try simp only [ZB] at _hg); try first | exact absurd trivial _hg | (exfalso; omega))) | (refine e_ends rfl ?_) | (apply r_1; (focus (simp only [rv, simB0, ZA, Nat.reduceEqDiff, ↓reduceIte, Nat.reduceAdd, Nat.reduceLeDiff, ME, hA, hB, hC, g00, Int.toNat_zero]; with_reducible rfl))))
    exact snap_bool (hbadF hfb).symm
  | true =>
  rw [hfb] at hn1
  repeat' (first | refine w_seq ?_ | refine w_ops0 ?_ | refine w_mixS1 ?_ | refine w_block ?_ | refine w_skip ?_ | refine a_n ?_ | refine o_nil ?_ | (apply o_val rfl rfl; (focus ((try simp (disch := omega) only [simB0, ZA, Nat.reduceEqDiff, ↓reduceIte, Nat.reduceAdd, Nat.reduceLeDiff, ZV, reduceCtorEq, ME, hA, hB, hC, g00, Int.toNat_zero]); first | with_reducible rfl | (apply s_ite; (focus omega); with_reducible rfl)))) | (apply o_callD; (iterate 2 (focus ((try simp only [simB0, ZA, Nat.reduceEqDiff, ↓reduceIte, Nat.reduceAdd, Nat.reduceLeDiff, ME, hA, hB, hC, g00, Int.toNat_zero]); (try with_reducible rfl); done))); (focus (first | (exact hn1))); (focus ((first | refine snap_plain ?_ rfl | apply snap_data); repeat' (first | exact snapL_nil | apply snapL_i | apply snapL_dat | exact encV_dat _)))) | (apply w_condF; (focus (simp only [simB0, ZA, Nat.reduceEqDiff, ↓reduceIte, Nat.reduceAdd, Nat.reduceLeDiff, ME, hA, hB, hC, g00, Int.toNat_zero]; done))) | (apply w_cond; (focus ((try simp only [simB0, ZA, Nat.reduceEqDiff, ↓reduceIte, Nat.reduceAdd, Nat.reduceLeDiff, ME, hA, hB, hC, g00, Int.toNat_zero]); (try with_reducible rfl); done)); all_goals (intro _hg; (try simp only [ZB] at _hg); try first | exact absurd trivial _hg | (exfalso; omega))) | refine w_loop ?_)
  refine loopA (fun k => [(1, .ptr 0 8 0), (3, .int .i64 p), (4, .int .i64 k)]) m.out.length (fun k => allB ((m.out.getD k default).getD p default) (-1) (m.outs - 1) = true ∧ (k < m.symbols.length → ∀ q, q < m.first.length → allB (((m.symbols.getD k default).getD p default).getD q default) 0 1048576 = true)) (by simp (disch := omega) only [agr, ZG, Nat.reduceEqDiff, ↓reduceIte]) ?_
  intro k hk hkk
  by_cases hk2 : k < m.out.length
  rotate_left
  · repeat' (first | refine w_seq ?_ | refine w_ops0 ?_ | refine w_exit ?_ | refine a_n ?_ | refine a_x ?_ | refine o_nil ?_ | (apply o_val rfl rfl; (focus ((try simp (disch := omega) only [simB0, ZA, Nat.reduceEqDiff, ↓reduceIte, Nat.reduceAdd, Nat.reduceLeDiff, ZV, reduceCtorEq, ME]); first | with_reducible rfl | (apply s_ite; (focus omega); with_reducible rfl)))) | (apply w_cond; (focus ((try simp only [simB0, ZA, Nat.reduceEqDiff, ↓reduceIte, Nat.reduceAdd, Nat.reduceLeDiff, ME]); (try with_reducible rfl); done)); all_goals (intro _hg; (try simp only [ZB] at _hg); try first | exact absurd trivial _hg | (exfalso; omega))))
    exact ⟨hp2, ⟨rfl, fun i hi => hkk i (by omega)⟩, by simp (disch := omega) only [agr, ZG, Nat.reduceEqDiff, ↓reduceIte], rfl, rfl⟩
  have hbadK : (¬ (allB ((m.out.getD k default).getD p default) (-1) (m.outs - 1) = true ∧ (k < m.symbols.length → ∀ q, q < m.first.length → allB (((m.symbols.getD k default).getD p default).getD q default) 0 1048576 = true))) → rangedB m = false := fun h => bool_false hiff fun hh => h ((hh p hp2).2 k hk2)
  have hsok := hso hk2
  have hOk := s5 _ (mem_getD hk2) _ (mem_getD (k := p) (by omega))
  have hn2 := numbers_r ((m.out.getD k default).getD p default) (-1) (m.outs - 1) hOk
  generalize hD : m.out.getD k default = D at *
  generalize hE : D.getD p default = E at *
  cases hob : allB E (-1) (m.outs - 1) with
  | false =>
    rw [hob] at hn2
    repeat' (first | refine w_seq ?_ | refine w_ops0 ?_ | refine w_mixS1 ?_ | refine w_block ?_ | refine w_skip ?_ | refine w_ret ?_ | refine a_n ?_ | refine a_r ?_ | refine o_nil ?_ | (apply o_val rfl rfl; (focus ((try simp (disch := omega) only [simB0, ZA, Nat.reduceEqDiff, ↓reduceIte, Nat.reduceAdd, Nat.reduceLeDiff, ZV, reduceCtorEq, ME, hD, hE]); first | with_reducible rfl | (apply s_ite; (focus omega); with_reducible rfl)))) | (apply o_callD; (iterate 2 (focus ((try simp only [simB0, ZA, Nat.reduceEqDiff, ↓reduceIte, Nat.reduceAdd, Nat.reduceLeDiff, ME, hD, hE]); (try with_reducible rfl); done))); (focus (first | (exact hn2))); (focus ((first | refine snap_plain ?_ rfl | apply snap_data); repeat' (first | exact snapL_nil | apply snapL_i | apply snapL_dat | exact encV_dat _)))) | (apply w_condT; (focus (simp only [simB0, ZA, Nat.reduceEqDiff, ↓reduceIte, Nat.reduceAdd, Nat.reduceLeDiff, ME, hD, hE]; done))) | (apply w_cond; (focus ((try simp only [simB0, ZA, Nat.reduceEqDiff, ↓reduceIte, Nat.reduceAdd, Nat.reduceLeDiff, ME, hD, hE]); (try with_reducible rfl); done)); all_goals (intro _hg; (try simp only [ZB] at _hg); try first | exact absurd trivial _hg | (exfalso; omega))) | (refine e_ends rfl ?_) | (apply r_1; (focus (simp only [rv, simB0, ZA, Nat.reduceEqDiff, ↓reduceIte, Nat.reduceAdd, Nat.reduceLeDiff, ME, hD, hE]; with_reducible rfl))))
    exact snap_bool (hbadK (fun h => by rw [hob] at h; cases h.1)).symm
  | true =>
  rw [hob] at hn2
  repeat' (first | refine w_seq ?_ | refine w_ops0 ?_ | refine w_mixS1 ?_ | refine w_block ?_ | refine w_skip ?_ | refine a_n ?_ | refine o_nil ?_ | (apply o_val rfl rfl; (focus ((try simp (disch := omega) only [simB0, ZA, Nat.reduceEqDiff, ↓reduceIte, Nat.reduceAdd, Nat.reduceLeDiff, ZV, reduceCtorEq, ME, hD, hE]); first | with_reducible rfl | (apply s_ite; (focus omega); with_reducible rfl)))) | (apply o_callD; (iterate 2 (focus ((try simp only [simB0, ZA, Nat.reduceEqDiff, ↓reduceIte, Nat.reduceAdd, Nat.reduceLeDiff, ME, hD, hE]); (try with_reducible rfl); done))); (focus (first | (exact hn2))); (focus ((first | refine snap_plain ?_ rfl | apply snap_data); repeat' (first | exact snapL_nil | apply snapL_i | apply snapL_dat | exact encV_dat _)))) | (apply w_condF; (focus (simp only [simB0, ZA, Nat.reduceEqDiff, ↓reduceIte, Nat.reduceAdd, Nat.reduceLeDiff, ME, hD, hE]; done))) | (apply w_cond; (focus ((try simp only [simB0, ZA, Nat.reduceEqDiff, ↓reduceIte, Nat.reduceAdd, Nat.reduceLeDiff, ME, hD, hE]); (try with_reducible rfl); done)); all_goals (intro _hg; (try simp only [ZB] at _hg); try first | exact absurd trivial _hg | (exfalso; omega))) | refine w_loop ?_)
  refine loopA (fun q => [(1, .ptr 0 8 0), (3, .int .i64 p), (4, .int .i64 k), (5, .int .i64 q)]) m.first.length (fun q => k < m.symbols.length ∧ allB (((m.symbols.getD k default).getD p default).getD q default) 0 1048576 = true) (by simp (disch := omega) only [agr, ZG, Nat.reduceEqDiff, ↓reduceIte]) ?_
  intro q hq hqq
  by_cases hq2 : q < m.first.length ∧ k < m.symbols.length
  rotate_left
  · have d1 : decide ((q : Int) < m.n) = true → decide ((k : Int) < m.rounds) = false := fun h => decide_eq_false (by have := of_decide_eq_true h; omega)
    cases hd : decide ((q : Int) < m.n) with
    | false =>
      repeat' (first | refine w_seq ?_ | refine w_ops0 ?_ | refine w_exit ?_ | refine a_n ?_ | refine a_x ?_ | refine o_nil ?_ | (apply o_val rfl rfl; (focus ((try simp (disch := omega) only [simB0, ZA, Nat.reduceEqDiff, ↓reduceIte, Nat.reduceAdd, Nat.reduceLeDiff, ZV, reduceCtorEq, ME, hd]); first | with_reducible rfl | (apply s_ite; (focus omega); with_reducible rfl)))) | (apply o_gF; (focus (simp only [simB0, ZA, Nat.reduceEqDiff, ↓reduceIte, Nat.reduceAdd, Nat.reduceLeDiff, or_true, true_or, ME, hd]; done))) | (apply w_condF; (focus (simp only [simB0, ZA, Nat.reduceEqDiff, ↓reduceIte, Nat.reduceAdd, Nat.reduceLeDiff, ME, hd]; done))))
      all_goals exact ⟨hk2, ⟨rfl, fun h2 i hi => (hqq i (by have := of_decide_eq_false hd; omega)).2⟩, by simp (disch := omega) only [agr, ZG, Nat.reduceEqDiff, ↓reduceIte], rfl, rfl⟩
    | true =>
      have d2 := d1 hd
      repeat' (first | refine w_seq ?_ | refine w_ops0 ?_ | refine w_exit ?_ | refine a_n ?_ | refine a_x ?_ | refine o_nil ?_ | (apply o_val rfl rfl; (focus ((try simp (disch := omega) only [simB0, ZA, Nat.reduceEqDiff, ↓reduceIte, Nat.reduceAdd, Nat.reduceLeDiff, ZV, reduceCtorEq, ME, hd, d2]); first | with_reducible rfl | (apply s_ite; (focus omega); with_reducible rfl)))) | (apply o_gT; (focus (simp only [simB0, ZA, Nat.reduceEqDiff, ↓reduceIte, Nat.reduceAdd, Nat.reduceLeDiff, ME, hd, d2]; done))) | (apply w_condF; (focus (simp only [simB0, ZA, Nat.reduceEqDiff, ↓reduceIte, Nat.reduceAdd, Nat.reduceLeDiff, ME, hd, d2]; done))))
      all_goals exact ⟨hk2, ⟨rfl, fun h2 i hi => by have := of_decide_eq_false d2; omega⟩, by simp (disch := omega) only [agr, ZG, Nat.reduceEqDiff, ↓reduceIte], rfl, rfl⟩
  obtain ⟨hq2, hk3⟩ := hq2
  obtain ⟨t1, t2⟩ := hss hk3
  obtain ⟨t3, _⟩ := t2 p (by omega)
  have hSq := s9 _ (mem_getD hk3) _ (mem_getD (k := p) (by omega)) _ (mem_getD (k := q) (by omega))
  have hn3 := numbers_r (((m.symbols.getD k default).getD p default).getD q default) 0 1048576 hSq
  have d1 : decide ((q : Int) < m.n) = true := decide_eq_true (by omega)
  have d2 : decide ((k : Int) < m.rounds) = true := decide_eq_true (by omega)
  generalize hX : m.symbols.getD k default = X at *
  generalize hY : X.getD p default = Y at *
  generalize hZ : Y.getD q default = Z at *
  cases hzb : allB Z 0 1048576 with
  | false =>
    rw [hzb] at hn3
    repeat' (first | refine w_seq ?_ | refine w_ops0 ?_ | refine w_block ?_ | refine w_skip ?_ | refine w_ret ?_ | refine a_n ?_ | refine a_r ?_ | refine o_nil ?_ | (apply o_val rfl rfl; (focus ((try simp (disch := omega) only [simB0, ZA, Nat.reduceEqDiff, ↓reduceIte, Nat.reduceAdd, Nat.reduceLeDiff, ZV, reduceCtorEq, ME, d1, d2, hX, hY, hZ]); first | with_reducible rfl | (apply s_ite; (focus omega); with_reducible rfl)))) | (apply o_callD; (iterate 2 (focus ((try simp only [simB0, ZA, Nat.reduceEqDiff, ↓reduceIte, Nat.reduceAdd, Nat.reduceLeDiff, ME, d1, d2, hX, hY, hZ]); (try with_reducible rfl); done))); (focus (first | (exact hn3))); (focus ((first | refine snap_plain ?_ rfl | apply snap_data); repeat' (first | exact snapL_nil | apply snapL_i | apply snapL_dat | exact encV_dat _)))) | (apply o_gT; (focus (simp only [simB0, ZA, Nat.reduceEqDiff, ↓reduceIte, Nat.reduceAdd, Nat.reduceLeDiff, ME, d1, d2, hX, hY, hZ]; done))) | (apply w_condT; (focus (simp only [simB0, ZA, Nat.reduceEqDiff, ↓reduceIte, Nat.reduceAdd, Nat.reduceLeDiff, ME, d1, d2, hX, hY, hZ]; done))) | (refine e_ends rfl ?_) | (apply r_1; (focus (simp only [rv, simB0, ZA, Nat.reduceEqDiff, ↓reduceIte, Nat.reduceAdd, Nat.reduceLeDiff, ME, d1, d2, hX, hY, hZ]; with_reducible rfl))))
    exact snap_bool (hbadK (fun h => by have := h.2 hk3 q hq2; rw [hZ, hzb] at this; cases this)).symm
  | true =>
    rw [hzb] at hn3
    repeat' (first | refine w_seq ?_ | refine w_ops0 ?_ | refine w_block ?_ | refine w_skip ?_ | refine a_n ?_ | refine o_nil ?_ | (apply o_val rfl rfl; (focus ((try simp (disch := omega) only [simB0, ZA, Nat.reduceEqDiff, ↓reduceIte, Nat.reduceAdd, Nat.reduceLeDiff, ZV, reduceCtorEq, ME, d1, d2, hX, hY, hZ]); first | with_reducible rfl | (apply s_ite; (focus omega); with_reducible rfl)))) | (apply o_callD; (iterate 2 (focus ((try simp only [simB0, ZA, Nat.reduceEqDiff, ↓reduceIte, Nat.reduceAdd, Nat.reduceLeDiff, ME, d1, d2, hX, hY, hZ]); (try with_reducible rfl); done))); (focus (first | (exact hn3))); (focus ((first | refine snap_plain ?_ rfl | apply snap_data); repeat' (first | exact snapL_nil | apply snapL_i | apply snapL_dat | exact encV_dat _)))) | (apply o_gT; (focus (simp only [simB0, ZA, Nat.reduceEqDiff, ↓reduceIte, Nat.reduceAdd, Nat.reduceLeDiff, ME, d1, d2, hX, hY, hZ]; done))) | (apply w_condT; (focus (simp only [simB0, ZA, Nat.reduceEqDiff, ↓reduceIte, Nat.reduceAdd, Nat.reduceLeDiff, ME, d1, d2, hX, hY, hZ]; done))) | (apply w_condF; (focus (simp only [simB0, ZA, Nat.reduceEqDiff, ↓reduceIte, Nat.reduceAdd, Nat.reduceLeDiff, ME, d1, d2, hX, hY, hZ]; done))))
    exact ⟨hq2, ⟨hk3, rfl⟩, by simp (disch := omega) only [agr, ZG, Nat.reduceEqDiff, ↓reduceIte], rfl, rfl⟩

end Go.Proofs.Ytpbjhjkfobapeaa

/- Q37: contracts of functions and plain laws; for all inputs that the theorems name. -/
set_option linter.unusedSimpArgs false
set_option linter.unusedVariables false
namespace Go.Proofs.Ytpbjhjkfobapeaa
open Go Go.Abs

theorem n_ld1 {P : Program} {T : Tm} {H : Hp} {nx : Nat} {S : Hp} {K : SP} {l : List (Op2 × Nat)} {d : Option Nat} {x : Opd} {p v : AV} (hp : ov T x = p) (h : rd1 S p = some v) (k : aops2S P S l (updo T d v) H nx K) : aops2S P S ((⟨d, none, .ld1 x⟩, 0) :: l) T H nx K :=
  n_val (i := .ld1 x) (show rd1 S (ov T x) = some v by rw [hp]; exact h) k
theorem heard_cell (a : StepV) {k : Nat} (hk : k < 5) : a.cells[2 + k * 1]? = some (.int .i64 (a.heard.getD k default)) := by
  match k, hk with
  | 0, _ => rfl
  | 1, _ => rfl
  | 2, _ => rfl
  | 3, _ => rfl
  | 4, _ => rfl
theorem key_take (a : StepV) {k : Nat} (hk : k < 5) : a.key.take (k + 1 + 2) = a.key.take (k + 2) ++ [a.heard.getD k default] := by
  match k, hk with
  | 0, _ => rfl
  | 1, _ => rfl
  | 2, _ => rfl
  | 3, _ => rfl
  | 4, _ => rfl
structure OI (a b : StepV) (k : Nat) (sx sy : AV) (H : Hp) (nx : Nat) : Prop where
  h0 : H 0 = some a.cells
  h1 : H 1 = some b.cells
  rx : Row H 1 sx ((a.key.take (k + 2)).map (AV.int .i64))
  ry : Row H 1 sy ((b.key.take (k + 2)).map (AV.int .i64))
  bx : ∀ i, rowB sx = some i → 2 ≤ i ∧ i < nx ∧ rowB sy ≠ some i
  bw : ∀ i, rowB sy = some i → 2 ≤ i ∧ i < nx
  lt : 2 ≤ nx
attribute [local irreducible] awp2 aops2 ains aloop athen bbind obind gbind acond res1 Go.Abs.Fn PCall Go.Abs.Pure SnapArgs SnapL Yl

theorem order_r (a b : StepV) : Pure Try.prog 74 [encStep a, encStep b] (.int .i64 (orderS a b)) := by
  refine Pure.of_c2 follows is74 (Nat.le_of_ble_eq_true rfl) ?_
  simp only [b74, O, G, N, M, D, F, B2, cFal, cTru]
  have ea : a.cells = [.int .i64 a.round, .int .i64 a.proc, .int .i64 a.h0, .int .i64 a.h1, .int .i64 a.h2, .int .i64 a.h3, .int .i64 a.h4, .int .i64 a.to] := rfl
  have eb : b.cells = [.int .i64 b.round, .int .i64 b.proc, .int .i64 b.h0, .int .i64 b.h1, .int .i64 b.h2, .int .i64 b.h3, .int .i64 b.h4, .int .i64 b.to] := rfl
  unfold encStep
  rw [ea, eb]
  refine w_seq ?_
  repeat' (first | refine w_ops0 ?_ | refine a_n ?_ | refine o_nil ?_ | (apply o_val rfl rfl; (focus ((try simp (disch := omega) only [simB0, ZA, Nat.reduceEqDiff, ↓reduceIte, Nat.reduceAdd, Nat.reduceLeDiff, ZV, reduceCtorEq, acells]); first | with_reducible rfl | (apply s_ite; (focus omega); with_reducible rfl)))) | (apply e_box rfl; (iterate 2 (focus ((try simp only [simB0, ZA, Nat.reduceEqDiff, ↓reduceIte, Nat.reduceAdd, Nat.reduceLeDiff, acells]); (try with_reducible rfl); done))); (focus (simp only [SO, Bool.and_self, one_encV, one_encVV, acells]))))
  refine w_seq ?_
  repeat' (first | refine w_ops0 ?_ | refine a_n ?_ | refine o_nil ?_ | (apply o_val rfl rfl; (focus ((try simp (disch := omega) only [simB0, ZA, Nat.reduceEqDiff, ↓reduceIte, Nat.reduceAdd, Nat.reduceLeDiff, ZV, reduceCtorEq, acells]); first | with_reducible rfl | (apply s_ite; (focus omega); with_reducible rfl)))) | (apply e_bld rfl; (focus (exact Nat.succ_ne_zero _)); (focus ((try simp only [simB0, ZA, Nat.reduceEqDiff, ↓reduceIte, Nat.reduceAdd, Nat.reduceLeDiff, acells]); (try with_reducible rfl); done)); (focus ((try simp only [simB0, ZA, Nat.reduceEqDiff, ↓reduceIte, Nat.reduceAdd, Nat.reduceLeDiff, SO, Bool.and_self, one_encV, one_encVV, acells]); (try with_reducible rfl); done))))
  refine w_seq ?_
  repeat' (first | refine w_ops0 ?_ | refine a_n ?_ | refine o_nil ?_ | (apply o_val rfl rfl; (focus ((try simp (disch := omega) only [simB0, ZA, Nat.reduceEqDiff, ↓reduceIte, Nat.reduceAdd, Nat.reduceLeDiff, ZV, reduceCtorEq, acells]); first | with_reducible rfl | (apply s_ite; (focus omega); with_reducible rfl)))) | (apply e_bld rfl; (focus (exact Nat.succ_ne_zero _)); (focus ((try simp only [simB0, ZA, Nat.reduceEqDiff, ↓reduceIte, Nat.reduceAdd, Nat.reduceLeDiff, acells]); (try with_reducible rfl); done)); (focus ((try simp only [simB0, ZA, Nat.reduceEqDiff, ↓reduceIte, Nat.reduceAdd, Nat.reduceLeDiff, SO, Bool.and_self, one_encV, one_encVV, acells]); (try with_reducible rfl); done))))
  refine w_seqC (fun T H nx => Row H 1 (T 5) (a.key.map (AV.int .i64)) ∧ Row H 1 (T 6) (b.key.map (AV.int .i64))) ?_ ?_
  · repeat' (first | refine w_seq ?_ | refine w_ops0 ?_ | refine w_block ?_ | refine a_n ?_ | refine o_nil ?_ | (apply o_val rfl rfl; (focus ((try simp (disch := omega) only [simB0, ZA, Nat.reduceEqDiff, ↓reduceIte, Nat.reduceAdd, Nat.reduceLeDiff, ZV, reduceCtorEq]); first | with_reducible rfl | (apply s_ite; (focus omega); with_reducible rfl)))) | refine w_loop ?_)
    refine loopF (X := Nat × AV × AV) (fun s => [(2, .ptr 0 8 0), (3, .ptr 1 8 0), (5, s.2.1), (6, s.2.2), (7, .int .i64 s.1)]) (fun s H nx => s.1 ≤ 5 ∧ OI a b s.1 s.2.1 s.2.2 H nx) (fun s => 5 - s.1) (0, .msl 2 2 1 0 2, .msl 3 2 1 0 2) ⟨_, _, Fz.none, ⟨Nat.zero_le _, ?_⟩, agrF_of (by simp (disch := omega) only [agr, ZG, Nat.reduceEqDiff, ↓reduceIte, List.length_cons, List.length_nil])⟩ ?_
    · exact ⟨rfl, rfl, .box 2 2 _ rfl rfl, .box 3 2 _ rfl rfl, fun i h => by cases h; exact ⟨by omega, by omega, fun h => by cases h⟩, fun i h => by cases h; exact ⟨by omega, by omega⟩, by omega⟩
    rintro ⟨k, sx, sy⟩ H nx ⟨hk, hI⟩
    dsimp only at hk hI ⊢
    by_cases hk5 : k < 5
    rotate_left
    · have hk5' : k = 5 := by omega
      subst hk5'
      repeat' (first | refine w_seq ?_ | refine w_ops0 ?_ | refine w_exit ?_ | refine a_n ?_ | refine a_x ?_ | refine o_nil ?_ | (apply o_val rfl rfl; (focus ((try simp (disch := omega) only [simB0, ZA, Nat.reduceEqDiff, ↓reduceIte, Nat.reduceAdd, Nat.reduceLeDiff, ZV, reduceCtorEq]); first | with_reducible rfl | (apply s_ite; (focus omega); with_reducible rfl)))) | (apply w_cond; (focus ((try simp only [simB0, ZA, Nat.reduceEqDiff, ↓reduceIte, Nat.reduceAdd, Nat.reduceLeDiff]); (try with_reducible rfl); done)); all_goals (intro _hg; (try simp only [ZB] at _hg); try first | exact absurd trivial _hg | (exfalso; omega))))
      exact ⟨hI.rx, hI.ry⟩
    have r0 : rd1 (fun i => if i < 2 then H i else none) (.ptr 0 8 (2 + k * 1)) = some (.int .i64 (a.heard.getD k default)) := (rd1_ptr (cs := a.cells) hI.h0 rfl).trans (heard_cell a hk5)
    have r1 : rd1 (fun i => if i < 2 then H i else none) (.ptr 1 8 (2 + k * 1)) = some (.int .i64 (b.heard.getD k default)) := (rd1_ptr (cs := b.cells) hI.h1 rfl).trans (heard_cell b hk5)
    have ka := key_take a hk5
    have kb := key_take b hk5
    have la : ((a.key.take (k + 2)).map (AV.int .i64)).length ≤ 7 := by rw [List.length_map, List.length_take]; omega
    have lb : ((b.key.take (k + 2)).map (AV.int .i64)).length ≤ 7 := by rw [List.length_map, List.length_take]; omega
    generalize a.heard.getD k default = va at *
    generalize b.heard.getD k default = vb at *
    repeat' (first | refine w_seq ?_ | refine w_ops0 ?_ | refine w_block ?_ | refine w_skip ?_ | refine a_n ?_ | refine o_nil ?_ | (apply o_val rfl rfl; (focus ((try simp (disch := omega) only [simB0, ZA, Nat.reduceEqDiff, ↓reduceIte, Nat.reduceAdd, Nat.reduceLeDiff, ZV, reduceCtorEq]); first | with_reducible rfl | (apply s_ite; (focus omega); with_reducible rfl)))) | (apply w_cond; (focus ((try simp only [simB0, ZA, Nat.reduceEqDiff, ↓reduceIte, Nat.reduceAdd, Nat.reduceLeDiff]); (try with_reducible rfl); done)); all_goals (intro _hg; (try simp only [ZB] at _hg); try first | exact absurd trivial _hg | (exfalso; omega))))
    refine w_mixS (fun i => if i < 2 then H i else none) rfl (fun i cs h => by
      dsimp only at h
      split at h
      · exact h
      · cases h) ?_
    repeat' (first | (apply n_val; (focus ((try simp (disch := omega) only [simB0, ZA, Nat.reduceEqDiff, ↓reduceIte, Nat.reduceAdd, Nat.reduceLeDiff, ZV, reduceCtorEq]); first | with_reducible rfl | (apply s_ite; (focus omega); with_reducible rfl)))))
    refine n_val (ixaA_ptr (by ((try simp only [simB0, ZA, Nat.reduceEqDiff, ↓reduceIte, Nat.reduceAdd, Nat.reduceLeDiff]); (try with_reducible rfl))) (by ((try simp only [simB0, ZA, Nat.reduceEqDiff, ↓reduceIte, Nat.reduceAdd, Nat.reduceLeDiff]); (try with_reducible rfl))) hk5) ?_
    refine n_ld1 (by ((try simp only [simB0, ZA, Nat.reduceEqDiff, ↓reduceIte, Nat.reduceAdd, Nat.reduceLeDiff]); (try with_reducible rfl))) r0 ?_
    refine n_bld (pv := [(0, 1, .int .i64 va)]) (cs := [.int .i64 va]) (by ((try simp only [simB0, ZA, Nat.reduceEqDiff, ↓reduceIte, Nat.reduceAdd, Nat.reduceLeDiff]); (try with_reducible rfl))) rfl (by decide) rfl rfl ?_
    repeat' (first | (apply n_val; (focus ((try simp (disch := omega) only [simB0, ZA, Nat.reduceEqDiff, ↓reduceIte, Nat.reduceAdd, Nat.reduceLeDiff, ZV, reduceCtorEq]); first | with_reducible rfl | (apply s_ite; (focus omega); with_reducible rfl)))))
    refine n_val (ixaA_ptr (by ((try simp only [simB0, ZA, Nat.reduceEqDiff, ↓reduceIte, Nat.reduceAdd, Nat.reduceLeDiff]); (try with_reducible rfl))) (by ((try simp only [simB0, ZA, Nat.reduceEqDiff, ↓reduceIte, Nat.reduceAdd, Nat.reduceLeDiff]); (try with_reducible rfl))) hk5) ?_
    refine n_ld1 (by ((try simp only [simB0, ZA, Nat.reduceEqDiff, ↓reduceIte, Nat.reduceAdd, Nat.reduceLeDiff]); (try with_reducible rfl))) r1 ?_
    refine n_bld (pv := [(0, 1, .int .i64 vb)]) (cs := [.int .i64 vb]) (by ((try simp only [simB0, ZA, Nat.reduceEqDiff, ↓reduceIte, Nat.reduceAdd, Nat.reduceLeDiff]); (try with_reducible rfl))) rfl (by decide) rfl rfl ?_
    refine n_keep ?_
    refine e_row (k := 1) (new := [.int .i64 va]) rfl (by ((try simp only [simB0, ZA, Nat.reduceEqDiff, ↓reduceIte, Nat.reduceAdd, Nat.reduceLeDiff]); (try with_reducible rfl))) hI.rx (by ((try simp only [simB0, ZA, Nat.reduceEqDiff, ↓reduceIte, Nat.reduceAdd, Nat.reduceLeDiff]); (try with_reducible rfl))) asrc_sl rfl rfl Nat.one_pos (by omega) (by omega) ?_
    rintro s' H' nx' hrow j1 j2 j3 j4
    have hx2 : ∀ i, i < 2 → rowB sx ≠ some i := fun i hi h => by have := hI.bx i h; omega
    have hy2 : ∀ i, i < 2 → rowB sy ≠ some i := fun i hi h => by have := hI.bw i h; omega
    have hlt := hI.lt
    refine o_nil ⟨fun i cs h => ?_, ?_⟩
    · dsimp only at h
      split at h
      · rename_i hi
        rw [j3 i (by omega) (hx2 i hi)]; exact h
      · cases h
    refine n_any ?_
    refine e_row (k := 1) (new := [.int .i64 vb]) rfl (by ((try simp only [simB0, ZA, Nat.reduceEqDiff, ↓reduceIte, Nat.reduceAdd, Nat.reduceLeDiff]); (try with_reducible rfl))) (hI.ry.same fun i hi => j3 i (hI.bw i hi).2 (fun h => (hI.bx i h).2.2 hi)) (by ((try simp only [simB0, ZA, Nat.reduceEqDiff, ↓reduceIte, Nat.reduceAdd, Nat.reduceLeDiff]); (try with_reducible rfl))) asrc_sl rfl rfl Nat.one_pos (by omega) (by omega) ?_
    rintro s2 H2 nx2 hrow2 i1 i2 i3 i4
    refine o_nil ?_
    repeat' (first | refine w_ops0 ?_ | refine a_n ?_ | refine o_nil ?_ | (apply o_val rfl rfl; (focus ((try simp (disch := omega) only [simB0, ZA, Nat.reduceEqDiff, ↓reduceIte, Nat.reduceAdd, Nat.reduceLeDiff, ZV, reduceCtorEq]); first | with_reducible rfl | (apply s_ite; (focus omega); with_reducible rfl)))) | (apply n_val; (focus ((try simp (disch := omega) only [simB0, ZA, Nat.reduceEqDiff, ↓reduceIte, Nat.reduceAdd, Nat.reduceLeDiff, ZV, reduceCtorEq]); first | with_reducible rfl | (apply s_ite; (focus omega); with_reducible rfl)))))
    have hs' : ∀ i, rowB s' = some i → 2 ≤ i ∧ i < nx' ∧ rowB sy ≠ some i := fun i h => by
      rcases j4 i h with h | h
      · have := hI.bx i h; exact ⟨this.1, by omega, this.2.2⟩
      · exact ⟨by omega, by omega, fun h2 => by have := hI.bw i h2; omega⟩
    refine ⟨(k + 1, s', s2), by dsimp only; omega, _, _, Fz.none, ⟨by dsimp only; omega, ⟨?_, ?_, ?_, ?_, fun i h => ?_, fun i h => ?_, by omega⟩⟩, agrF_of (by simp (disch := omega) only [agr, ZG, Nat.reduceEqDiff, ↓reduceIte])⟩
    · rw [i3 0 (by omega) (hy2 0 (by omega)), j3 0 (by omega) (hx2 0 (by omega))]; exact hI.h0
    · rw [i3 1 (by omega) (hy2 1 (by omega)), j3 1 (by omega) (hx2 1 (by omega))]; exact hI.h1
    · dsimp only
      rw [ka, List.map_append]
      exact hrow.same fun i hi => i3 i (hs' i hi).2.1 (hs' i hi).2.2
    · dsimp only
      rw [kb, List.map_append]
      exact hrow2
    · have := hs' i h
      refine ⟨this.1, by omega, fun h2 => ?_⟩
      rcases i4 i h2 with h3 | h3
      · exact this.2.2 h3
      · omega
    · rcases i4 i h with h3 | h3
      · have := hI.bw i h3; omega
      · omega
  rintro T H nx ⟨hrx, hry⟩
  refine w_seq (w_seq ?_)
  refine w_ops0F H noBoxes [(5, encV a.key), (6, encV b.key)] Fz.all ⟨.inr hrx.snapI, .inr hry.snapI, trivial⟩ ?_
  repeat' (first | refine w_block ?_ | refine a_n ?_ | refine o_nil ?_ | (apply o_val rfl rfl; (focus ((try simp (disch := omega) only [simB0, ZA, Nat.reduceEqDiff, ↓reduceIte, Nat.reduceAdd, Nat.reduceLeDiff, ZV, reduceCtorEq]); first | with_reducible rfl | (apply s_ite; (focus omega); with_reducible rfl)))) | refine w_loop ?_)
  refine loopF (X := Nat) (fun k => [(5, encV a.key), (6, encV b.key), (8, .int .i64 k)]) (fun k H nx => k ≤ 7 ∧ orderS a b = order (a.key.drop k) (b.key.drop k)) (fun k => 7 - k) 0 ⟨_, _, Fz.none, ⟨Nat.zero_le _, rfl⟩, agrF_of (by simp (disch := omega) only [agr, ZG, Nat.reduceEqDiff, ↓reduceIte])⟩ ?_
  rintro k H nx ⟨hk, ho⟩
  have la : a.key.length = 7 := rfl
  have lb : b.key.length = 7 := rfl
  by_cases hk7 : k < 7
  rotate_left
  · repeat' (first | refine w_seq ?_ | refine w_ops0 ?_ | refine w_exit ?_ | refine w_ret ?_ | refine a_n ?_ | refine a_x ?_ | refine o_nil ?_ | (apply o_val rfl rfl; (focus ((try simp (disch := omega) only [simB0, ZA, Nat.reduceEqDiff, ↓reduceIte, Nat.reduceAdd, Nat.reduceLeDiff, ZV, reduceCtorEq, la, lb]); first | with_reducible rfl | (apply s_ite; (focus omega); with_reducible rfl)))) | (apply w_cond; (focus ((try simp only [simB0, ZA, Nat.reduceEqDiff, ↓reduceIte, Nat.reduceAdd, Nat.reduceLeDiff, la, lb]); (try with_reducible rfl); done)); all_goals (intro _hg; (try simp only [ZB] at _hg); try first | exact absurd trivial _hg | (exfalso; omega))) | (refine e_ends rfl ?_) | (apply r_1; (focus (simp only [rv, simB0, ZA, Nat.reduceEqDiff, ↓reduceIte, Nat.reduceAdd, Nat.reduceLeDiff, la, lb]; with_reducible rfl))))
    rw [List.drop_eq_nil_of_le (by omega), List.drop_eq_nil_of_le (by omega)] at ho
    rw [ho]; exact .int _ _
  have ha := drop_cons (l := a.key) (k := k) (by omega)
  have hb := drop_cons (l := b.key) (k := k) (by omega)
  rw [ha, hb, order_cons] at ho
  have o1 : a.key.getD k default < b.key.getD k default → orderS a b = -1 := fun h => by rw [ho, if_pos h]; rfl
  have o2 : b.key.getD k default < a.key.getD k default → orderS a b = 1 := fun h => by
    rw [ho, if_neg (show ¬ a.key.getD k default < b.key.getD k default by omega), if_pos (show a.key.getD k default > b.key.getD k default from h)]; rfl
  have o3 : ¬ a.key.getD k default < b.key.getD k default → ¬ b.key.getD k default < a.key.getD k default → orderS a b = order (a.key.drop (k + 1)) (b.key.drop (k + 1)) := fun h1 h2 => by rw [ho, if_neg h1, if_neg (show ¬ a.key.getD k default > b.key.getD k default from h2), if_neg (by simp)]
  clear ho ha hb
  repeat' (first | refine w_seq ?_ | refine w_ops0 ?_ | refine w_ops1 ?_ | refine w_block ?_ | refine w_skip ?_ | refine w_ret ?_ | refine a_n ?_ | refine a_r ?_ | refine o_nil ?_ | (apply o_val rfl rfl; (focus ((try simp (disch := omega) only [simB0, ZA, Nat.reduceEqDiff, ↓reduceIte, Nat.reduceAdd, Nat.reduceLeDiff, ZV, reduceCtorEq, la, lb]); first | with_reducible rfl | (apply s_ite; (focus omega); with_reducible rfl)))) | (apply w_cond; (focus ((try simp only [simB0, ZA, Nat.reduceEqDiff, ↓reduceIte, Nat.reduceAdd, Nat.reduceLeDiff, la, lb]); (try with_reducible rfl); done)); all_goals (intro _hg; (try simp only [ZB] at _hg); try first | exact absurd trivial _hg | (exfalso; omega))) | (refine e_ends rfl ?_) | (apply r_1; (focus (simp only [rv, simB0, ZA, Nat.reduceEqDiff, ↓reduceIte, Nat.reduceAdd, Nat.reduceLeDiff, la, lb]; with_reducible rfl))))
  all_goals first
    | exact snap_int (o1 (by omega)).symm
    | exact snap_int (o2 (by omega)).symm
    | exact ⟨k + 1, by omega, _, _, Fz.none, ⟨by omega, o3 (by omega) (by omega)⟩, agrF_of (by simp (disch := omega) only [agr, ZG, Nat.reduceEqDiff, ↓reduceIte])⟩
    | trace_state
end Go.Proofs.Ytpbjhjkfobapeaa

/- Q38: contracts of functions and plain laws; for all inputs that the theorems name. -/
set_option linter.unusedSimpArgs false
set_option linter.unusedVariables false
namespace Go.Proofs.Ytpbjhjkfobapeaa
open Go Go.Abs

theorem drop_all {x : StepV} {n : Nat} : allB (x.heard.drop n) (-1) (-1) = true ↔ ∀ i, n ≤ i → i < 5 → x.heard.getD i default = -1 := by
  unfold allB
  rw [all_idx]
  have hl : x.heard.length = 5 := rfl
  have e : ∀ j, (x.heard.drop n).getD j default = x.heard.getD (n + j) default := fun j => by simp only [List.getD, List.getElem?_drop]
  constructor
  · intro h i hi hi5
    have := h (i - n) (by rw [List.length_drop]; omega)
    rw [e, show n + (i - n) = i by omega] at this
    have := of_decide_eq_true this
    omega
  · intro h j hj
    rw [List.length_drop] at hj
    rw [e]
    exact decide_eq_true (by rw [h (n + j) (by omega) (by omega)]; omega)
theorem ixaA_iptr {T : Tm} {H : Hp} {cs : List AV} {off len sz q : Nat} {x i : Opd} (hx : ov T x = .iptr cs off) (hi : ov T i = .int .i64 (q : Int)) (h : q < len) : ival T H (.ixaA len sz x i) = some (.iptr cs (off + q * sz)) := by
  simp only [ival, hx, hi, aint]
  rw [if_pos ⟨by omega, by omega⟩, Int.toNat_natCast]
  rfl
theorem o_ld1 {P : Program} {dm : DM} {T : Tm} {H : Hp} {nx : Nat} {K : SP} {l : List Op2} {d : Option Nat} {x : Opd} {cs : List AV} {off : Nat} {v : AV} (hd : dm2 dm T (.ld1 x) = true) (hp : ov T x = .iptr cs off) (h : cs[off]? = some v) (k : aops2 P dm l (updo T d v) H nx K) : aops2 P dm (⟨d, none, .ld1 x⟩ :: l) T H nx K :=
  o_val (i := .ld1 x) rfl hd (show rd1 H (ov T x) = some v by rw [hp]; exact h) k
attribute [local irreducible] awp2 aops2 ains aloop athen bbind obind gbind acond res1 Go.Abs.Fn PCall Go.Abs.Pure SnapArgs SnapL Yl

theorem step_r (m : MachV) (x : StepV) (hs : ShM m) (hn : 1 ≤ m.n ∧ m.n ≤ 5) (hr : 0 ≤ m.rounds ∧ m.rounds ≤ 6) (hsh : shapedB m = true) : Pure Try.prog 73 [encM m, encStep x] (.int .i64 (stepI m x)) := by
  refine Pure.of_c2 follows is73 (Nat.le_of_ble_eq_true rfl) ?_
  simp only [b73, O, G, N, M, D, F, B2, cFal, cTru]
  obtain ⟨s1, s2, s3, s4, s5, s5b, s6, s7, s8, s9, s10⟩ := hs
  have e2 : m.out.length ≤ 9223372036854775807 := s3
  obtain ⟨l1, l2, l3⟩ := shaped_len hsh
  unfold encM MachV.cells encStep StepV.cells
  refine w_seq ?_
  repeat' (first | refine w_ops0 ?_ | refine a_n ?_ | refine o_nil ?_ | (apply o_val rfl rfl; (focus ((try simp (disch := omega) only [simB0, ZA, Nat.reduceEqDiff, ↓reduceIte, Nat.reduceAdd, Nat.reduceLeDiff, ZV, reduceCtorEq, ME, acells]); first | with_reducible rfl | (apply s_ite; (focus omega); with_reducible rfl)))) | (apply e_box rfl; (iterate 2 (focus ((try simp only [simB0, ZA, Nat.reduceEqDiff, ↓reduceIte, Nat.reduceAdd, Nat.reduceLeDiff, ME, acells]); (try with_reducible rfl); done))); (focus (simp only [SO, Bool.and_self, one_encV, one_encVV, ME, acells]))))
  refine w_seqC (fun T H nx => T 2 = .ptr 0 8 0 ∧ T 3 = .ptr 1 8 0 ∧ H = hupd (hupd noBoxes 0 m.cells) 1 x.cells ∧ (0 ≤ x.round ∧ x.round ≤ m.rounds - 1 ∧ 0 ≤ x.proc ∧ x.proc ≤ m.n - 1) ∧
    (inB x.round 0 (m.rounds - 1) && (inB x.proc 0 (m.n - 1) && inB x.to 0 ((((m.out.getD (x.round + 1).toNat default).getD x.proc.toNat default).length : Int) - 1))) = true) ?_ ?_
  · by_cases h1 : 0 ≤ x.round ∧ x.round ≤ m.rounds - 1
    rotate_left
    · have i1 : inB x.round 0 (m.rounds - 1) = false := decide_eq_false h1
      have hc := in_r x.round 0 (m.rounds - 1)
      rw [i1] at hc
      repeat' (first | refine w_seq ?_ | refine w_ops0 ?_ | refine w_mixS1 ?_ | refine w_ret ?_ | refine a_n ?_ | refine a_r ?_ | refine o_nil ?_ | (apply o_val rfl rfl; (focus ((try simp (disch := omega) only [simB0, ZA, Nat.reduceEqDiff, ↓reduceIte, Nat.reduceAdd, Nat.reduceLeDiff, ZV, reduceCtorEq, ME, Bool.false_eq_true]); first | with_reducible rfl | (apply s_ite; (focus omega); with_reducible rfl)))) | (apply o_callD; (iterate 2 (focus ((try simp only [simB0, ZA, Nat.reduceEqDiff, ↓reduceIte, Nat.reduceAdd, Nat.reduceLeDiff, ME, Bool.false_eq_true]); (try with_reducible rfl); done))); (focus (first | (exact hc))); (focus ((first | refine snap_plain ?_ rfl | apply snap_data); repeat' (first | exact snapL_nil | apply snapL_i | apply snapL_dat)))) | (apply o_gF; (focus (simp only [simB0, ZA, Nat.reduceEqDiff, ↓reduceIte, Nat.reduceAdd, Nat.reduceLeDiff, or_true, true_or, ME, Bool.false_eq_true]; done))) | (apply w_condT; (focus (simp only [simB0, ZA, Nat.reduceEqDiff, ↓reduceIte, Nat.reduceAdd, Nat.reduceLeDiff, ME, Bool.false_eq_true]; done))) | (refine e_ends rfl ?_) | (apply r_1; (focus (simp only [rv, simB0, ZA, Nat.reduceEqDiff, ↓reduceIte, Nat.reduceAdd, Nat.reduceLeDiff, ME, Bool.false_eq_true]; with_reducible rfl))))
      refine snap_int ?_
      unfold stepI; rw [i1]; simp
    have i1 : inB x.round 0 (m.rounds - 1) = true := decide_eq_true h1
    have hc := in_r x.round 0 (m.rounds - 1)
    rw [i1] at hc
    by_cases h2 : 0 ≤ x.proc ∧ x.proc ≤ m.n - 1
    rotate_left
    · have i2 : inB x.proc 0 (m.n - 1) = false := decide_eq_false h2
      have hc2 := in_r x.proc 0 (m.n - 1)
      rw [i2] at hc2
      repeat' (first | refine w_seq ?_ | refine w_ops0 ?_ | refine w_mixS1 ?_ | refine w_ret ?_ | refine a_n ?_ | refine a_r ?_ | refine o_nil ?_ | (apply o_val rfl rfl; (focus ((try simp (disch := omega) only [simB0, ZA, Nat.reduceEqDiff, ↓reduceIte, Nat.reduceAdd, Nat.reduceLeDiff, ZV, reduceCtorEq, ME, Bool.false_eq_true]); first | with_reducible rfl | (apply s_ite; (focus omega); with_reducible rfl)))) | (apply o_callD; (iterate 2 (focus ((try simp only [simB0, ZA, Nat.reduceEqDiff, ↓reduceIte, Nat.reduceAdd, Nat.reduceLeDiff, ME, Bool.false_eq_true]); (try with_reducible rfl); done))); (focus (first | (exact hc) | (exact hc2))); (focus ((first | refine snap_plain ?_ rfl | apply snap_data); repeat' (first | exact snapL_nil | apply snapL_i | apply snapL_dat)))) | (apply o_gT; (focus (simp only [simB0, ZA, Nat.reduceEqDiff, ↓reduceIte, Nat.reduceAdd, Nat.reduceLeDiff, ME, Bool.false_eq_true]; done))) | (apply o_gF; (focus (simp only [simB0, ZA, Nat.reduceEqDiff, ↓reduceIte, Nat.reduceAdd, Nat.reduceLeDiff, or_true, true_or, ME, Bool.false_eq_true]; done))) | (apply w_condT; (focus (simp only [simB0, ZA, Nat.reduceEqDiff, ↓reduceIte, Nat.reduceAdd, Nat.reduceLeDiff, ME, Bool.false_eq_true]; done))) | (refine e_ends rfl ?_) | (apply r_1; (focus (simp only [rv, simB0, ZA, Nat.reduceEqDiff, ↓reduceIte, Nat.reduceAdd, Nat.reduceLeDiff, ME, Bool.false_eq_true]; with_reducible rfl))))
      refine snap_int ?_
      unfold stepI; rw [i1, i2]; simp
    have i2 : inB x.proc 0 (m.n - 1) = true := decide_eq_true h2
    have hc2 := in_r x.proc 0 (m.n - 1)
    rw [i2] at hc2
    have hlo := shaped_out hsh (k := (x.round + 1).toNat) (by omega)
    have hsz := s5 _ (mem_getD (l := m.out) (k := (x.round + 1).toNat) (by omega)) _ (mem_getD (l := m.out.getD (x.round + 1).toNat default) (k := x.proc.toNat) (by omega))
    have hsz' : ((m.out.getD (x.round + 1).toNat default).getD x.proc.toNat default).length ≤ 9223372036854775807 := hsz
    have hc3 := in_r x.to 0 ((((m.out.getD (x.round + 1).toNat default).getD x.proc.toNat default).length : Int) - 1)
    cases i3 : inB x.to 0 ((((m.out.getD (x.round + 1).toNat default).getD x.proc.toNat default).length : Int) - 1) with
    | false =>
      rw [i3] at hc3
      repeat' (first | refine w_seq ?_ | refine w_ops0 ?_ | refine w_mixS1 ?_ | refine w_ret ?_ | refine a_n ?_ | refine a_r ?_ | refine o_nil ?_ | (apply o_val rfl rfl; (focus ((try simp (disch := omega) only [simB0, ZA, Nat.reduceEqDiff, ↓reduceIte, Nat.reduceAdd, Nat.reduceLeDiff, ZV, reduceCtorEq, ME, Bool.false_eq_true]); first | with_reducible rfl | (apply s_ite; (focus omega); with_reducible rfl)))) | (apply o_callD; (iterate 2 (focus ((try simp only [simB0, ZA, Nat.reduceEqDiff, ↓reduceIte, Nat.reduceAdd, Nat.reduceLeDiff, ME, Bool.false_eq_true]); (try with_reducible rfl); done))); (focus (first | (exact hc) | (exact hc2) | (exact hc3))); (focus ((first | refine snap_plain ?_ rfl | apply snap_data); repeat' (first | exact snapL_nil | apply snapL_i | apply snapL_dat)))) | (apply o_gT; (focus (simp only [simB0, ZA, Nat.reduceEqDiff, ↓reduceIte, Nat.reduceAdd, Nat.reduceLeDiff, ME, Bool.false_eq_true]; done))) | (apply w_condT; (focus (simp only [simB0, ZA, Nat.reduceEqDiff, ↓reduceIte, Nat.reduceAdd, Nat.reduceLeDiff, ME, Bool.false_eq_true]; done))) | (refine e_ends rfl ?_) | (apply r_1; (focus (simp only [rv, simB0, ZA, Nat.reduceEqDiff, ↓reduceIte, Nat.reduceAdd, Nat.reduceLeDiff, ME, Bool.false_eq_true]; with_reducible rfl))))
      refine snap_int ?_
      unfold stepI; rw [i1, i2, i3]; simp
    | true =>
      rw [i3] at hc3
      repeat' (first | refine w_seq ?_ | refine w_mixS1 ?_ | refine w_skip ?_ | refine a_n ?_ | refine o_nil ?_ | (apply o_val rfl rfl; (focus ((try simp (disch := omega) only [simB0, ZA, Nat.reduceEqDiff, ↓reduceIte, Nat.reduceAdd, Nat.reduceLeDiff, ZV, reduceCtorEq, ME, Bool.false_eq_true]); first | with_reducible rfl | (apply s_ite; (focus omega); with_reducible rfl)))) | (apply o_callD; (iterate 2 (focus ((try simp only [simB0, ZA, Nat.reduceEqDiff, ↓reduceIte, Nat.reduceAdd, Nat.reduceLeDiff, ME, Bool.false_eq_true]); (try with_reducible rfl); done))); (focus (first | (exact hc) | (exact hc2) | (exact hc3))); (focus ((first | refine snap_plain ?_ rfl | apply snap_data); repeat' (first | exact snapL_nil | apply snapL_i | apply snapL_dat)))) | (apply o_gT; (focus (simp only [simB0, ZA, Nat.reduceEqDiff, ↓reduceIte, Nat.reduceAdd, Nat.reduceLeDiff, ME, Bool.false_eq_true]; done))) | (apply w_condF; (focus (simp only [simB0, ZA, Nat.reduceEqDiff, ↓reduceIte, Nat.reduceAdd, Nat.reduceLeDiff, ME, Bool.false_eq_true]; done))))
      exact ⟨rfl, rfl, rfl, ⟨h1.1, h1.2, h2.1, h2.2⟩, by rw [i1, i2]; rfl⟩
  rintro T H nx ⟨t2, t3, rfl, ⟨r1, r2, r3, r4⟩, hb⟩
  have hst : stepI m x = if !allB (x.heard.drop m.n.toNat) (-1) (-1) then 3 else if !(List.range m.n.toNat).all (fun q => heardB m x q) then 2 else 0 := by
    unfold stepI; rw [hb]; rfl
  rw [hst]
  clear hb hst
  have hda := drop_all (x := x) (n := m.n.toNat)
  obtain ⟨N, hN⟩ : ∃ N : Nat, m.n = N := ⟨m.n.toNat, by omega⟩
  rw [hN] at hda ⊢
  rw [Int.toNat_natCast] at hda ⊢
  refine w_seqC (fun T H nx => T 2 = .ptr 0 8 0 ∧ T 3 = .iptr x.cells 0 ∧ H 0 = some m.cells ∧ allB (x.heard.drop N) (-1) (-1) = true) ?_ ?_
  · refine w_seq ?_
    refine w_ops0F (only 1 x.cells) _ [(2, .ptr 0 8 0), (3, .iptr x.cells 0)] (Fz.one (by ((try simp only [simB0, ZA, Nat.reduceEqDiff, ↓reduceIte, Nat.reduceAdd, Nat.reduceLeDiff]); (try with_reducible rfl)))) ⟨.inl t2, .inr ?_, trivial⟩ ?_
    · rw [t3]
      exact snap_ptr (cs := x.cells) only_at rfl (snapL_datL (step_dat x))
    unfold MachV.cells
    repeat' (first | refine w_block ?_ | refine a_n ?_ | refine o_nil ?_ | (apply o_val rfl rfl; (focus ((try simp (disch := omega) only [simB0, ZA, Nat.reduceEqDiff, ↓reduceIte, Nat.reduceAdd, Nat.reduceLeDiff, ZV, reduceCtorEq, ME, hN]); first | with_reducible rfl | (apply s_ite; (focus omega); with_reducible rfl)))) | refine w_loop ?_)
    refine loop0 (X := Nat) (fun q => [(2, .ptr 0 8 0), (3, .iptr x.cells 0), (5, .int .i64 q)]) (fun q => N ≤ q ∧ q ≤ 5 ∧ ∀ i, N ≤ i → i < q → x.heard.getD i default = -1) (fun q => 5 - q) N ⟨Nat.le_refl _, by omega, fun i h1 h2 => by omega⟩ (by simp (disch := omega) only [agr, ZG, Nat.reduceEqDiff, ↓reduceIte]) ?_
    rintro q ⟨f1, f2, f3⟩
    by_cases hq : q < 5
    rotate_left
    · repeat' (first | refine w_seq ?_ | refine w_ops0 ?_ | refine w_exit ?_ | refine a_n ?_ | refine a_x ?_ | refine o_nil ?_ | (apply o_val rfl rfl; (focus ((try simp (disch := omega) only [simB0, ZA, Nat.reduceEqDiff, ↓reduceIte, Nat.reduceAdd, Nat.reduceLeDiff, ZV, reduceCtorEq, ME]); first | with_reducible rfl | (apply s_ite; (focus omega); with_reducible rfl)))) | (apply w_cond; (focus ((try simp only [simB0, ZA, Nat.reduceEqDiff, ↓reduceIte, Nat.reduceAdd, Nat.reduceLeDiff, ME]); (try with_reducible rfl); done)); all_goals (intro _hg; (try simp only [ZB] at _hg); try first | exact absurd trivial _hg | (exfalso; omega))))
      exact ⟨rfl, rfl, rfl, hda.2 fun i h1 h2 => f3 i h1 (by omega)⟩
    have hcl := heard_cell x hq
    unfold StepV.cells at hcl
    repeat' (first | refine w_seq ?_ | refine w_ops0 ?_ | refine w_block ?_ | refine w_skip ?_ | refine a_n ?_ | refine o_nil ?_ | (apply o_val rfl rfl; (focus ((try simp (disch := omega) only [simB0, ZA, Nat.reduceEqDiff, ↓reduceIte, Nat.reduceAdd, Nat.reduceLeDiff, ZV, reduceCtorEq, ME]); first | with_reducible rfl | (apply s_ite; (focus omega); with_reducible rfl)))) | (apply w_cond; (focus ((try simp only [simB0, ZA, Nat.reduceEqDiff, ↓reduceIte, Nat.reduceAdd, Nat.reduceLeDiff, ME]); (try with_reducible rfl); done)); all_goals (intro _hg; (try simp only [ZB] at _hg); try first | exact absurd trivial _hg | (exfalso; omega))))
    refine o_val rfl rfl (ixaA_iptr (by ((try simp only [simB0, ZA, Nat.reduceEqDiff, ↓reduceIte, Nat.reduceAdd, Nat.reduceLeDiff]); (try with_reducible rfl))) (by ((try simp only [simB0, ZA, Nat.reduceEqDiff, ↓reduceIte, Nat.reduceAdd, Nat.reduceLeDiff]); (try with_reducible rfl))) hq) ?_
    refine o_ld1 rfl (by ((try simp only [simB0, ZA, Nat.reduceEqDiff, ↓reduceIte, Nat.reduceAdd, Nat.reduceLeDiff]); (try with_reducible rfl))) hcl ?_
    repeat' (first | refine w_seq ?_ | refine w_ops0 ?_ | refine w_skip ?_ | refine w_ret ?_ | refine a_n ?_ | refine a_r ?_ | refine o_nil ?_ | (apply o_val rfl rfl; (focus ((try simp (disch := omega) only [simB0, ZA, Nat.reduceEqDiff, ↓reduceIte, Nat.reduceAdd, Nat.reduceLeDiff, ZV, reduceCtorEq, ME]); first | with_reducible rfl | (apply s_ite; (focus omega); with_reducible rfl)))) | (apply w_cond; (focus ((try simp only [simB0, ZA, Nat.reduceEqDiff, ↓reduceIte, Nat.reduceAdd, Nat.reduceLeDiff, ME]); (try with_reducible rfl); done)); all_goals (intro _hg; (try simp only [ZB] at _hg); try first | exact absurd trivial _hg | (exfalso; omega))) | (refine e_ends rfl ?_) | (apply r_1; (focus (simp only [rv, simB0, ZA, Nat.reduceEqDiff, ↓reduceIte, Nat.reduceAdd, Nat.reduceLeDiff, ME]; with_reducible rfl))))
    · refine snap_int ?_
      have : allB (x.heard.drop N) (-1) (-1) = false := bool_false hda fun hh => by have := hh q f1 hq; omega
      rw [this]; rfl
    · exact ⟨q + 1, ⟨by omega, by omega, fun i h1 h2 => by
        by_cases hiq : i = q
        · subst hiq; omega
        · exact f3 i h1 (by omega)⟩, by omega, by simp (disch := omega) only [agr, ZG, Nat.reduceEqDiff, ↓reduceIte], rfl, rfl⟩
  clear t2 t3
  rintro T H nx ⟨t2, t3, g0, hall⟩
  rw [hall]
  simp only [Bool.not_true, Bool.false_eq_true, if_false]
  unfold MachV.cells at g0
  repeat' (first | refine w_seq ?_ | refine w_ops0 ?_ | refine w_block ?_ | refine a_n ?_ | refine o_nil ?_ | (apply o_val rfl rfl; (focus ((try simp (disch := omega) only [simB0, ZA, Nat.reduceEqDiff, ↓reduceIte, Nat.reduceAdd, Nat.reduceLeDiff, ZV, reduceCtorEq, ME, g0]); first | with_reducible rfl | (apply s_ite; (focus omega); with_reducible rfl)))) | refine w_loop ?_)
  refine loopA (fun q => [(2, .ptr 0 8 0), (3, .iptr x.cells 0), (6, .int .i64 q)]) N (fun q => heardB m x q = true) (by simp (disch := omega) only [agr, ZG, Nat.reduceEqDiff, ↓reduceIte, t2, t3]) ?_
  rintro q f1 f2
  by_cases hq : q < N
  rotate_left
  · repeat' (first | refine w_seq ?_ | refine w_ops0 ?_ | refine w_exit ?_ | refine w_ret ?_ | refine a_n ?_ | refine a_x ?_ | refine o_nil ?_ | (apply o_val rfl rfl; (focus ((try simp (disch := omega) only [simB0, ZA, Nat.reduceEqDiff, ↓reduceIte, Nat.reduceAdd, Nat.reduceLeDiff, ZV, reduceCtorEq, ME, g0, hN]); first | with_reducible rfl | (apply s_ite; (focus omega); with_reducible rfl)))) | (apply w_cond; (focus ((try simp only [simB0, ZA, Nat.reduceEqDiff, ↓reduceIte, Nat.reduceAdd, Nat.reduceLeDiff, ME, g0, hN]); (try with_reducible rfl); done)); all_goals (intro _hg; (try simp only [ZB] at _hg); try first | exact absurd trivial _hg | (exfalso; omega))) | (refine e_ends rfl ?_) | (apply r_1; (focus (simp only [rv, simB0, ZA, Nat.reduceEqDiff, ↓reduceIte, Nat.reduceAdd, Nat.reduceLeDiff, ME, g0, hN]; with_reducible rfl))))
    refine snap_int ?_
    rw [range_all_true fun i hi => f2 i (by omega)]; rfl
  have hcl := heard_cell x (k := q) (by omega)
  unfold StepV.cells at hcl
  have hlo := shaped_out hsh (k := x.round.toNat) (by omega)
  have hsz := s5 _ (mem_getD (l := m.out) (k := x.round.toNat) (by omega)) _ (mem_getD (l := m.out.getD x.round.toNat default) (k := q) (by omega))
  have hsz' : ((m.out.getD x.round.toNat default).getD q default).length ≤ 9223372036854775807 := hsz
  have c1 := in_r (x.heard.getD q default) 0 ((((m.out.getD x.round.toNat default).getD q default).length : Int) - 1)
  have c2 := in_r (x.heard.getD q default) (-1) 1048576
  by_cases hqp : (q : Int) = x.proc
  · have hv : heardB m x q = inB (x.heard.getD q default) 0 ((((m.out.getD x.round.toNat default).getD q default).length : Int) - 1) := by
      unfold heardB; rw [if_pos hqp]
    rw [← hv] at c1
    have dq1 : decide ((q : Int) = x.proc) = true := decide_eq_true hqp
    unfold StepV.cells
    repeat' (first | refine w_seq ?_ | refine w_ops0 ?_ | refine w_ops1 ?_ | refine w_block ?_ | refine w_skip ?_ | refine a_n ?_ | refine o_nil ?_ | (apply o_val rfl rfl; (focus ((try simp (disch := omega) only [simB0, ZA, Nat.reduceEqDiff, ↓reduceIte, Nat.reduceAdd, Nat.reduceLeDiff, ZV, reduceCtorEq, ME, g0, hN, dq1]); first | with_reducible rfl | (apply s_ite; (focus omega); with_reducible rfl)))) | (apply w_condT; (focus (simp only [simB0, ZA, Nat.reduceEqDiff, ↓reduceIte, Nat.reduceAdd, Nat.reduceLeDiff, ME, g0, hN, dq1]; done))) | (apply w_cond; (focus ((try simp only [simB0, ZA, Nat.reduceEqDiff, ↓reduceIte, Nat.reduceAdd, Nat.reduceLeDiff, ME, g0, hN, dq1]); (try with_reducible rfl); done)); all_goals (intro _hg; (try simp only [ZB] at _hg); try first | exact absurd trivial _hg | (exfalso; omega))))
    refine o_val rfl rfl (ixaA_iptr (by ((try simp only [simB0, ZA, Nat.reduceEqDiff, ↓reduceIte, Nat.reduceAdd, Nat.reduceLeDiff]); (try with_reducible rfl))) (by ((try simp only [simB0, ZA, Nat.reduceEqDiff, ↓reduceIte, Nat.reduceAdd, Nat.reduceLeDiff]); (try with_reducible rfl))) (show q < 5 by omega)) ?_
    refine o_ld1 rfl (by ((try simp only [simB0, ZA, Nat.reduceEqDiff, ↓reduceIte, Nat.reduceAdd, Nat.reduceLeDiff]); (try with_reducible rfl))) hcl ?_
    repeat' (first | refine w_seq ?_ | refine w_ops0 ?_ | refine w_skip ?_ | refine w_ret ?_ | refine a_n ?_ | refine a_r ?_ | refine o_nil ?_ | (apply o_val rfl rfl; (focus ((try simp (disch := omega) only [simB0, ZA, Nat.reduceEqDiff, ↓reduceIte, Nat.reduceAdd, Nat.reduceLeDiff, ZV, reduceCtorEq, ME, g0, Bool.false_eq_true]); first | with_reducible rfl | (apply s_ite; (focus omega); with_reducible rfl)))) | (apply o_callD; (iterate 2 (focus ((try simp only [simB0, ZA, Nat.reduceEqDiff, ↓reduceIte, Nat.reduceAdd, Nat.reduceLeDiff, ME, g0, Bool.false_eq_true]); (try with_reducible rfl); done))); (focus (first | (exact c1))); (focus ((first | refine snap_plain ?_ rfl | apply snap_data); repeat' (first | exact snapL_nil | apply snapL_i | apply snapL_dat)))) | (apply w_cond; (focus ((try simp only [simB0, ZA, Nat.reduceEqDiff, ↓reduceIte, Nat.reduceAdd, Nat.reduceLeDiff, ME, g0, Bool.false_eq_true]); (try with_reducible rfl); done)); all_goals (intro _hg; (try simp only [ZB] at _hg); try first | exact absurd trivial _hg | (exfalso; omega))) | (refine e_ends rfl ?_) | (apply r_1; (focus (simp only [rv, simB0, ZA, Nat.reduceEqDiff, ↓reduceIte, Nat.reduceAdd, Nat.reduceLeDiff, ME, g0, Bool.false_eq_true]; with_reducible rfl))))
    all_goals first
      | exact ⟨hq, _hg, by simp (disch := omega) only [agr, ZG, Nat.reduceEqDiff, ↓reduceIte], rfl, rfl⟩
      | (refine snap_int ?_
         rw [range_all_false hq _hg]; rfl)
  · have hv : heardB m x q = inB (x.heard.getD q default) (-1) 1048576 := by
      unfold heardB; rw [if_neg hqp]
    rw [← hv] at c2
    have dq1 : decide ((q : Int) = x.proc) = false := decide_eq_false hqp
    unfold StepV.cells
    repeat' (first | refine w_seq ?_ | refine w_ops0 ?_ | refine w_block ?_ | refine w_skip ?_ | refine a_n ?_ | refine o_nil ?_ | (apply o_val rfl rfl; (focus ((try simp (disch := omega) only [simB0, ZA, Nat.reduceEqDiff, ↓reduceIte, Nat.reduceAdd, Nat.reduceLeDiff, ZV, reduceCtorEq, ME, g0, hN, dq1]); first | with_reducible rfl | (apply s_ite; (focus omega); with_reducible rfl)))) | (apply w_condF; (focus (simp only [simB0, ZA, Nat.reduceEqDiff, ↓reduceIte, Nat.reduceAdd, Nat.reduceLeDiff, ME, g0, hN, dq1]; done))) | (apply w_cond; (focus ((try simp only [simB0, ZA, Nat.reduceEqDiff, ↓reduceIte, Nat.reduceAdd, Nat.reduceLeDiff, ME, g0, hN, dq1]); (try with_reducible rfl); done)); all_goals (intro _hg; (try simp only [ZB] at _hg); try first | exact absurd trivial _hg | (exfalso; omega))))
    refine o_val rfl rfl (ixaA_iptr (by ((try simp only [simB0, ZA, Nat.reduceEqDiff, ↓reduceIte, Nat.reduceAdd, Nat.reduceLeDiff]); (try with_reducible rfl))) (by ((try simp only [simB0, ZA, Nat.reduceEqDiff, ↓reduceIte, Nat.reduceAdd, Nat.reduceLeDiff]); (try with_reducible rfl))) (show q < 5 by omega)) ?_
    refine o_ld1 rfl (by ((try simp only [simB0, ZA, Nat.reduceEqDiff, ↓reduceIte, Nat.reduceAdd, Nat.reduceLeDiff]); (try with_reducible rfl))) hcl ?_
    repeat' (first | refine w_seq ?_ | refine w_ops0 ?_ | refine w_skip ?_ | refine w_ret ?_ | refine a_n ?_ | refine a_r ?_ | refine o_nil ?_ | (apply o_val rfl rfl; (focus ((try simp (disch := omega) only [simB0, ZA, Nat.reduceEqDiff, ↓reduceIte, Nat.reduceAdd, Nat.reduceLeDiff, ZV, reduceCtorEq, ME, g0, Bool.false_eq_true]); first | with_reducible rfl | (apply s_ite; (focus omega); with_reducible rfl)))) | (apply o_callD; (iterate 2 (focus ((try simp only [simB0, ZA, Nat.reduceEqDiff, ↓reduceIte, Nat.reduceAdd, Nat.reduceLeDiff, ME, g0, Bool.false_eq_true]); (try with_reducible rfl); done))); (focus (first | (exact c2))); (focus ((first | refine snap_plain ?_ rfl | apply snap_data); repeat' (first | exact snapL_nil | apply snapL_i | apply snapL_dat)))) | (apply w_cond; (focus ((try simp only [simB0, ZA, Nat.reduceEqDiff, ↓reduceIte, Nat.reduceAdd, Nat.reduceLeDiff, ME, g0, Bool.false_eq_true]); (try with_reducible rfl); done)); all_goals (intro _hg; (try simp only [ZB] at _hg); try first | exact absurd trivial _hg | (exfalso; omega))) | (refine e_ends rfl ?_) | (apply r_1; (focus (simp only [rv, simB0, ZA, Nat.reduceEqDiff, ↓reduceIte, Nat.reduceAdd, Nat.reduceLeDiff, ME, g0, Bool.false_eq_true]; with_reducible rfl))))
    all_goals first
      | exact ⟨hq, _hg, by simp (disch := omega) only [agr, ZG, Nat.reduceEqDiff, ↓reduceIte], rfl, rfl⟩
      | (refine snap_int ?_
         rw [range_all_false hq _hg]; rfl)

end Go.Proofs.Ytpbjhjkfobapeaa

/- Q39: contracts of functions and plain laws; for all inputs that the theorems name. -/
set_option linter.unusedSimpArgs false
set_option linter.unusedVariables false
namespace Go.Proofs.Ytpbjhjkfobapeaa
open Go Go.Abs
attribute [local irreducible] awp2 aops2 ains aloop athen bbind obind gbind acond res1 Go.Abs.Fn PCall Go.Abs.Pure SnapArgs SnapL Yl

theorem check_r (m : MachV) (hs : ShM m) : Pure Try.prog 43 [encM m] (.int .i64 (chkM m)) := by
  refine Pure.of_c2 follows is43 (Nat.le_of_ble_eq_true rfl) ?_
  simp only [b43, O, G, N, M, D, F, B2, cFal, cTru]
  have hs0 := hs
  obtain ⟨s1, s2, s3, s4, s5, s5b, s6, s7, s8, s9, s10⟩ := hs0
  have e10 : m.steps.length ≤ 9223372036854775807 := s10
  have c1 := in_r m.n 1 5
  have c2 := in_r m.rounds 0 6
  have c3 := in_r m.ins 1 8
  have c4 := in_r m.outs 1 8
  unfold encM MachV.cells
  refine w_seq ?_
  repeat' (first | refine w_ops0 ?_ | refine a_n ?_ | refine o_nil ?_ | (apply o_val rfl rfl; (focus ((try simp (disch := omega) only [simB0, ZA, Nat.reduceEqDiff, ↓reduceIte, Nat.reduceAdd, Nat.reduceLeDiff, ZV, reduceCtorEq, ME, acells]); first | with_reducible rfl | (apply s_ite; (focus omega); with_reducible rfl)))) | (apply e_box rfl; (iterate 2 (focus ((try simp only [simB0, ZA, Nat.reduceEqDiff, ↓reduceIte, Nat.reduceAdd, Nat.reduceLeDiff, ME, acells]); (try with_reducible rfl); done))); (focus (simp only [SO, Bool.and_self, one_encV, one_encVV, ME, acells]))))
  refine w_seqC (fun T H nx => T 1 = .ptr 0 8 0 ∧ H = hupd noBoxes 0 m.cells ∧ nx = 1 ∧ (1 ≤ m.n ∧ m.n ≤ 5) ∧ (0 ≤ m.rounds ∧ m.rounds ≤ 6) ∧ shapedB m = true ∧ chkM m = stepsF m none m.steps) ?_ ?_
  · refine w_block ?_
    refine w_seqC (fun T H nx => T 1 = .ptr 0 8 0 ∧ H = hupd noBoxes 0 m.cells ∧ nx = 1 ∧ T 5 = .bool (!numsB m)) ?_ ?_
    · repeat' (first | refine w_ops0 ?_ | refine a_n ?_ | refine o_nil ?_ | (apply o_val rfl rfl; (focus ((try simp (disch := omega) only [simB0, ZA, Nat.reduceEqDiff, ↓reduceIte, Nat.reduceAdd, Nat.reduceLeDiff, ZV, reduceCtorEq, ME, acells]); first | with_reducible rfl | (apply s_ite; (focus omega); with_reducible rfl)))) | (apply o_callD; (iterate 2 (focus ((try simp only [simB0, ZA, Nat.reduceEqDiff, ↓reduceIte, Nat.reduceAdd, Nat.reduceLeDiff, ME, acells]); (try with_reducible rfl); done))); (focus (first | (exact c1) | (exact c2) | (exact c3) | (exact c4))); (focus ((first | refine snap_plain ?_ rfl | apply snap_data); repeat' (first | exact snapL_nil | apply snapL_i | apply snapL_dat)))) | (apply o_gT; (focus (simp only [simB0, ZA, Nat.reduceEqDiff, ↓reduceIte, Nat.reduceAdd, Nat.reduceLeDiff, ME, acells]; done))) | (apply o_gF; (focus (simp only [simB0, ZA, Nat.reduceEqDiff, ↓reduceIte, Nat.reduceAdd, Nat.reduceLeDiff, or_true, true_or, ME, acells]; done))) | (apply o_gB; (focus ((try simp only [simB0, ZA, Nat.reduceEqDiff, ↓reduceIte, Nat.reduceAdd, Nat.reduceLeDiff, ME, acells]); (try with_reducible rfl); done)); all_goals (intro _hg; (try simp only [ZB] at _hg); try first | exact absurd trivial _hg | (exfalso; omega))))
      all_goals (refine ⟨rfl, rfl, rfl, ?_⟩; ((try simp only [simB0, ZA, Nat.reduceEqDiff, ↓reduceIte, Nat.reduceAdd, Nat.reduceLeDiff]); (try with_reducible rfl)); unfold numsB; simp [*])
    rintro T H nx ⟨t1, rfl, rfl, t6⟩
    by_cases hN : numsB m = true
    rotate_left
    · have e : chkM m = 2 := by
        unfold chkM; rw [Bool.not_eq_true] at hN; rw [hN]; rfl
      rw [e]
      rw [Bool.not_eq_true] at hN
      rw [hN] at t6
      repeat' (first | refine w_seq ?_ | refine w_ops0 ?_ | refine w_ret ?_ | refine a_n ?_ | refine a_r ?_ | refine o_nil ?_ | (apply o_val rfl rfl; (focus ((try simp (disch := omega) only [simB0, ZA, Nat.reduceEqDiff, ↓reduceIte, Nat.reduceAdd, Nat.reduceLeDiff, ZV, reduceCtorEq, ME, t1, t6]); first | with_reducible rfl | (apply s_ite; (focus omega); with_reducible rfl)))) | (apply w_condT; (focus (simp only [simB0, ZA, Nat.reduceEqDiff, ↓reduceIte, Nat.reduceAdd, Nat.reduceLeDiff, ME, t1, t6]; done))) | (refine e_ends rfl ?_) | (apply r_1; (focus (simp only [rv, simB0, ZA, Nat.reduceEqDiff, ↓reduceIte, Nat.reduceAdd, Nat.reduceLeDiff, ME, t1, t6]; with_reducible rfl))))
      exact .int _ _
    have hN0 := hN
    unfold numsB at hN
    simp only [Bool.and_eq_true] at hN
    obtain ⟨i1, i2, i3, i4⟩ := hN
    rw [hN0] at t6
    have n1 : 1 ≤ m.n ∧ m.n ≤ 5 := of_decide_eq_true i1
    have n2 : 0 ≤ m.rounds ∧ m.rounds ≤ 6 := of_decide_eq_true i2
    have n4 : 1 ≤ m.outs ∧ m.outs ≤ 8 := of_decide_eq_true i4
    have c5 := shaped_r m hs n1 n2
    unfold MachV.cells
    cases hsh : shapedB m with
    | false =>
      have e : chkM m = 15 := by
        unfold chkM; rw [hN0, hsh]; rfl
      rw [e]
      rw [hsh] at c5
      have em := encM_dat m
      unfold encM MachV.cells at c5 em
      repeat' (first | refine w_seq ?_ | refine w_ops0 ?_ | refine w_ret ?_ | refine a_n ?_ | refine a_r ?_ | refine o_nil ?_ | (apply o_val rfl rfl; (focus ((try simp (disch := omega) only [simB0, ZA, Nat.reduceEqDiff, ↓reduceIte, Nat.reduceAdd, Nat.reduceLeDiff, ZV, reduceCtorEq, ME, t1, t6, Bool.false_eq_true]); first | with_reducible rfl | (apply s_ite; (focus omega); with_reducible rfl)))) | (apply o_callD; (iterate 2 (focus ((try simp only [simB0, ZA, Nat.reduceEqDiff, ↓reduceIte, Nat.reduceAdd, Nat.reduceLeDiff, ME, t1, t6, Bool.false_eq_true]); (try with_reducible rfl); done))); (focus (first | (exact c5))); (focus ((first | refine snap_plain ?_ rfl | apply snap_data); repeat' (first | exact snapL_nil | apply snapL_i | apply snapL_dat | exact em)))) | (apply w_condT; (focus (simp only [simB0, ZA, Nat.reduceEqDiff, ↓reduceIte, Nat.reduceAdd, Nat.reduceLeDiff, ME, t1, t6, Bool.false_eq_true]; done))) | (apply w_condF; (focus (simp only [simB0, ZA, Nat.reduceEqDiff, ↓reduceIte, Nat.reduceAdd, Nat.reduceLeDiff, ME, t1, t6, Bool.false_eq_true]; done))) | (refine e_ends rfl ?_) | (apply r_1; (focus (simp only [rv, simB0, ZA, Nat.reduceEqDiff, ↓reduceIte, Nat.reduceAdd, Nat.reduceLeDiff, ME, t1, t6, Bool.false_eq_true]; with_reducible rfl))))
      exact .int _ _
    | true =>
      rw [hsh] at c5
      have hle := states_le hs n1 n2 hsh
      have c6 := count_c m s3 s4
      have c7 := ranged_r m hs n1 n2 n4 hsh
      have hcn : cntM m.out 0 = (statesN m : Int) := by
        have := cntM_eq m.out 0 (by unfold statesN at hle; omega)
        simpa [statesN] using this
      rw [hcn] at c6
      have em := encM_dat m
      have e : ¬ (8192 < statesN m ∨ 65536 < m.steps.length) → rangedB m = true → chkM m = stepsF m none m.steps := fun h1 h2 => by
        unfold chkM; rw [hN0, hsh, if_neg h1, h2]; rfl
      have e5 : (8192 < statesN m ∨ 65536 < m.steps.length) → chkM m = 5 := fun h1 => by
        unfold chkM; rw [hN0, hsh, if_pos h1]; rfl
      have e2 : ¬ (8192 < statesN m ∨ 65536 < m.steps.length) → rangedB m = false → chkM m = 2 := fun h1 h2 => by
        unfold chkM; rw [hN0, hsh, if_neg h1, h2]; rfl
      unfold encM MachV.cells at c5 c6 c7 em
      generalize statesN m = q at *
      repeat' (first | refine w_seq ?_ | refine w_ops0 ?_ | refine w_skip ?_ | refine w_ret ?_ | refine a_n ?_ | refine a_r ?_ | refine o_nil ?_ | (apply o_val rfl rfl; (focus ((try simp (disch := omega) only [simB0, ZA, Nat.reduceEqDiff, ↓reduceIte, Nat.reduceAdd, Nat.reduceLeDiff, ZV, reduceCtorEq, ME, t1, t6, Bool.false_eq_true]); first | with_reducible rfl | (apply s_ite; (focus omega); with_reducible rfl)))) | (apply o_callD; (iterate 2 (focus ((try simp only [simB0, ZA, Nat.reduceEqDiff, ↓reduceIte, Nat.reduceAdd, Nat.reduceLeDiff, ME, t1, t6, Bool.false_eq_true]); (try with_reducible rfl); done))); (focus (first | (exact c5) | (exact c6) | (exact c7))); (focus ((first | refine snap_plain ?_ rfl | apply snap_data); repeat' (first | exact snapL_nil | apply snapL_i | apply snapL_dat | exact em)))) | (apply o_gT; (focus (simp only [simB0, ZA, Nat.reduceEqDiff, ↓reduceIte, Nat.reduceAdd, Nat.reduceLeDiff, ME, t1, t6, Bool.false_eq_true]; done))) | (apply o_gF; (focus (simp only [simB0, ZA, Nat.reduceEqDiff, ↓reduceIte, Nat.reduceAdd, Nat.reduceLeDiff, or_true, true_or, ME, t1, t6, Bool.false_eq_true]; done))) | (apply w_condT; (focus (simp only [simB0, ZA, Nat.reduceEqDiff, ↓reduceIte, Nat.reduceAdd, Nat.reduceLeDiff, ME, t1, t6, Bool.false_eq_true]; done))) | (apply w_condF; (focus (simp only [simB0, ZA, Nat.reduceEqDiff, ↓reduceIte, Nat.reduceAdd, Nat.reduceLeDiff, ME, t1, t6, Bool.false_eq_true]; done))) | ((first | apply o_gB | apply w_cond); (focus ((try simp only [simB0, ZA, Nat.reduceEqDiff, ↓reduceIte, Nat.reduceAdd, Nat.reduceLeDiff, ME, t1, t6, Bool.false_eq_true]); (try with_reducible rfl); done)); all_goals (intro _hg; (try simp only [ZB] at _hg); try first | exact absurd trivial _hg | (exfalso; omega))) | (refine e_ends rfl ?_) | (apply r_1; (focus (simp only [rv, simB0, ZA, Nat.reduceEqDiff, ↓reduceIte, Nat.reduceAdd, Nat.reduceLeDiff, ME, t1, t6, Bool.false_eq_true]; with_reducible rfl))))
      all_goals first
        | (rw [e5 (by omega)]; exact .int _ _)
        | (rw [e2 (by omega) _hg]; exact .int _ _)
        | exact ⟨by ((try simp only [simB0, ZA, Nat.reduceEqDiff, ↓reduceIte, Nat.reduceAdd, Nat.reduceLeDiff, t1]); (try with_reducible rfl)), rfl, rfl, n1, n2, by first | exact hsh | rfl, e (by omega) _hg⟩
        | trace_state
  rintro T H nx ⟨t1, rfl, rfl, n1, n2, hsh, hchk⟩
  rw [hchk]
  clear c1 c2 c3 c4 hchk
  unfold MachV.cells
  repeat' (first | refine w_seq ?_ | refine w_ops0 ?_ | refine w_block ?_ | refine a_n ?_ | refine o_nil ?_ | (apply o_val rfl rfl; (focus ((try simp (disch := omega) only [simB0, ZA, Nat.reduceEqDiff, ↓reduceIte, Nat.reduceAdd, Nat.reduceLeDiff, ZV, reduceCtorEq, ME, t1]); first | with_reducible rfl | (apply s_ite; (focus omega); with_reducible rfl)))) | refine w_loop ?_)
  refine loopI (X := Nat) (fun k => [(1, .ptr 0 8 0), (3, .int .i64 k)])
    (fun k H nx => k ≤ m.steps.length ∧ 1 ≤ nx ∧ H 0 = some m.cells ∧ stepsF m none m.steps = stepsF m (prevS m k) (m.steps.drop k)) (fun k => m.steps.length - k) 0 ⟨Nat.zero_le _, Nat.le_refl _, hupd_self', rfl⟩ (by simp (disch := omega) only [agr, ZG, Nat.reduceEqDiff, ↓reduceIte, t1]) ?_
  clear t1
  rintro k H nx ⟨h1, h2, g0, hF⟩
  unfold MachV.cells at g0
  by_cases hk : k < m.steps.length
  rotate_left
  · repeat' (first | refine w_seq ?_ | refine w_ops0 ?_ | refine w_exit ?_ | refine w_ret ?_ | refine a_n ?_ | refine a_x ?_ | refine o_nil ?_ | (apply o_val rfl rfl; (focus ((try simp (disch := omega) only [simB0, ZA, Nat.reduceEqDiff, ↓reduceIte, Nat.reduceAdd, Nat.reduceLeDiff, ZV, reduceCtorEq, ME, g0]); first | with_reducible rfl | (apply s_ite; (focus omega); with_reducible rfl)))) | (apply w_cond; (focus ((try simp only [simB0, ZA, Nat.reduceEqDiff, ↓reduceIte, Nat.reduceAdd, Nat.reduceLeDiff, ME, g0]); (try with_reducible rfl); done)); all_goals (intro _hg; (try simp only [ZB] at _hg); try first | exact absurd trivial _hg | (exfalso; omega))) | (refine e_ends rfl ?_) | (apply r_1; (focus (simp only [rv, simB0, ZA, Nat.reduceEqDiff, ↓reduceIte, Nat.reduceAdd, Nat.reduceLeDiff, ME, g0]; with_reducible rfl))))
    rw [hF, List.drop_eq_nil_of_le (by omega)]
    exact .int _ _
  have hd := drop_cons hk
  have hst := step_r m (m.steps.getD k default) hs n1 n2 hsh
  have hor := order_r (m.steps.getD (k - 1) default) (m.steps.getD k default)
  rw [hd, stepsF] at hF
  have em := encM_dat m
  have es := encStep_dat (m.steps.getD k default)
  have es2 := encStep_dat (m.steps.getD (k - 1) default)
  have hpv : prevS m k = if k = 0 then none else some (m.steps.getD (k - 1) default) := rfl
  have hpv2 : prevS m (k + 1) = some (m.steps.getD k default) := rfl
  generalize hs1 : m.steps.getD k default = s at *
  generalize hs2 : m.steps.getD (k - 1) default = s' at *
  generalize hei : stepI m s = ei at *
  generalize hoi : orderS s' s = oi at *
  have et : ((k : Int) - 1).toNat = k - 1 := by omega
  unfold encM MachV.cells at hst em
  unfold encStep StepV.cells at hst hor es es2
  by_cases hk0 : k = 0
  · rw [hpv, if_pos hk0] at hF
    simp only [Option.any_none, Bool.false_eq_true, if_false] at hF
    have dk : decide ((0 : Int) < k) = false := decide_eq_false (by omega)
    repeat' (first | refine w_seq ?_ | refine w_ops0 ?_ | refine w_mixS1 ?_ | refine w_block ?_ | refine w_skip ?_ | refine w_ret ?_ | refine a_n ?_ | refine a_r ?_ | refine o_nil ?_ | (apply o_val rfl; (focus (first | rfl | (simp (disch := omega) only [dm2, oldP, newP, simB0, ZA, Nat.reduceEqDiff, ↓reduceIte, Nat.reduceAdd, Nat.reduceLeDiff, decide_eq_true_eq]; first | done | omega))); (focus ((try simp (disch := omega) only [simB2, ZA, Nat.reduceEqDiff, ↓reduceIte, Nat.reduceAdd, Nat.reduceLeDiff, ZV, reduceCtorEq, ME, acells, g0, hs1, hs2, et, dk]); first | with_reducible rfl | (apply s_ite; (focus omega); with_reducible rfl)))) | (apply o_callD; (iterate 2 (focus ((try simp (disch := omega) only [simB2, ZA, Nat.reduceEqDiff, ↓reduceIte, Nat.reduceAdd, Nat.reduceLeDiff, ME, acells, g0, hs1, hs2, et, dk]); (try with_reducible rfl); done))); (focus (first | (exact hst))); (focus ((first | refine snap_plain ?_ rfl | apply snap_data); repeat' (first | exact snapL_nil | apply snapL_i | apply snapL_dat | exact em | exact es)))) | (apply o_gF; (focus (simp (disch := omega) only [simB2, ZA, Nat.reduceEqDiff, ↓reduceIte, Nat.reduceAdd, Nat.reduceLeDiff, or_true, true_or, ME, acells, g0, hs1, hs2, et, dk]; done))) | (apply w_condF; (focus (simp (disch := omega) only [simB2, ZA, Nat.reduceEqDiff, ↓reduceIte, Nat.reduceAdd, Nat.reduceLeDiff, ME, acells, g0, hs1, hs2, et, dk]; done))) | (apply w_cond; (focus ((try simp (disch := omega) only [simB2, ZA, Nat.reduceEqDiff, ↓reduceIte, Nat.reduceAdd, Nat.reduceLeDiff, ME, acells, g0, hs1, hs2, et, dk]); (try with_reducible rfl); done)); all_goals (intro _hg; (try simp (disch := omega) only [ZB] at _hg); try first | exact absurd trivial _hg | (exfalso; omega))) | (refine e_ends rfl ?_) | (apply r_1; (focus (simp (disch := omega) only [rv, simB2, ZA, Nat.reduceEqDiff, ↓reduceIte, Nat.reduceAdd, Nat.reduceLeDiff, ME, acells, g0, hs1, hs2, et, dk]; with_reducible rfl))))
    · rw [hF, if_pos _hg]; exact .int _ _
    · refine ⟨k + 1, by omega, ⟨by omega, by omega, g0, ?_⟩, by simp (disch := omega) only [agr, ZG, Nat.reduceEqDiff, ↓reduceIte]⟩
      rw [hF, if_neg ‹_›, hpv2]
  · rw [hpv, if_neg hk0, Option.any_some, hoi] at hF
    have dk : decide ((0 : Int) < k) = true := decide_eq_true (by omega)
    repeat' (first | refine w_seq ?_ | refine w_ops0 ?_ | refine w_mixS1 ?_ | refine w_block ?_ | refine w_skip ?_ | refine w_ret ?_ | refine a_n ?_ | refine a_r ?_ | refine o_nil ?_ | (apply o_val rfl; (focus (first | rfl | (simp (disch := omega) only [dm2, oldP, newP, simB0, ZA, Nat.reduceEqDiff, ↓reduceIte, Nat.reduceAdd, Nat.reduceLeDiff, decide_eq_true_eq]; first | done | omega))); (focus ((try simp (disch := omega) only [simB2, ZA, Nat.reduceEqDiff, ↓reduceIte, Nat.reduceAdd, Nat.reduceLeDiff, ZV, reduceCtorEq, ME, acells, g0, hs1, hs2, et, dk]); first | with_reducible rfl | (apply s_ite; (focus omega); with_reducible rfl)))) | (apply o_callD; (iterate 2 (focus ((try simp (disch := omega) only [simB2, ZA, Nat.reduceEqDiff, ↓reduceIte, Nat.reduceAdd, Nat.reduceLeDiff, ME, acells, g0, hs1, hs2, et, dk]); (try with_reducible rfl); done))); (focus (first | (exact hst) | (exact hor))); (focus ((first | refine snap_plain ?_ rfl | apply snap_data); repeat' (first | exact snapL_nil | apply snapL_i | apply snapL_dat | exact em | exact es | exact es2)))) | (apply o_gT; (focus (simp (disch := omega) only [simB2, ZA, Nat.reduceEqDiff, ↓reduceIte, Nat.reduceAdd, Nat.reduceLeDiff, ME, acells, g0, hs1, hs2, et, dk]; done))) | (apply w_cond; (focus ((try simp (disch := omega) only [simB2, ZA, Nat.reduceEqDiff, ↓reduceIte, Nat.reduceAdd, Nat.reduceLeDiff, ME, acells, g0, hs1, hs2, et, dk]); (try with_reducible rfl); done)); all_goals (intro _hg; (try simp (disch := omega) only [ZB] at _hg); try first | exact absurd trivial _hg | (exfalso; omega))) | (refine e_ends rfl ?_) | (apply r_1; (focus (simp (disch := omega) only [rv, simB2, ZA, Nat.reduceEqDiff, ↓reduceIte, Nat.reduceAdd, Nat.reduceLeDiff, ME, acells, g0, hs1, hs2, et, dk]; with_reducible rfl))))
    · rw [hF, if_pos _hg]; exact .int _ _
    · rw [hF, if_neg ‹_›, if_pos (decide_eq_true _hg)]; exact .int _ _
    · refine ⟨k + 1, by omega, ⟨by omega, by omega, g0, ?_⟩, by simp (disch := omega) only [agr, ZG, Nat.reduceEqDiff, ↓reduceIte]⟩
      rw [hF, if_neg ‹_›, if_neg (by simpa using _hg), hpv2]

end Go.Proofs.Ytpbjhjkfobapeaa

/- Q40: contracts of functions and plain laws; for all inputs that the theorems name. -/
set_option linter.unusedSimpArgs false
set_option linter.unusedVariables false
namespace Go.Proofs.Ytpbjhjkfobapeaa
open Go Go.Abs

def encPl (r f t s : Int) : AV := .agg [.int .i64 r, .int .i64 f, .int .i64 t, .int .i64 s]
def rightP (m : MachV) (r f t s : Int) : Prop := fewB m = true ∧ chkM m = 0 ∧ 0 ≤ r ∧ r < m.rounds ∧ 0 ≤ f ∧ f < m.n ∧ 0 ≤ t ∧ t < m.n ∧ f ≠ t ∧ 0 ≤ s ∧ s < ((symV m ⟨r, f, t⟩).length : Int)
instance (m : MachV) (r f t s : Int) : Decidable (rightP m r f t s) := by unfold rightP; infer_instance

/-! ### messages, plainly -/
theorem vint_ne (n : Nat) : 1 ≤ (vint n).length := by
  unfold vint vintF
  split <;> simp
theorem three_len (r f t : Int) : (threeB r f t).length = 3 := rfl
theorem message_eq (r f t s : Int) : messageB r f t s = sealB (threeB r f t ++ vint s.toNat) := rfl
theorem body_len (r f t s : Int) : (threeB r f t ++ vint s.toNat).length = 3 + (vint s.toNat).length := by rw [List.length_append, three_len]
theorem message_len2 (r f t s : Int) : (messageB r f t s).length = 5 + (vint s.toNat).length := by
  rw [message_eq, sealB, List.length_append, body_len]; simp; omega
theorem message_right (r f t s : Int) : rightB (messageB r f t s) = true := by
  rw [message_eq]
  exact right_seal _ (by rw [body_len]; have := vint_ne s.toNat; omega)
theorem message_take (r f t s : Int) : (messageB r f t s).take ((messageB r f t s).length - 2) = threeB r f t ++ vint s.toNat := by
  rw [message_len2, show 5 + (vint s.toNat).length - 2 = (threeB r f t ++ vint s.toNat).length by rw [body_len]; omega, message_eq, sealB]
  exact List.take_left
theorem three_take (r f t : Int) (l : List UInt8) : (threeB r f t ++ l).take 3 = threeB r f t ∧ (threeB r f t ++ l).drop 3 = l := ⟨rfl, rfl⟩
theorem vint_read (n : Nat) (h : n < 268435456) : nextR (vint n) false = ((n : Int), [], false) := by
  have := nextR_vint n [] h
  rwa [List.append_nil] at this
theorem vint_inj {a b : Nat} (ha : a < 268435456) (hb : b < 268435456) (h : vint a = vint b) : a = b := by
  have h1 := vint_read a ha
  have h2 := vint_read b hb
  rw [h, h2] at h1
  cases h1; rfl
theorem message_inj {r f t a b : Int} (ha : 0 ≤ a ∧ a ≤ 1048576) (hb : 0 ≤ b ∧ b ≤ 1048576) : messageB r f t a = messageB r f t b ↔ a = b := by
  constructor
  · intro h
    have h1 := message_take r f t a
    rw [h, message_take] at h1
    have h2 := congrArg (List.drop 3) h1
    rw [(three_take r f t _).2, (three_take r f t _).2] at h2
    have := vint_inj (by omega) (by omega) h2
    omega
  · rintro rfl; rfl
theorem byte_inj {a b : Int} (ha : 0 ≤ a ∧ a ≤ 5) (hb : 0 ≤ b ∧ b ≤ 5) (h : UInt8.ofNat (a % 256).toNat = UInt8.ofNat (b % 256).toNat) : a = b := by
  have := congrArg UInt8.toNat h
  rw [UInt8.toNat_ofNat', UInt8.toNat_ofNat'] at this
  omega
theorem decode_message {m : MachV} {r f t s : Int} (hp : placeI m r f t = 0) (hs : s ∈ symV m ⟨r, f, t⟩) : decodeB m r f t (messageB r f t s) = (s, 0) := by
  have hr := symV_range hp hs
  unfold decodeB
  rw [if_neg (by rw [hp]; simp), if_pos (message_right r f t s), message_take]
  unfold readB
  rw [(three_take r f t _).1, (three_take r f t _).2, vint_read _ (by omega)]
  dsimp only
  rw [if_neg (by simp; omega), if_neg (by simp), if_neg (by rw [show ((s.toNat : Nat) : Int) = s by omega]; simpa using hs)]
  congr 1; omega
theorem decode_other {m : MachV} {r f t s : Int} (hp : placeI m r f t = 0) (hp2 : placeI m r t f = 0) (hs : s ∈ symV m ⟨r, f, t⟩) : (decodeB m r t f (messageB r f t s)).2 = 22 := by
  have hr := symV_range hp hs
  obtain ⟨hg, _, _, h3, h4, h5, h6, h7⟩ := place_zero hp
  have hn := hg.n
  unfold decodeB
  rw [if_neg (by rw [hp2]; simp), if_pos (message_right r f t s), message_take]
  unfold readB
  rw [(three_take r f t _).1, (three_take r f t _).2, vint_read _ (by omega)]
  dsimp only
  rw [if_neg (by simp; omega), if_pos]
  intro h
  unfold threeB at h
  simp only [List.cons.injEq] at h
  exact h7 (byte_inj (by omega) (by omega) h.2.1)
theorem place_swap {m : MachV} {r f t : Int} (h : placeI m r f t = 0) : placeI m r t f = 0 := by
  obtain ⟨hg, h1, h2, h3, h4, h5, h6, h7⟩ := place_zero h
  have hc : ¬ chkM m ≠ 0 := fun hc => by unfold placeI at h; rw [if_pos hc] at h; exact hc h
  unfold placeI
  rw [if_neg hc, if_neg (by omega), if_neg (fun h => h7 h.symm)]
theorem numP_cut : ∀ (k : Nat) (f : Bool) (u a n : Nat), n < 128 ^ 9 → numP f k u a (vint n).dropLast = none
  | 0, f, u, a, n, _ => by cases (vint n).dropLast <;> rfl
  | k + 1, f, u, a, n, hn => by
    by_cases hs : 127 < n
    · have hne : vint (n / 128) ≠ [] := fun h => by have := vint_ne (n / 128); rw [h] at this; simp at this
      rw [vint_big hs hn, List.dropLast_cons_of_ne_nil hne]
      have hc : (UInt8.ofNat (n % 128 + 128)).toNat = n % 128 + 128 := by rw [UInt8.toNat_ofNat']; omega
      simp only [numP, hc]
      rw [if_neg (by omega)]
      exact numP_cut k false _ _ (n / 128) (by omega)
    · rw [vint_small hs]; rfl
theorem decode_cut {m : MachV} {r f t s : Int} (hp : placeI m r f t = 0) (hs : s ∈ symV m ⟨r, f, t⟩) : (decodeB m r f t ((messageB r f t s).take ((messageB r f t s).length - 1))).2 ≠ 0 := by
  have hr := symV_range hp hs
  have hl := message_len2 r f t s
  have hv := vint_ne s.toNat
  unfold decodeB
  rw [if_neg (by rw [hp]; simp)]
  split
  · have e : ((messageB r f t s).take ((messageB r f t s).length - 1)).take (((messageB r f t s).take ((messageB r f t s).length - 1)).length - 2) = threeB r f t ++ (vint s.toNat).dropLast := by
      rw [List.length_take, hl, List.take_take, show min (min (5 + (vint s.toNat).length - 1) (5 + (vint s.toNat).length) - 2) (5 + (vint s.toNat).length - 1) = 3 + ((vint s.toNat).length - 1) by omega]
      rw [message_eq, sealB, List.append_assoc, show 3 + ((vint s.toNat).length - 1) = (threeB r f t).length + ((vint s.toNat).length - 1) from rfl, List.take_length_add_append, List.take_append_of_le_length (by omega), List.dropLast_eq_take]
    rw [e]
    unfold readB
    rw [(three_take r f t _).2]
    have hn : numR (vint s.toNat).dropLast = none := numP_cut 4 true 1 0 s.toNat (by omega)
    have hx : nextR (vint s.toNat).dropLast false = (0, (vint s.toNat).dropLast, true) := by unfold nextR; rw [hn]; rfl
    rw [hx, if_pos (.inl rfl)]
    simp
  · simp
theorem fold_max {l : List Int} {g : Int → Int} : ∀ {o : Int}, o ≤ l.foldl (fun o s => max o (g s)) o ∧ ∀ s ∈ l, g s ≤ l.foldl (fun o s => max o (g s)) o := by
  induction l with
  | nil => intro o; exact ⟨Int.le_refl _, fun s h => (by cases h)⟩
  | cons x l ih =>
    intro o
    obtain ⟨h1, h2⟩ := ih (o := max o (g x))
    refine ⟨by simp only [List.foldl_cons]; omega, fun s hs => ?_⟩
    rcases List.mem_cons.1 hs with rfl | hs
    · simp only [List.foldl_cons]; omega
    · exact h2 s hs
theorem right_place {m : MachV} {r f t s : Int} (h : rightP m r f t s) : placeI m r f t = 0 := by
  obtain ⟨_, h1, h2, h3, h4, h5, h6, h7, h8, _⟩ := h
  unfold placeI
  rw [if_neg (by rw [h1]; simp), if_neg (by omega), if_neg h8]
attribute [local irreducible] awp2 aops2 ains aloop athen bbind obind gbind acond res1 Go.Abs.Fn PCall Go.Abs.Pure SnapArgs SnapL Yl

theorem right_yes (m : MachV) (r f t s : Int) (hs : ShM m) (hf : fewB m = true) (hc : chkM m = 0) (hrg : 0 ≤ r ∧ r < m.rounds ∧ 0 ≤ f ∧ f < m.n ∧ 0 ≤ t ∧ t < m.n ∧ f ≠ t ∧ 0 ≤ s) : Pure Try.prog 25 [encM m, encPl r f t s] (.bool (decide (rightP m r f t s))) := by
  refine Pure.of_c2 follows is25 (Nat.le_of_ble_eq_true rfl) ?_
  simp only [b25, O, G, N, M, D, F, B2, cFal, cTru]
  have hfw := few_c m hs
  have hck := check_r m hs
  have em := encM_dat m
  unfold encPl encM MachV.cells at *
  rw [hf] at hfw
  have hg := chk_zero hc
  rw [hc] at hck
  obtain ⟨l1, l2, l3⟩ := shaped_len hg.sh
  obtain ⟨q1, q2, q3, q4, q5, q6, q7, q8⟩ := hrg
  obtain ⟨u1, u2⟩ := shaped_sym hg.sh (k := r.toNat) (by omega)
  obtain ⟨u3, _⟩ := u2 f.toNat (by omega)
  have hfin : rightP m r f t s ↔ s < ((((m.symbols.getD r.toNat default).getD f.toNat default).getD t.toNat default).length : Int) := by
    unfold rightP symV
    exact ⟨fun h => h.2.2.2.2.2.2.2.2.2.2, fun h => ⟨hf, hc, q1, q2, q3, q4, q5, q6, q7, q8, h⟩⟩
  have d1 : decide ((0 : Int) ≤ r) = true := decide_eq_true q1
  have d2 : decide (r < m.rounds) = true := decide_eq_true q2
  have d3 : decide ((0 : Int) ≤ f) = true := decide_eq_true q3
  have d4 : decide (f < m.n) = true := decide_eq_true q4
  have d5 : decide ((0 : Int) ≤ t) = true := decide_eq_true q5
  have d6 : decide (t < m.n) = true := decide_eq_true q6
  have d7 : decide (f ≠ t) = true := decide_eq_true q7
  have d8 : decide ((0 : Int) ≤ s) = true := decide_eq_true q8
  repeat' (first | refine w_seq ?_ | refine w_ops0 ?_ | refine w_mixS1 ?_ | refine w_ret ?_ | refine a_n ?_ | refine o_nil ?_ | (apply o_val rfl rfl; (focus ((try simp (disch := omega) only [simB0, ZA, Nat.reduceEqDiff, ↓reduceIte, Nat.reduceAdd, Nat.reduceLeDiff, ZV, reduceCtorEq, ME, acells, d1, d2, d3, d4, d5, d6, d7, d8]); first | with_reducible rfl | (apply s_ite; (focus omega); with_reducible rfl)))) | (apply o_callD; (iterate 2 (focus ((try simp only [simB0, ZA, Nat.reduceEqDiff, ↓reduceIte, Nat.reduceAdd, Nat.reduceLeDiff, ME, acells, d1, d2, d3, d4, d5, d6, d7, d8]); (try with_reducible rfl); done))); (focus (first | (exact hfw) | (exact hck))); (focus ((first | refine snap_plain ?_ rfl | apply snap_data); repeat' (first | exact snapL_nil | apply snapL_i | apply snapL_dat | exact em)))) | (apply e_box rfl; (iterate 2 (focus ((try simp only [simB0, ZA, Nat.reduceEqDiff, ↓reduceIte, Nat.reduceAdd, Nat.reduceLeDiff, ME, acells, d1, d2, d3, d4, d5, d6, d7, d8]); (try with_reducible rfl); done))); (focus (simp only [SO, Bool.and_self, one_encV, one_encVV, ME, acells, d1, d2, d3, d4, d5, d6, d7, d8]))) | (apply o_gT; (focus (simp only [simB0, ZA, Nat.reduceEqDiff, ↓reduceIte, Nat.reduceAdd, Nat.reduceLeDiff, ME, acells, d1, d2, d3, d4, d5, d6, d7, d8]; done))) | (apply o_gB; (focus ((try simp only [simB0, ZA, Nat.reduceEqDiff, ↓reduceIte, Nat.reduceAdd, Nat.reduceLeDiff, ME, acells, d1, d2, d3, d4, d5, d6, d7, d8]); (try with_reducible rfl); done)); all_goals (intro _hg; (try simp only [ZB] at _hg); try first | exact absurd trivial _hg | (exfalso; omega))) | (refine e_ends rfl ?_) | (apply r_1; (focus (simp only [rv, simB0, ZA, Nat.reduceEqDiff, ↓reduceIte, Nat.reduceAdd, Nat.reduceLeDiff, ME, acells, d1, d2, d3, d4, d5, d6, d7, d8]; with_reducible rfl))))
  all_goals first
    | exact absurd trivial _hg
    | exact snap_bool (decide_eq_decide.2 hfin).symm
    | (exfalso; omega)
    | trace_state

set_option maxHeartbeats 2000000 in
theorem right_no (m : MachV) (r f t s : Int) (hs : ShM m) (hf : fewB m = true) (hc : chkM m = 0) (hrg : ¬ (0 ≤ r ∧ r < m.rounds ∧ 0 ≤ f ∧ f < m.n ∧ 0 ≤ t ∧ t < m.n ∧ f ≠ t ∧ 0 ≤ s)) : Pure Try.prog 25 [encM m, encPl r f t s] (.bool (decide (rightP m r f t s))) := by
  refine Pure.of_c2 follows is25 (Nat.le_of_ble_eq_true rfl) ?_
  simp only [b25, O, G, N, M, D, F, B2, cFal, cTru]
  have hfw := few_c m hs
  have hck := check_r m hs
  have em := encM_dat m
  unfold encPl encM MachV.cells at *
  rw [hf] at hfw
  have hg := chk_zero hc
  rw [hc] at hck
  obtain ⟨l1, l2, l3⟩ := shaped_len hg.sh
  repeat' (first | refine w_seq ?_ | refine w_ops0 ?_ | refine w_mixS1 ?_ | refine w_ret ?_ | refine a_n ?_ | refine o_nil ?_ | (apply o_val rfl rfl; (focus ((try simp (disch := omega) only [simB0, ZA, Nat.reduceEqDiff, ↓reduceIte, Nat.reduceAdd, Nat.reduceLeDiff, ZV, reduceCtorEq, ME, acells]); first | with_reducible rfl | (apply s_ite; (focus omega); with_reducible rfl)))) | (apply o_callD; (iterate 2 (focus ((try simp only [simB0, ZA, Nat.reduceEqDiff, ↓reduceIte, Nat.reduceAdd, Nat.reduceLeDiff, ME, acells]); (try with_reducible rfl); done))); (focus (first | (exact hfw) | (exact hck))); (focus ((first | refine snap_plain ?_ rfl | apply snap_data); repeat' (first | exact snapL_nil | apply snapL_i | apply snapL_dat | exact em)))) | (apply e_box rfl; (iterate 2 (focus ((try simp only [simB0, ZA, Nat.reduceEqDiff, ↓reduceIte, Nat.reduceAdd, Nat.reduceLeDiff, ME, acells]); (try with_reducible rfl); done))); (focus (simp only [SO, Bool.and_self, one_encV, one_encVV, ME, acells]))) | (apply o_gT; (focus (simp only [simB0, ZA, Nat.reduceEqDiff, ↓reduceIte, Nat.reduceAdd, Nat.reduceLeDiff, ME, acells]; done))) | (apply o_gF; (focus (simp only [simB0, ZA, Nat.reduceEqDiff, ↓reduceIte, Nat.reduceAdd, Nat.reduceLeDiff, or_true, true_or, ME, acells]; done))) | (apply o_gB; (focus ((try simp only [simB0, ZA, Nat.reduceEqDiff, ↓reduceIte, Nat.reduceAdd, Nat.reduceLeDiff, ME, acells]); (try with_reducible rfl); done)); all_goals (intro _hg; (try simp only [ZB] at _hg); try first | exact absurd trivial _hg | (exfalso; omega))) | (refine e_ends rfl ?_) | (apply r_1; (focus (simp only [rv, simB0, ZA, Nat.reduceEqDiff, ↓reduceIte, Nat.reduceAdd, Nat.reduceLeDiff, ME, acells]; with_reducible rfl))))
  all_goals first
      | (refine snap_bool (decide_eq_false fun h => hrg ?_).symm
         obtain ⟨_, _, q⟩ := h
         omega)
      | (exfalso; omega)
      | trace_state

theorem right_c (m : MachV) (r f t s : Int) (hs : ShM m) : Pure Try.prog 25 [encM m, encPl r f t s] (.bool (decide (rightP m r f t s))) := by
  by_cases hrg : fewB m = true ∧ chkM m = 0
  · by_cases h2 : 0 ≤ r ∧ r < m.rounds ∧ 0 ≤ f ∧ f < m.n ∧ 0 ≤ t ∧ t < m.n ∧ f ≠ t ∧ 0 ≤ s
    · exact right_yes m r f t s hs hrg.1 hrg.2 h2
    · exact right_no m r f t s hs hrg.1 hrg.2 h2
  have hno : decide (rightP m r f t s) = false := decide_eq_false fun h => hrg ⟨h.1, h.2.1⟩
  rw [hno]
  refine Pure.of_c2 follows is25 (Nat.le_of_ble_eq_true rfl) ?_
  simp only [b25, O, G, N, M, D, F, B2, cFal, cTru]
  have hfw := few_c m hs
  have hck := check_r m hs
  have em := encM_dat m
  unfold encPl encM MachV.cells at *
  cases hf : fewB m with
  | false =>
    rw [hf] at hfw
    repeat' (first | refine w_seq ?_ | refine w_ops0 ?_ | refine w_mixS1 ?_ | refine w_ret ?_ | refine a_n ?_ | refine o_nil ?_ | (apply o_val rfl rfl; (focus ((try simp (disch := omega) only [simB0, ZA, Nat.reduceEqDiff, ↓reduceIte, Nat.reduceAdd, Nat.reduceLeDiff, ZV, reduceCtorEq, ME, acells]); first | with_reducible rfl | (apply s_ite; (focus omega); with_reducible rfl)))) | (apply o_callD; (iterate 2 (focus ((try simp only [simB0, ZA, Nat.reduceEqDiff, ↓reduceIte, Nat.reduceAdd, Nat.reduceLeDiff, ME, acells]); (try with_reducible rfl); done))); (focus (first | (exact hfw))); (focus ((first | refine snap_plain ?_ rfl | apply snap_data); repeat' (first | exact snapL_nil | apply snapL_i | apply snapL_dat | exact em)))) | (apply e_box rfl; (iterate 2 (focus ((try simp only [simB0, ZA, Nat.reduceEqDiff, ↓reduceIte, Nat.reduceAdd, Nat.reduceLeDiff, ME, acells]); (try with_reducible rfl); done))); (focus (simp only [SO, Bool.and_self, one_encV, one_encVV, ME, acells]))) | (apply o_gF; (focus (simp only [simB0, ZA, Nat.reduceEqDiff, ↓reduceIte, Nat.reduceAdd, Nat.reduceLeDiff, or_true, true_or, ME, acells]; done))) | (refine e_ends rfl ?_) | (apply r_1; (focus (simp only [rv, simB0, ZA, Nat.reduceEqDiff, ↓reduceIte, Nat.reduceAdd, Nat.reduceLeDiff, ME, acells]; with_reducible rfl))))
    all_goals exact snap_bool rfl
  | true =>
  rw [hf] at hfw
  have dc : decide (chkM m = 0) = false := decide_eq_false fun h => hrg ⟨hf, h⟩
  repeat' (first | refine w_seq ?_ | refine w_ops0 ?_ | refine w_mixS1 ?_ | refine w_ret ?_ | refine a_n ?_ | refine o_nil ?_ | (apply o_val rfl rfl; (focus ((try simp (disch := omega) only [simB0, ZA, Nat.reduceEqDiff, ↓reduceIte, Nat.reduceAdd, Nat.reduceLeDiff, ZV, reduceCtorEq, ME, acells, dc]); first | with_reducible rfl | (apply s_ite; (focus omega); with_reducible rfl)))) | (apply o_callD; (iterate 2 (focus ((try simp only [simB0, ZA, Nat.reduceEqDiff, ↓reduceIte, Nat.reduceAdd, Nat.reduceLeDiff, ME, acells, dc]); (try with_reducible rfl); done))); (focus (first | (exact hfw) | (exact hck))); (focus ((first | refine snap_plain ?_ rfl | apply snap_data); repeat' (first | exact snapL_nil | apply snapL_i | apply snapL_dat | exact em)))) | (apply e_box rfl; (iterate 2 (focus ((try simp only [simB0, ZA, Nat.reduceEqDiff, ↓reduceIte, Nat.reduceAdd, Nat.reduceLeDiff, ME, acells, dc]); (try with_reducible rfl); done))); (focus (simp only [SO, Bool.and_self, one_encV, one_encVV, ME, acells, dc]))) | (apply o_gT; (focus (simp only [simB0, ZA, Nat.reduceEqDiff, ↓reduceIte, Nat.reduceAdd, Nat.reduceLeDiff, ME, acells, dc]; done))) | (apply o_gF; (focus (simp only [simB0, ZA, Nat.reduceEqDiff, ↓reduceIte, Nat.reduceAdd, Nat.reduceLeDiff, or_true, true_or, ME, acells, dc]; done))) | (refine e_ends rfl ?_) | (apply r_1; (focus (simp only [rv, simB0, ZA, Nat.reduceEqDiff, ↓reduceIte, Nat.reduceAdd, Nat.reduceLeDiff, ME, acells, dc]; with_reducible rfl))))
  all_goals exact snap_bool rfl

end Go.Proofs.Ytpbjhjkfobapeaa

/- Q41: contracts of functions and plain laws; for all inputs that the theorems name. -/
set_option linter.unusedSimpArgs false
set_option linter.unusedVariables false
namespace Go.Proofs.Ytpbjhjkfobapeaa
open Go Go.Abs

theorem encode_right {m : MachV} {r f t s : Int} (h : rightP m r f t s) : ∃ v, v ∈ symV m ⟨r, f, t⟩ ∧ v = (symV m ⟨r, f, t⟩).getD s.toNat default ∧ encodeB m r f t s = (messageB r f t v, 0) := by
  have hp := right_place h
  obtain ⟨_, _, _, _, _, _, _, _, _, h9, h10⟩ := h
  refine ⟨_, mem_getD (k := s.toNat) (by omega), rfl, ?_⟩
  unfold encodeB
  rw [if_neg (by rw [hp]; simp), if_neg (by omega)]
theorem decode_damaged {m : MachV} {r f t : Int} (hp : placeI m r f t = 0) (v : Int) (k : Nat) (c : UInt8) (hk : k < (messageB r f t v).length) (hc : c ≠ (messageB r f t v).getD k default) : decodeB m r f t ((messageB r f t v).set k c) = (0, 24) := by
  have hl := message_len r f t v
  unfold decodeB
  rw [if_neg (by rw [hp]; simp), if_neg]
  rw [right_damage _ k c (message_right r f t v) hk (by omega) hc]; simp
attribute [local irreducible] awp2 aops2 ains aloop athen bbind obind gbind acond res1 Go.Abs.Fn PCall Go.Abs.Pure SnapArgs SnapL Yl

set_option maxHeartbeats 2000000 in
theorem law8_c (m : MachV) (r f t s : Int) (hs : ShM m) (a b : UInt8) : Go.Abs.Pure Try.prog 8 [encM m, encPl r f t s, .agg [.int .u8 (a.toNat : Int), .int .u8 (b.toNat : Int)]] (.bool true) := by
  refine Pure.of_c2 follows is8 (Nat.le_of_ble_eq_true rfl) ?_
  simp only [b8, O, G, N, M, D, F, B2, cFal, cTru]
  have haw := awake_c
  have hri := right_c m r f t s hs
  have em := encM_dat m
  have ep : Dat (encPl r f t s) := Dat.agg (DatL.cons .int (DatL.cons .int (DatL.cons .int (DatL.cons .int DatL.nil))))
  by_cases hR : rightP m r f t s ∧ b ≠ 0
  rotate_left
  · by_cases hR2 : rightP m r f t s
    · rw [decide_eq_true hR2] at hri
      have hb0 : b = 0 := Decidable.of_not_not fun h => hR ⟨hR2, h⟩
      subst hb0
      have hz : decide (((0 : UInt8).toNat : Int) = 0) = true := rfl
      unfold encPl encM MachV.cells at *
      repeat' (first | refine w_seq ?_ | refine w_ops0 ?_ | refine w_ret ?_ | refine a_n ?_ | refine a_r ?_ | refine o_nil ?_ | (apply o_val rfl rfl; (focus ((try simp (disch := omega) only [simB0, ZA, Nat.reduceEqDiff, ↓reduceIte, Nat.reduceAdd, Nat.reduceLeDiff, ZV, reduceCtorEq, ME, acells, IXA, Nat.lt_add_one, Nat.zero_lt_succ, hz]); first | with_reducible rfl | (apply s_ite; (focus omega); with_reducible rfl)))) | (apply o_callD; (iterate 2 (focus ((try simp only [simB0, ZA, Nat.reduceEqDiff, ↓reduceIte, Nat.reduceAdd, Nat.reduceLeDiff, ME, acells, IXA, Nat.lt_add_one, Nat.zero_lt_succ, hz]); (try with_reducible rfl); done))); (focus (first | (exact haw) | (exact hri))); (focus ((first | refine snap_plain ?_ rfl | apply snap_data); repeat' (first | exact snapL_nil | apply snapL_i | apply snapL_dat | exact em | exact ep)))) | (apply e_box rfl; (iterate 2 (focus ((try simp only [simB0, ZA, Nat.reduceEqDiff, ↓reduceIte, Nat.reduceAdd, Nat.reduceLeDiff, ME, acells, IXA, Nat.lt_add_one, Nat.zero_lt_succ, hz]); (try with_reducible rfl); done))); (focus (simp only [SO, Bool.and_self, one_encV, one_encVV, ME, acells, IXA, Nat.lt_add_one, Nat.zero_lt_succ, hz]))) | (apply o_gT; (focus (simp only [simB0, ZA, Nat.reduceEqDiff, ↓reduceIte, Nat.reduceAdd, Nat.reduceLeDiff, ME, acells, IXA, Nat.lt_add_one, Nat.zero_lt_succ, hz]; done))) | (apply w_condT; (focus (simp only [simB0, ZA, Nat.reduceEqDiff, ↓reduceIte, Nat.reduceAdd, Nat.reduceLeDiff, ME, acells, IXA, Nat.lt_add_one, Nat.zero_lt_succ, hz]; done))) | (refine e_ends rfl ?_) | (apply r_1; (focus (simp only [rv, simB0, ZA, Nat.reduceEqDiff, ↓reduceIte, Nat.reduceAdd, Nat.reduceLeDiff, ME, acells, IXA, Nat.lt_add_one, Nat.zero_lt_succ, hz]; with_reducible rfl))))
      all_goals exact snap_bool rfl
    · rw [decide_eq_false hR2] at hri
      unfold encPl encM MachV.cells at *
      repeat' (first | refine w_seq ?_ | refine w_ops0 ?_ | refine w_ret ?_ | refine a_n ?_ | refine a_r ?_ | refine o_nil ?_ | (apply o_val rfl rfl; (focus ((try simp (disch := omega) only [simB0, ZA, Nat.reduceEqDiff, ↓reduceIte, Nat.reduceAdd, Nat.reduceLeDiff, ZV, reduceCtorEq, ME, acells, IXA, Nat.lt_add_one, Nat.zero_lt_succ]); first | with_reducible rfl | (apply s_ite; (focus omega); with_reducible rfl)))) | (apply o_callD; (iterate 2 (focus ((try simp only [simB0, ZA, Nat.reduceEqDiff, ↓reduceIte, Nat.reduceAdd, Nat.reduceLeDiff, ME, acells, IXA, Nat.lt_add_one, Nat.zero_lt_succ]); (try with_reducible rfl); done))); (focus (first | (exact haw) | (exact hri))); (focus ((first | refine snap_plain ?_ rfl | apply snap_data); repeat' (first | exact snapL_nil | apply snapL_i | apply snapL_dat | exact em | exact ep)))) | (apply e_box rfl; (iterate 2 (focus ((try simp only [simB0, ZA, Nat.reduceEqDiff, ↓reduceIte, Nat.reduceAdd, Nat.reduceLeDiff, ME, acells, IXA, Nat.lt_add_one, Nat.zero_lt_succ]); (try with_reducible rfl); done))); (focus (simp only [SO, Bool.and_self, one_encV, one_encVV, ME, acells, IXA, Nat.lt_add_one, Nat.zero_lt_succ]))) | (apply o_gF; (focus (simp only [simB0, ZA, Nat.reduceEqDiff, ↓reduceIte, Nat.reduceAdd, Nat.reduceLeDiff, or_true, true_or, ME, acells, IXA, Nat.lt_add_one, Nat.zero_lt_succ]; done))) | (apply w_condT; (focus (simp only [simB0, ZA, Nat.reduceEqDiff, ↓reduceIte, Nat.reduceAdd, Nat.reduceLeDiff, ME, acells, IXA, Nat.lt_add_one, Nat.zero_lt_succ]; done))) | (refine e_ends rfl ?_) | (apply r_1; (focus (simp only [rv, simB0, ZA, Nat.reduceEqDiff, ↓reduceIte, Nat.reduceAdd, Nat.reduceLeDiff, ME, acells, IXA, Nat.lt_add_one, Nat.zero_lt_succ]; with_reducible rfl))))
      all_goals exact snap_bool rfl
  obtain ⟨hR, hb0⟩ := hR
  rw [decide_eq_true hR] at hri
  have hpl := right_place hR
  obtain ⟨v, hv, _, he⟩ := encode_right hR
  have hen := encode_c m r f t s hs
  rw [he] at hen
  dsimp only at hen
  have hlen := message_len2 r f t v
  have hvn := vint_ne v.toNat
  have hml := message_len r f t v
  have hcut := decode_cut hpl hv
  have hdd := decode_damaged hpl v
  have hz : decide ((b.toNat : Int) = 0) = false := decide_eq_false (fun h => hb0 (UInt8.toNat_inj.1 (by simpa using h)))
  generalize messageB r f t v = W at *
  have hW0 : decide ((W.length : Int) = 0) = false := decide_eq_false (by omega)
  have e1 : IntKind.wrap .i64 (a.toNat : Int) = a.toNat := by have := byte_lt a; exact wrap64 (by omega) (by omega)
  have e2 : ((a.toNat : Int) % (W.length : Int)) = ((a.toNat % W.length : Nat) : Int) := by simp
  have hk : a.toNat % W.length < W.length := Nat.mod_lt _ (by omega)
  generalize a.toNat % W.length = k at *
  have hd1 := decode_c m r f t (W.set k (W.getD k default ^^^ b)) hs (by show _ ≤ _; rw [List.length_set]; omega)
  rw [hdd k _ hk (fun h => hb0 ((xor_self_iff _ _).1 h))] at hd1
  dsimp only at hd1
  have hd2 := decode_c m r f t (W.take (W.length - 1)) hs (by show _ ≤ _; rw [List.length_take]; omega)
  have q2 : (⟨W.toArray⟩ : ByteArray).size = W.length := encS_size
  have q3 : (⟨W.toArray⟩ : ByteArray).data.toList = W := rfl
  have hbg := bytes_get hk
  have hx := xor_u8 (W.getD k default) b
  unfold encPl encM MachV.cells at *
  repeat' (first | refine w_seq ?_ | refine w_ops0 ?_ | refine w_skip ?_ | refine a_n ?_ | refine o_nil ?_ | (apply o_val rfl rfl; (focus ((try simp (disch := omega) only [simB0, ZA, Nat.reduceEqDiff, ↓reduceIte, Nat.reduceAdd, Nat.reduceLeDiff, ZV, reduceCtorEq, ME, acells, IXA, Nat.lt_add_one, Nat.zero_lt_succ, hz, alenStr_encS, hW0]); first | with_reducible rfl | (apply s_ite; (focus omega); with_reducible rfl)))) | (apply o_callD; (iterate 2 (focus ((try simp only [simB0, ZA, Nat.reduceEqDiff, ↓reduceIte, Nat.reduceAdd, Nat.reduceLeDiff, ME, acells, IXA, Nat.lt_add_one, Nat.zero_lt_succ, hz, alenStr_encS, hW0]); (try with_reducible rfl); done))); (focus (first | (exact haw) | (exact hri) | (exact hen))); (focus ((first | refine snap_plain ?_ rfl | apply snap_data); repeat' (first | exact snapL_nil | apply snapL_i | apply snapL_dat | exact em | exact ep)))) | (apply e_box rfl; (iterate 2 (focus ((try simp only [simB0, ZA, Nat.reduceEqDiff, ↓reduceIte, Nat.reduceAdd, Nat.reduceLeDiff, ME, acells, IXA, Nat.lt_add_one, Nat.zero_lt_succ, hz, alenStr_encS, hW0]); (try with_reducible rfl); done))); (focus (simp only [SO, Bool.and_self, one_encV, one_encVV, ME, acells, IXA, Nat.lt_add_one, Nat.zero_lt_succ, hz, alenStr_encS, hW0]))) | (apply o_gT; (focus (simp only [simB0, ZA, Nat.reduceEqDiff, ↓reduceIte, Nat.reduceAdd, Nat.reduceLeDiff, ME, acells, IXA, Nat.lt_add_one, Nat.zero_lt_succ, hz, alenStr_encS, hW0]; done))) | (apply o_gB; (focus ((try simp only [simB0, ZA, Nat.reduceEqDiff, ↓reduceIte, Nat.reduceAdd, Nat.reduceLeDiff, ME, acells, IXA, Nat.lt_add_one, Nat.zero_lt_succ, hz, alenStr_encS, hW0]); (try with_reducible rfl); done)); all_goals (intro _hg; (try simp only [ZB] at _hg); try first | exact absurd trivial _hg | (exfalso; omega))) | (apply w_condF; (focus (simp only [simB0, ZA, Nat.reduceEqDiff, ↓reduceIte, Nat.reduceAdd, Nat.reduceLeDiff, ME, acells, IXA, Nat.lt_add_one, Nat.zero_lt_succ, hz, alenStr_encS, hW0]; done))))
  refine o_s2b (bs := ⟨W.toArray⟩) (by ((try simp only [simB0, ZA, Nat.reduceEqDiff, ↓reduceIte, Nat.reduceAdd, Nat.reduceLeDiff]); (try with_reducible rfl)); rfl) (fun h => absurd h (by rw [q2]; omega)) (fun _ => ?_)
  rw [q2, q3]
  repeat' (first | refine w_seq ?_ | refine w_ops1 ?_ | refine a_n ?_ | refine o_nil ?_ | (apply o_val rfl rfl; (focus ((try simp (disch := omega) only [simB0, ZA, Nat.reduceEqDiff, ↓reduceIte, Nat.reduceAdd, Nat.reduceLeDiff, ZV, reduceCtorEq, IXA, Nat.lt_add_one, Nat.zero_lt_succ, e1, rem_pos, e2, hbg, xor_u8]); first | with_reducible rfl | (apply s_ite; (focus omega); with_reducible rfl)))))
  refine e_st rfl (b := 3) (n := W.length) (off := k) (cs := W.map encB) (vs := [encB (W.getD k default ^^^ b)]) (by ((try simp only [simB0, ZA, Nat.reduceEqDiff, ↓reduceIte, Nat.reduceAdd, Nat.reduceLeDiff]); (try with_reducible rfl))) (by ((try simp only [simB0, ZA, Nat.reduceEqDiff, ↓reduceIte, Nat.reduceAdd, Nat.reduceLeDiff]); (try with_reducible rfl))) (by ((try simp only [simB0, ZA, Nat.reduceEqDiff, ↓reduceIte, Nat.reduceAdd, Nat.reduceLeDiff]); (try with_reducible rfl))) rfl rfl (List.length_map _) rfl (show k + 1 ≤ W.length by omega) ?_
  rw [lput_bytes hk]
  have hlen3 : W.length = (W.set k (W.getD k default ^^^ b)).length := List.length_set.symm
  generalize W.set k (W.getD k default ^^^ b) = V at *
  repeat' (first | refine w_seq ?_ | refine w_ops0 ?_ | refine a_n ?_ | refine o_nil ?_ | (apply o_val rfl rfl; (focus ((try simp (disch := omega) only [simB0, ZA, Nat.reduceEqDiff, ↓reduceIte, Nat.reduceAdd, Nat.reduceLeDiff, ZV, reduceCtorEq, ME, acells]); first | with_reducible rfl | (apply s_ite; (focus omega); with_reducible rfl)))))
  refine o_b2s (n := W.length) (bs := V) (by ((try simp only [simB0, ZA, Nat.reduceEqDiff, ↓reduceIte, Nat.reduceAdd, Nat.reduceLeDiff]); (try with_reducible rfl)); exact asrc_bytes (l := V) hupd_self' hlen3) ?_
  have eV : AV.str ⟨V.toArray⟩ = encS V := rfl
  rw [eV]
  have e3 : ((W.length : Int) - 1) = ((W.length - 1 : Nat) : Int) := by omega
  have hsl : aslstr (encS W) none (some (.int .i64 ((W.length - 1 : Nat) : Int))) = some (encS (W.take (W.length - 1))) := aslstr_hi (by omega)
  generalize decodeB m r f t (W.take (W.length - 1)) = D at *
  obtain ⟨D1, D2⟩ := D
  dsimp only at hcut hd2
  have hz2 : decide (D2 ≠ 0) = true := decide_eq_true hcut
  repeat' (first | refine w_seq ?_ | refine w_ops0 ?_ | refine w_mixS1 ?_ | refine w_ret ?_ | refine a_n ?_ | refine o_nil ?_ | (apply o_val rfl rfl; (focus ((try simp (disch := omega) only [simB0, ZA, Nat.reduceEqDiff, ↓reduceIte, Nat.reduceAdd, Nat.reduceLeDiff, ZV, reduceCtorEq, ME, acells, alenStr_encS, e3, hsl, hz2]); first | with_reducible rfl | (apply s_ite; (focus omega); with_reducible rfl)))) | (apply o_callD; (iterate 2 (focus ((try simp only [simB0, ZA, Nat.reduceEqDiff, ↓reduceIte, Nat.reduceAdd, Nat.reduceLeDiff, ME, acells, alenStr_encS, e3, hsl, hz2]); (try with_reducible rfl); done))); (focus (first | (exact haw) | (exact hd1) | (exact hd2))); (focus ((first | refine snap_plain ?_ rfl | apply snap_data); repeat' (first | exact snapL_nil | apply snapL_i | apply snapL_dat | exact em | exact encS_dat _)))) | (apply o_gT; (focus (simp only [simB0, ZA, Nat.reduceEqDiff, ↓reduceIte, Nat.reduceAdd, Nat.reduceLeDiff, ME, acells, alenStr_encS, e3, hsl, hz2]; done))) | (apply o_gB; (focus ((try simp only [simB0, ZA, Nat.reduceEqDiff, ↓reduceIte, Nat.reduceAdd, Nat.reduceLeDiff, ME, acells, alenStr_encS, e3, hsl, hz2]); (try with_reducible rfl); done)); all_goals (intro _hg; (try simp only [ZB] at _hg); try first | exact absurd trivial _hg | (exfalso; omega))) | (refine e_ends rfl ?_) | (apply r_1; (focus (simp only [rv, simB0, ZA, Nat.reduceEqDiff, ↓reduceIte, Nat.reduceAdd, Nat.reduceLeDiff, ME, acells, alenStr_encS, e3, hsl, hz2]; with_reducible rfl))))
  all_goals first | exact snap_bool rfl | (exfalso; omega) | trace_state

end Go.Proofs.Ytpbjhjkfobapeaa

/- Q42: contracts of functions and plain laws; for all inputs that the theorems name. -/
set_option linter.unusedSimpArgs false
set_option linter.unusedVariables false
namespace Go.Proofs.Ytpbjhjkfobapeaa
open Go Go.Abs

theorem encode_at {m : MachV} {r f t : Int} (hp : placeI m r f t = 0) {k : Nat} (hk : k < (symV m ⟨r, f, t⟩).length) : encodeB m r f t k = (messageB r f t ((symV m ⟨r, f, t⟩).getD k default), 0) := by
  unfold encodeB
  rw [if_neg (by rw [hp]; simp), if_neg (by omega), Int.toNat_natCast]
theorem length_right {m : MachV} {r f t v : Int} (hp : placeI m r f t = 0) (hv : v ∈ symV m ⟨r, f, t⟩) : (lengthB m r f t).2 = 0 ∧ ((messageB r f t v).length : Int) ≤ (lengthB m r f t).1 := by
  unfold lengthB
  rw [if_neg (by rw [hp]; simp)]
  exact ⟨rfl, fold_max.2 v hv⟩
attribute [local irreducible] awp2 aops2 ains aloop athen bbind obind gbind acond res1 Go.Abs.Fn PCall Go.Abs.Pure SnapArgs SnapL Yl

set_option maxHeartbeats 2000000 in
theorem law7_c (m : MachV) (r f t s : Int) (hs : ShM m) : Go.Abs.Pure Try.prog 7 [encM m, encPl r f t s] (.bool true) := by
  refine Pure.of_c2 follows is7 (Nat.le_of_ble_eq_true rfl) ?_
  simp only [b7, O, G, N, M, D, F, B2, cFal, cTru]
  have haw := awake_c
  have hri := right_c m r f t s hs
  have em := encM_dat m
  have ep : Dat (encPl r f t s) := Dat.agg (DatL.cons .int (DatL.cons .int (DatL.cons .int (DatL.cons .int DatL.nil))))
  by_cases hR : rightP m r f t s
  rotate_left
  · rw [decide_eq_false hR] at hri
    unfold encPl encM MachV.cells at *
    repeat' (first | refine w_seq ?_ | refine w_ops0 ?_ | refine w_ret ?_ | refine a_n ?_ | refine a_r ?_ | refine o_nil ?_ | (apply o_val rfl rfl; (focus ((try simp (disch := omega) only [simB0, ZA, Nat.reduceEqDiff, ↓reduceIte, Nat.reduceAdd, Nat.reduceLeDiff, ZV, reduceCtorEq, ME, acells]); first | with_reducible rfl | (apply s_ite; (focus omega); with_reducible rfl)))) | (apply o_callD; (iterate 2 (focus ((try simp only [simB0, ZA, Nat.reduceEqDiff, ↓reduceIte, Nat.reduceAdd, Nat.reduceLeDiff, ME, acells]); (try with_reducible rfl); done))); (focus (first | (exact haw) | (exact hri))); (focus ((first | refine snap_plain ?_ rfl | apply snap_data); repeat' (first | exact snapL_nil | apply snapL_i | apply snapL_dat | exact em | exact ep)))) | (apply e_box rfl; (iterate 2 (focus ((try simp only [simB0, ZA, Nat.reduceEqDiff, ↓reduceIte, Nat.reduceAdd, Nat.reduceLeDiff, ME, acells]); (try with_reducible rfl); done))); (focus (simp only [SO, Bool.and_self, one_encV, one_encVV, ME, acells]))) | (apply w_condT; (focus (simp only [simB0, ZA, Nat.reduceEqDiff, ↓reduceIte, Nat.reduceAdd, Nat.reduceLeDiff, ME, acells]; done))) | (refine e_ends rfl ?_) | (apply r_1; (focus (simp only [rv, simB0, ZA, Nat.reduceEqDiff, ↓reduceIte, Nat.reduceAdd, Nat.reduceLeDiff, ME, acells]; with_reducible rfl))))
    all_goals exact snap_bool rfl
  rw [decide_eq_true hR] at hri
  have hpl := right_place hR
  have hpl2 := place_swap hpl
  obtain ⟨v, hv, hve, he⟩ := encode_right hR
  have hen := encode_c m r f t s hs
  rw [he] at hen
  dsimp only at hen
  have hlen := message_len2 r f t v
  have hvn := vint_ne v.toNat
  have hml := message_len r f t v
  have hde := decode_c m r f t (messageB r f t v) hs (by show _ ≤ _; omega)
  rw [decode_message hpl hv] at hde
  dsimp only at hde
  have hde2 := decode_c m r t f (messageB r f t v) hs (by show _ ≤ _; omega)
  rw [decode_other hpl hpl2 hv] at hde2
  have hln := length_c m r f t hs
  obtain ⟨g1, g2⟩ := length_right hpl hv
  rw [g1] at hln
  generalize (lengthB m r f t).1 = n at *
  generalize (decodeB m r t f (messageB r f t v)).1 = z at *
  have hat := fun (k : Nat) (hk : k < (symV m ⟨r, f, t⟩).length) => encode_at hpl hk
  have hinj : ∀ k, k < (symV m ⟨r, f, t⟩).length → decide (messageB r f t v = messageB r f t ((symV m ⟨r, f, t⟩).getD k default)) = decide (v = (symV m ⟨r, f, t⟩).getD k default) := fun k hk =>
    decide_eq_decide.2 (message_inj (symV_range hpl hv) (symV_range hpl (mem_getD hk)))
  have hlenk : ∀ k, (messageB r f t ((symV m ⟨r, f, t⟩).getD k default)).length ≤ 15 := fun k => message_len _ _ _ _
  obtain ⟨hf, hc, q1, q2, q3, q4, q5, q6, q7, q8, q9⟩ := hR
  have hg := chk_zero hc
  obtain ⟨l1, l2, l3⟩ := shaped_len hg.sh
  obtain ⟨u1, u2⟩ := shaped_sym hg.sh (k := r.toNat) (by omega)
  obtain ⟨u3, _⟩ := u2 f.toNat (by omega)
  have hsh := symV_sh hs hpl
  unfold symV at hve hat hinj hlenk q9 hsh
  dsimp only at hve hat hinj hlenk q9 hsh
  clear hv he
  generalize hW : messageB r f t v = W at *
  have w0 : IntKind.wrap .i64 (0 + 0) = 0 := rfl
  have z0 : decide ((0 : Int) ≠ 0) = false := rfl
  have zv : decide (v ≠ v) = false := decide_eq_false (fun h => h rfl)
  have z6 : decide ((W.length : Int) < 6) = false := decide_eq_false (by omega)
  have zn : decide (n < (W.length : Int)) = false := decide_eq_false (by omega)
  have z22 : decide ((22 : Int) ≠ 22) = false := rfl
  generalize hL : ((m.symbols.getD r.toNat default).getD f.toNat default).getD t.toNat default = L at *
  have hve' : L.getD s.toNat default = v := hve.symm
  have hL' : L.length ≤ 9223372036854775807 := hsh
  unfold encPl encM MachV.cells at *
  repeat' (first | refine w_seq ?_ | refine w_ops0 ?_ | refine w_ops1 ?_ | refine w_block ?_ | refine w_skip ?_ | refine a_n ?_ | refine o_nil ?_ | (apply o_val rfl rfl; (focus ((try simp (disch := omega) only [simB0, ZA, Nat.reduceEqDiff, ↓reduceIte, Nat.reduceAdd, Nat.reduceLeDiff, ZV, reduceCtorEq, ME, acells, alenStr_encS, hL, hve', w0, z0, zv, z6, zn, z22]); first | with_reducible rfl | (apply s_ite; (focus omega); with_reducible rfl)))) | (apply o_callD; (iterate 2 (focus ((try simp only [simB0, ZA, Nat.reduceEqDiff, ↓reduceIte, Nat.reduceAdd, Nat.reduceLeDiff, ME, acells, alenStr_encS, hL, hve', w0, z0, zv, z6, zn, z22]); (try with_reducible rfl); done))); (focus (first | (exact haw) | (exact hri) | (exact hen) | (exact hde) | (exact hln) | (exact hde2))); (focus ((first | refine snap_plain ?_ rfl | apply snap_data); repeat' (first | exact snapL_nil | apply snapL_i | apply snapL_dat | exact em | exact ep | exact encS_dat _)))) | (apply e_box rfl; (iterate 2 (focus ((try simp only [simB0, ZA, Nat.reduceEqDiff, ↓reduceIte, Nat.reduceAdd, Nat.reduceLeDiff, ME, acells, alenStr_encS, hL, hve', w0, z0, zv, z6, zn, z22]); (try with_reducible rfl); done))); (focus (simp only [SO, Bool.and_self, one_encV, one_encVV, ME, acells, alenStr_encS, hL, hve', w0, z0, zv, z6, zn, z22]))) | (apply o_gT; (focus (simp only [simB0, ZA, Nat.reduceEqDiff, ↓reduceIte, Nat.reduceAdd, Nat.reduceLeDiff, ME, acells, alenStr_encS, hL, hve', w0, z0, zv, z6, zn, z22]; done))) | (apply w_condF; (focus (simp only [simB0, ZA, Nat.reduceEqDiff, ↓reduceIte, Nat.reduceAdd, Nat.reduceLeDiff, ME, acells, alenStr_encS, hL, hve', w0, z0, zv, z6, zn, z22]; done))) | refine w_loop ?_)
  refine loopA (fun k => [(2, .ptr 0 8 0), (3, .ptr 1 4 0), (5, .int .i64 v), (6, encS W), (124, encV L), (125, .int .i64 L.length), (126, .int .i64 k)]) L.length (fun _ => True) (by simp (disch := omega) only [agr, ZG, Nat.reduceEqDiff, ↓reduceIte, List.length_cons, List.length_nil]) ?_
  intro k hk _
  by_cases hk2 : k < L.length
  rotate_left
  · repeat' (first | refine w_seq ?_ | refine w_ops0 ?_ | refine w_exit ?_ | refine w_ret ?_ | refine a_n ?_ | refine a_x ?_ | refine o_nil ?_ | (apply o_val rfl rfl; (focus ((try simp (disch := omega) only [simB0, ZA, Nat.reduceEqDiff, ↓reduceIte, Nat.reduceAdd, Nat.reduceLeDiff, ZV, reduceCtorEq]); first | with_reducible rfl | (apply s_ite; (focus omega); with_reducible rfl)))) | (apply o_callD; (iterate 2 (focus ((try simp only [simB0, ZA, Nat.reduceEqDiff, ↓reduceIte, Nat.reduceAdd, Nat.reduceLeDiff]); (try with_reducible rfl); done))); (focus (first | (exact haw))); (focus ((first | refine snap_plain ?_ rfl | apply snap_data); repeat' (first | exact snapL_nil | apply snapL_i | apply snapL_dat)))) | (apply w_cond; (focus ((try simp only [simB0, ZA, Nat.reduceEqDiff, ↓reduceIte, Nat.reduceAdd, Nat.reduceLeDiff]); (try with_reducible rfl); done)); all_goals (intro _hg; (try simp only [ZB] at _hg); try first | exact absurd trivial _hg | (exfalso; omega))) | (refine e_ends rfl ?_) | (apply r_1; (focus (simp only [rv, simB0, ZA, Nat.reduceEqDiff, ↓reduceIte, Nat.reduceAdd, Nat.reduceLeDiff]; with_reducible rfl))))
    all_goals exact snap_bool rfl
  have hc1 := encode_c m r f t k hs
  rw [hat k hk2] at hc1
  have hij := hinj k hk2
  dsimp only at hc1
  generalize messageB r f t (L.getD k default) = C at *
  unfold encM MachV.cells at hc1
  repeat' (first | refine w_seq ?_ | refine w_ops0 ?_ | refine w_block ?_ | refine w_skip ?_ | refine a_n ?_ | refine o_nil ?_ | (apply o_val rfl rfl; (focus ((try simp (disch := omega) only [simB0, ZA, Nat.reduceEqDiff, ↓reduceIte, Nat.reduceAdd, Nat.reduceLeDiff, ZV, reduceCtorEq, ME, acells, str_eq2, hij, beq_self_eq_true, Bool.not_true, z0]); first | with_reducible rfl | (apply s_ite; (focus omega); with_reducible rfl)))) | (apply o_callD; (iterate 2 (focus ((try simp only [simB0, ZA, Nat.reduceEqDiff, ↓reduceIte, Nat.reduceAdd, Nat.reduceLeDiff, ME, acells, str_eq2, hij, beq_self_eq_true, Bool.not_true, z0]); (try with_reducible rfl); done))); (focus (first | (exact hc1))); (focus ((first | refine snap_plain ?_ rfl | apply snap_data); repeat' (first | exact snapL_nil | apply snapL_i | apply snapL_dat | exact em | exact ep | exact encS_dat _)))) | (apply o_gT; (focus (simp only [simB0, ZA, Nat.reduceEqDiff, ↓reduceIte, Nat.reduceAdd, Nat.reduceLeDiff, ME, acells, str_eq2, hij, beq_self_eq_true, Bool.not_true, z0]; done))) | (apply w_condF; (focus (simp only [simB0, ZA, Nat.reduceEqDiff, ↓reduceIte, Nat.reduceAdd, Nat.reduceLeDiff, ME, acells, str_eq2, hij, beq_self_eq_true, Bool.not_true, z0]; done))) | (apply w_cond; (focus ((try simp only [simB0, ZA, Nat.reduceEqDiff, ↓reduceIte, Nat.reduceAdd, Nat.reduceLeDiff, ME, acells, str_eq2, hij, beq_self_eq_true, Bool.not_true, z0]); (try with_reducible rfl); done)); all_goals (intro _hg; (try simp only [ZB] at _hg); try first | exact absurd trivial _hg | (exfalso; omega))))
  all_goals first
    | exact ⟨hk2, trivial, by simp (disch := omega) only [agr, ZG, Nat.reduceEqDiff, ↓reduceIte], rfl, rfl⟩
    | exact snap_bool rfl
    | trace_state

end Go.Proofs.Ytpbjhjkfobapeaa
