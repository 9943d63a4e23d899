/- Texts of this claim, one after the other: U7o, U8o, U10o, U12o, T0, U13o, T1, T2, T3, T4, T5, T6, A11, T8, T9, T10, T11, T20. -/
import Derived.Test.YtbiikomnhkbblaaGreatXG5
import Derived.Test.YtbiikomnhkbblaaGreatXG4
import Derived.Test.YtbiikomnhkbblaaGreatRows
import Derived.WalkKit
import Derived.ProofKit
import Derived.OpenShut

set_option linter.unusedSimpArgs false
set_option linter.unusedVariables false

/- U7o: contracts of functions and plain laws; for all inputs that the theorems name. -/
namespace Go.Proofs.YtbiikomnhkbblaaGreat
open Go Go.Abs
open Nat (reduceEqDiff reduceAdd reduceLeDiff)
section
variable {α : Type} [Inhabited α] {f : α → AV} {K : α → α → Int} {G : α → Prop}
attribute [local irreducible] awp2 aops2 ains aloop athen bbind obind gbind acond res1 Go.Abs.Fn PCall Go.Abs.Pure SnapArgs SnapL Yl
theorem partial_o (hc : CmpO Tryz.prog f K G) {L : List α} {H : Hp} {b nx n a e : Nat} (hH : H b = some (L.map f)) (hn : L.length = n) (hG : ∀ x ∈ L, G x) (hae : a < e) (hen : e ≤ n) (hn2 : n ≤ 1000000000) (hlow : LowR K a e L) :
    Abs.Fn Tryz.prog 105 [.msl b n 1 0 n, .int .i64 a, .int .i64 e] H nx fun r H' nx' => nx' = nx ∧ ∃ L' t, r = .bool t ∧ H' = hupd H b (L'.map f) ∧ PermR a e L L' ∧ (t = true → SortedR K a e L') := by
  refine Abs.Fn.of_c2 follows is105 (Nat.le_of_ble_eq_true rfl) ?_
  simp only [b105, cO, cG, cN, cM, cD, cF, cB, cFal, cTru]
  -- mkU7
  (have zz := and_self; repeat' (first | apply w_seq | apply w_ops0 | apply w_block | apply a_n | apply o_nil | refine vZ ?_ | apply w_loop | fail)) <;> (try clear zz)
  refine loopI (X := Nat × Nat × List α) (fun x => [(0, .msl b n 1 0 n), (1, .int .i64 a), (2, .int .i64 e), (7, .int .i64 (x.2.1 : Nat)), (8, .int .i64 (x.1 : Nat))]) (fun x H' nxx => x.1 ≤ 5 ∧ a + 1 ≤ x.2.1 ∧ x.2.1 ≤ e ∧ H' = hupd H b (x.2.2.map f) ∧ nx = nxx ∧ PermR a e L x.2.2 ∧ SortedR K a x.2.1 x.2.2) (fun x => 5 - x.1) (0, a + 1, L) ⟨by dsimp only; omega, Nat.le_refl _, hae, hupd_id hH, rfl, .refl, SortedR.one (Nat.le_refl _)⟩ (by simp (disch := omega) only [agr, ZG, reduceEqDiff, ↓reduceIte]) ?_
  rintro ⟨jj, i0, M0⟩ H' nxx ⟨h1, h2, h3, rfl, rfl, hp0, hs0⟩
  dsimp only at *
  by_cases h5 : jj = 5
  · subst h5
    (have zz := and_self; repeat' (first | apply w_seq | apply w_ops0 | apply w_exit | apply w_ret | apply a_n | apply a_x | apply o_nil | refine vZ ?_ | (refine cdZ ?_ ?_ <;> (intro _hg; (try simp only [ZB] at _hg); try first | exact absurd trivial _hg | (exfalso; omega))) | refine e_ends rfl ?_ | refine r1Z ?_ | fail)) <;> (try clear zz)
    exact ⟨rfl, M0, false, rfl, rfl, hp0, fun h => absurd h (by decide)⟩
  have hl : M0.length = n := by rw [hp0.len, hn]
  have hGM := hp0.mem hG
  refine w_seqC (fun T H'' nx'' => T 0 = .msl b n 1 0 n ∧ T 1 = .int .i64 a ∧ T 2 = .int .i64 e ∧ n = n ∧ T 7 = .int .i64 (i0 : Nat) ∧ T 8 = .int .i64 (jj : Nat) ∧ H'' = hupd H b ((M0).map f) ∧ nx = nx'') ?_ ?_
  · (have zz := and_self; repeat' (first | apply w_seq | apply w_ops0 | apply w_skip | apply a_n | apply o_nil | refine vZ ?_ | (refine cdZ ?_ ?_ <;> (intro _hg; (try simp only [ZB] at _hg); try first | exact absurd trivial _hg | (exfalso; omega))) | fail)) <;> (try clear zz)
    exact ⟨rfl, rfl, rfl, rfl, rfl, rfl, rfl, rfl⟩
  rintro T _ _ ⟨t0, t1, t2, tF, t7, t8, rfl, rfl⟩
  refine w_seqC (fun T H'' nx'' => ∃ (i : Nat) (M : List α), a + 1 ≤ i ∧ i ≤ e ∧ PermR a e L M ∧ SortedR K a i M ∧ T 0 = .msl b n 1 0 n ∧ T 1 = .int .i64 a ∧ T 2 = .int .i64 e ∧ n = n ∧ T 7 = .int .i64 (i : Nat) ∧ T 8 = .int .i64 (jj : Nat) ∧ H'' = hupd H b ((M).map f) ∧ nx = nx'') ?_ ?_
  rotate_left
  · clear t0 t1 t2 tF t7 t8
    rintro T _ _ ⟨i, M, k1, k2, hp, hs, t0, t1, t2, tF, t7, t8, rfl, rfl⟩
    (have zz := aI @t0 (aI @t1 (aI @t2 (aI @tF (aI @t7 @t8)))); repeat' (first | apply w_ops0 | apply a_n | apply o_nil | refine vZ ?_ | fail)) <;> (try clear zz)
    exact ⟨(jj + 1, i, M), by dsimp only; omega, ⟨by dsimp only; omega, k1, k2, rfl, rfl, hp, hs⟩, by simp (disch := omega) only [agr, ZG, reduceEqDiff, ↓reduceIte, t0, t1, t2, tF, t7, t8]⟩
  refine w_block ?_
  refine w_seqC (fun T H'' nx'' => ∃ (i : Nat), a + 1 ≤ i ∧ i ≤ e ∧ SortedR K a i M0 ∧ (i < e → K (M0.getD i default) (M0.getD (i - 1) default) < 0) ∧ T 0 = .msl b n 1 0 n ∧ T 1 = .int .i64 a ∧ T 2 = .int .i64 e ∧ n = n ∧ T 7 = .int .i64 (i : Nat) ∧ T 8 = .int .i64 (jj : Nat) ∧ H'' = hupd H b ((M0).map f) ∧ nx = nx'') ?_ ?_
  · (have zz := aI @t0 (aI @t1 (aI @t2 (aI @tF (aI @t7 @t8)))); repeat' (first | apply w_block | apply w_loop | fail)) <;> (try clear zz)
    refine loopI (X := Nat) (fun i => [(0, .msl b n 1 0 n), (1, .int .i64 a), (2, .int .i64 e), (7, .int .i64 (i : Nat)), (8, .int .i64 (jj : Nat))]) (fun i H' nxx => a + 1 ≤ i ∧ i ≤ e ∧ H' = hupd H b (M0.map f) ∧ nx = nxx ∧ SortedR K a i M0) (fun i => e - i) i0 ⟨h2, h3, rfl, rfl, hs0⟩ (by simp (disch := omega) only [agr, ZG, reduceEqDiff, ↓reduceIte, t0, t1, t2, tF, t7, t8]) ?_
    clear hs0 h2 h3
    rintro i H' nxx ⟨h2, h3, rfl, rfl, hs⟩
    by_cases hie : i = e
    · subst hie
      (have zz := and_self; repeat' (first | apply w_seq | apply w_mixS1 | apply w_exit | apply a_n | apply a_x | apply o_nil | refine vZ ?_ | refine gFZ ?_ | (refine gBZ ?_ ?_ <;> (intro _hg; (try simp only [ZB] at _hg); try first | exact absurd trivial _hg | (exfalso; omega))) | refine cFZ ?_ | fail)) <;> (try clear zz)
      exact ⟨i, h2, h3, hs, fun h => absurd h (Nat.lt_irrefl _), rfl, rfl, rfl, rfl, rfl, rfl, rfl, rfl⟩
    obtain ⟨m, rfl⟩ : ∃ m, i = m + 1 := ⟨i - 1, by omega⟩
    have tj : ((m + 1 : Nat) : Int) - 1 = (m : Int) := by omega
    have lc := hc.run (M0.getD (m + 1) default) (M0.getD m default) (hGM _ (mem_getD (by omega))) (hGM _ (mem_getD (by omega)))
    have e1 := hc.dat (M0.getD (m + 1) default)
    have e2 := hc.dat (M0.getD m default)
    generalize hKK : K (M0.getD (m + 1) default) (M0.getD m default) = kk at lc
    by_cases hlt : kk < 0
    · (have zz := aI @tj (aI @Int.toNat_natCast (aI hc.cells hc.one)); repeat' (first | apply w_seq | apply w_mixS1 | apply w_exit | apply a_n | apply a_x | apply o_nil | refine vZ ?_ | refine cZ ?_ (hp := lc) | refine gTZ ?_ | ((first | refine gBZ ?_ ?_ | refine cdZ ?_ ?_) <;> (intro _hg; (try simp only [ZB] at _hg); try first | exact absurd trivial _hg | (exfalso; omega))) | fail)) <;> (try clear zz)
      exact ⟨m + 1, h2, h3, hs, fun _ => by rw [Nat.add_sub_cancel, hKK]; exact hlt, rfl, rfl, rfl, rfl, rfl, rfl, rfl, rfl⟩
    · (have zz := aI @tj (aI @Int.toNat_natCast (aI hc.cells hc.one)); repeat' (first | apply w_seq | apply w_ops0 | apply w_mixS1 | apply w_block | apply w_skip | apply a_n | apply o_nil | refine vZ ?_ | refine cZ ?_ (hp := lc) | refine gTZ ?_ | ((first | refine gBZ ?_ ?_ | refine cdZ ?_ ?_) <;> (intro _hg; (try simp only [ZB] at _hg); try first | exact absurd trivial _hg | (exfalso; omega))) | fail)) <;> (try clear zz)
      exact ⟨m + 1 + 1, by omega, ⟨by omega, by omega, rfl, rfl, hs.snoc hc.ord (by omega) (by rw [Nat.add_sub_cancel, hKK]; exact hlt)⟩, by simp (disch := omega) only [agr, ZG, reduceEqDiff, ↓reduceIte]⟩
  clear t0 t1 t2 tF t7 t8 hs0 h2 h3
  rintro T _ _ ⟨i, h2, h3, hs, hless, t0, t1, t2, tF, t7, t8, rfl, rfl⟩
  by_cases hie : i = e
  · subst hie
    have ten : decide ((i : Int) = (i : Int)) = true := decide_eq_true rfl
    (have zz := aI @t0 (aI @t1 (aI @t2 (aI @tF (aI @t7 (aI @t8 @ten))))); repeat' (first | apply w_seq | apply w_ops0 | apply w_ret | apply a_n | apply a_r | apply o_nil | refine vZ ?_ | (refine cdZ ?_ ?_ <;> (intro _hg; (try simp only [ZB] at _hg); try first | exact absurd trivial _hg | (exfalso; omega))) | refine e_ends rfl ?_ | refine r1Z ?_ | fail)) <;> (try clear zz)
    exact ⟨rfl, M0, true, rfl, rfl, hp0, fun _ => hs⟩
  replace hless := hless (by omega)
  have ten : decide ((i : Int) = (e : Int)) = false := decide_eq_false (by omega)
  refine w_seqC (fun T H'' nx'' => T 0 = .msl b n 1 0 n ∧ T 1 = .int .i64 a ∧ T 2 = .int .i64 e ∧ n = n ∧ T 7 = .int .i64 (i : Nat) ∧ T 8 = .int .i64 (jj : Nat) ∧ H'' = hupd H b ((M0).map f) ∧ nx = nx'') ?_ ?_
  · (have zz := aI @t0 (aI @t1 (aI @t2 (aI @tF (aI @t7 (aI @t8 @ten))))); repeat' (first | apply w_seq | apply w_ops0 | apply w_skip | apply a_n | apply o_nil | refine vZ ?_ | refine cFZ ?_ | fail)) <;> (try clear zz)
    exact ⟨by ((try simp only [simB0, ZA, reduceEqDiff, ↓reduceIte, reduceAdd, reduceLeDiff, t0]); (try with_reducible rfl)), by ((try simp only [simB0, ZA, reduceEqDiff, ↓reduceIte, reduceAdd, reduceLeDiff, t1]); (try with_reducible rfl)), by ((try simp only [simB0, ZA, reduceEqDiff, ↓reduceIte, reduceAdd, reduceLeDiff, t2]); (try with_reducible rfl)), by ((try simp only [simB0, ZA, reduceEqDiff, ↓reduceIte, reduceAdd, reduceLeDiff, tF]); (try with_reducible rfl)), by ((try simp only [simB0, ZA, reduceEqDiff, ↓reduceIte, reduceAdd, reduceLeDiff, t7]); (try with_reducible rfl)), by ((try simp only [simB0, ZA, reduceEqDiff, ↓reduceIte, reduceAdd, reduceLeDiff, t8]); (try with_reducible rfl)), rfl, rfl⟩
  clear t0 t1 t2 tF t7 t8 ten
  rintro T _ _ ⟨t0, t1, t2, tF, t7, t8, rfl, rfl⟩
  refine w_seqC (fun T H'' nx'' => T 0 = .msl b n 1 0 n ∧ T 1 = .int .i64 a ∧ T 2 = .int .i64 e ∧ n = n ∧ T 7 = .int .i64 (i : Nat) ∧ T 8 = .int .i64 (jj : Nat) ∧ H'' = hupd H b ((M0).map f) ∧ nx = nx'') ?_ ?_
  · (have zz := aI @t0 (aI @t1 (aI @t2 (aI @tF (aI @t7 @t8)))); repeat' (first | apply w_seq | apply w_ops0 | apply w_skip | apply w_ret | apply a_n | apply a_r | apply o_nil | refine vZ ?_ | (refine cdZ ?_ ?_ <;> (intro _hg; (try simp only [ZB] at _hg); try first | exact absurd trivial _hg | (exfalso; omega))) | refine e_ends rfl ?_ | refine r1Z ?_ | fail)) <;> (try clear zz)
    · exact ⟨rfl, M0, false, rfl, rfl, hp0, fun h => absurd h (by decide)⟩
    · exact ⟨by ((try simp only [simB0, ZA, reduceEqDiff, ↓reduceIte, reduceAdd, reduceLeDiff, t0]); (try with_reducible rfl)), by ((try simp only [simB0, ZA, reduceEqDiff, ↓reduceIte, reduceAdd, reduceLeDiff, t1]); (try with_reducible rfl)), by ((try simp only [simB0, ZA, reduceEqDiff, ↓reduceIte, reduceAdd, reduceLeDiff, t2]); (try with_reducible rfl)), by ((try simp only [simB0, ZA, reduceEqDiff, ↓reduceIte, reduceAdd, reduceLeDiff, tF]); (try with_reducible rfl)), by ((try simp only [simB0, ZA, reduceEqDiff, ↓reduceIte, reduceAdd, reduceLeDiff, t7]); (try with_reducible rfl)), by ((try simp only [simB0, ZA, reduceEqDiff, ↓reduceIte, reduceAdd, reduceLeDiff, t8]); (try with_reducible rfl)), rfl, rfl⟩
  clear t0 t1 t2 tF t7 t8
  rintro T _ _ ⟨t0, t1, t2, tF, t7, t8, rfl, rfl⟩
  obtain ⟨m, rfl⟩ : ∃ m, i = m + 1 := ⟨i - 1, by omega⟩
  have tj : ((m + 1 : Nat) : Int) - 1 = (m : Int) := by omega
  rw [Nat.add_sub_cancel] at hless
  obtain ⟨M1, hl1, lm1, lm2⟩ := swp_lput (f := f) (M := M0) (i := m + 1) (j := m) (by omega) (by omega)
  have lm3 := lm2
  simp only [lput, List.length_cons, List.length_nil, Nat.zero_add] at lm1 lm2
  refine w_seqC (fun T H'' nx'' => T 0 = .msl b n 1 0 n ∧ T 1 = .int .i64 a ∧ T 2 = .int .i64 e ∧ n = n ∧ T 7 = .int .i64 (m + 1 : Nat) ∧ T 8 = .int .i64 (jj : Nat) ∧ H'' = hupd H b ((swp M0 (m + 1) m).map f) ∧ nx = nx'') ?_ ?_
  · (have zz := aI @t0 (aI @t1 (aI @t2 (aI @tF (aI @t7 (aI @t8 (aI @Int.toNat_natCast (aI hc.cells (aI hc.one (aI @tj (aI @lm1 @lm2)))))))))); repeat' (first | apply w_ops1 | apply a_n | apply o_nil | refine vZ ?_ | refine stZ ?_ | fail)) <;> (try clear zz)
    exact ⟨by ((try simp only [simB0, ZA, reduceEqDiff, ↓reduceIte, reduceAdd, reduceLeDiff, t0]); (try with_reducible rfl)), by ((try simp only [simB0, ZA, reduceEqDiff, ↓reduceIte, reduceAdd, reduceLeDiff, t1]); (try with_reducible rfl)), by ((try simp only [simB0, ZA, reduceEqDiff, ↓reduceIte, reduceAdd, reduceLeDiff, t2]); (try with_reducible rfl)), by ((try simp only [simB0, ZA, reduceEqDiff, ↓reduceIte, reduceAdd, reduceLeDiff, tF]); (try with_reducible rfl)), by ((try simp only [simB0, ZA, reduceEqDiff, ↓reduceIte, reduceAdd, reduceLeDiff, t7]); (try with_reducible rfl)), by ((try simp only [simB0, ZA, reduceEqDiff, ↓reduceIte, reduceAdd, reduceLeDiff, t8]); (try with_reducible rfl)), by rw [hupd_two, hupd_two, lm3], rfl⟩
  clear t0 t1 t2 tF t7 t8
  have hp1 : PermR a e L (swp M0 (m + 1) m) := hp0.trans (PermR.swap (by omega) (by omega) (by omega))
  have hal := (AlmostR.start hs).step hc.ord (by omega) (Nat.le_refl _) (by omega) hless
  clear hs hless lm1 lm2 lm3 hl1 M1
  generalize swp M0 (m + 1) m = M2 at hp1 hal
  clear hp0 hGM hl
  rintro T _ _ ⟨t0, t1, t2, tF, t7, t8, rfl, rfl⟩
  refine w_seqC (fun T H'' nx'' => ∃ M : List α, PermR a e L M ∧ SortedR K a (m + 1) M ∧ T 0 = .msl b n 1 0 n ∧ T 1 = .int .i64 a ∧ T 2 = .int .i64 e ∧ n = n ∧ T 7 = .int .i64 (m + 1 : Nat) ∧ T 8 = .int .i64 (jj : Nat) ∧ H'' = hupd H b ((M).map f) ∧ nx = nx'') ?_ ?_
  · by_cases h2a : m = a
    · subst h2a
      have td : decide ((2 : Int) ≤ ((m + 1 : Nat) : Int) - (m : Int)) = false := decide_eq_false (by omega)
      (have zz := aI @t0 (aI @t1 (aI @t2 (aI @tF (aI @t7 (aI @t8 @td))))); repeat' (first | apply w_seq | apply w_ops0 | apply w_skip | apply a_n | apply o_nil | refine vZ ?_ | refine cFZ ?_ | fail)) <;> (try clear zz)
      exact ⟨M2, hp1, (hal.done hc.ord (.inl rfl)).mono (Nat.le_refl _) (by omega), by ((try simp only [simB0, ZA, reduceEqDiff, ↓reduceIte, reduceAdd, reduceLeDiff, t0]); (try with_reducible rfl)), by ((try simp only [simB0, ZA, reduceEqDiff, ↓reduceIte, reduceAdd, reduceLeDiff, t1]); (try with_reducible rfl)), by ((try simp only [simB0, ZA, reduceEqDiff, ↓reduceIte, reduceAdd, reduceLeDiff, t2]); (try with_reducible rfl)), by ((try simp only [simB0, ZA, reduceEqDiff, ↓reduceIte, reduceAdd, reduceLeDiff, tF]); (try with_reducible rfl)), by ((try simp only [simB0, ZA, reduceEqDiff, ↓reduceIte, reduceAdd, reduceLeDiff, t7]); (try with_reducible rfl)), by ((try simp only [simB0, ZA, reduceEqDiff, ↓reduceIte, reduceAdd, reduceLeDiff, t8]); (try with_reducible rfl)), rfl, rfl⟩
    have td : decide ((2 : Int) ≤ ((m + 1 : Nat) : Int) - (a : Int)) = true := decide_eq_true (by omega)
    (have zz := aI @t0 (aI @t1 (aI @t2 (aI @tF (aI @t7 (aI @t8 (aI @td @tj)))))); repeat' (first | apply w_seq | apply w_ops0 | apply w_block | apply a_n | apply o_nil | refine vZ ?_ | refine cTZ ?_ | apply w_loop | fail)) <;> (try clear zz)
    refine loopI (X := Nat × List α) (fun x => [(0, .msl b n 1 0 n), (1, .int .i64 a), (2, .int .i64 e), (7, .int .i64 (m + 1 : Nat)), (8, .int .i64 (jj : Nat)), (9, .int .i64 (x.1 : Nat))]) (fun x H' nxx => a ≤ x.1 ∧ x.1 ≤ m ∧ H' = hupd H b (x.2.map f) ∧ nx = nxx ∧ PermR a e L x.2 ∧ AlmostR K a (m + 1) x.1 x.2) (fun x => x.1) (m, M2) ⟨by dsimp only; omega, Nat.le_refl _, rfl, rfl, hp1, hal⟩ (by simp (disch := omega) only [agr, ZG, reduceEqDiff, ↓reduceIte, t0, t1, t2, tF, t7, t8]) ?_
    clear t0 t1 t2 tF t7 t8 hp1 hal M2
    rintro ⟨j, M⟩ H' nxx ⟨a1, a2, rfl, rfl, hp, hal⟩
    dsimp only at *
    have hl : M.length = n := by rw [hp.len, hn]
    have hGM := hp.mem hG
    rcases Nat.eq_zero_or_pos j with ej | ej
    · subst ej
      (have zz := and_self; repeat' (first | apply w_seq | apply w_ops0 | apply w_exit | apply a_n | apply a_x | apply o_nil | refine vZ ?_ | (refine cdZ ?_ ?_ <;> (intro _hg; (try simp only [ZB] at _hg); try first | exact absurd trivial _hg | (exfalso; omega))) | fail)) <;> (try clear zz)
      exact ⟨M, hp, (hal.done hc.ord (.inl (by omega))).mono (Nat.le_refl _) (by omega), rfl, rfl, rfl, rfl, rfl, rfl, rfl, rfl⟩
    obtain ⟨k, rfl⟩ : ∃ k, j = k + 1 := ⟨j - 1, by omega⟩
    have tk : ((k + 1 : Nat) : Int) - 1 = (k : Int) := by omega
    have lc := hc.run (M.getD (k + 1) default) (M.getD k default) (hGM _ (mem_getD (by omega))) (hGM _ (mem_getD (by omega)))
    have e1 := hc.dat (M.getD (k + 1) default)
    have e2 := hc.dat (M.getD k default)
    have hlw := hlow.perm hp (by omega) (by omega)
    generalize hKK : K (M.getD (k + 1) default) (M.getD k default) = kk at lc
    by_cases hlt : kk < 0
    · have hak : k + 1 ≠ a := fun h => by
        subst h
        have := hlw (k + 1) (by omega) (Nat.le_refl _) (by omega)
        rw [Nat.add_sub_cancel, hKK] at this
        exact this hlt
      obtain ⟨M1, hl1, lm1, lm2⟩ := swp_lput (f := f) (M := M) (i := k + 1) (j := k) (by omega) (by omega)
      have lm3 := lm2
      simp only [lput, List.length_cons, List.length_nil, Nat.zero_add] at lm1 lm2
      (have zz := aI @tk (aI @Int.toNat_natCast (aI hc.cells (aI hc.one (aI @lm1 @lm2)))); repeat' (first | apply w_seq | apply w_ops0 | apply w_ops1 | apply w_mixS1 | apply w_block | apply w_skip | apply a_n | apply o_nil | refine vZ ?_ | refine cZ ?_ (hp := lc) | refine stZ ?_ | (refine cdZ ?_ ?_ <;> (intro _hg; (try simp only [ZB] at _hg); try first | exact absurd trivial _hg | (exfalso; omega))) | fail)) <;> (try clear zz)
      exact ⟨(k, swp M (k + 1) k), by dsimp only; omega, ⟨by dsimp only; omega, by dsimp only; omega, by dsimp only; rw [hupd_two, hupd_two, lm3], rfl, hp.trans (PermR.swap (by omega) (by omega) (by omega)), hal.step hc.ord (by omega) (by omega) (by omega) (by rw [hKK]; exact hlt)⟩, by simp (disch := omega) only [agr, ZG, reduceEqDiff, ↓reduceIte, tk]⟩
    · have hd : k + 1 = a ∨ (a < k + 1 ∧ ¬ K (M.getD (k + 1) default) (M.getD (k + 1 - 1) default) < 0) := by
        by_cases h : k + 1 = a
        · exact .inl h
        · exact .inr ⟨by omega, by rw [Nat.add_sub_cancel, hKK]; exact hlt⟩
      (have zz := aI @tk (aI @Int.toNat_natCast (aI hc.cells hc.one)); repeat' (first | apply w_seq | apply w_ops0 | apply w_mixS1 | apply w_block | apply w_skip | apply w_exit | apply a_n | apply a_x | apply o_nil | refine vZ ?_ | refine cZ ?_ (hp := lc) | (refine cdZ ?_ ?_ <;> (intro _hg; (try simp only [ZB] at _hg); try first | exact absurd trivial _hg | (exfalso; omega))) | fail)) <;> (try clear zz)
      exact ⟨M, hp, (hal.done hc.ord hd).mono (Nat.le_refl _) (by omega), rfl, rfl, rfl, rfl, rfl, rfl, rfl, rfl⟩
  clear t0 t1 t2 tF t7 t8 hp1 hal M2
  rintro T _ _ ⟨M2, hp1, hs, t0, t1, t2, tF, t7, t8, rfl, rfl⟩
  by_cases h2a : m + 1 + 2 ≤ e
  rotate_left
  · have td : decide ((2 : Int) ≤ (e : Int) - ((m + 1 : Nat) : Int)) = false := decide_eq_false (by omega)
    (have zz := aI @t0 (aI @t1 (aI @t2 (aI @tF (aI @t7 (aI @t8 @td))))); repeat' (first | apply w_seq | apply w_ops0 | apply w_skip | apply a_n | apply o_nil | refine vZ ?_ | refine cFZ ?_ | fail)) <;> (try clear zz)
    exact ⟨m + 1, M2, h2, h3, hp1, hs, by ((try simp only [simB0, ZA, reduceEqDiff, ↓reduceIte, reduceAdd, reduceLeDiff, t0]); (try with_reducible rfl)), by ((try simp only [simB0, ZA, reduceEqDiff, ↓reduceIte, reduceAdd, reduceLeDiff, t1]); (try with_reducible rfl)), by ((try simp only [simB0, ZA, reduceEqDiff, ↓reduceIte, reduceAdd, reduceLeDiff, t2]); (try with_reducible rfl)), by ((try simp only [simB0, ZA, reduceEqDiff, ↓reduceIte, reduceAdd, reduceLeDiff, tF]); (try with_reducible rfl)), by ((try simp only [simB0, ZA, reduceEqDiff, ↓reduceIte, reduceAdd, reduceLeDiff, t7]); (try with_reducible rfl)), by ((try simp only [simB0, ZA, reduceEqDiff, ↓reduceIte, reduceAdd, reduceLeDiff, t8]); (try with_reducible rfl)), rfl, rfl⟩
  have td : decide ((2 : Int) ≤ (e : Int) - ((m + 1 : Nat) : Int)) = true := decide_eq_true (by omega)
  have tj2 : ((m + 1 : Nat) : Int) + 1 = ((m + 1 + 1 : Nat) : Int) := by omega
  (have zz := aI @t0 (aI @t1 (aI @t2 (aI @tF (aI @t7 (aI @t8 (aI @td @tj2)))))); repeat' (first | apply w_seq | apply w_ops0 | apply w_block | apply a_n | apply o_nil | refine vZ ?_ | refine cTZ ?_ | apply w_loop | fail)) <;> (try clear zz)
  refine loopI (X := Nat × List α) (fun x => [(0, .msl b n 1 0 n), (1, .int .i64 a), (2, .int .i64 e), (7, .int .i64 (m + 1 : Nat)), (8, .int .i64 (jj : Nat)), (10, .int .i64 (x.1 : Nat))]) (fun x H' nxx => m + 1 + 1 ≤ x.1 ∧ x.1 ≤ e ∧ H' = hupd H b (x.2.map f) ∧ nx = nxx ∧ PermR a e L x.2 ∧ SortedR K a (m + 1) x.2) (fun x => e - x.1) (m + 1 + 1, M2) ⟨Nat.le_refl _, by dsimp only; omega, rfl, rfl, hp1, hs⟩ (by simp (disch := omega) only [agr, ZG, reduceEqDiff, ↓reduceIte, t0, t1, t2, tF, t7, t8]) ?_
  clear t0 t1 t2 tF t7 t8 hp1 hs M2
  rintro ⟨j, M⟩ H' nxx ⟨a1, a2, rfl, rfl, hp, hs⟩
  dsimp only at *
  have hl : M.length = n := by rw [hp.len, hn]
  have hGM := hp.mem hG
  by_cases hje : j = e
  · subst hje
    (have zz := and_self; repeat' (first | apply w_seq | apply w_ops0 | apply w_exit | apply a_n | apply a_x | apply o_nil | refine vZ ?_ | (refine cdZ ?_ ?_ <;> (intro _hg; (try simp only [ZB] at _hg); try first | exact absurd trivial _hg | (exfalso; omega))) | fail)) <;> (try clear zz)
    exact ⟨m + 1, M, h2, h3, hp, hs, rfl, rfl, rfl, rfl, rfl, rfl, rfl, rfl⟩
  obtain ⟨k, rfl⟩ : ∃ k, j = k + 1 := ⟨j - 1, by omega⟩
  have tk : ((k + 1 : Nat) : Int) - 1 = (k : Int) := by omega
  have lc := hc.run (M.getD (k + 1) default) (M.getD k default) (hGM _ (mem_getD (by omega))) (hGM _ (mem_getD (by omega)))
  have e1 := hc.dat (M.getD (k + 1) default)
  have e2 := hc.dat (M.getD k default)
  generalize hKK : K (M.getD (k + 1) default) (M.getD k default) = kk at lc
  by_cases hlt : kk < 0
  · obtain ⟨M1, hl1, lm1, lm2⟩ := swp_lput (f := f) (M := M) (i := k + 1) (j := k) (by omega) (by omega)
    have lm3 := lm2
    simp only [lput, List.length_cons, List.length_nil, Nat.zero_add] at lm1 lm2
    (have zz := aI @tk (aI @Int.toNat_natCast (aI hc.cells (aI hc.one (aI @lm1 @lm2)))); repeat' (first | apply w_seq | apply w_ops0 | apply w_ops1 | apply w_mixS1 | apply w_block | apply w_skip | apply a_n | apply o_nil | refine vZ ?_ | refine cZ ?_ (hp := lc) | refine stZ ?_ | (refine cdZ ?_ ?_ <;> (intro _hg; (try simp only [ZB] at _hg); try first | exact absurd trivial _hg | (exfalso; omega))) | fail)) <;> (try clear zz)
    exact ⟨(k + 1 + 1, swp M (k + 1) k), by dsimp only; omega, ⟨by dsimp only; omega, by dsimp only; omega, by dsimp only; rw [hupd_two, hupd_two, lm3], rfl, hp.trans (PermR.swap (by omega) (by omega) (by omega)), hs.out (e := e) (PermR.swap (by omega) (by omega) (by omega))⟩, by simp (disch := omega) only [agr, ZG, reduceEqDiff, ↓reduceIte]⟩
  · (have zz := aI @tk (aI @Int.toNat_natCast (aI hc.cells hc.one)); repeat' (first | apply w_seq | apply w_ops0 | apply w_mixS1 | apply w_block | apply w_skip | apply w_exit | apply a_n | apply a_x | apply o_nil | refine vZ ?_ | refine cZ ?_ (hp := lc) | (refine cdZ ?_ ?_ <;> (intro _hg; (try simp only [ZB] at _hg); try first | exact absurd trivial _hg | (exfalso; omega))) | fail)) <;> (try clear zz)
    exact ⟨m + 1, M, h2, h3, hp, hs, rfl, rfl, rfl, rfl, rfl, rfl, rfl, rfl⟩
end
end Go.Proofs.YtbiikomnhkbblaaGreat

/- U8o: contracts of functions and plain laws; for all inputs that the theorems name. -/
namespace Go.Proofs.YtbiikomnhkbblaaGreat
open Go Go.Abs
open Nat (reduceEqDiff reduceAdd reduceLeDiff)
section
variable {α : Type} [Inhabited α] {f : α → AV} {K : α → α → Int} {G : α → Prop}
attribute [local irreducible] awp2 aops2 ains aloop athen bbind obind gbind acond res1 Go.Abs.Fn PCall Go.Abs.Pure SnapArgs SnapL Yl
theorem parteq_o (hc : CmpO Tryz.prog f K G) {L : List α} {H : Hp} {b nx n a e pv : Nat} (hH : H b = some (L.map f)) (hn : L.length = n) (hG : ∀ x ∈ L, G x) (hae : a < e) (hen : e ≤ n) (hn2 : n ≤ 1000000000) (hpv : a ≤ pv ∧ pv < e) :
    Abs.Fn Tryz.prog 106 [.msl b n 1 0 n, .int .i64 a, .int .i64 e, .int .i64 pv] H nx fun r H' nx' => nx' = nx ∧ ∃ (L' : List α) (m : Nat), r = .int .i64 m ∧ a < m ∧ m ≤ e ∧ H' = hupd H b (L'.map f) ∧ PermR a e L L' ∧ (∀ p, a ≤ p → p < m → ¬ K (L.getD pv default) (L'.getD p default) < 0) ∧ (∀ q, m ≤ q → q < e → K (L.getD pv default) (L'.getD q default) < 0) := by
  obtain ⟨v, hv0⟩ : ∃ v, L.getD pv default = v := ⟨_, rfl⟩
  rw [hv0]
  obtain ⟨P, hP⟩ : ∃ P : α → Prop, ∀ x, P x ↔ ¬ K v x < 0 := ⟨_, fun _ => Iff.rfl⟩
  obtain ⟨N, hN⟩ : ∃ N, swp L a pv = N := ⟨_, rfl⟩
  have hp1 : PermR a e L N := hN ▸ PermR.swap (by omega) (by omega) (by omega)
  have hv1 : N.getD a default = v := by
    rw [← hN, swp_get (by omega) (by omega), ← hv0]
    split
    · rename_i h; rw [h]
    · rw [if_pos rfl]
  obtain ⟨M1, hl1, lm1, lm2⟩ := swp_lput (f := f) (M := L) (i := a) (j := pv) (by omega) (by omega)
  rw [hN] at lm2
  have lm3 := lm2
  simp only [lput, List.length_cons, List.length_nil, Nat.zero_add] at lm1 lm2
  obtain ⟨m, hm⟩ : ∃ m, e = m + 1 := ⟨e - 1, by omega⟩
  have te : (e : Int) - 1 = (m : Int) := by omega
  have ta : ((a : Nat) : Int) + 1 = ((a + 1 : Nat) : Int) := by omega
  refine Abs.Fn.of_c2 follows is106 (Nat.le_of_ble_eq_true rfl) ?_
  simp only [b106, cO, cG, cN, cM, cD, cF, cB, cFal, cTru]
  (have zz := aI @hH (aI @te (aI @ta (aI @Int.toNat_natCast (aI hc.cells (aI hc.one (aI @lm1 @lm2)))))); repeat' (first | apply w_seq | apply w_ops0 | apply w_ops1 | apply w_block | apply a_n | apply o_nil | refine vZ ?_ | refine stZ ?_ | apply w_loop | fail)) <;> (try clear zz)
  refine loopI (X := Nat × Nat × List α) (fun x => [(0, .msl b n 1 0 n), (1, .int .i64 a), (9, .int .i64 (x.1 : Nat)), (10, .int .i64 (x.2.1 : Nat))]) (fun x H' nxx => PartR P a e (x.2.1 + 1 - x.1) x.1 x.2.1 x.2.2 ∧ H' = hupd H b (x.2.2.map f) ∧ nx = nxx ∧ PermR a e L x.2.2 ∧ x.2.2.getD a default = v) (fun x => x.2.1 + 1 - x.1) (a + 1, m, N) ⟨by dsimp only; rw [hm]; exact .start (by omega), by dsimp only; rw [hupd_two, lm3], rfl, hp1, hv1⟩ (by simp (disch := omega) only [agr, ZG, reduceEqDiff, ↓reduceIte]) ?_
  clear lm1 lm2 lm3 hl1 M1 hp1 hv1 hN N te ta hm m
  rintro ⟨i, j, M⟩ H' nxx ⟨hpt, rfl, rfl, hp, hv⟩
  dsimp only at *
  have hl : M.length = n := by rw [hp.len, hn]
  have hGM := hp.mem hG
  generalize hmu : j + 1 - i = mu at hpt ⊢
  clear hmu
  obtain ⟨T, hT, t0, t1, tF, t9, t10⟩ : ∃ T, tl [(0, .msl b n 1 0 n), (1, .int .i64 a), (9, .int .i64 (i : Nat)), (10, .int .i64 (j : Nat))] = T ∧ T 0 = .msl b n 1 0 n ∧ T 1 = .int .i64 a ∧ n = n ∧ T 9 = .int .i64 (i : Nat) ∧ T 10 = .int .i64 (j : Nat) := ⟨_, rfl, rfl, rfl, rfl, rfl, rfl⟩
  rw [hT]
  clear hT
  refine w_block ?_
  refine w_seqC (fun T H'' nx'' => ∃ i : Nat, PartR P a e mu i j M ∧ (i ≤ j → ¬ P (M.getD i default)) ∧ T 0 = .msl b n 1 0 n ∧ T 1 = .int .i64 a ∧ n = n ∧ T 9 = .int .i64 (i : Nat) ∧ T 10 = .int .i64 (j : Nat) ∧ H'' = hupd H b ((M).map f) ∧ nx = nx'') ?_ ?_
  · (have zz := aI @t0 (aI @t1 (aI @tF (aI @t9 @t10))); repeat' (first | apply w_block | apply w_loop | fail)) <;> (try clear zz)
    refine loopI (X := Nat) (fun i => [(0, .msl b n 1 0 n), (1, .int .i64 a), (9, .int .i64 (i : Nat)), (10, .int .i64 (j : Nat))]) (fun i H' nxx => PartR P a e mu i j M ∧ H' = hupd H b (M.map f) ∧ nx = nxx) (fun i => j + 1 - i) i ⟨hpt, rfl, rfl⟩ (by simp (disch := omega) only [agr, ZG, reduceEqDiff, ↓reduceIte, t0, t1, tF, t9, t10]) ?_
    clear t0 t1 tF t9 t10 hpt i
    rintro i H' nxx ⟨hpt, rfl, rfl⟩
    have hlo := hpt.lo; have hmid := hpt.mid; have hhi := hpt.hi
    have ii : ((i : Nat) : Int) + 1 = ((i + 1 : Nat) : Int) := by omega
    by_cases hij : j < i
    · (have zz := and_self; repeat' (first | apply w_seq | apply w_mixS1 | apply w_exit | apply a_n | apply a_x | apply o_nil | refine vZ ?_ | refine gFZ ?_ | (refine gBZ ?_ ?_ <;> (intro _hg; (try simp only [ZB] at _hg); try first | exact absurd trivial _hg | (exfalso; omega))) | refine cFZ ?_ | fail)) <;> (try clear zz)
      exact ⟨i, hpt, fun h => absurd h (by omega), rfl, rfl, rfl, rfl, rfl, rfl, rfl⟩
    have lc := hc.run (M.getD (a) default) (M.getD (i) default) (hGM _ (mem_getD (by omega))) (hGM _ (mem_getD (by omega)))
    have e1 := hc.dat (M.getD (a) default)
    have e2 := hc.dat (M.getD (i) default)
    have hPk : P (M.getD (i) default) ↔ ¬ K (M.getD (a) default) (M.getD (i) default) < 0 := by rw [hP, hv]
    generalize hKK : K (M.getD (a) default) (M.getD (i) default) = kk at lc hPk
    by_cases hlt : kk < 0
    · (have zz := aI @ii (aI @Int.toNat_natCast (aI hc.cells hc.one)); repeat' (first | apply w_seq | apply w_mixS1 | apply w_exit | apply a_n | apply a_x | apply o_nil | refine vZ ?_ | refine cZ ?_ (hp := lc) | refine gTZ ?_ | ((first | refine gBZ ?_ ?_ | refine cdZ ?_ ?_) <;> (intro _hg; (try simp only [ZB] at _hg); try first | exact absurd trivial _hg | (exfalso; omega))) | fail)) <;> (try clear zz)
      exact ⟨i, hpt, fun _ => (by rw [hPk]; first | exact hlt | exact fun h => h hlt), rfl, rfl, rfl, rfl, rfl, rfl, rfl⟩
    · (have zz := aI @ii (aI @Int.toNat_natCast (aI hc.cells hc.one)); repeat' (first | apply w_seq | apply w_ops0 | apply w_mixS1 | apply w_block | apply w_skip | apply a_n | apply o_nil | refine vZ ?_ | refine cZ ?_ (hp := lc) | refine gTZ ?_ | ((first | refine gBZ ?_ ?_ | refine cdZ ?_ ?_) <;> (intro _hg; (try simp only [ZB] at _hg); try first | exact absurd trivial _hg | (exfalso; omega))) | fail)) <;> (try clear zz)
      exact ⟨i + 1, by omega, ⟨hpt.stepUp (by omega) (by rw [hPk]; exact hlt), rfl, rfl⟩, by simp (disch := omega) only [agr, ZG, reduceEqDiff, ↓reduceIte]⟩
  clear t0 t1 tF t9 t10 hpt i
  rintro T _ _ ⟨i, hpt, hni, t0, t1, tF, t9, t10, rfl, rfl⟩
  refine w_seqC (fun T H'' nx'' => ∃ j : Nat, PartR P a e mu i j M ∧ (i ≤ j → ¬ P (M.getD i default)) ∧ (i ≤ j → P (M.getD j default)) ∧ T 0 = .msl b n 1 0 n ∧ T 1 = .int .i64 a ∧ n = n ∧ T 9 = .int .i64 (i : Nat) ∧ T 10 = .int .i64 (j : Nat) ∧ H'' = hupd H b ((M).map f) ∧ nx = nx'') ?_ ?_
  · (have zz := aI @t0 (aI @t1 (aI @tF (aI @t9 @t10))); repeat' (first | apply w_block | apply w_loop | fail)) <;> (try clear zz)
    refine loopI (X := Nat) (fun j => [(0, .msl b n 1 0 n), (1, .int .i64 a), (9, .int .i64 (i : Nat)), (10, .int .i64 (j : Nat))]) (fun j H' nxx => PartR P a e mu i j M ∧ (i ≤ j → ¬ P (M.getD i default)) ∧ H' = hupd H b (M.map f) ∧ nx = nxx) (fun j => j) j ⟨hpt, hni, rfl, rfl⟩ (by simp (disch := omega) only [agr, ZG, reduceEqDiff, ↓reduceIte, t0, t1, tF, t9, t10]) ?_
    clear t0 t1 tF t9 t10 hpt hni j
    rintro j H' nxx ⟨hpt, hni, rfl, rfl⟩
    have hlo := hpt.lo; have hmid := hpt.mid; have hhi := hpt.hi
    by_cases hij : j < i
    · (have zz := and_self; repeat' (first | apply w_seq | apply w_mixS1 | apply w_exit | apply a_n | apply a_x | apply o_nil | refine vZ ?_ | refine gFZ ?_ | (refine gBZ ?_ ?_ <;> (intro _hg; (try simp only [ZB] at _hg); try first | exact absurd trivial _hg | (exfalso; omega))) | refine cFZ ?_ | fail)) <;> (try clear zz)
      exact ⟨j, hpt, hni, fun h => absurd h (by omega), rfl, rfl, rfl, rfl, rfl, rfl, rfl⟩
    obtain ⟨k, rfl⟩ : ∃ k, j = k + 1 := ⟨j - 1, by omega⟩
    have tk : ((k + 1 : Nat) : Int) - 1 = (k : Int) := by omega
    have lc := hc.run (M.getD (a) default) (M.getD (k + 1) default) (hGM _ (mem_getD (by omega))) (hGM _ (mem_getD (by omega)))
    have e1 := hc.dat (M.getD (a) default)
    have e2 := hc.dat (M.getD (k + 1) default)
    have hPk : P (M.getD (k + 1) default) ↔ ¬ K (M.getD (a) default) (M.getD (k + 1) default) < 0 := by rw [hP, hv]
    generalize hKK : K (M.getD (a) default) (M.getD (k + 1) default) = kk at lc hPk
    by_cases hlt : kk < 0
    · (have zz := aI @tk (aI @Int.toNat_natCast (aI hc.cells hc.one)); repeat' (first | apply w_seq | apply w_ops0 | apply w_mixS1 | apply w_block | apply w_skip | apply a_n | apply o_nil | refine vZ ?_ | refine cZ ?_ (hp := lc) | refine gTZ ?_ | ((first | refine gBZ ?_ ?_ | refine cdZ ?_ ?_) <;> (intro _hg; (try simp only [ZB] at _hg); try first | exact absurd trivial _hg | (exfalso; omega))) | fail)) <;> (try clear zz)
      exact ⟨k, by omega, ⟨hpt.stepDn (by omega) (by rw [hPk]; first | exact hlt | exact fun h => h hlt), fun _ => hni (by omega), rfl, rfl⟩, by simp (disch := omega) only [agr, ZG, reduceEqDiff, ↓reduceIte]⟩
    · (have zz := aI @tk (aI @Int.toNat_natCast (aI hc.cells hc.one)); repeat' (first | apply w_seq | apply w_mixS1 | apply w_exit | apply a_n | apply a_x | apply o_nil | refine vZ ?_ | refine cZ ?_ (hp := lc) | refine gTZ ?_ | ((first | refine gBZ ?_ ?_ | refine cdZ ?_ ?_) <;> (intro _hg; (try simp only [ZB] at _hg); try first | exact absurd trivial _hg | (exfalso; omega))) | fail)) <;> (try clear zz)
      exact ⟨k + 1, hpt, hni, fun _ => (by rw [hPk]; exact hlt), rfl, rfl, rfl, rfl, rfl, rfl, rfl⟩
  clear t0 t1 tF t9 t10 hpt hni j
  rintro T _ _ ⟨j, hpt, hni, hnj, t0, t1, tF, t9, t10, rfl, rfl⟩
  have hlo := hpt.lo; have hmid := hpt.mid; have hhi := hpt.hi
  by_cases hji : j < i
  · (have zz := aI @t0 (aI @t1 (aI @tF (aI @t9 @t10))); repeat' (first | apply w_seq | apply w_ops0 | apply w_exit | apply w_ret | apply a_n | apply a_x | apply o_nil | refine vZ ?_ | (refine cdZ ?_ ?_ <;> (intro _hg; (try simp only [ZB] at _hg); try first | exact absurd trivial _hg | (exfalso; omega))) | refine e_ends rfl ?_ | refine r1Z ?_ | fail)) <;> (try clear zz)
    refine ⟨rfl, M, i, rfl, by omega, by omega, rfl, hp, fun p h1 h2 => ?_, fun q h1 h2 => by have := hpt.dn q (by omega) h2; rw [hP] at this; exact Decidable.of_not_not this⟩
    by_cases ep : p = a
    · rw [ep, hv]; exact hc.ord.irr _
    · exact (hP _).1 (hpt.up p (by omega) h2)
  obtain ⟨k, rfl⟩ : ∃ k, j = k + 1 := ⟨j - 1, by omega⟩
  have tk : ((k + 1 : Nat) : Int) - 1 = (k : Int) := by omega
  have ii : ((i : Nat) : Int) + 1 = ((i + 1 : Nat) : Int) := by omega
  obtain ⟨M1, hl1, lm1, lm2⟩ := swp_lput (f := f) (M := M) (i := i) (j := k + 1) (by omega) (by omega)
  have lm3 := lm2
  simp only [lput, List.length_cons, List.length_nil, Nat.zero_add] at lm1 lm2
  (have zz := aI @t0 (aI @t1 (aI @tF (aI @t9 (aI @t10 (aI @tk (aI @ii (aI @Int.toNat_natCast (aI hc.cells (aI hc.one (aI @lm1 @lm2)))))))))); repeat' (first | apply w_seq | apply w_ops0 | apply w_ops1 | apply w_skip | apply a_n | apply o_nil | refine vZ ?_ | refine stZ ?_ | (refine cdZ ?_ ?_ <;> (intro _hg; (try simp only [ZB] at _hg); try first | exact absurd trivial _hg | (exfalso; omega))) | fail)) <;> (try clear zz)
  obtain ⟨hq1, hq2⟩ := hpt.swap (by omega) (by omega) (hni (by omega)) (hnj (by omega))
  exact ⟨(i + 1, k, swp M i (k + 1)), hq2, ⟨hq1, by dsimp only; rw [hupd_two, hupd_two, lm3], rfl, hp.trans (PermR.swap (by omega) (by omega) (by omega)), by dsimp only; rw [swp_keep (by omega) (by omega) (by omega) (by omega)]; exact hv⟩, by simp (disch := omega) only [agr, ZG, reduceEqDiff, ↓reduceIte, t0, t1, tF, t9, t10]⟩

theorem part_o (hc : CmpO Tryz.prog f K G) {L : List α} {H : Hp} {b nx n a e pv : Nat} (hH : H b = some (L.map f)) (hn : L.length = n) (hG : ∀ x ∈ L, G x) (hae : a < e) (hen : e ≤ n) (hn2 : n ≤ 1000000000) (hpv : a ≤ pv ∧ pv < e) :
    Abs.Fn Tryz.prog 107 [.msl b n 1 0 n, .int .i64 a, .int .i64 e, .int .i64 pv] H nx fun r H' nx' => nx' = nx ∧ ∃ (L' : List α) (m : Nat) (t : Bool), r = .tup [.int .i64 m, .bool t] ∧ a ≤ m ∧ m < e ∧ H' = hupd H b (L'.map f) ∧ PermR a e L L' ∧ (∀ p, a ≤ p → p < m → K (L'.getD p default) (L'.getD m default) < 0) ∧ (∀ q, m < q → q < e → ¬ K (L'.getD q default) (L'.getD m default) < 0) := by
  obtain ⟨v, hv0⟩ : ∃ v, L.getD pv default = v := ⟨_, rfl⟩
  obtain ⟨P, hP⟩ : ∃ P : α → Prop, ∀ x, P x ↔ K x v < 0 := ⟨_, fun _ => Iff.rfl⟩
  obtain ⟨M, hN⟩ : ∃ N, swp L a pv = N := ⟨_, rfl⟩
  have hp : PermR a e L M := hN ▸ PermR.swap (by omega) (by omega) (by omega)
  have hv : M.getD a default = v := by
    rw [← hN, swp_get (by omega) (by omega), ← hv0]
    split
    · rename_i h; rw [h]
    · rw [if_pos rfl]
  obtain ⟨M1, hl1, lm1, lm2⟩ := swp_lput (f := f) (M := L) (i := a) (j := pv) (by omega) (by omega)
  rw [hN] at lm2
  have lm3 := lm2
  simp only [lput, List.length_cons, List.length_nil, Nat.zero_add] at lm1 lm2
  obtain ⟨m, hm⟩ : ∃ m, e = m + 1 := ⟨e - 1, by omega⟩
  have te : (e : Int) - 1 = (m : Int) := by omega
  have ta : ((a : Nat) : Int) + 1 = ((a + 1 : Nat) : Int) := by omega
  refine Abs.Fn.of_c2 follows is107 (Nat.le_of_ble_eq_true rfl) ?_
  simp only [b107, cO, cG, cN, cM, cD, cF, cB, cFal, cTru]
  refine w_seqC (fun T H'' nx'' => T 0 = .msl b n 1 0 n ∧ T 1 = .int .i64 a ∧ T 2 = .int .i64 e ∧ T 3 = .int .i64 pv ∧ n = n ∧ H = H'' ∧ nx = nx'') ?_ ?_
  · (have zz := and_self; repeat' (first | apply w_ops0 | apply a_n | apply o_nil | refine vZ ?_ | fail)) <;> (try clear zz)
    exact ⟨rfl, rfl, rfl, rfl, rfl, rfl, rfl⟩
  rintro T _ _ ⟨t0, t1, t2, t3, tF, rfl, rfl⟩
  refine w_seqC (fun T H'' nx'' => T 0 = .msl b n 1 0 n ∧ T 1 = .int .i64 a ∧ T 2 = .int .i64 e ∧ T 3 = .int .i64 pv ∧ n = n ∧ H'' = hupd H b (M.map f) ∧ nx = nx'') ?_ ?_
  · (have zz := aI @t0 (aI @t1 (aI @t2 (aI @t3 (aI @tF (aI @hH (aI @Int.toNat_natCast (aI hc.cells (aI hc.one (aI @lm1 @lm2))))))))); repeat' (first | apply w_ops1 | apply a_n | apply o_nil | refine vZ ?_ | refine stZ ?_ | fail)) <;> (try clear zz)
    exact ⟨by ((try simp only [simB0, ZA, reduceEqDiff, ↓reduceIte, reduceAdd, reduceLeDiff, t0]); (try with_reducible rfl)), by ((try simp only [simB0, ZA, reduceEqDiff, ↓reduceIte, reduceAdd, reduceLeDiff, t1]); (try with_reducible rfl)), by ((try simp only [simB0, ZA, reduceEqDiff, ↓reduceIte, reduceAdd, reduceLeDiff, t2]); (try with_reducible rfl)), by ((try simp only [simB0, ZA, reduceEqDiff, ↓reduceIte, reduceAdd, reduceLeDiff, t3]); (try with_reducible rfl)), by ((try simp only [simB0, ZA, reduceEqDiff, ↓reduceIte, reduceAdd, reduceLeDiff, tF]); (try with_reducible rfl)), by rw [hupd_two, lm3], rfl⟩
  clear t0 t1 t2 t3 tF lm1 lm2 lm3 hl1 M1 hN
  rintro T _ _ ⟨t0, t1, t2, t3, tF, rfl, rfl⟩
  refine w_seqC (fun T H'' nx'' => ∃ mu i j : Nat, PartR P a e mu i j M ∧ T 0 = .msl b n 1 0 n ∧ T 1 = .int .i64 a ∧ n = n ∧ T 10 = .int .i64 (i : Nat) ∧ T 11 = .int .i64 (j : Nat) ∧ H'' = hupd H b ((M).map f) ∧ nx = nx'') ?_ ?_
  · (have zz := aI @t0 (aI @t1 (aI @t2 (aI @t3 (aI @tF (aI @ta @te))))); repeat' (first | apply w_ops0 | apply a_n | apply o_nil | refine vZ ?_ | fail)) <;> (try clear zz)
    exact ⟨_, a + 1, m, by rw [hm]; exact .start (by omega), by ((try simp only [simB0, ZA, reduceEqDiff, ↓reduceIte, reduceAdd, reduceLeDiff, t0]); (try with_reducible rfl)), by ((try simp only [simB0, ZA, reduceEqDiff, ↓reduceIte, reduceAdd, reduceLeDiff, t1]); (try with_reducible rfl)), by ((try simp only [simB0, ZA, reduceEqDiff, ↓reduceIte, reduceAdd, reduceLeDiff, tF]); (try with_reducible rfl)), by ((try simp only [simB0, ZA, reduceEqDiff, ↓reduceIte, reduceAdd, reduceLeDiff]); (try with_reducible rfl)), by ((try simp only [simB0, ZA, reduceEqDiff, ↓reduceIte, reduceAdd, reduceLeDiff]); (try with_reducible rfl)), rfl, rfl⟩
  clear t0 t1 t2 t3 tF ta te hm m
  rintro T _ _ ⟨mu, i, j, hpt, t0, t1, tF, t10, t11, rfl, rfl⟩
  have hl : M.length = n := by rw [hp.len, hn]
  have hGM := hp.mem hG
  refine w_seqC (fun T H'' nx'' => ∃ i : Nat, PartR P a e mu i j M ∧ (i ≤ j → ¬ P (M.getD i default)) ∧ T 0 = .msl b n 1 0 n ∧ T 1 = .int .i64 a ∧ n = n ∧ T 10 = .int .i64 (i : Nat) ∧ T 11 = .int .i64 (j : Nat) ∧ H'' = hupd H b ((M).map f) ∧ nx = nx'') ?_ ?_
  · (have zz := aI @t0 (aI @t1 (aI @tF (aI @t10 @t11))); repeat' (first | apply w_block | apply w_loop | fail)) <;> (try clear zz)
    refine loopI (X := Nat) (fun i => [(0, .msl b n 1 0 n), (1, .int .i64 a), (10, .int .i64 (i : Nat)), (11, .int .i64 (j : Nat))]) (fun i H' nxx => PartR P a e mu i j M ∧ H' = hupd H b (M.map f) ∧ nx = nxx) (fun i => j + 1 - i) i ⟨hpt, rfl, rfl⟩ (by simp (disch := omega) only [agr, ZG, reduceEqDiff, ↓reduceIte, t0, t1, tF, t10, t11]) ?_
    clear t0 t1 tF t10 t11 hpt i
    rintro i H' nxx ⟨hpt, rfl, rfl⟩
    have hlo := hpt.lo; have hmid := hpt.mid; have hhi := hpt.hi
    have ii : ((i : Nat) : Int) + 1 = ((i + 1 : Nat) : Int) := by omega
    by_cases hij : j < i
    · (have zz := and_self; repeat' (first | apply w_seq | apply w_mixS1 | apply w_exit | apply a_n | apply a_x | apply o_nil | refine vZ ?_ | refine gFZ ?_ | (refine gBZ ?_ ?_ <;> (intro _hg; (try simp only [ZB] at _hg); try first | exact absurd trivial _hg | (exfalso; omega))) | refine cFZ ?_ | fail)) <;> (try clear zz)
      exact ⟨i, hpt, fun h => absurd h (by omega), rfl, rfl, rfl, rfl, rfl, rfl, rfl⟩
    have lc := hc.run (M.getD (i) default) (M.getD (a) default) (hGM _ (mem_getD (by omega))) (hGM _ (mem_getD (by omega)))
    have e1 := hc.dat (M.getD (i) default)
    have e2 := hc.dat (M.getD (a) default)
    have hPk : P (M.getD (i) default) ↔ K (M.getD (i) default) (M.getD (a) default) < 0 := by rw [hP, hv]
    generalize hKK : K (M.getD (i) default) (M.getD (a) default) = kk at lc hPk
    by_cases hlt : kk < 0
    · (have zz := aI @ii (aI @Int.toNat_natCast (aI hc.cells hc.one)); repeat' (first | apply w_seq | apply w_ops0 | apply w_mixS1 | apply w_block | apply w_skip | apply a_n | apply o_nil | refine vZ ?_ | refine cZ ?_ (hp := lc) | refine gTZ ?_ | ((first | refine gBZ ?_ ?_ | refine cdZ ?_ ?_) <;> (intro _hg; (try simp only [ZB] at _hg); try first | exact absurd trivial _hg | (exfalso; omega))) | fail)) <;> (try clear zz)
      exact ⟨i + 1, by omega, ⟨hpt.stepUp (by omega) (by rw [hPk]; exact hlt), rfl, rfl⟩, by simp (disch := omega) only [agr, ZG, reduceEqDiff, ↓reduceIte]⟩
    · (have zz := aI @ii (aI @Int.toNat_natCast (aI hc.cells hc.one)); repeat' (first | apply w_seq | apply w_mixS1 | apply w_exit | apply a_n | apply a_x | apply o_nil | refine vZ ?_ | refine cZ ?_ (hp := lc) | refine gTZ ?_ | ((first | refine gBZ ?_ ?_ | refine cdZ ?_ ?_) <;> (intro _hg; (try simp only [ZB] at _hg); try first | exact absurd trivial _hg | (exfalso; omega))) | fail)) <;> (try clear zz)
      exact ⟨i, hpt, fun _ => (by rw [hPk]; first | exact hlt | exact fun h => h hlt), rfl, rfl, rfl, rfl, rfl, rfl, rfl⟩
  clear t0 t1 tF t10 t11 hpt i
  rintro T _ _ ⟨i, hpt, hni, t0, t1, tF, t10, t11, rfl, rfl⟩
  refine w_seqC (fun T H'' nx'' => ∃ j : Nat, PartR P a e mu i j M ∧ (i ≤ j → ¬ P (M.getD i default)) ∧ (i ≤ j → P (M.getD j default)) ∧ T 0 = .msl b n 1 0 n ∧ T 1 = .int .i64 a ∧ n = n ∧ T 10 = .int .i64 (i : Nat) ∧ T 11 = .int .i64 (j : Nat) ∧ H'' = hupd H b ((M).map f) ∧ nx = nx'') ?_ ?_
  · (have zz := aI @t0 (aI @t1 (aI @tF (aI @t10 @t11))); repeat' (first | apply w_block | apply w_loop | fail)) <;> (try clear zz)
    refine loopI (X := Nat) (fun j => [(0, .msl b n 1 0 n), (1, .int .i64 a), (10, .int .i64 (i : Nat)), (11, .int .i64 (j : Nat))]) (fun j H' nxx => PartR P a e mu i j M ∧ (i ≤ j → ¬ P (M.getD i default)) ∧ H' = hupd H b (M.map f) ∧ nx = nxx) (fun j => j) j ⟨hpt, hni, rfl, rfl⟩ (by simp (disch := omega) only [agr, ZG, reduceEqDiff, ↓reduceIte, t0, t1, tF, t10, t11]) ?_
    clear t0 t1 tF t10 t11 hpt hni j
    rintro j H' nxx ⟨hpt, hni, rfl, rfl⟩
    have hlo := hpt.lo; have hmid := hpt.mid; have hhi := hpt.hi
    by_cases hij : j < i
    · (have zz := and_self; repeat' (first | apply w_seq | apply w_mixS1 | apply w_exit | apply a_n | apply a_x | apply o_nil | refine vZ ?_ | refine gFZ ?_ | (refine gBZ ?_ ?_ <;> (intro _hg; (try simp only [ZB] at _hg); try first | exact absurd trivial _hg | (exfalso; omega))) | refine cFZ ?_ | fail)) <;> (try clear zz)
      exact ⟨j, hpt, hni, fun h => absurd h (by omega), rfl, rfl, rfl, rfl, rfl, rfl, rfl⟩
    obtain ⟨k, rfl⟩ : ∃ k, j = k + 1 := ⟨j - 1, by omega⟩
    have tk : ((k + 1 : Nat) : Int) - 1 = (k : Int) := by omega
    have lc := hc.run (M.getD (k + 1) default) (M.getD (a) default) (hGM _ (mem_getD (by omega))) (hGM _ (mem_getD (by omega)))
    have e1 := hc.dat (M.getD (k + 1) default)
    have e2 := hc.dat (M.getD (a) default)
    have hPk : P (M.getD (k + 1) default) ↔ K (M.getD (k + 1) default) (M.getD (a) default) < 0 := by rw [hP, hv]
    generalize hKK : K (M.getD (k + 1) default) (M.getD (a) default) = kk at lc hPk
    by_cases hlt : kk < 0
    · (have zz := aI @tk (aI @Int.toNat_natCast (aI hc.cells hc.one)); repeat' (first | apply w_seq | apply w_mixS1 | apply w_exit | apply a_n | apply a_x | apply o_nil | refine vZ ?_ | refine cZ ?_ (hp := lc) | refine gTZ ?_ | ((first | refine gBZ ?_ ?_ | refine cdZ ?_ ?_) <;> (intro _hg; (try simp only [ZB] at _hg); try first | exact absurd trivial _hg | (exfalso; omega))) | fail)) <;> (try clear zz)
      exact ⟨k + 1, hpt, hni, fun _ => (by rw [hPk]; exact hlt), rfl, rfl, rfl, rfl, rfl, rfl, rfl⟩
    · (have zz := aI @tk (aI @Int.toNat_natCast (aI hc.cells hc.one)); repeat' (first | apply w_seq | apply w_ops0 | apply w_mixS1 | apply w_block | apply w_skip | apply a_n | apply o_nil | refine vZ ?_ | refine cZ ?_ (hp := lc) | refine gTZ ?_ | ((first | refine gBZ ?_ ?_ | refine cdZ ?_ ?_) <;> (intro _hg; (try simp only [ZB] at _hg); try first | exact absurd trivial _hg | (exfalso; omega))) | fail)) <;> (try clear zz)
      exact ⟨k, by omega, ⟨hpt.stepDn (by omega) (by rw [hPk]; first | exact hlt | exact fun h => h hlt), fun _ => hni (by omega), rfl, rfl⟩, by simp (disch := omega) only [agr, ZG, reduceEqDiff, ↓reduceIte]⟩
  clear t0 t1 tF t10 t11 hpt hni j
  rintro T _ _ ⟨j, hpt, hni, hnj, t0, t1, tF, t10, t11, rfl, rfl⟩
  have hlo := hpt.lo; have hmid := hpt.mid; have hhi := hpt.hi
  by_cases hji : j < i
  · clear hni hnj
    obtain ⟨z1, z2, z3, z4⟩ := hpt.done hc.ord (by omega) hji hv hP
    obtain ⟨M1, hl1, lm1, lm2⟩ := swp_lput (f := f) (M := M) (i := j) (j := a) (by omega) (by omega)
    have lm3 := lm2
    simp only [lput, List.length_cons, List.length_nil, Nat.zero_add] at lm1 lm2
    (have zz := aI @t0 (aI @t1 (aI @tF (aI @t10 (aI @t11 (aI @Int.toNat_natCast (aI hc.cells (aI hc.one (aI @lm1 @lm2)))))))); repeat' (first | apply w_seq | apply w_ops0 | apply w_ops1 | apply w_ret | apply a_n | apply a_r | apply o_nil | refine vZ ?_ | refine stZ ?_ | (refine cdZ ?_ ?_ <;> (intro _hg; (try simp only [ZB] at _hg); try first | exact absurd trivial _hg | (exfalso; omega))) | refine e_ends rfl ?_ | refine r2Z ?_ | fail)) <;> (try clear zz)
    exact ⟨rfl, swp M j a, j, true, rfl, z1, z2, by rw [hupd_two, hupd_two, lm3], hp.trans (PermR.swap (by omega) (by omega) (by omega)), z3, z4⟩
  obtain ⟨k, rfl⟩ : ∃ k, j = k + 1 := ⟨j - 1, by omega⟩
  have tk : ((k + 1 : Nat) : Int) - 1 = (k : Int) := by omega
  have ii : ((i : Nat) : Int) + 1 = ((i + 1 : Nat) : Int) := by omega
  obtain ⟨M1, hl1, lm1, lm2⟩ := swp_lput (f := f) (M := M) (i := i) (j := k + 1) (by omega) (by omega)
  have lm3 := lm2
  simp only [lput, List.length_cons, List.length_nil, Nat.zero_add] at lm1 lm2
  (have zz := aI @t0 (aI @t1 (aI @tF (aI @t10 (aI @t11 (aI @tk (aI @ii (aI @Int.toNat_natCast (aI hc.cells (aI hc.one (aI @lm1 @lm2)))))))))); repeat' (first | apply w_seq | apply w_ops0 | apply w_ops1 | apply w_block | apply w_skip | apply a_n | apply o_nil | refine vZ ?_ | refine stZ ?_ | (refine cdZ ?_ ?_ <;> (intro _hg; (try simp only [ZB] at _hg); try first | exact absurd trivial _hg | (exfalso; omega))) | apply w_loop | fail)) <;> (try clear zz)
  obtain ⟨hq1, hq2⟩ := hpt.swap (by omega) (by omega) (hni (by omega)) (hnj (by omega))
  have hp2 : PermR a e L (swp M i (k + 1)) := hp.trans (PermR.swap (by omega) (by omega) (by omega))
  have hv2 : (swp M i (k + 1)).getD a default = v := by rw [swp_keep (by omega) (by omega) (by omega) (by omega)]; exact hv
  refine loopI (X := Nat × Nat × List α) (fun x => [(0, .msl b n 1 0 n), (1, .int .i64 a), (10, .int .i64 (x.1 : Nat)), (11, .int .i64 (x.2.1 : Nat))]) (fun x H' nxx => PartR P a e (x.2.1 + 1 - x.1) x.1 x.2.1 x.2.2 ∧ H' = hupd H b (x.2.2.map f) ∧ nx = nxx ∧ PermR a e L x.2.2 ∧ x.2.2.getD a default = v) (fun x => x.2.1 + 1 - x.1) (i + 1, k, swp M i (k + 1)) ⟨hq1, by dsimp only; rw [hupd_two, hupd_two, lm3], rfl, hp2, hv2⟩ (by simp (disch := omega) only [agr, ZG, reduceEqDiff, ↓reduceIte, t0, t1, tF, t10, t11]) ?_
  clear t0 t1 tF t10 t11 lm1 lm2 lm3 hl1 M1 hp2 hv2 hq1 hq2 hpt hni hnj hp hv hGM
  rintro ⟨i, j, M⟩ H' nxx ⟨hpt, rfl, rfl, hp, hv⟩
  dsimp only at *
  have hl : M.length = n := by rw [hp.len, hn]
  have hGM := hp.mem hG
  generalize hmu : j + 1 - i = mu at hpt ⊢
  clear hmu
  obtain ⟨T, hT, t0, t1, tF, t10, t11⟩ : ∃ T, tl [(0, .msl b n 1 0 n), (1, .int .i64 a), (10, .int .i64 (i : Nat)), (11, .int .i64 (j : Nat))] = T ∧ T 0 = .msl b n 1 0 n ∧ T 1 = .int .i64 a ∧ n = n ∧ T 10 = .int .i64 (i : Nat) ∧ T 11 = .int .i64 (j : Nat) := ⟨_, rfl, rfl, rfl, rfl, rfl, rfl⟩
  rw [hT]
  clear hT
  refine w_block ?_
  refine w_seqC (fun T H'' nx'' => ∃ i : Nat, PartR P a e mu i j M ∧ (i ≤ j → ¬ P (M.getD i default)) ∧ T 0 = .msl b n 1 0 n ∧ T 1 = .int .i64 a ∧ n = n ∧ T 10 = .int .i64 (i : Nat) ∧ T 11 = .int .i64 (j : Nat) ∧ H'' = hupd H b ((M).map f) ∧ nx = nx'') ?_ ?_
  · (have zz := aI @t0 (aI @t1 (aI @tF (aI @t10 @t11))); repeat' (first | apply w_block | apply w_loop | fail)) <;> (try clear zz)
    refine loopI (X := Nat) (fun i => [(0, .msl b n 1 0 n), (1, .int .i64 a), (10, .int .i64 (i : Nat)), (11, .int .i64 (j : Nat))]) (fun i H' nxx => PartR P a e mu i j M ∧ H' = hupd H b (M.map f) ∧ nx = nxx) (fun i => j + 1 - i) i ⟨hpt, rfl, rfl⟩ (by simp (disch := omega) only [agr, ZG, reduceEqDiff, ↓reduceIte, t0, t1, tF, t10, t11]) ?_
    clear t0 t1 tF t10 t11 hpt i
    rintro i H' nxx ⟨hpt, rfl, rfl⟩
    have hlo := hpt.lo; have hmid := hpt.mid; have hhi := hpt.hi
    have ii : ((i : Nat) : Int) + 1 = ((i + 1 : Nat) : Int) := by omega
    by_cases hij : j < i
    · (have zz := and_self; repeat' (first | apply w_seq | apply w_mixS1 | apply w_exit | apply a_n | apply a_x | apply o_nil | refine vZ ?_ | refine gFZ ?_ | (refine gBZ ?_ ?_ <;> (intro _hg; (try simp only [ZB] at _hg); try first | exact absurd trivial _hg | (exfalso; omega))) | refine cFZ ?_ | fail)) <;> (try clear zz)
      exact ⟨i, hpt, fun h => absurd h (by omega), rfl, rfl, rfl, rfl, rfl, rfl, rfl⟩
    have lc := hc.run (M.getD (i) default) (M.getD (a) default) (hGM _ (mem_getD (by omega))) (hGM _ (mem_getD (by omega)))
    have e1 := hc.dat (M.getD (i) default)
    have e2 := hc.dat (M.getD (a) default)
    have hPk : P (M.getD (i) default) ↔ K (M.getD (i) default) (M.getD (a) default) < 0 := by rw [hP, hv]
    generalize hKK : K (M.getD (i) default) (M.getD (a) default) = kk at lc hPk
    by_cases hlt : kk < 0
    · (have zz := aI @ii (aI @Int.toNat_natCast (aI hc.cells hc.one)); repeat' (first | apply w_seq | apply w_ops0 | apply w_mixS1 | apply w_block | apply w_skip | apply a_n | apply o_nil | refine vZ ?_ | refine cZ ?_ (hp := lc) | refine gTZ ?_ | ((first | refine gBZ ?_ ?_ | refine cdZ ?_ ?_) <;> (intro _hg; (try simp only [ZB] at _hg); try first | exact absurd trivial _hg | (exfalso; omega))) | fail)) <;> (try clear zz)
      exact ⟨i + 1, by omega, ⟨hpt.stepUp (by omega) (by rw [hPk]; exact hlt), rfl, rfl⟩, by simp (disch := omega) only [agr, ZG, reduceEqDiff, ↓reduceIte]⟩
    · (have zz := aI @ii (aI @Int.toNat_natCast (aI hc.cells hc.one)); repeat' (first | apply w_seq | apply w_mixS1 | apply w_exit | apply a_n | apply a_x | apply o_nil | refine vZ ?_ | refine cZ ?_ (hp := lc) | refine gTZ ?_ | ((first | refine gBZ ?_ ?_ | refine cdZ ?_ ?_) <;> (intro _hg; (try simp only [ZB] at _hg); try first | exact absurd trivial _hg | (exfalso; omega))) | fail)) <;> (try clear zz)
      exact ⟨i, hpt, fun _ => (by rw [hPk]; first | exact hlt | exact fun h => h hlt), rfl, rfl, rfl, rfl, rfl, rfl, rfl⟩
  clear t0 t1 tF t10 t11 hpt i
  rintro T _ _ ⟨i, hpt, hni, t0, t1, tF, t10, t11, rfl, rfl⟩
  refine w_seqC (fun T H'' nx'' => ∃ j : Nat, PartR P a e mu i j M ∧ (i ≤ j → ¬ P (M.getD i default)) ∧ (i ≤ j → P (M.getD j default)) ∧ T 0 = .msl b n 1 0 n ∧ T 1 = .int .i64 a ∧ n = n ∧ T 10 = .int .i64 (i : Nat) ∧ T 11 = .int .i64 (j : Nat) ∧ H'' = hupd H b ((M).map f) ∧ nx = nx'') ?_ ?_
  · (have zz := aI @t0 (aI @t1 (aI @tF (aI @t10 @t11))); repeat' (first | apply w_block | apply w_loop | fail)) <;> (try clear zz)
    refine loopI (X := Nat) (fun j => [(0, .msl b n 1 0 n), (1, .int .i64 a), (10, .int .i64 (i : Nat)), (11, .int .i64 (j : Nat))]) (fun j H' nxx => PartR P a e mu i j M ∧ (i ≤ j → ¬ P (M.getD i default)) ∧ H' = hupd H b (M.map f) ∧ nx = nxx) (fun j => j) j ⟨hpt, hni, rfl, rfl⟩ (by simp (disch := omega) only [agr, ZG, reduceEqDiff, ↓reduceIte, t0, t1, tF, t10, t11]) ?_
    clear t0 t1 tF t10 t11 hpt hni j
    rintro j H' nxx ⟨hpt, hni, rfl, rfl⟩
    have hlo := hpt.lo; have hmid := hpt.mid; have hhi := hpt.hi
    by_cases hij : j < i
    · (have zz := and_self; repeat' (first | apply w_seq | apply w_mixS1 | apply w_exit | apply a_n | apply a_x | apply o_nil | refine vZ ?_ | refine gFZ ?_ | (refine gBZ ?_ ?_ <;> (intro _hg; (try simp only [ZB] at _hg); try first | exact absurd trivial _hg | (exfalso; omega))) | refine cFZ ?_ | fail)) <;> (try clear zz)
      exact ⟨j, hpt, hni, fun h => absurd h (by omega), rfl, rfl, rfl, rfl, rfl, rfl, rfl⟩
    obtain ⟨k, rfl⟩ : ∃ k, j = k + 1 := ⟨j - 1, by omega⟩
    have tk : ((k + 1 : Nat) : Int) - 1 = (k : Int) := by omega
    have lc := hc.run (M.getD (k + 1) default) (M.getD (a) default) (hGM _ (mem_getD (by omega))) (hGM _ (mem_getD (by omega)))
    have e1 := hc.dat (M.getD (k + 1) default)
    have e2 := hc.dat (M.getD (a) default)
    have hPk : P (M.getD (k + 1) default) ↔ K (M.getD (k + 1) default) (M.getD (a) default) < 0 := by rw [hP, hv]
    generalize hKK : K (M.getD (k + 1) default) (M.getD (a) default) = kk at lc hPk
    by_cases hlt : kk < 0
    · (have zz := aI @tk (aI @Int.toNat_natCast (aI hc.cells hc.one)); repeat' (first | apply w_seq | apply w_mixS1 | apply w_exit | apply a_n | apply a_x | apply o_nil | refine vZ ?_ | refine cZ ?_ (hp := lc) | refine gTZ ?_ | ((first | refine gBZ ?_ ?_ | refine cdZ ?_ ?_) <;> (intro _hg; (try simp only [ZB] at _hg); try first | exact absurd trivial _hg | (exfalso; omega))) | fail)) <;> (try clear zz)
      exact ⟨k + 1, hpt, hni, fun _ => (by rw [hPk]; exact hlt), rfl, rfl, rfl, rfl, rfl, rfl, rfl⟩
    · (have zz := aI @tk (aI @Int.toNat_natCast (aI hc.cells hc.one)); repeat' (first | apply w_seq | apply w_ops0 | apply w_mixS1 | apply w_block | apply w_skip | apply a_n | apply o_nil | refine vZ ?_ | refine cZ ?_ (hp := lc) | refine gTZ ?_ | ((first | refine gBZ ?_ ?_ | refine cdZ ?_ ?_) <;> (intro _hg; (try simp only [ZB] at _hg); try first | exact absurd trivial _hg | (exfalso; omega))) | fail)) <;> (try clear zz)
      exact ⟨k, by omega, ⟨hpt.stepDn (by omega) (by rw [hPk]; first | exact hlt | exact fun h => h hlt), fun _ => hni (by omega), rfl, rfl⟩, by simp (disch := omega) only [agr, ZG, reduceEqDiff, ↓reduceIte]⟩
  clear t0 t1 tF t10 t11 hpt hni j
  rintro T _ _ ⟨j, hpt, hni, hnj, t0, t1, tF, t10, t11, rfl, rfl⟩
  have hlo := hpt.lo; have hmid := hpt.mid; have hhi := hpt.hi
  by_cases hji : j < i
  · clear hni hnj
    obtain ⟨z1, z2, z3, z4⟩ := hpt.done hc.ord (by omega) hji hv hP
    obtain ⟨M1, hl1, lm1, lm2⟩ := swp_lput (f := f) (M := M) (i := j) (j := a) (by omega) (by omega)
    have lm3 := lm2
    simp only [lput, List.length_cons, List.length_nil, Nat.zero_add] at lm1 lm2
    (have zz := aI @t0 (aI @t1 (aI @tF (aI @t10 (aI @t11 (aI @Int.toNat_natCast (aI hc.cells (aI hc.one (aI @lm1 @lm2)))))))); repeat' (first | apply w_seq | apply w_ops0 | apply w_ops1 | apply w_exit | apply w_ret | apply a_n | apply a_x | apply o_nil | refine vZ ?_ | refine stZ ?_ | (refine cdZ ?_ ?_ <;> (intro _hg; (try simp only [ZB] at _hg); try first | exact absurd trivial _hg | (exfalso; omega))) | refine e_ends rfl ?_ | refine r2Z ?_ | fail)) <;> (try clear zz)
    exact ⟨rfl, swp M j a, j, false, rfl, z1, z2, by rw [hupd_two, hupd_two, lm3], hp.trans (PermR.swap (by omega) (by omega) (by omega)), z3, z4⟩
  obtain ⟨k, rfl⟩ : ∃ k, j = k + 1 := ⟨j - 1, by omega⟩
  have tk : ((k + 1 : Nat) : Int) - 1 = (k : Int) := by omega
  have ii : ((i : Nat) : Int) + 1 = ((i + 1 : Nat) : Int) := by omega
  obtain ⟨M1, hl1, lm1, lm2⟩ := swp_lput (f := f) (M := M) (i := i) (j := k + 1) (by omega) (by omega)
  have lm3 := lm2
  simp only [lput, List.length_cons, List.length_nil, Nat.zero_add] at lm1 lm2
  (have zz := aI @t0 (aI @t1 (aI @tF (aI @t10 (aI @t11 (aI @tk (aI @ii (aI @Int.toNat_natCast (aI hc.cells (aI hc.one (aI @lm1 @lm2)))))))))); repeat' (first | apply w_seq | apply w_ops0 | apply w_ops1 | apply w_skip | apply a_n | apply o_nil | refine vZ ?_ | refine stZ ?_ | (refine cdZ ?_ ?_ <;> (intro _hg; (try simp only [ZB] at _hg); try first | exact absurd trivial _hg | (exfalso; omega))) | fail)) <;> (try clear zz)
  obtain ⟨hq1, hq2⟩ := hpt.swap (by omega) (by omega) (hni (by omega)) (hnj (by omega))
  exact ⟨(i + 1, k, swp M i (k + 1)), hq2, ⟨hq1, by dsimp only; rw [hupd_two, hupd_two, lm3], rfl, hp.trans (PermR.swap (by omega) (by omega) (by omega)), by dsimp only; rw [swp_keep (by omega) (by omega) (by omega) (by omega)]; exact hv⟩, by simp (disch := omega) only [agr, ZG, reduceEqDiff, ↓reduceIte, t0, t1, tF, t10, t11]⟩
end
end Go.Proofs.YtbiikomnhkbblaaGreat

/- U10o: contracts of functions and plain laws; for all inputs that the theorems name. -/
namespace Go.Proofs.YtbiikomnhkbblaaGreat
open Go Go.Abs
open Nat (reduceEqDiff reduceAdd reduceLeDiff)
section
variable {α : Type} [Inhabited α] {f : α → AV} {K : α → α → Int} {G : α → Prop}
attribute [local irreducible] awp2 aops2 ains aloop athen bbind obind gbind acond res1 Go.Abs.Fn PCall Go.Abs.Pure SnapArgs SnapL Yl
theorem break_o (hc : CmpO Tryz.prog f K G) {L : List α} {H : Hp} {b nx n a e : Nat} (hH : H b = some (L.map f)) (hbx : b < nx) (hn : L.length = n) (hae : a + 8 ≤ e) (hen : e ≤ n) (hn2 : n ≤ 1000000000) :
    Abs.Fn Tryz.prog 102 [.msl b n 1 0 n, .int .i64 a, .int .i64 e] H nx fun r H' nx' => nx' = nx + 1 ∧ ∃ L', H' b = some (L'.map f) ∧ (∀ i, i < nx → i ≠ b → H' i = H i) ∧ PermR a e L L' := by
  obtain ⟨l, rfl⟩ : ∃ l, e = a + l := ⟨e - a, by omega⟩
  have te : ((a + l : Nat) : Int) - (a : Int) = (l : Int) := by omega
  obtain ⟨w, hw⟩ : ∃ w, a + l / 4 * 2 - 1 = w := ⟨_, rfl⟩
  have tq : abin2 .quo false false (.int .i64 (l : Int)) (.int .i64 4) = some (.int .i64 ((l / 4 : Nat) : Int)) := by
    rw [quo_pos (by omega) (by omega) (by omega)]
    congr 2
  have w1 : (a : Int) + ((l / 4 : Nat) : Int) * 2 - 1 = (w : Int) := by omega
  have w2 : (a : Int) + ((l / 4 : Nat) : Int) * 2 + 1 = ((w + 2 : Nat) : Int) := by omega
  have hbn : b ≠ nx := by omega
  have wl : IntKind.wrap .u64 (l : Int) = l := wrapU64 (by omega) (by omega)
  refine Abs.Fn.of_c2 follows is102 (Nat.le_of_ble_eq_true rfl) ?_
  simp only [b102, cO, cG, cN, cM, cD, cF, cB, cFal, cTru]
  have ls : ∀ x y : AV, lput [x] 0 [y] = [y] := fun _ _ => rfl
  simp only [lput, List.length_cons, List.length_nil, Nat.zero_add] at ls
  (have zz := aI @te (aI @wl @ls); repeat' (first | apply w_seq | apply w_ops0 | apply a_n | apply o_nil | refine vZ ?_ | refine alZ ?_ | refine stZ ?_ | (refine cdZ ?_ ?_ <;> (intro _hg; (try simp only [ZB] at _hg); try first | exact absurd trivial _hg | (exfalso; omega))) | fail)) <;> (try clear zz)
  refine o_callE (by ((try simp only [simB0, ZA, reduceEqDiff, ↓reduceIte, reduceAdd, reduceLeDiff]); (try with_reducible rfl))) (by ((try simp only [simB0, ZA, reduceEqDiff, ↓reduceIte, reduceAdd, reduceLeDiff]); (try with_reducible rfl))) (npot_c (x := l) (by omega) (by omega)) ?_
  rintro _ _ _ ⟨rfl, rfl, k, rfl, hk1, hk2⟩
  obtain ⟨p, hp⟩ : ∃ p, 2 ^ k = p + 1 := ⟨2 ^ k - 1, by omega⟩
  rw [hp] at hk1 hk2 ⊢
  (have zz := aI @te (aI @tq @w1); repeat' (first | apply w_seq | apply w_ops0 | apply w_block | apply a_n | apply o_nil | refine vZ ?_ | apply w_loop | fail)) <;> (try clear zz)
  have wm : IntKind.wrap .u64 (((p + 1 : Nat) : Int) - 1) = (p : Int) := by rw [wrapU64 (by omega) (by omega)]; omega
  refine loopI (X := Nat × List α) (fun x => [(0, .msl b n 1 0 n), (1, .int .i64 a), (6, .int .i64 l), (7, .ptr nx 1 0), (8, .int .u64 ((p + 1 : Nat) : Int)), (9, .int .i64 (x.1 : Nat))]) (fun x H' nxx => w ≤ x.1 ∧ x.1 ≤ w + 3 ∧ H' b = some (x.2.map f) ∧ (∃ s, H' nx = some [.int .u64 s]) ∧ (∀ i, i < nx → i ≠ b → H' i = H i) ∧ nxx = nx + 1 ∧ PermR a (a + l) L x.2) (fun x => w + 3 - x.1) (w, L) ⟨Nat.le_refl _, by dsimp only; omega, by dsimp only; rw [hupd_ne hbn]; first | exact hH | (rw [hupd_ne hbn]; exact hH), ⟨_, hupd_self'⟩, fun i h1 h2 => by rw [hupd_ne (by omega)]; first | rfl | exact hupd_ne (by omega), rfl, .refl⟩ (by simp (disch := omega) only [agr, ZG, reduceEqDiff, ↓reduceIte, List.length_cons, List.length_nil, Nat.zero_add, true_and]) ?_
  rintro ⟨i, M⟩ H1 nxx ⟨h1, h2, hb1, ⟨s, hs⟩, hfr, rfl, hp1⟩
  dsimp only at *
  have hl : M.length = n := by rw [hp1.len, hn]
  by_cases hi : i = w + 3
  · subst hi
    (have zz := aI @tq @w2; repeat' (first | apply w_seq | apply w_ops0 | apply w_exit | apply a_n | apply a_x | apply o_nil | refine vZ ?_ | (refine cdZ ?_ ?_ <;> (intro _hg; (try simp only [ZB] at _hg); try first | exact absurd trivial _hg | (exfalso; omega))) | refine e_ends rfl ?_ | apply r_0 | fail)) <;> (try clear zz)
    exact ⟨rfl, M, hb1, hfr, hp1⟩
  have ti : ((i : Nat) : Int) + 1 = ((i + 1 : Nat) : Int) := by omega
  (have zz := aI @tq @w2; repeat' (first | apply w_seq | apply w_ops0 | apply w_block | apply w_skip | apply a_n | apply o_nil | refine vZ ?_ | (refine cdZ ?_ ?_ <;> (intro _hg; (try simp only [ZB] at _hg); try first | exact absurd trivial _hg | (exfalso; omega))) | fail)) <;> (try clear zz)
  refine o_callE (by ((try simp only [simB0, ZA, reduceEqDiff, ↓reduceIte, reduceAdd, reduceLeDiff]); (try with_reducible rfl))) (by ((try simp only [simB0, ZA, reduceEqDiff, ↓reduceIte, reduceAdd, reduceLeDiff]); (try with_reducible rfl))) (next_c hs) ?_
  rintro _ _ _ ⟨rfl, s1, rfl, rfl⟩
  obtain ⟨r, hr1, hr2⟩ := and_some (a := s1) (m := p) (by omega)
  obtain ⟨H2, hH2⟩ : ∃ H2, hupd H1 nx [.int .u64 s1] = H2 := ⟨_, rfl⟩
  have hb2 : H2 b = some (M.map f) := by rw [← hH2, hupd_ne hbn]; exact hb1
  have hs2 : H2 nx = some [.int .u64 s1] := by rw [← hH2]; exact hupd_self'
  have hfr2 : ∀ i, i < nx → i ≠ b → H2 i = H i := fun i k1 k2 => by rw [← hH2, hupd_ne (by omega)]; exact hfr i k1 k2
  rw [hH2]
  clear hH2 hb1 hs hfr
  obtain ⟨z, hz, hzl⟩ : ∃ z : Nat, (if l ≤ r then (r : Int) - l else (r : Int)) = (z : Int) ∧ z < l := by
    split
    · exact ⟨r - l, by omega, by omega⟩
    · exact ⟨r, rfl, by omega⟩
  obtain ⟨M1, hl1, lm1, lm2⟩ := swp_lput (f := f) (M := M) (i := i) (j := a + z) (by omega) (by omega)
  have lm3 := lm2
  simp only [lput, List.length_cons, List.length_nil, Nat.zero_add] at lm1 lm2
  by_cases hrl : l ≤ r
  · rw [if_pos hrl] at hz
    (have zz := aI @wm (aI @hr1 (aI @hz (aI @hb2 (aI @ti (aI @toNat_two (aI hc.cells (aI hc.one (aI @lm1 @lm2)))))))); repeat' (first | apply w_seq | apply w_ops0 | apply w_ops1 | apply a_n | apply o_nil | refine vZ ?_ | refine stZ ?_ | (refine cdZ ?_ ?_ <;> (intro _hg; (try simp only [ZB] at _hg); try first | exact absurd trivial _hg | (exfalso; omega))) | fail)) <;> (try clear zz)
    exact ⟨(i + 1, swp M i (a + z)), by dsimp only; omega, ⟨by dsimp only; omega, by dsimp only; omega, by dsimp only; rw [hupd_two, lm3, hupd_self'], ⟨s1, by rw [hupd_two, hupd_ne (Ne.symm hbn)]; exact hs2⟩, fun i k1 k2 => by rw [hupd_two, hupd_ne k2]; exact hfr2 i k1 k2, rfl, hp1.trans (PermR.swap (by omega) (by omega) (by omega))⟩, by simp (disch := omega) only [agr, ZG, reduceEqDiff, ↓reduceIte]⟩
  · rw [if_neg hrl] at hz
    have hz' : r = z := by omega
    subst hz'
    (have zz := aI @wm (aI @hr1 (aI @hb2 (aI @ti (aI @toNat_two (aI hc.cells (aI hc.one (aI @lm1 @lm2))))))); repeat' (first | apply w_seq | apply w_ops0 | apply w_ops1 | apply w_skip | apply a_n | apply o_nil | refine vZ ?_ | refine stZ ?_ | (refine cdZ ?_ ?_ <;> (intro _hg; (try simp only [ZB] at _hg); try first | exact absurd trivial _hg | (exfalso; omega))) | fail)) <;> (try clear zz)
    exact ⟨(i + 1, swp M i (a + r)), by dsimp only; omega, ⟨by dsimp only; omega, by dsimp only; omega, by dsimp only; rw [hupd_two, lm3, hupd_self'], ⟨s1, by rw [hupd_two, hupd_ne (Ne.symm hbn)]; exact hs2⟩, fun i k1 k2 => by rw [hupd_two, hupd_ne k2]; exact hfr2 i k1 k2, rfl, hp1.trans (PermR.swap (by omega) (by omega) (by omega))⟩, by simp (disch := omega) only [agr, ZG, reduceEqDiff, ↓reduceIte]⟩
end
end Go.Proofs.YtbiikomnhkbblaaGreat

/- U12o: contracts of functions and plain laws; for all inputs that the theorems name. -/
namespace Go.Proofs.YtbiikomnhkbblaaGreat
open Go Go.Abs
open Nat (reduceEqDiff reduceAdd reduceLeDiff)
section
variable {α : Type} [Inhabited α] {f : α → AV} {K : α → α → Int} {G : α → Prop}
attribute [local irreducible] awp2 aops2 ains aloop athen bbind obind gbind acond res1 Go.Abs.Fn PCall Go.Abs.Pure SnapArgs SnapL Yl
theorem pdq_o (hc : CmpO Tryz.prog f K G) {b n : Nat} (hn2 : n ≤ 1000000000) : ∀ (sz a e lim : Nat) (L : List α) (H : Hp) (nx : Nat), e - a < sz → H b = some (L.map f) → b < nx → L.length = n → (∀ x ∈ L, G x) → a ≤ e → e ≤ n → lim ≤ 64 → LowR K a e L →
    Abs.Fn Tryz.prog 85 [.msl b n 1 0 n, .int .i64 a, .int .i64 e, .int .i64 lim] H nx fun r H' nx' => ∃ L', PS H H' nx nx' b (L'.map f) ∧ PermR a e L L' ∧ SortedR K a e L' := by
  intro sz
  induction sz with
  | zero => intro a e lim L H nx h; omega
  | succ sz ih =>
  intro a e lim L H nx hsz hH hbx hn hG hae hen hlim hlow
  refine Abs.Fn.of_c2 follows is85 (Nat.le_of_ble_eq_true rfl) ?_
  simp only [b85, cO, cG, cN, cM, cD, cF, cB, cFal, cTru]
  (have zz := and_self; repeat' (first | apply w_seq | apply w_ops0 | apply w_block | apply a_n | apply o_nil | refine vZ ?_ | apply w_loop | fail)) <;> (try clear zz)
  refine loopI (X := Nat × Nat × Nat × Bool × Bool × List α) (fun x => [(0, .msl b n 1 0 n), (1, .int .i64 (x.1 : Nat)), (2, .int .i64 (x.2.1 : Nat)), (3, .int .i64 (x.2.2.1 : Nat)), (8, .bool x.2.2.2.1), (9, .bool x.2.2.2.2.1)]) (fun x H' nxx => PI K a e L x.1 x.2.1 x.2.2.2.2.2 ∧ PS H H' nx nxx b (x.2.2.2.2.2.map f) ∧ x.2.2.1 ≤ 64) (fun x => x.2.1 - x.1) (a, e, lim, true, true, L) ⟨.start hae (by rw [hn]; exact hen) hlow, ⟨hH, fun _ _ _ => rfl, Nat.le_refl _⟩, hlim⟩ (by simp (disch := omega) only [agr, ZG, reduceEqDiff, ↓reduceIte]) ?_
  clear hlim hlow lim
  rintro ⟨a1, e1, lim, wb, wp, M⟩ H1 n1 ⟨hpi, hps, hlim⟩
  dsimp only at *
  have hlo := hpi.lo; have hmid := hpi.mid; have hhi := hpi.hi
  obtain ⟨l, hl0⟩ : ∃ l, e1 - a1 = l := ⟨_, rfl⟩
  rw [hl0]
  have te : (e1 : Int) - (a1 : Int) = (l : Int) := by omega
  have hlen : ∀ M : List α, PI K a e L a1 e1 M → M.length = n := fun M h => by rw [h.perm.len, hn]
  have hGA : ∀ M : List α, PI K a e L a1 e1 M → ∀ x ∈ M, G x := fun M h => h.perm.mem hG
  have hbn : ∀ (M : List α) (H1 : Hp) (n1 : Nat), PS H H1 nx n1 b (M.map f) → b < n1 := fun M H1 n1 h => by have := h.le; omega
  obtain ⟨T, hT, t0, t1, t2, t3, tF, t8, t9⟩ : ∃ T, tl [(0, .msl b n 1 0 n), (1, .int .i64 (a1 : Nat)), (2, .int .i64 (e1 : Nat)), (3, .int .i64 (lim : Nat)), (8, .bool wb), (9, .bool wp)] = T ∧ T 0 = .msl b n 1 0 n ∧ T 1 = .int .i64 (a1 : Nat) ∧ T 2 = .int .i64 (e1 : Nat) ∧ T 3 = .int .i64 (lim : Nat) ∧ n = n ∧ T 8 = .bool wb ∧ T 9 = .bool wp := ⟨_, rfl, rfl, rfl, rfl, rfl, rfl, rfl, rfl⟩
  rw [hT]
  clear hT
  refine w_block ?_
  -- the length
  refine w_seqC (fun T H'' nx'' => T 0 = .msl b n 1 0 n ∧ T 1 = .int .i64 (a1 : Nat) ∧ T 2 = .int .i64 (e1 : Nat) ∧ T 3 = .int .i64 (lim : Nat) ∧ n = n ∧ T 8 = .bool wb ∧ T 9 = .bool wp ∧ T 10 = .int .i64 (l : Nat) ∧ H1 = H'' ∧ n1 = nx'') ?_ ?_
  · (have zz := aI @t0 (aI @t1 (aI @t2 (aI @t3 (aI @tF (aI @t8 (aI @t9 @te)))))); repeat' (first | apply w_ops0 | apply a_n | apply o_nil | refine vZ ?_ | fail)) <;> (try clear zz)
    exact ⟨by ((try simp only [simB0, ZA, reduceEqDiff, ↓reduceIte, reduceAdd, reduceLeDiff, t0]); (try with_reducible rfl)), by ((try simp only [simB0, ZA, reduceEqDiff, ↓reduceIte, reduceAdd, reduceLeDiff, t1]); (try with_reducible rfl)), by ((try simp only [simB0, ZA, reduceEqDiff, ↓reduceIte, reduceAdd, reduceLeDiff, t2]); (try with_reducible rfl)), by ((try simp only [simB0, ZA, reduceEqDiff, ↓reduceIte, reduceAdd, reduceLeDiff, t3]); (try with_reducible rfl)), by ((try simp only [simB0, ZA, reduceEqDiff, ↓reduceIte, reduceAdd, reduceLeDiff, tF]); (try with_reducible rfl)), by ((try simp only [simB0, ZA, reduceEqDiff, ↓reduceIte, reduceAdd, reduceLeDiff, t8]); (try with_reducible rfl)), by ((try simp only [simB0, ZA, reduceEqDiff, ↓reduceIte, reduceAdd, reduceLeDiff, t9]); (try with_reducible rfl)), by ((try simp only [simB0, ZA, reduceEqDiff, ↓reduceIte, reduceAdd, reduceLeDiff]); (try with_reducible rfl)), rfl, rfl⟩
  clear t0 t1 t2 t3 tF t8 t9
  rintro T _ _ ⟨t0, t1, t2, t3, tF, t8, t9, t10, rfl, rfl⟩
  -- at most twelve
  refine w_seqC (fun T H'' nx'' => T 0 = .msl b n 1 0 n ∧ T 1 = .int .i64 (a1 : Nat) ∧ T 2 = .int .i64 (e1 : Nat) ∧ T 3 = .int .i64 (lim : Nat) ∧ n = n ∧ T 8 = .bool wb ∧ T 9 = .bool wp ∧ T 10 = .int .i64 (l : Nat) ∧ 13 ≤ l ∧ H1 = H'' ∧ n1 = nx'') ?_ ?_
  · by_cases h12 : l ≤ 12
    · (have zz := aI @t0 (aI @t1 (aI @t2 (aI @t3 (aI @tF (aI @t8 (aI @t9 @t10)))))); repeat' (first | apply w_seq | apply w_ops0 | apply a_n | apply o_nil | refine vZ ?_ | (refine cdZ ?_ ?_ <;> (intro _hg; (try simp only [ZB] at _hg); try first | exact absurd trivial _hg | (exfalso; omega))) | fail)) <;> (try clear zz)
      refine o_callE (by ((try simp only [simB0, ZA, reduceEqDiff, ↓reduceIte, reduceAdd, reduceLeDiff]); (try with_reducible rfl))) (by ((try simp only [simB0, ZA, reduceEqDiff, ↓reduceIte, reduceAdd, reduceLeDiff, t0, t1, t2, t3, tF, t8, t9, t10]); (try with_reducible rfl))) (ins_o hc (b := b) hps.at_ (hlen _ hpi) (hGA _ hpi) (a := a1) (e := e1) hmid (by omega) hn2) ?_
      rintro _ _ _ ⟨rfl, N, rfl, hpN, hsN⟩
      (have zz := and_self; repeat' (first | apply w_ret | apply a_n | apply a_r | apply o_nil | refine e_ends rfl ?_ | apply r_0 | fail)) <;> (try clear zz)
      exact ⟨N, hps.upd, hpi.done hpN hsN⟩
    · (have zz := aI @t0 (aI @t1 (aI @t2 (aI @t3 (aI @tF (aI @t8 (aI @t9 @t10)))))); repeat' (first | apply w_seq | apply w_ops0 | apply w_skip | apply a_n | apply o_nil | refine vZ ?_ | (refine cdZ ?_ ?_ <;> (intro _hg; (try simp only [ZB] at _hg); try first | exact absurd trivial _hg | (exfalso; omega))) | fail)) <;> (try clear zz)
      exact ⟨by ((try simp only [simB0, ZA, reduceEqDiff, ↓reduceIte, reduceAdd, reduceLeDiff, t0]); (try with_reducible rfl)), by ((try simp only [simB0, ZA, reduceEqDiff, ↓reduceIte, reduceAdd, reduceLeDiff, t1]); (try with_reducible rfl)), by ((try simp only [simB0, ZA, reduceEqDiff, ↓reduceIte, reduceAdd, reduceLeDiff, t2]); (try with_reducible rfl)), by ((try simp only [simB0, ZA, reduceEqDiff, ↓reduceIte, reduceAdd, reduceLeDiff, t3]); (try with_reducible rfl)), by ((try simp only [simB0, ZA, reduceEqDiff, ↓reduceIte, reduceAdd, reduceLeDiff, tF]); (try with_reducible rfl)), by ((try simp only [simB0, ZA, reduceEqDiff, ↓reduceIte, reduceAdd, reduceLeDiff, t8]); (try with_reducible rfl)), by ((try simp only [simB0, ZA, reduceEqDiff, ↓reduceIte, reduceAdd, reduceLeDiff, t9]); (try with_reducible rfl)), by ((try simp only [simB0, ZA, reduceEqDiff, ↓reduceIte, reduceAdd, reduceLeDiff, t10]); (try with_reducible rfl)), by omega, rfl, rfl⟩
  clear t0 t1 t2 t3 tF t8 t9 t10
  rintro T _ _ ⟨t0, t1, t2, t3, tF, t8, t9, t10, h13, rfl, rfl⟩
  -- the limit
  refine w_seqC (fun T H'' nx'' => T 0 = .msl b n 1 0 n ∧ T 1 = .int .i64 (a1 : Nat) ∧ T 2 = .int .i64 (e1 : Nat) ∧ T 3 = .int .i64 (lim : Nat) ∧ n = n ∧ T 8 = .bool wb ∧ T 9 = .bool wp ∧ T 10 = .int .i64 (l : Nat) ∧ 0 < lim ∧ H1 = H'' ∧ n1 = nx'') ?_ ?_
  · by_cases h12 : lim = 0
    · subst h12
      have tz : decide (((0 : Nat) : Int) = 0) = true := rfl
      (have zz := aI @t0 (aI @t1 (aI @t2 (aI @t3 (aI @tF (aI @t8 (aI @t9 (aI @t10 @tz))))))); repeat' (first | apply w_seq | apply w_ops0 | apply a_n | apply o_nil | refine vZ ?_ | refine cTZ ?_ | fail)) <;> (try clear zz)
      refine o_callE (by ((try simp only [simB0, ZA, reduceEqDiff, ↓reduceIte, reduceAdd, reduceLeDiff]); (try with_reducible rfl))) (by ((try simp only [simB0, ZA, reduceEqDiff, ↓reduceIte, reduceAdd, reduceLeDiff, t0, t1, t2, t3, tF, t8, t9, t10]); (try with_reducible rfl))) (heap_o hc (b := b) hps.at_ (hlen _ hpi) (hGA _ hpi) (a := a1) (e := e1) hmid (by omega) hn2) ?_
      rintro _ _ _ ⟨rfl, N, rfl, hpN, hsN⟩
      (have zz := and_self; repeat' (first | apply w_ret | apply a_n | apply a_r | apply o_nil | refine e_ends rfl ?_ | apply r_0 | fail)) <;> (try clear zz)
      exact ⟨N, hps.upd, hpi.done hpN hsN⟩
    · have tz : decide ((lim : Int) = 0) = false := decide_eq_false (by omega)
      (have zz := aI @t0 (aI @t1 (aI @t2 (aI @t3 (aI @tF (aI @t8 (aI @t9 (aI @t10 @tz))))))); repeat' (first | apply w_seq | apply w_ops0 | apply w_skip | apply a_n | apply o_nil | refine vZ ?_ | refine cFZ ?_ | fail)) <;> (try clear zz)
      exact ⟨by ((try simp only [simB0, ZA, reduceEqDiff, ↓reduceIte, reduceAdd, reduceLeDiff, t0]); (try with_reducible rfl)), by ((try simp only [simB0, ZA, reduceEqDiff, ↓reduceIte, reduceAdd, reduceLeDiff, t1]); (try with_reducible rfl)), by ((try simp only [simB0, ZA, reduceEqDiff, ↓reduceIte, reduceAdd, reduceLeDiff, t2]); (try with_reducible rfl)), by ((try simp only [simB0, ZA, reduceEqDiff, ↓reduceIte, reduceAdd, reduceLeDiff, t3]); (try with_reducible rfl)), by ((try simp only [simB0, ZA, reduceEqDiff, ↓reduceIte, reduceAdd, reduceLeDiff, tF]); (try with_reducible rfl)), by ((try simp only [simB0, ZA, reduceEqDiff, ↓reduceIte, reduceAdd, reduceLeDiff, t8]); (try with_reducible rfl)), by ((try simp only [simB0, ZA, reduceEqDiff, ↓reduceIte, reduceAdd, reduceLeDiff, t9]); (try with_reducible rfl)), by ((try simp only [simB0, ZA, reduceEqDiff, ↓reduceIte, reduceAdd, reduceLeDiff, t10]); (try with_reducible rfl)), by omega, rfl, rfl⟩
  clear t0 t1 t2 t3 tF t8 t9 t10
  rintro T _ _ ⟨t0, t1, t2, t3, tF, t8, t9, t10, hlim1, rfl, rfl⟩
  -- break patterns
  refine w_seqC (fun T H'' nx'' => ∃ (lim : Nat) (M : List α), lim ≤ 64 ∧ PI K a e L a1 e1 M ∧ PS H H'' nx nx'' b (M.map f) ∧ T 0 = .msl b n 1 0 n ∧ T 1 = .int .i64 (a1 : Nat) ∧ T 2 = .int .i64 (e1 : Nat) ∧ T 3 = .int .i64 (lim : Nat) ∧ n = n ∧ T 8 = .bool wb ∧ T 9 = .bool wp ∧ T 10 = .int .i64 (l : Nat)) ?_ ?_
  · cases wb
    · obtain ⟨k, rfl⟩ : ∃ k, lim = k + 1 := ⟨lim - 1, by omega⟩
      have tk : ((k + 1 : Nat) : Int) - 1 = (k : Int) := by omega
      (have zz := aI @t0 (aI @t1 (aI @t2 (aI @t3 (aI @tF (aI @t8 (aI @t9 @t10)))))); repeat' (first | apply w_seq | apply w_ops0 | apply a_n | apply o_nil | refine vZ ?_ | refine cTZ ?_ | fail)) <;> (try clear zz)
      refine o_callE (by ((try simp only [simB0, ZA, reduceEqDiff, ↓reduceIte, reduceAdd, reduceLeDiff]); (try with_reducible rfl))) (by ((try simp only [simB0, ZA, reduceEqDiff, ↓reduceIte, reduceAdd, reduceLeDiff, t0, t1, t2, t3, tF, t8, t9, t10]); (try with_reducible rfl))) (break_o hc (b := b) hps.at_ (hbn _ _ _ hps) (hlen _ hpi) (a := a1) (e := e1) (by omega) (by omega) hn2) ?_
      rintro _ _ _ ⟨rfl, N, hN1, hN2, hpN⟩
      (have zz := aI @t0 (aI @t1 (aI @t2 (aI @t3 (aI @tF (aI @t8 (aI @t9 (aI @t10 @tk))))))); repeat' (first | apply w_ops0 | apply a_n | apply o_nil | refine vZ ?_ | fail)) <;> (try clear zz)
      exact ⟨k, N, by omega, hpi.swap hpN, hps.rec_ hN1 hN2 (Nat.le_succ _), by ((try simp only [simB0, ZA, reduceEqDiff, ↓reduceIte, reduceAdd, reduceLeDiff, t0]); (try with_reducible rfl)), by ((try simp only [simB0, ZA, reduceEqDiff, ↓reduceIte, reduceAdd, reduceLeDiff, t1]); (try with_reducible rfl)), by ((try simp only [simB0, ZA, reduceEqDiff, ↓reduceIte, reduceAdd, reduceLeDiff, t2]); (try with_reducible rfl)), by ((try simp only [simB0, ZA, reduceEqDiff, ↓reduceIte, reduceAdd, reduceLeDiff, t3]); (try with_reducible rfl)), by ((try simp only [simB0, ZA, reduceEqDiff, ↓reduceIte, reduceAdd, reduceLeDiff, tF]); (try with_reducible rfl)), by ((try simp only [simB0, ZA, reduceEqDiff, ↓reduceIte, reduceAdd, reduceLeDiff, t8]); (try with_reducible rfl)), by ((try simp only [simB0, ZA, reduceEqDiff, ↓reduceIte, reduceAdd, reduceLeDiff, t9]); (try with_reducible rfl)), by ((try simp only [simB0, ZA, reduceEqDiff, ↓reduceIte, reduceAdd, reduceLeDiff, t10]); (try with_reducible rfl))⟩
    · (have zz := aI @t0 (aI @t1 (aI @t2 (aI @t3 (aI @tF (aI @t8 (aI @t9 @t10)))))); repeat' (first | apply w_seq | apply w_ops0 | apply w_skip | apply a_n | apply o_nil | refine vZ ?_ | refine cFZ ?_ | fail)) <;> (try clear zz)
      exact ⟨lim, M, hlim, hpi, hps, by ((try simp only [simB0, ZA, reduceEqDiff, ↓reduceIte, reduceAdd, reduceLeDiff, t0]); (try with_reducible rfl)), by ((try simp only [simB0, ZA, reduceEqDiff, ↓reduceIte, reduceAdd, reduceLeDiff, t1]); (try with_reducible rfl)), by ((try simp only [simB0, ZA, reduceEqDiff, ↓reduceIte, reduceAdd, reduceLeDiff, t2]); (try with_reducible rfl)), by ((try simp only [simB0, ZA, reduceEqDiff, ↓reduceIte, reduceAdd, reduceLeDiff, t3]); (try with_reducible rfl)), by ((try simp only [simB0, ZA, reduceEqDiff, ↓reduceIte, reduceAdd, reduceLeDiff, tF]); (try with_reducible rfl)), by ((try simp only [simB0, ZA, reduceEqDiff, ↓reduceIte, reduceAdd, reduceLeDiff, t8]); (try with_reducible rfl)), by ((try simp only [simB0, ZA, reduceEqDiff, ↓reduceIte, reduceAdd, reduceLeDiff, t9]); (try with_reducible rfl)), by ((try simp only [simB0, ZA, reduceEqDiff, ↓reduceIte, reduceAdd, reduceLeDiff, t10]); (try with_reducible rfl))⟩
  clear t0 t1 t2 t3 tF t8 t9 t10 hpi hps hlim hlim1
  rintro T H1 n1 ⟨lim, M, hlim, hpi, hps, t0, t1, t2, t3, tF, t8, t9, t10⟩
  -- the pivot
  refine w_seqC (fun T H'' nx'' => ∃ (p : Nat) (hint : Int), a1 ≤ p ∧ p < e1 ∧ PS H H'' nx nx'' b (M.map f) ∧ T 0 = .msl b n 1 0 n ∧ T 1 = .int .i64 (a1 : Nat) ∧ T 2 = .int .i64 (e1 : Nat) ∧ T 3 = .int .i64 (lim : Nat) ∧ n = n ∧ T 8 = .bool wb ∧ T 9 = .bool wp ∧ T 10 = .int .i64 (l : Nat) ∧ T 11 = .int .i64 (p : Nat) ∧ T 12 = .int .i64 hint) ?_ ?_
  · (have zz := aI @t0 (aI @t1 (aI @t2 (aI @t3 (aI @tF (aI @t8 (aI @t9 @t10)))))); repeat' (first | apply w_ops0 | refine vZ ?_ | fail)) <;> (try clear zz)
    refine o_callE (by ((try simp only [simB0, ZA, reduceEqDiff, ↓reduceIte, reduceAdd, reduceLeDiff]); (try with_reducible rfl))) (by ((try simp only [simB0, ZA, reduceEqDiff, ↓reduceIte, reduceAdd, reduceLeDiff, t0, t1, t2, t3, tF, t8, t9, t10]); (try with_reducible rfl))) (choose_o hc (b := b) hps.at_ (hbn _ _ _ hps) (hlen _ hpi) (hGA _ hpi) (a := a1) (e := e1) (by omega) (by omega) hn2) ?_
    rintro _ _ _ ⟨rfl, p, hint, v, rfl, hp1, hp2, rfl⟩
    (have zz := aI @t0 (aI @t1 (aI @t2 (aI @t3 (aI @tF (aI @t8 (aI @t9 @t10)))))); repeat' (first | apply a_n | apply o_nil | refine vZ ?_ | fail)) <;> (try clear zz)
    exact ⟨p, hint, hp1, hp2, hps.new hbx, by ((try simp only [simB0, ZA, reduceEqDiff, ↓reduceIte, reduceAdd, reduceLeDiff, t0]); (try with_reducible rfl)), by ((try simp only [simB0, ZA, reduceEqDiff, ↓reduceIte, reduceAdd, reduceLeDiff, t1]); (try with_reducible rfl)), by ((try simp only [simB0, ZA, reduceEqDiff, ↓reduceIte, reduceAdd, reduceLeDiff, t2]); (try with_reducible rfl)), by ((try simp only [simB0, ZA, reduceEqDiff, ↓reduceIte, reduceAdd, reduceLeDiff, t3]); (try with_reducible rfl)), by ((try simp only [simB0, ZA, reduceEqDiff, ↓reduceIte, reduceAdd, reduceLeDiff, tF]); (try with_reducible rfl)), by ((try simp only [simB0, ZA, reduceEqDiff, ↓reduceIte, reduceAdd, reduceLeDiff, t8]); (try with_reducible rfl)), by ((try simp only [simB0, ZA, reduceEqDiff, ↓reduceIte, reduceAdd, reduceLeDiff, t9]); (try with_reducible rfl)), by ((try simp only [simB0, ZA, reduceEqDiff, ↓reduceIte, reduceAdd, reduceLeDiff, t10]); (try with_reducible rfl)), by ((try simp only [simB0, ZA, reduceEqDiff, ↓reduceIte, reduceAdd, reduceLeDiff]); (try with_reducible rfl)), by ((try simp only [simB0, ZA, reduceEqDiff, ↓reduceIte, reduceAdd, reduceLeDiff]); (try with_reducible rfl))⟩
  clear t0 t1 t2 t3 tF t8 t9 t10 hps
  rintro T H1 n1 ⟨p, hint, hp1, hp2, hps, t0, t1, t2, t3, tF, t8, t9, t10, t11, t12⟩
  -- reversed
  refine w_seqC (fun T H'' nx'' => ∃ (p : Nat) (hint : Int) (M : List α), a1 ≤ p ∧ p < e1 ∧ PI K a e L a1 e1 M ∧ PS H H'' nx nx'' b (M.map f) ∧ T 0 = .msl b n 1 0 n ∧ T 1 = .int .i64 (a1 : Nat) ∧ T 2 = .int .i64 (e1 : Nat) ∧ T 3 = .int .i64 (lim : Nat) ∧ n = n ∧ T 8 = .bool wb ∧ T 9 = .bool wp ∧ T 10 = .int .i64 (l : Nat) ∧ T 11 = .int .i64 (p : Nat) ∧ T 12 = .int .i64 hint) ?_ ?_
  · by_cases h2 : hint = 2
    · subst h2
      obtain ⟨p2, hp3⟩ : ∃ p2, e1 - 1 - (p - a1) = p2 := ⟨_, rfl⟩
      have tp : (e1 : Int) - 1 - ((p : Int) - (a1 : Int)) = (p2 : Int) := by omega
      have tz : decide ((2 : Int) = 2) = true := rfl
      (have zz := aI @t0 (aI @t1 (aI @t2 (aI @t3 (aI @tF (aI @t8 (aI @t9 (aI @t10 (aI @t11 (aI @t12 @tz))))))))); repeat' (first | apply w_seq | apply w_ops0 | apply a_n | apply o_nil | refine vZ ?_ | (refine cdZ ?_ ?_ <;> (intro _hg; (try simp only [ZB] at _hg); try first | exact absurd trivial _hg | (exfalso; omega))) | fail)) <;> (try clear zz)
      refine o_callE (by ((try simp only [simB0, ZA, reduceEqDiff, ↓reduceIte, reduceAdd, reduceLeDiff]); (try with_reducible rfl))) (by ((try simp only [simB0, ZA, reduceEqDiff, ↓reduceIte, reduceAdd, reduceLeDiff, t0, t1, t2, t3, tF, t8, t9, t10]); (try with_reducible rfl))) (rev_o hc (b := b) hps.at_ (hlen _ hpi) (a := a1) (e := e1) (by omega) (by omega) hn2) ?_
      rintro _ _ _ ⟨rfl, N, rfl, hpN⟩
      (have zz := aI @t0 (aI @t1 (aI @t2 (aI @t3 (aI @tF (aI @t8 (aI @t9 (aI @t10 (aI @t11 (aI @t12 @tp))))))))); repeat' (first | apply w_seq | apply w_ops0 | apply a_n | apply o_nil | refine vZ ?_ | fail)) <;> (try clear zz)
      exact ⟨p2, 1, N, by omega, by omega, hpi.swap hpN, hps.upd, by ((try simp only [simB0, ZA, reduceEqDiff, ↓reduceIte, reduceAdd, reduceLeDiff, t0]); (try with_reducible rfl)), by ((try simp only [simB0, ZA, reduceEqDiff, ↓reduceIte, reduceAdd, reduceLeDiff, t1]); (try with_reducible rfl)), by ((try simp only [simB0, ZA, reduceEqDiff, ↓reduceIte, reduceAdd, reduceLeDiff, t2]); (try with_reducible rfl)), by ((try simp only [simB0, ZA, reduceEqDiff, ↓reduceIte, reduceAdd, reduceLeDiff, t3]); (try with_reducible rfl)), by ((try simp only [simB0, ZA, reduceEqDiff, ↓reduceIte, reduceAdd, reduceLeDiff, tF]); (try with_reducible rfl)), by ((try simp only [simB0, ZA, reduceEqDiff, ↓reduceIte, reduceAdd, reduceLeDiff, t8]); (try with_reducible rfl)), by ((try simp only [simB0, ZA, reduceEqDiff, ↓reduceIte, reduceAdd, reduceLeDiff, t9]); (try with_reducible rfl)), by ((try simp only [simB0, ZA, reduceEqDiff, ↓reduceIte, reduceAdd, reduceLeDiff, t10]); (try with_reducible rfl)), by ((try simp only [simB0, ZA, reduceEqDiff, ↓reduceIte, reduceAdd, reduceLeDiff]); (try with_reducible rfl)), by ((try simp only [simB0, ZA, reduceEqDiff, ↓reduceIte, reduceAdd, reduceLeDiff]); (try with_reducible rfl))⟩
    · have tz : decide (hint = 2) = false := decide_eq_false h2
      (have zz := aI @t0 (aI @t1 (aI @t2 (aI @t3 (aI @tF (aI @t8 (aI @t9 (aI @t10 (aI @t11 (aI @t12 @tz))))))))); repeat' (first | apply w_seq | apply w_ops0 | apply w_skip | apply a_n | apply o_nil | refine vZ ?_ | refine cFZ ?_ | fail)) <;> (try clear zz)
      exact ⟨p, hint, M, hp1, hp2, hpi, hps, by ((try simp only [simB0, ZA, reduceEqDiff, ↓reduceIte, reduceAdd, reduceLeDiff, t0]); (try with_reducible rfl)), by ((try simp only [simB0, ZA, reduceEqDiff, ↓reduceIte, reduceAdd, reduceLeDiff, t1]); (try with_reducible rfl)), by ((try simp only [simB0, ZA, reduceEqDiff, ↓reduceIte, reduceAdd, reduceLeDiff, t2]); (try with_reducible rfl)), by ((try simp only [simB0, ZA, reduceEqDiff, ↓reduceIte, reduceAdd, reduceLeDiff, t3]); (try with_reducible rfl)), by ((try simp only [simB0, ZA, reduceEqDiff, ↓reduceIte, reduceAdd, reduceLeDiff, tF]); (try with_reducible rfl)), by ((try simp only [simB0, ZA, reduceEqDiff, ↓reduceIte, reduceAdd, reduceLeDiff, t8]); (try with_reducible rfl)), by ((try simp only [simB0, ZA, reduceEqDiff, ↓reduceIte, reduceAdd, reduceLeDiff, t9]); (try with_reducible rfl)), by ((try simp only [simB0, ZA, reduceEqDiff, ↓reduceIte, reduceAdd, reduceLeDiff, t10]); (try with_reducible rfl)), by ((try simp only [simB0, ZA, reduceEqDiff, ↓reduceIte, reduceAdd, reduceLeDiff, t11]); (try with_reducible rfl)), by ((try simp only [simB0, ZA, reduceEqDiff, ↓reduceIte, reduceAdd, reduceLeDiff, t12]); (try with_reducible rfl))⟩
  clear t0 t1 t2 t3 tF t8 t9 t10 t11 t12 hps hpi hp1 hp2
  rintro T H1 n1 ⟨p, hint, M, hp1, hp2, hpi, hps, t0, t1, t2, t3, tF, t8, t9, t10, t11, t12⟩
  -- perhaps sorted
  refine w_seqC (fun T H'' nx'' => ∃ (M : List α), PI K a e L a1 e1 M ∧ PS H H'' nx nx'' b (M.map f) ∧ T 0 = .msl b n 1 0 n ∧ T 1 = .int .i64 (a1 : Nat) ∧ T 2 = .int .i64 (e1 : Nat) ∧ T 3 = .int .i64 (lim : Nat) ∧ n = n ∧ T 8 = .bool wb ∧ T 9 = .bool wp ∧ T 10 = .int .i64 (l : Nat) ∧ T 11 = .int .i64 (p : Nat)) ?_ ?_
  · cases wb
    · cases wp
      · (have zz := aI @t0 (aI @t1 (aI @t2 (aI @t3 (aI @tF (aI @t8 (aI @t9 (aI @t10 (aI @t11 @t12)))))))); repeat' (first | apply w_seq | apply w_ops0 | apply w_skip | apply a_n | apply o_nil | refine vZ ?_ | refine gFZ ?_ | refine cFZ ?_ | fail)) <;> (try clear zz)
        exact ⟨M, hpi, hps, by ((try simp only [simB0, ZA, reduceEqDiff, ↓reduceIte, reduceAdd, reduceLeDiff, t0]); (try with_reducible rfl)), by ((try simp only [simB0, ZA, reduceEqDiff, ↓reduceIte, reduceAdd, reduceLeDiff, t1]); (try with_reducible rfl)), by ((try simp only [simB0, ZA, reduceEqDiff, ↓reduceIte, reduceAdd, reduceLeDiff, t2]); (try with_reducible rfl)), by ((try simp only [simB0, ZA, reduceEqDiff, ↓reduceIte, reduceAdd, reduceLeDiff, t3]); (try with_reducible rfl)), by ((try simp only [simB0, ZA, reduceEqDiff, ↓reduceIte, reduceAdd, reduceLeDiff, tF]); (try with_reducible rfl)), by ((try simp only [simB0, ZA, reduceEqDiff, ↓reduceIte, reduceAdd, reduceLeDiff, t8]); (try with_reducible rfl)), by ((try simp only [simB0, ZA, reduceEqDiff, ↓reduceIte, reduceAdd, reduceLeDiff, t9]); (try with_reducible rfl)), by ((try simp only [simB0, ZA, reduceEqDiff, ↓reduceIte, reduceAdd, reduceLeDiff, t10]); (try with_reducible rfl)), by ((try simp only [simB0, ZA, reduceEqDiff, ↓reduceIte, reduceAdd, reduceLeDiff, t11]); (try with_reducible rfl))⟩
      · (have zz := aI @t0 (aI @t1 (aI @t2 (aI @t3 (aI @tF (aI @t8 (aI @t9 (aI @t10 (aI @t11 @t12)))))))); repeat' (first | apply w_seq | apply w_ops0 | apply w_skip | apply a_n | apply o_nil | refine vZ ?_ | refine gFZ ?_ | refine cFZ ?_ | fail)) <;> (try clear zz)
        exact ⟨M, hpi, hps, by ((try simp only [simB0, ZA, reduceEqDiff, ↓reduceIte, reduceAdd, reduceLeDiff, t0]); (try with_reducible rfl)), by ((try simp only [simB0, ZA, reduceEqDiff, ↓reduceIte, reduceAdd, reduceLeDiff, t1]); (try with_reducible rfl)), by ((try simp only [simB0, ZA, reduceEqDiff, ↓reduceIte, reduceAdd, reduceLeDiff, t2]); (try with_reducible rfl)), by ((try simp only [simB0, ZA, reduceEqDiff, ↓reduceIte, reduceAdd, reduceLeDiff, t3]); (try with_reducible rfl)), by ((try simp only [simB0, ZA, reduceEqDiff, ↓reduceIte, reduceAdd, reduceLeDiff, tF]); (try with_reducible rfl)), by ((try simp only [simB0, ZA, reduceEqDiff, ↓reduceIte, reduceAdd, reduceLeDiff, t8]); (try with_reducible rfl)), by ((try simp only [simB0, ZA, reduceEqDiff, ↓reduceIte, reduceAdd, reduceLeDiff, t9]); (try with_reducible rfl)), by ((try simp only [simB0, ZA, reduceEqDiff, ↓reduceIte, reduceAdd, reduceLeDiff, t10]); (try with_reducible rfl)), by ((try simp only [simB0, ZA, reduceEqDiff, ↓reduceIte, reduceAdd, reduceLeDiff, t11]); (try with_reducible rfl))⟩
    · cases wp
      · (have zz := aI @t0 (aI @t1 (aI @t2 (aI @t3 (aI @tF (aI @t8 (aI @t9 (aI @t10 (aI @t11 @t12)))))))); repeat' (first | apply w_seq | apply w_ops0 | apply w_skip | apply a_n | apply o_nil | refine vZ ?_ | refine gTZ ?_ | refine gFZ ?_ | refine cFZ ?_ | fail)) <;> (try clear zz)
        exact ⟨M, hpi, hps, by ((try simp only [simB0, ZA, reduceEqDiff, ↓reduceIte, reduceAdd, reduceLeDiff, t0]); (try with_reducible rfl)), by ((try simp only [simB0, ZA, reduceEqDiff, ↓reduceIte, reduceAdd, reduceLeDiff, t1]); (try with_reducible rfl)), by ((try simp only [simB0, ZA, reduceEqDiff, ↓reduceIte, reduceAdd, reduceLeDiff, t2]); (try with_reducible rfl)), by ((try simp only [simB0, ZA, reduceEqDiff, ↓reduceIte, reduceAdd, reduceLeDiff, t3]); (try with_reducible rfl)), by ((try simp only [simB0, ZA, reduceEqDiff, ↓reduceIte, reduceAdd, reduceLeDiff, tF]); (try with_reducible rfl)), by ((try simp only [simB0, ZA, reduceEqDiff, ↓reduceIte, reduceAdd, reduceLeDiff, t8]); (try with_reducible rfl)), by ((try simp only [simB0, ZA, reduceEqDiff, ↓reduceIte, reduceAdd, reduceLeDiff, t9]); (try with_reducible rfl)), by ((try simp only [simB0, ZA, reduceEqDiff, ↓reduceIte, reduceAdd, reduceLeDiff, t10]); (try with_reducible rfl)), by ((try simp only [simB0, ZA, reduceEqDiff, ↓reduceIte, reduceAdd, reduceLeDiff, t11]); (try with_reducible rfl))⟩
      · by_cases h1 : hint = 1
        · subst h1
          have tz : decide ((1 : Int) = 1) = true := rfl
          (have zz := aI @t0 (aI @t1 (aI @t2 (aI @t3 (aI @tF (aI @t8 (aI @t9 (aI @t10 (aI @t11 (aI @t12 @tz))))))))); repeat' (first | apply w_seq | apply w_ops0 | apply a_n | apply o_nil | refine vZ ?_ | refine gTZ ?_ | (refine cdZ ?_ ?_ <;> (intro _hg; (try simp only [ZB] at _hg); try first | exact absurd trivial _hg | (exfalso; omega))) | fail)) <;> (try clear zz)
          refine o_callE (by ((try simp only [simB0, ZA, reduceEqDiff, ↓reduceIte, reduceAdd, reduceLeDiff]); (try with_reducible rfl))) (by ((try simp only [simB0, ZA, reduceEqDiff, ↓reduceIte, reduceAdd, reduceLeDiff, t0, t1, t2, t3, tF, t8, t9, t10]); (try with_reducible rfl))) (partial_o hc (b := b) hps.at_ (hlen _ hpi) (hGA _ hpi) (a := a1) (e := e1) (by omega) (by omega) hn2 hpi.low) ?_
          rintro _ _ _ ⟨rfl, N, t, rfl, rfl, hpN, hsN⟩
          cases t
          · (have zz := aI @t0 (aI @t1 (aI @t2 (aI @t3 (aI @tF (aI @t8 (aI @t9 (aI @t10 (aI @t11 @t12)))))))); repeat' (first | apply w_skip | apply a_n | apply o_nil | refine cFZ ?_ | fail)) <;> (try clear zz)
            exact ⟨N, hpi.swap hpN, hps.upd, by ((try simp only [simB0, ZA, reduceEqDiff, ↓reduceIte, reduceAdd, reduceLeDiff, t0]); (try with_reducible rfl)), by ((try simp only [simB0, ZA, reduceEqDiff, ↓reduceIte, reduceAdd, reduceLeDiff, t1]); (try with_reducible rfl)), by ((try simp only [simB0, ZA, reduceEqDiff, ↓reduceIte, reduceAdd, reduceLeDiff, t2]); (try with_reducible rfl)), by ((try simp only [simB0, ZA, reduceEqDiff, ↓reduceIte, reduceAdd, reduceLeDiff, t3]); (try with_reducible rfl)), by ((try simp only [simB0, ZA, reduceEqDiff, ↓reduceIte, reduceAdd, reduceLeDiff, tF]); (try with_reducible rfl)), by ((try simp only [simB0, ZA, reduceEqDiff, ↓reduceIte, reduceAdd, reduceLeDiff, t8]); (try with_reducible rfl)), by ((try simp only [simB0, ZA, reduceEqDiff, ↓reduceIte, reduceAdd, reduceLeDiff, t9]); (try with_reducible rfl)), by ((try simp only [simB0, ZA, reduceEqDiff, ↓reduceIte, reduceAdd, reduceLeDiff, t10]); (try with_reducible rfl)), by ((try simp only [simB0, ZA, reduceEqDiff, ↓reduceIte, reduceAdd, reduceLeDiff, t11]); (try with_reducible rfl))⟩
          · (have zz := aI @t0 (aI @t1 (aI @t2 (aI @t3 (aI @tF (aI @t8 (aI @t9 (aI @t10 (aI @t11 @t12)))))))); repeat' (first | apply w_ret | apply a_n | apply a_r | apply o_nil | refine cTZ ?_ | refine e_ends rfl ?_ | apply r_0 | fail)) <;> (try clear zz)
            exact ⟨N, hps.upd, hpi.done hpN (hsN rfl)⟩
        · have tz : decide (hint = 1) = false := decide_eq_false h1
          (have zz := aI @t0 (aI @t1 (aI @t2 (aI @t3 (aI @tF (aI @t8 (aI @t9 (aI @t10 (aI @t11 (aI @t12 @tz))))))))); repeat' (first | apply w_seq | apply w_ops0 | apply w_skip | apply a_n | apply o_nil | refine vZ ?_ | refine gTZ ?_ | refine cFZ ?_ | fail)) <;> (try clear zz)
          exact ⟨M, hpi, hps, by ((try simp only [simB0, ZA, reduceEqDiff, ↓reduceIte, reduceAdd, reduceLeDiff, t0]); (try with_reducible rfl)), by ((try simp only [simB0, ZA, reduceEqDiff, ↓reduceIte, reduceAdd, reduceLeDiff, t1]); (try with_reducible rfl)), by ((try simp only [simB0, ZA, reduceEqDiff, ↓reduceIte, reduceAdd, reduceLeDiff, t2]); (try with_reducible rfl)), by ((try simp only [simB0, ZA, reduceEqDiff, ↓reduceIte, reduceAdd, reduceLeDiff, t3]); (try with_reducible rfl)), by ((try simp only [simB0, ZA, reduceEqDiff, ↓reduceIte, reduceAdd, reduceLeDiff, tF]); (try with_reducible rfl)), by ((try simp only [simB0, ZA, reduceEqDiff, ↓reduceIte, reduceAdd, reduceLeDiff, t8]); (try with_reducible rfl)), by ((try simp only [simB0, ZA, reduceEqDiff, ↓reduceIte, reduceAdd, reduceLeDiff, t9]); (try with_reducible rfl)), by ((try simp only [simB0, ZA, reduceEqDiff, ↓reduceIte, reduceAdd, reduceLeDiff, t10]); (try with_reducible rfl)), by ((try simp only [simB0, ZA, reduceEqDiff, ↓reduceIte, reduceAdd, reduceLeDiff, t11]); (try with_reducible rfl))⟩
  clear t0 t1 t2 t3 tF t8 t9 t10 t11 t12 hps hpi hint
  rintro T H1 n1 ⟨M, hpi, hps, t0, t1, t2, t3, tF, t8, t9, t10, t11⟩
  have hbb := hps.at_
  have hl := hlen _ hpi
  have hGM := hGA _ hpi
  -- equal to what stands before
  refine w_seqC (fun T H'' nx'' => T 0 = .msl b n 1 0 n ∧ T 1 = .int .i64 (a1 : Nat) ∧ T 2 = .int .i64 (e1 : Nat) ∧ T 3 = .int .i64 (lim : Nat) ∧ n = n ∧ T 8 = .bool wb ∧ T 9 = .bool wp ∧ T 10 = .int .i64 (l : Nat) ∧ T 11 = .int .i64 (p : Nat) ∧ H1 = H'' ∧ n1 = nx'') ?_ ?_
  · by_cases ha0 : a1 = 0
    · have tz : decide ((0 : Int) < (a1 : Int)) = false := decide_eq_false (by omega)
      (have zz := aI @t0 (aI @t1 (aI @t2 (aI @t3 (aI @tF (aI @t8 (aI @t9 (aI @t10 (aI @t11 @tz)))))))); repeat' (first | apply w_seq | apply w_mixS1 | apply w_skip | apply a_n | apply o_nil | refine vZ ?_ | refine gFZ ?_ | refine cFZ ?_ | fail)) <;> (try clear zz)
      exact ⟨by ((try simp only [simB0, ZA, reduceEqDiff, ↓reduceIte, reduceAdd, reduceLeDiff, t0]); (try with_reducible rfl)), by ((try simp only [simB0, ZA, reduceEqDiff, ↓reduceIte, reduceAdd, reduceLeDiff, t1]); (try with_reducible rfl)), by ((try simp only [simB0, ZA, reduceEqDiff, ↓reduceIte, reduceAdd, reduceLeDiff, t2]); (try with_reducible rfl)), by ((try simp only [simB0, ZA, reduceEqDiff, ↓reduceIte, reduceAdd, reduceLeDiff, t3]); (try with_reducible rfl)), by ((try simp only [simB0, ZA, reduceEqDiff, ↓reduceIte, reduceAdd, reduceLeDiff, tF]); (try with_reducible rfl)), by ((try simp only [simB0, ZA, reduceEqDiff, ↓reduceIte, reduceAdd, reduceLeDiff, t8]); (try with_reducible rfl)), by ((try simp only [simB0, ZA, reduceEqDiff, ↓reduceIte, reduceAdd, reduceLeDiff, t9]); (try with_reducible rfl)), by ((try simp only [simB0, ZA, reduceEqDiff, ↓reduceIte, reduceAdd, reduceLeDiff, t10]); (try with_reducible rfl)), by ((try simp only [simB0, ZA, reduceEqDiff, ↓reduceIte, reduceAdd, reduceLeDiff, t11]); (try with_reducible rfl)), rfl, rfl⟩
    have tz : decide ((0 : Int) < (a1 : Int)) = true := decide_eq_true (by omega)
    obtain ⟨k, hk⟩ : ∃ k, a1 - 1 = k := ⟨_, rfl⟩
    have tk : (a1 : Int) - 1 = (k : Int) := by omega
    have lc := hc.run (M.getD k default) (M.getD p default) (hGM _ (mem_getD (by omega))) (hGM _ (mem_getD (by omega)))
    have d1 := hc.dat (M.getD k default)
    have d2 := hc.dat (M.getD p default)
    generalize hKK : K (M.getD k default) (M.getD p default) = kk at lc
    by_cases hlt : kk < 0
    · (have zz := aI @t0 (aI @t1 (aI @t2 (aI @t3 (aI @tF (aI @t8 (aI @t9 (aI @t10 (aI @t11 (aI @tz (aI @tk (aI @hbb (aI @Int.toNat_natCast (aI hc.cells hc.one))))))))))))); repeat' (first | apply w_seq | apply w_mixS1 | apply w_skip | apply a_n | apply o_nil | refine vZ ?_ | refine cZ ?_ (hp := lc) | refine gTZ ?_ | (refine cdZ ?_ ?_ <;> (intro _hg; (try simp only [ZB] at _hg); try first | exact absurd trivial _hg | (exfalso; omega))) | fail)) <;> (try clear zz)
      exact ⟨by ((try simp only [simB0, ZA, reduceEqDiff, ↓reduceIte, reduceAdd, reduceLeDiff, t0]); (try with_reducible rfl)), by ((try simp only [simB0, ZA, reduceEqDiff, ↓reduceIte, reduceAdd, reduceLeDiff, t1]); (try with_reducible rfl)), by ((try simp only [simB0, ZA, reduceEqDiff, ↓reduceIte, reduceAdd, reduceLeDiff, t2]); (try with_reducible rfl)), by ((try simp only [simB0, ZA, reduceEqDiff, ↓reduceIte, reduceAdd, reduceLeDiff, t3]); (try with_reducible rfl)), by ((try simp only [simB0, ZA, reduceEqDiff, ↓reduceIte, reduceAdd, reduceLeDiff, tF]); (try with_reducible rfl)), by ((try simp only [simB0, ZA, reduceEqDiff, ↓reduceIte, reduceAdd, reduceLeDiff, t8]); (try with_reducible rfl)), by ((try simp only [simB0, ZA, reduceEqDiff, ↓reduceIte, reduceAdd, reduceLeDiff, t9]); (try with_reducible rfl)), by ((try simp only [simB0, ZA, reduceEqDiff, ↓reduceIte, reduceAdd, reduceLeDiff, t10]); (try with_reducible rfl)), by ((try simp only [simB0, ZA, reduceEqDiff, ↓reduceIte, reduceAdd, reduceLeDiff, t11]); (try with_reducible rfl)), rfl, rfl⟩
    · (have zz := aI @t0 (aI @t1 (aI @t2 (aI @t3 (aI @tF (aI @t8 (aI @t9 (aI @t10 (aI @t11 (aI @tz (aI @tk (aI @hbb (aI @Int.toNat_natCast (aI hc.cells hc.one))))))))))))); repeat' (first | apply w_seq | apply w_ops0 | apply w_mixS1 | apply a_n | apply o_nil | refine vZ ?_ | refine cZ ?_ (hp := lc) | refine gTZ ?_ | (refine cdZ ?_ ?_ <;> (intro _hg; (try simp only [ZB] at _hg); try first | exact absurd trivial _hg | (exfalso; omega))) | fail)) <;> (try clear zz)
      refine o_callE (by ((try simp only [simB0, ZA, reduceEqDiff, ↓reduceIte, reduceAdd, reduceLeDiff]); (try with_reducible rfl))) (by ((try simp only [simB0, ZA, reduceEqDiff, ↓reduceIte, reduceAdd, reduceLeDiff, t0, t1, t2, t3, tF, t8, t9, t10, t11]); (try with_reducible rfl))) (parteq_o hc (b := b) hps.at_ (hlen _ hpi) (hGA _ hpi) (a := a1) (e := e1) (pv := p) (by omega) (by omega) hn2 ⟨hp1, hp2⟩) ?_
      rintro _ _ _ ⟨rfl, N, m, rfl, hm1, hm2, rfl, hpN, q1, q2⟩
      (have zz := aI @t0 (aI @t1 (aI @t2 (aI @t3 (aI @tF (aI @t8 (aI @t9 (aI @t10 @t11))))))); repeat' (first | apply w_seq | apply w_ops0 | apply w_exit | apply a_n | apply a_x | apply o_nil | refine vZ ?_ | fail)) <;> (try clear zz)
      exact ⟨(m, e1, lim, wb, wp, N), by dsimp only; omega, ⟨hpi.equal hc.ord hpN (by rw [hk, hKK]; exact hlt) (by omega) ⟨hm1, hm2⟩ q1 q2, hps.upd, hlim⟩, by simp (disch := omega) only [agr, ZG, reduceEqDiff, ↓reduceIte, t0, t1, t2, t3, tF, t8, t9, t10]⟩
  clear t0 t1 t2 t3 tF t8 t9 t10 t11
  rintro T _ _ ⟨t0, t1, t2, t3, tF, t8, t9, t10, t11, rfl, rfl⟩
  -- partition
  refine w_seqC (fun T H'' nx'' => ∃ (M : List α) (m : Nat) (t : Bool), PI K a e L a1 e1 M ∧ TwoS K a1 e1 m M ∧ PS H H'' nx nx'' b (M.map f) ∧ T 0 = .msl b n 1 0 n ∧ T 1 = .int .i64 (a1 : Nat) ∧ T 2 = .int .i64 (e1 : Nat) ∧ T 3 = .int .i64 (lim : Nat) ∧ n = n ∧ T 8 = .bool wb ∧ T 9 = .bool wp ∧ T 10 = .int .i64 (l : Nat) ∧ T 14 = .int .i64 (m : Nat) ∧ T 15 = .bool t) ?_ ?_
  · (have zz := aI @t0 (aI @t1 (aI @t2 (aI @t3 (aI @tF (aI @t8 (aI @t9 (aI @t10 @t11))))))); repeat' (first | apply w_ops0 | refine vZ ?_ | fail)) <;> (try clear zz)
    refine o_callE (by ((try simp only [simB0, ZA, reduceEqDiff, ↓reduceIte, reduceAdd, reduceLeDiff]); (try with_reducible rfl))) (by ((try simp only [simB0, ZA, reduceEqDiff, ↓reduceIte, reduceAdd, reduceLeDiff, t0, t1, t2, t3, tF, t8, t9, t10, t11]); (try with_reducible rfl))) (part_o hc (b := b) hps.at_ (hlen _ hpi) (hGA _ hpi) (a := a1) (e := e1) (pv := p) (by omega) (by omega) hn2 ⟨hp1, hp2⟩) ?_
    rintro _ _ _ ⟨rfl, N, m, t, rfl, hm1, hm2, rfl, hpN, q1, q2⟩
    (have zz := aI @t0 (aI @t1 (aI @t2 (aI @t3 (aI @tF (aI @t8 (aI @t9 (aI @t10 @t11))))))); repeat' (first | apply a_n | apply o_nil | refine vZ ?_ | fail)) <;> (try clear zz)
    exact ⟨N, m, t, hpi.swap hpN, ⟨⟨hm1, hm2⟩, fun p k1 k2 => hc.ord.asym _ _ (q1 p k1 k2), q2⟩, hps.upd, by ((try simp only [simB0, ZA, reduceEqDiff, ↓reduceIte, reduceAdd, reduceLeDiff, t0]); (try with_reducible rfl)), by ((try simp only [simB0, ZA, reduceEqDiff, ↓reduceIte, reduceAdd, reduceLeDiff, t1]); (try with_reducible rfl)), by ((try simp only [simB0, ZA, reduceEqDiff, ↓reduceIte, reduceAdd, reduceLeDiff, t2]); (try with_reducible rfl)), by ((try simp only [simB0, ZA, reduceEqDiff, ↓reduceIte, reduceAdd, reduceLeDiff, t3]); (try with_reducible rfl)), by ((try simp only [simB0, ZA, reduceEqDiff, ↓reduceIte, reduceAdd, reduceLeDiff, tF]); (try with_reducible rfl)), by ((try simp only [simB0, ZA, reduceEqDiff, ↓reduceIte, reduceAdd, reduceLeDiff, t8]); (try with_reducible rfl)), by ((try simp only [simB0, ZA, reduceEqDiff, ↓reduceIte, reduceAdd, reduceLeDiff, t9]); (try with_reducible rfl)), by ((try simp only [simB0, ZA, reduceEqDiff, ↓reduceIte, reduceAdd, reduceLeDiff, t10]); (try with_reducible rfl)), by ((try simp only [simB0, ZA, reduceEqDiff, ↓reduceIte, reduceAdd, reduceLeDiff]); (try with_reducible rfl)), by ((try simp only [simB0, ZA, reduceEqDiff, ↓reduceIte, reduceAdd, reduceLeDiff]); (try with_reducible rfl))⟩
  clear t0 t1 t2 t3 tF t8 t9 t10 t11 hbb hl hGM hpi hps hp1 hp2 p
  rintro T H1 n1 ⟨M, m, t, hpi, hts, hps, t0, t1, t2, t3, tF, t8, t9, t10, t14, t15⟩
  have hm := hts.mid
  have hl := hlen _ hpi
  have tq : abin2 .quo false false (.int .i64 (l : Int)) (.int .i64 8) = some (.int .i64 ((l / 8 : Nat) : Int)) := by
    rw [quo_pos (by omega) (by omega) (by omega)]
    congr 2
  have tm : (m : Int) + 1 = ((m + 1 : Nat) : Int) := by omega
  by_cases hlr : (m : Int) - (a1 : Int) < (e1 : Int) - (m : Int)
  · have tz : decide ((m : Int) - (a1 : Int) < (e1 : Int) - (m : Int)) = true := decide_eq_true hlr
    (have zz := aI @t0 (aI @t1 (aI @t2 (aI @t3 (aI @tF (aI @t8 (aI @t9 (aI @t10 (aI @t14 (aI @t15 (aI @tq @tz)))))))))); repeat' (first | apply w_seq | apply w_ops0 | apply a_n | apply o_nil | refine vZ ?_ | refine cTZ ?_ | fail)) <;> (try clear zz)
    refine o_callE (by ((try simp only [simB0, ZA, reduceEqDiff, ↓reduceIte, reduceAdd, reduceLeDiff]); (try with_reducible rfl))) (by ((try simp only [simB0, ZA, reduceEqDiff, ↓reduceIte, reduceAdd, reduceLeDiff, t0, t1, t2, t3, tF, t8, t9, t10, t14, t15]); (try with_reducible rfl))) (ih a1 m lim M H1 n1 (by omega) hps.at_ (hbn _ _ _ hps) hl (hGA _ hpi) (by omega) (by omega) hlim (hpi.low.sub rfl (by omega))) ?_
    rintro _ H2 n2 ⟨N, hps2, hpN, hsN⟩
    (have zz := aI @t0 (aI @t1 (aI @t2 (aI @t3 (aI @tF (aI @t8 (aI @t9 (aI @t10 (aI @t14 (aI @t15 @tm))))))))); repeat' (first | apply w_ops0 | apply a_n | apply o_nil | refine vZ ?_ | fail)) <;> (try clear zz)
    exact ⟨(m + 1, e1, lim, decide (((l / 8 : Nat) : Int) ≤ (m : Int) - (a1 : Int)), t, N), by dsimp only; omega, ⟨hpi.left hc.ord hts hpN hsN, hps.rec_ hps2.at_ hps2.fr hps2.le, hlim⟩, by simp (disch := omega) only [agr, ZG, reduceEqDiff, ↓reduceIte, t0, t1, t2, t3, tF, t8, t9, t10, t14, t15]⟩
  · have tz : decide ((m : Int) - (a1 : Int) < (e1 : Int) - (m : Int)) = false := decide_eq_false hlr
    (have zz := aI @t0 (aI @t1 (aI @t2 (aI @t3 (aI @tF (aI @t8 (aI @t9 (aI @t10 (aI @t14 (aI @t15 (aI @tq (aI @tz @tm))))))))))); repeat' (first | apply w_seq | apply w_ops0 | apply a_n | apply o_nil | refine vZ ?_ | refine cFZ ?_ | fail)) <;> (try clear zz)
    refine o_callE (by ((try simp only [simB0, ZA, reduceEqDiff, ↓reduceIte, reduceAdd, reduceLeDiff]); (try with_reducible rfl))) (by ((try simp only [simB0, ZA, reduceEqDiff, ↓reduceIte, reduceAdd, reduceLeDiff, t0, t1, t2, t3, tF, t8, t9, t10, t14, t15]); (try with_reducible rfl))) (ih (m + 1) e1 lim M H1 n1 (by omega) hps.at_ (hbn _ _ _ hps) hl (hGA _ hpi) (by omega) (by omega) hlim (fun q k0 k1 k2 => by rw [Nat.add_sub_cancel]; exact hts.ge q k1 k2)) ?_
    rintro _ H2 n2 ⟨N, hps2, hpN, hsN⟩
    (have zz := aI @t0 (aI @t1 (aI @t2 (aI @t3 (aI @tF (aI @t8 (aI @t9 (aI @t10 (aI @t14 @t15)))))))); repeat' (first | apply w_ops0 | apply a_n | apply o_nil | refine vZ ?_ | fail)) <;> (try clear zz)
    exact ⟨(a1, m, lim, decide (((l / 8 : Nat) : Int) ≤ (e1 : Int) - (m : Int)), t, N), by dsimp only; omega, ⟨hpi.right hc.ord hts hpN hsN, hps.rec_ hps2.at_ hps2.fr hps2.le, hlim⟩, by simp (disch := omega) only [agr, ZG, reduceEqDiff, ↓reduceIte, t0, t1, t2, t3, tF, t8, t9, t10, t14, t15]⟩
end
end Go.Proofs.YtbiikomnhkbblaaGreat

/- T0: contracts of functions and plain laws; for all inputs that the theorems name. -/
namespace Go.Proofs.YtbiikomnhkbblaaGreat
open Go Go.Abs
open Nat (reduceEqDiff reduceAdd reduceLeDiff)
abbrev Sh {α : Type} (l : List α) : Prop := l.length ≤ 17592186044416

structure CaseV where
  inp : List Int
  out : List (List Int)
  calm : List (List Int)
  deriving Inhabited, DecidableEq
structure TaskV where
  n : Int
  ins : Int
  outs : Int
  cases : List CaseV
  deriving Inhabited, DecidableEq
def encC (c : CaseV) : AV := .agg [encV c.inp, encVV c.out, encVV c.calm]
def encCs (l : List CaseV) : AV := .sl 3 (l.map encC)
def encT (t : TaskV) : AV := .agg [.int .i64 t.n, .int .i64 t.ins, .int .i64 t.outs, encCs t.cases]
theorem asrc_one {H : Hp} {d : Nat} {x : AV} : asrc 1 (hupd H d [x]) (.msl d 1 1 0 1) = some (1, [x]) := asrc_msl (n := 1) (len := 1) (off := 0) (cs := [x]) hupd_self' rfl (by simp)

theorem encCs_dat (l : List CaseV) : Dat (encCs l) := Dat.sl (fun x hx c hc => by
  simp at hx; obtain ⟨q, _, rfl⟩ := hx
  simp only [encC, AV.cells, List.mem_cons, List.not_mem_nil, or_false] at hc
  rcases hc with rfl | rfl | rfl
  · exact encV_dat _
  · exact encVV_dat _
  · exact encVV_dat _)
theorem encT_dat (t : TaskV) : Dat (encT t) := by
  refine Dat.agg fun x hx => ?_
  simp only [List.mem_cons, List.not_mem_nil, or_false] at hx
  rcases hx with rfl | rfl | rfl | rfl
  · exact .int
  · exact .int
  · exact .int
  · exact encCs_dat _
theorem encCs_one (l : List CaseV) : (encCs l).one = true := rfl
theorem encCs_cells (l : List CaseV) : (encCs l).cells = [encCs l] := rfl
theorem alenS_encCs (l : List CaseV) : alenS (encCs l) = some (.int .i64 l.length) := by simp [alenS, encCs]
theorem aixS_encCs {l : List CaseV} {k : Nat} (h : k < l.length) : aixS 3 (encCs l) (.int .i64 k) = some (.iptr [encV (l.getD k default).inp, encVV (l.getD k default).out, encVV (l.getD k default).calm] 0) := by
  simp [aixS, encCs, h, List.getD, encC, AV.cells]
def ShC (c : CaseV) : Prop := Sh c.inp ∧ Sh c.out ∧ (∀ x ∈ c.out, Sh x) ∧ Sh c.calm ∧ ∀ x ∈ c.calm, Sh x
def order : List Int → List Int → Int
  | [], [] => 0
  | [], _ :: _ => -1
  | _ :: _, [] => 1
  | a :: l, b :: m => if a < b then -1 else if a > b then 1 else order l m

/-! ### the first error of a row -/
def firstI (f : Nat → Int) : Nat → Int
  | 0 => 0
  | n + 1 => if firstI f n ≠ 0 then firstI f n else f n
theorem firstI_zero {f : Nat → Int} : ∀ {n : Nat}, (∀ i, i < n → f i = 0) → firstI f n = 0
  | 0, _ => rfl
  | n + 1, h => by
    have := firstI_zero (f := f) (n := n) (fun i hi => h i (by omega))
    rw [firstI, this, if_neg (by simp)]; exact h n (by omega)
theorem firstI_hit {f : Nat → Int} : ∀ {n k : Nat}, k < n → (∀ i, i < k → f i = 0) → f k ≠ 0 → firstI f n = f k
  | 0, k, h, _, _ => absurd h (by omega)
  | n + 1, k, h, h0, hk => by
    rw [firstI]
    by_cases e : k = n
    · subst e
      rw [firstI_zero h0, if_neg (by simp)]
    · rw [firstI_hit (n := n) (by omega) h0 hk, if_pos hk]
theorem firstI_all {f : Nat → Int} : ∀ {n : Nat}, firstI f n = 0 → ∀ i, i < n → f i = 0
  | 0, _, i, h => absurd h (by omega)
  | n + 1, h, i, hi => by
    rw [firstI] at h
    by_cases e : firstI f n = 0
    · rw [e, if_neg (by simp)] at h
      by_cases ei : i = n
      · subst ei; exact h
      · exact firstI_all e i (by omega)
    · rw [if_pos e] at h; exact absurd h e

/-! ### errors of tasks -/
def vectorE (v : List Int) (n most : Int) : Int := if (v.length : Int) ≠ n then 15 else if v.any (fun x => decide (x < 0 ∨ most ≤ x)) then 2 else 0
def unordB (l : List (List Int)) (i : Nat) : Bool := decide (0 < i) && decide (0 ≤ order (l.getD (i - 1) default) (l.getD i default))
def outE (n outs : Int) (l : List (List Int)) (k : Nat) : Int := if vectorE (l.getD k default) n outs ≠ 0 then vectorE (l.getD k default) n outs else if unordB l k then 14 else 0
def calmE (out calm : List (List Int)) (k : Nat) : Int := if calm.getD k default ∈ out then (if unordB calm k then 14 else 0) else 6
def vectorsE (n outs : Int) (c : CaseV) : Int := if c.out.length < 1 ∨ 1024 < c.out.length then 5 else if firstI (outE n outs c.out) c.out.length ≠ 0 then firstI (outE n outs c.out) c.out.length else firstI (calmE c.out c.calm) c.calm.length
def caseE (t : TaskV) (k : Nat) : Int := if vectorE (t.cases.getD k default).inp t.n t.ins ≠ 0 then vectorE (t.cases.getD k default).inp t.n t.ins else if unordB (t.cases.map CaseV.inp) k then 14 else vectorsE t.n t.outs (t.cases.getD k default)
def checkE (t : TaskV) : Int := if t.n < 1 ∨ 5 < t.n ∨ t.ins < 1 ∨ 8 < t.ins ∨ t.outs < 1 ∨ 8 < t.outs then 2 else if t.cases.length < 1 ∨ 1024 < t.cases.length then 5 else firstI (caseE t) t.cases.length

/-! ### the order of vectors -/
theorem order_refl : ∀ l : List Int, order l l = 0
  | [] => rfl
  | a :: l => by rw [order, if_neg (by omega), if_neg (by omega)]; exact order_refl l
theorem order_eq : ∀ {l m : List Int}, order l m = 0 → l = m
  | [], [], _ => rfl
  | [], _ :: _, h => by simp [order] at h
  | _ :: _, [], h => by simp [order] at h
  | a :: l, b :: m, h => by
    rw [order] at h
    split at h
    · omega
    · split at h
      · omega
      · rw [order_eq h, show a = b by omega]
attribute [local irreducible] awp2 aops2 ains aloop athen bbind obind gbind acond res1 Go.Abs.Fn PCall Go.Abs.Pure SnapArgs SnapL Yl
def idxF (l : List Int) (p : Int → Bool) : Int := if l.any p then (l.findIdx p : Nat) else -1
theorem idxF_at {l : List Int} {p : Int → Bool} {k : Nat} (hk : k < l.length) (h : ∀ i, i < k → p (l.getD i default) = false) (hv : p (l.getD k default) = true) : idxF l p = k := by
  have e : l.getD k default = l[k] := by simp [List.getD, hk]
  have hm : l.any p = true := List.any_eq_true.2 ⟨l[k], List.getElem_mem hk, by rw [← e]; exact hv⟩
  unfold idxF; rw [if_pos hm]
  have : l.findIdx p = k := (List.findIdx_eq hk).2 ⟨by rw [← e]; exact hv, fun j hj => by have := h j hj; rwa [show l.getD j default = l[j] by simp [List.getD, show j < l.length by omega]] at this⟩
  rw [this]
theorem idxF_none {l : List Int} {p : Int → Bool} (h : ∀ i, i < l.length → p (l.getD i default) = false) : l.any p = false := by
  rw [List.any_eq_false]
  intro x hx
  obtain ⟨i, hi, e⟩ := List.getElem_of_mem hx
  have := h i hi
  rw [show l.getD i default = l[i] by simp [List.getD, hi], e] at this
  simp [this]

theorem indexF_c (l : List Int) (p : Int → Bool) (g : Nat) (caps : List AV) (hd : ∀ x ∈ caps, Dat x) (hg : ∀ x ∈ l, Pure Tryz.prog g (.int .i64 x :: caps) (.bool (p x))) (hl : Sh l) : Pure Tryz.prog 83 [encV l, .func g caps] (.int .i64 (idxF l p)) := by
  refine Pure.of_c2 follows is83 (Nat.le_of_ble_eq_true rfl) ?_
  simp only [b83, cO, cG, cN, cM, cD, cF, cB, cFal, cTru]
  (have zz := and_self; repeat' (first | apply w_seq | apply w_ops0 | apply w_block | apply a_n | apply o_nil | refine vZ ?_ | apply w_loop | fail)) <;> (try clear zz)
  refine loop0 (X := Nat) (fun k => [(0, encV l), (1, .func g caps), (6, encV l), (7, .int .i64 l.length), (8, .int .i64 k)]) (fun k => k ≤ l.length ∧ ∀ i, i < k → p (l.getD i default) = false) (fun k => l.length - k) 0 ⟨Nat.zero_le _, by simp⟩ (by simp (disch := omega) only [agr, ZG, reduceEqDiff, ↓reduceIte]) ?_
  rintro k ⟨h1, h2⟩
  (have zz := and_self; repeat' (first | apply w_seq | apply w_ops0 | apply w_block | apply w_skip | apply w_exit | apply w_ret | apply a_n | apply a_x | apply a_r | apply o_nil | refine vZ ?_ | refine cZ ?_ (hp := by exact hg _ (mem_getD (by omega))) (hs := by (first | refine snap_plain ?_ rfl | apply snap_data); (repeat' (first | exact snapL_nil | apply snapL_i | apply snapL_dat | exact snapL_datL hd)); first | done | fail) | (refine cdZ ?_ ?_ <;> (intro _hg; (try simp only [ZB] at _hg); try first | exact absurd trivial _hg | (exfalso; omega))) | refine e_ends rfl ?_ | refine r1Z ?_ | fail)) <;> (try clear zz)
  · refine snap_int ?_
    rw [idxF_at (by omega) h2 _hg]
  · refine ⟨k + 1, ⟨by omega, fun i hi => ?_⟩, by omega, by simp (disch := omega) only [agr, ZG, reduceEqDiff, ↓reduceIte], rfl, rfl⟩
    rcases Nat.lt_succ_iff_lt_or_eq.1 hi with h | rfl
    · exact h2 i h
    · exact _hg
  · refine snap_int ?_
    unfold idxF; rw [idxF_none fun i hi => h2 i (by omega)]; rfl

theorem containsF_c (l : List Int) (p : Int → Bool) (g : Nat) (caps : List AV) (hd : ∀ x ∈ caps, Dat x) (hg : ∀ x ∈ l, Pure Tryz.prog g (.int .i64 x :: caps) (.bool (p x))) (hl : Sh l) : Pure Tryz.prog 56 [encV l, .func g caps] (.bool (l.any p)) := by
  refine Pure.of_c2 follows is56 (Nat.le_of_ble_eq_true rfl) ?_
  simp only [b56, cO, cG, cN, cM, cD, cF, cB, cFal, cTru]
  (have zz := and_self; repeat' (first | apply w_seq | apply w_ops0 | apply w_ret | apply a_n | apply o_nil | refine vZ ?_ | refine cZ ?_ (hp := by exact indexF_c l p g caps hd hg hl) (hs := by (first | refine snap_plain ?_ rfl | apply snap_data); (repeat' (first | exact snapL_nil | apply snapL_i | apply snapL_dat | exact Dat.func hd)); first | done | fail) | refine e_ends rfl ?_ | refine r1Z ?_ | fail)) <;> (try clear zz)
  refine snap_bool ?_
  unfold idxF; split <;> simp_all

theorem cloneF_c (l : List Int) (hl : Sh l) : PureF Tryz.prog 37 [encV l] (encV l) := by
  refine PureF.of_c2 follows is37 (Nat.le_of_ble_eq_true rfl) ?_
  simp only [b37, cO, cG, cN, cM, cD, cF, cB, cFal, cTru]
  (have zz := and_self; repeat' (first | apply w_seq | apply w_ops0 | apply a_n | apply o_nil | refine vZ ?_ | fail)) <;> (try clear zz)
  refine o_snil (k := l.length) (by ((try simp only [simB0, ZA, reduceEqDiff, ↓reduceIte, reduceAdd, reduceLeDiff]); (try with_reducible rfl)); exact alenN_encV) (fun h => ?_) (fun h => ?_) (fun h => ?_)
  ((all_goals (try have zz := and_self)); (repeat' (first | apply w_seq | apply w_ops0 | apply w_skip | apply w_ret | apply a_n | apply a_r | apply o_nil | refine vZ ?_ | refine b0Z ?_ | refine a0Z ?_ | refine cTZ ?_ | refine cFZ ?_ | refine e_ends rfl ?_ | refine r1Z ?_ | fail)); (all_goals (try clear zz)))
  · exact snapF_row hupd_self' (by omega) rfl
  · exact snapF_esl h
  · exact snapF_row hupd_self' (by omega) rfl

theorem equalV_c (l m : List Int) (hl : Sh l) (hm : Sh m) : Pure Tryz.prog 23 [encV l, encV m] (.bool (decide (l = m))) := by
  refine Pure.of_c2 follows is23 (Nat.le_of_ble_eq_true rfl) ?_
  simp only [b23, cO, cG, cN, cM, cD, cF, cB, cFal, cTru]
  (have zz := and_self; repeat' (first | apply w_seq | apply w_ops0 | apply w_block | apply w_skip | apply w_ret | apply a_n | apply a_r | apply o_nil | refine vZ ?_ | (refine cdZ ?_ ?_ <;> (intro _hg; (try simp only [ZB] at _hg); try first | exact absurd trivial _hg | (exfalso; omega))) | refine e_ends rfl ?_ | refine r1Z ?_ | apply w_loop | fail)) <;> (try clear zz)
  · refine snap_bool ?_
    symm; rw [decide_eq_false_iff_not]; rintro rfl; omega
  refine loop0 (X := Nat) (fun k => [(0, encV l), (1, encV m), (12, .int .i64 l.length), (13, .int .i64 k)]) (fun k => k ≤ l.length ∧ ∀ i, i < k → l.getD i default = m.getD i default) (fun k => l.length - k) 0 ⟨Nat.zero_le _, by simp⟩ (by simp (disch := omega) only [agr, ZG, reduceEqDiff, ↓reduceIte]) ?_
  rintro k ⟨h1, h2⟩
  (have zz := and_self; repeat' (first | apply w_seq | apply w_ops0 | apply w_ops1 | apply w_block | apply w_skip | apply w_exit | apply w_ret | apply a_n | apply a_x | apply a_r | apply o_nil | refine vZ ?_ | (refine cdZ ?_ ?_ <;> (intro _hg; (try simp only [ZB] at _hg); try first | exact absurd trivial _hg | (exfalso; omega))) | refine e_ends rfl ?_ | refine r1Z ?_ | fail)) <;> (try clear zz)
  · refine snap_bool ?_
    symm; rw [decide_eq_false_iff_not]; rintro rfl; exact absurd rfl ‹_›
  · refine ⟨k + 1, ⟨by omega, fun i hi => ?_⟩, by omega, by simp (disch := omega) only [agr, ZG, reduceEqDiff, ↓reduceIte], rfl, rfl⟩
    rcases Nat.lt_succ_iff_lt_or_eq.1 hi with h | rfl
    · exact h2 i h
    · omega
  · refine snap_bool ?_
    symm; rw [decide_eq_true_iff]
    refine List.ext_getElem (by omega) (fun i h3 h4 => ?_)
    have := h2 i (by omega)
    simpa [List.getD, h3, h4] using this

theorem isNaN_c (n : Int) : Pure Tryz.prog 96 [.int .i64 n] (.bool false) := by
  refine Pure.of_c2 follows is96 (Nat.le_of_ble_eq_true rfl) ?_
  simp only [b96, cO, cG, cN, cM, cD, cF, cB, cFal, cTru]
  (have zz := and_self; repeat' (first | apply w_seq | apply w_ops0 | apply w_ret | apply a_n | apply o_nil | refine vZ ?_ | refine e_ends rfl ?_ | refine r1Z ?_ | fail)) <;> (try clear zz)
  exact snap_bool (by simp)

theorem cmp_c (a b : Int) : Pure Tryz.prog 76 [.int .i64 a, .int .i64 b] (.int .i64 (if a < b then -1 else if a > b then 1 else 0)) := by
  refine Pure.of_c2 follows is76 (Nat.le_of_ble_eq_true rfl) ?_
  simp only [b76, cO, cG, cN, cM, cD, cF, cB, cFal, cTru]
  (have zz := @Bool.false_eq_true; repeat' (first | apply w_seq | apply w_ops0 | apply w_skip | apply w_ret | apply a_n | apply a_r | apply o_nil | refine vZ ?_ | refine cZ ?_ (hp := by exact isNaN_c _) | refine cFZ ?_ | (refine cdZ ?_ ?_ <;> (intro _hg; (try simp only [ZB] at _hg); try first | exact absurd trivial _hg | (exfalso; omega))) | refine e_ends rfl ?_ | refine r1Z ?_ | fail)) <;> (try clear zz)
  all_goals (refine snap_int ?_)
  · rw [if_pos ‹_›]
  · rw [if_neg ‹_›, if_pos ‹_›]
  · rw [if_neg (by omega), if_neg (by omega)]

theorem compare_c (a b : List Int) (ha : Sh a) (hb : Sh b) : Pure Tryz.prog 46 [encV a, encV b] (.int .i64 (order a b)) := by
  refine Pure.of_c2 follows is46 (Nat.le_of_ble_eq_true rfl) ?_
  simp only [b46, cO, cG, cN, cM, cD, cF, cB, cFal, cTru]
  (have zz := and_self; repeat' (first | apply w_seq | apply w_ops0 | apply w_block | apply a_n | apply o_nil | refine vZ ?_ | apply w_loop | fail)) <;> (try clear zz)
  refine loop0 (X := Nat) (fun k => [(0, encV a), (1, encV b), (9, encV a), (10, .int .i64 a.length), (11, .int .i64 k)]) (fun k => k ≤ a.length ∧ k ≤ b.length ∧ order a b = order (a.drop k) (b.drop k)) (fun k => a.length - k) 0 ⟨Nat.zero_le _, Nat.zero_le _, rfl⟩ (by simp (disch := omega) only [agr, ZG, reduceEqDiff, ↓reduceIte]) ?_
  rintro k ⟨h1, h2, h3⟩
  (have zz := and_self; repeat' (first | apply w_seq | apply w_ops0 | apply w_block | apply w_skip | apply w_exit | apply w_ret | apply a_n | apply a_x | apply a_r | apply o_nil | refine vZ ?_ | refine cZ ?_ (hp := by exact cmp_c _ _) | (refine cdZ ?_ ?_ <;> (intro _hg; (try simp only [ZB] at _hg); try first | exact absurd trivial _hg | (exfalso; omega))) | refine e_ends rfl ?_ | refine r1Z ?_ | fail)) <;> (try clear zz)
  · refine snap_int ?_
    rw [h3, List.drop_eq_nil_of_le (show b.length ≤ k by omega), drop_cons (l := a) (by omega)]; rfl
  · refine snap_int ?_
    rw [h3, drop_cons (l := a) (by omega), drop_cons (l := b) (by omega), order]
    split
    · rfl
    · rename_i h
      split
      · rfl
      · rename_i h'
        exact absurd (show (if a.getD k default < b.getD k default then (-1 : Int) else if a.getD k default > b.getD k default then 1 else 0) = 0 by rw [if_neg h, if_neg h']) ‹_›
  · refine ⟨k + 1, ⟨by omega, by omega, ?_⟩, by omega, by simp (disch := omega) only [agr, ZG, reduceEqDiff, ↓reduceIte], rfl, rfl⟩
    rw [h3, drop_cons (l := a) (by omega), drop_cons (l := b) (by omega), order]
    by_cases h : a.getD k default < b.getD k default
    · rw [if_pos h] at _hg; exact absurd (by decide) _hg
    · by_cases h' : a.getD k default > b.getD k default
      · rw [if_neg h, if_pos h'] at _hg; exact absurd (by decide) _hg
      · rw [if_neg h, if_neg h']
  · refine snap_int ?_
    rw [h3, List.drop_eq_nil_of_le (show a.length ≤ k by omega), drop_cons (l := b) (by omega)]; rfl
  · refine snap_int ?_
    rw [h3, List.drop_eq_nil_of_le (show a.length ≤ k by omega), List.drop_eq_nil_of_le (show b.length ≤ k by omega)]; rfl

theorem indexFV_c (l : List (List Int)) (p : List Int → Bool) (g : Nat) (caps : List AV) (hd : ∀ x ∈ caps, Dat x) (hg : ∀ x ∈ l, Pure Tryz.prog g (encV x :: caps) (.bool (p x))) (hl : Sh l) : Pure Tryz.prog 75 [encVV l, .func g caps] (.int .i64 (if l.any p then (l.findIdx p : Nat) else -1)) := by
  refine Pure.of_c2 follows is75 (Nat.le_of_ble_eq_true rfl) ?_
  simp only [b75, cO, cG, cN, cM, cD, cF, cB, cFal, cTru]
  (have zz := and_self; repeat' (first | apply w_seq | apply w_ops0 | apply w_block | apply a_n | apply o_nil | refine vZ ?_ | apply w_loop | fail)) <;> (try clear zz)
  refine loop0 (X := Nat) (fun k => [(0, encVV l), (1, .func g caps), (7, .int .i64 l.length), (8, .int .i64 k)]) (fun k => k ≤ l.length ∧ ∀ i, i < k → p (l.getD i default) = false) (fun k => l.length - k) 0 ⟨Nat.zero_le _, by simp⟩ (by simp (disch := omega) only [agr, ZG, reduceEqDiff, ↓reduceIte]) ?_
  rintro k ⟨h1, h2⟩
  (have zz := and_self; repeat' (first | apply w_seq | apply w_ops0 | apply w_block | apply w_skip | apply w_exit | apply w_ret | apply a_n | apply a_x | apply a_r | apply o_nil | refine vZ ?_ | refine cZ ?_ (hp := by exact hg _ (mem_getD (by omega))) (hs := by (first | refine snap_plain ?_ rfl | apply snap_data); (repeat' (first | exact snapL_nil | apply snapL_i | apply snapL_dat | exact snapL_datL hd)); first | done | fail) | (refine cdZ ?_ ?_ <;> (intro _hg; (try simp only [ZB] at _hg); try first | exact absurd trivial _hg | (exfalso; omega))) | refine e_ends rfl ?_ | refine r1Z ?_ | fail)) <;> (try clear zz)
  · refine snap_int ?_
    have hk : k < l.length := by omega
    have e : l.getD k default = l[k] := by simp [List.getD, hk]
    rw [e] at _hg
    have hm : l.any p = true := List.any_eq_true.2 ⟨l[k], List.getElem_mem hk, _hg⟩
    rw [if_pos hm, (List.findIdx_eq hk).2 ⟨_hg, fun j hj => by have := h2 j hj; rwa [show l.getD j default = l[j] by simp [List.getD, show j < l.length by omega]] at this⟩]
  · refine ⟨k + 1, ⟨by omega, fun i hi => ?_⟩, by omega, by simp (disch := omega) only [agr, ZG, reduceEqDiff, ↓reduceIte], rfl, rfl⟩
    rcases Nat.lt_succ_iff_lt_or_eq.1 hi with h | rfl
    · exact h2 i h
    · exact _hg
  · refine snap_int ?_
    rw [if_neg]
    rw [Bool.not_eq_true, List.any_eq_false]
    intro x hx
    obtain ⟨i, hi, e⟩ := List.getElem_of_mem hx
    have := h2 i (by omega)
    rw [show l.getD i default = x by simp [List.getD, hi, e]] at this
    simp [this]

theorem containsFV_c (l : List (List Int)) (p : List Int → Bool) (g : Nat) (caps : List AV) (hd : ∀ x ∈ caps, Dat x) (hg : ∀ x ∈ l, Pure Tryz.prog g (encV x :: caps) (.bool (p x))) (hl : Sh l) : Pure Tryz.prog 40 [encVV l, .func g caps] (.bool (l.any p)) := by
  refine Pure.of_c2 follows is40 (Nat.le_of_ble_eq_true rfl) ?_
  simp only [b40, cO, cG, cN, cM, cD, cF, cB, cFal, cTru]
  (have zz := and_self; repeat' (first | apply w_seq | apply w_ops0 | apply w_ret | apply a_n | apply o_nil | refine vZ ?_ | refine cZ ?_ (hp := by exact indexFV_c l p g caps hd hg hl) (hs := by (first | refine snap_plain ?_ rfl | apply snap_data); (repeat' (first | exact snapL_nil | apply snapL_i | apply snapL_dat | exact Dat.func hd)); first | done | fail) | refine e_ends rfl ?_ | refine r1Z ?_ | fail)) <;> (try clear zz)
  refine snap_bool ?_
  split <;> simp_all

end Go.Proofs.YtbiikomnhkbblaaGreat

/- U13o: contracts of functions and plain laws; for all inputs that the theorems name. -/
namespace Go.Proofs.YtbiikomnhkbblaaGreat
open Go Go.Abs
open Nat (reduceEqDiff reduceAdd reduceLeDiff)

/-! ### slices.Sort at ints -/
theorem ordI : Ord (fun x y : Int => x - y) := ⟨fun x => by omega, fun x y h => by omega, fun x y z h1 h2 => by omega⟩
attribute [local irreducible] awp2 aops2 ains aloop athen bbind obind gbind acond res1 Go.Abs.Fn PCall Go.Abs.Pure SnapArgs SnapL Yl

theorem less_c (x y : Int) : Pure Tryz.prog 74 [.int .i64 x, .int .i64 y] (.bool (decide (x - y < 0))) := by
  have e : decide (x - y < 0) = decide (x < y) := decide_eq_decide.2 (by omega)
  rw [e]
  have n1 := isNaN_c x
  refine Pure.of_c2 follows is74 (Nat.le_of_ble_eq_true rfl) ?_
  simp only [b74, cO, cG, cN, cM, cD, cF, cB, cFal, cTru]
  (have zz := and_self; repeat' (first | apply w_seq | apply w_ops0 | apply w_ret | apply a_n | apply o_nil | refine vZ ?_ | refine cZ ?_ (hp := n1) | refine gTZ ?_ | refine gFZ ?_ | refine e_ends rfl ?_ | refine r1Z ?_ | fail)) <;> (try clear zz)
  exact Dat.snap Dat.bool
theorem cmpI : CmpO Tryz.prog (fun x : Int => .int .i64 x) (fun x y => x - y) (fun _ => True) := ⟨fun _ => rfl, fun _ => rfl, fun _ => .int, fun x y _ _ => less_c x y, ordI⟩

theorem sortI_c {L : List Int} {H : Hp} {b nx n : Nat} (hH : H b = some (L.map fun x => .int .i64 x)) (hbx : b < nx) (hn : L.length = n) (hn0 : 0 < n) (hn2 : n ≤ 1000000000) :
    Abs.Fn Tryz.prog 62 [.msl b n 1 0 n] H nx fun r H' nx' => ∃ L' : List Int, PS H H' nx nx' b (L'.map fun x => .int .i64 x) ∧ L'.Perm L ∧ L'.Pairwise (· ≤ ·) := by
  refine Abs.Fn.of_c2 follows is62 (Nat.le_of_ble_eq_true rfl) ?_
  simp only [b62, cO, cG, cN, cM, cD, cF, cB, cFal, cTru]
  have w : IntKind.wrap .u64 (n : Int) = n := wrapU64 (by omega) (by omega)
  (have zz := @w; repeat' (first | apply w_seq | apply w_ops0 | apply a_n | apply o_nil | refine vZ ?_ | fail)) <;> (try clear zz)
  refine o_callE (by ((try simp only [simB0, ZA, reduceEqDiff, ↓reduceIte, reduceAdd, reduceLeDiff]); (try with_reducible rfl))) (by ((try simp only [simB0, ZA, reduceEqDiff, ↓reduceIte, reduceAdd, reduceLeDiff, w]); (try with_reducible rfl))) (len_c hn0 (by omega)) ?_
  rintro _ _ _ ⟨rfl, rfl, k, rfl, h3, h4⟩
  have hk : k ≤ 62 := by
    rcases Nat.lt_or_ge 62 k with h | h
    · have := Nat.pow_le_pow_right (n := 2) (by omega) h
      omega
    · exact h
  skip
  refine o_callE (by ((try simp only [simB0, ZA, reduceEqDiff, ↓reduceIte, reduceAdd, reduceLeDiff]); (try with_reducible rfl))) (by ((try simp only [simB0, ZA, reduceEqDiff, ↓reduceIte, reduceAdd, reduceLeDiff, Int.natCast_zero]); (try with_reducible rfl))) (pdq_o cmpI hn2 (n + 1) 0 n k L _ _ (by omega) hH hbx hn (fun _ _ => trivial) (by omega) (Nat.le_refl _) (by omega) (fun q h => by omega)) ?_
  rintro _ _ _ ⟨N, hps, hp, hs⟩
  (have zz := and_self; repeat' (first | apply o_nil | refine e_ends rfl ?_ | apply r_0 | fail)) <;> (try clear zz)
  refine ⟨N, hps, hp.perm, ?_⟩
  rw [List.pairwise_iff_getElem]
  intro i j hi hj hij
  have hl : N.length = n := by rw [hp.len, hn]
  have := hs i j (Nat.zero_le _) hij (by omega)
  simp only [List.getD, hi, hj, List.getElem?_eq_getElem, Option.getD_some] at this
  omega
end Go.Proofs.YtbiikomnhkbblaaGreat

/- T1: contracts of functions and plain laws; for all inputs that the theorems name. -/
namespace Go.Proofs.YtbiikomnhkbblaaGreat
open Go Go.Abs
open Nat (reduceEqDiff reduceAdd reduceLeDiff)
attribute [local irreducible] awp2 aops2 ains aloop athen bbind obind gbind acond res1 Go.Abs.Fn PCall Go.Abs.Pure SnapArgs SnapL Yl
theorem has1_c (v x : List Int) (hv : Sh v) (hx : Sh x) : Pure Tryz.prog 97 [encV x, .iptr [encV v] 0] (.bool (decide (x = v))) := by
  refine Pure.of_c2 follows is97 (Nat.le_of_ble_eq_true rfl) ?_
  simp only [b97, cO, cG, cN, cM, cD, cF, cB, cFal, cTru]
  (have zz := and_self; repeat' (first | apply w_seq | apply w_ops0 | apply w_ret | apply a_n | apply o_nil | refine vZ ?_ | refine cZ ?_ (hp := by exact equalV_c _ _ hx hv) | refine e_ends rfl ?_ | refine r1Z ?_ | fail)) <;> (try clear zz)
  exact .bool _

theorem has_c (l : List (List Int)) (v : List Int) (hl : Sh l) (hs : ∀ x ∈ l, Sh x) (hv : Sh v) : Pure Tryz.prog 79 [encVV l, encV v] (.bool (l.any fun x => decide (x = v))) := by
  refine Pure.of_c2 follows is79 (Nat.le_of_ble_eq_true rfl) ?_
  simp only [b79, cO, cG, cN, cM, cD, cF, cB, cFal, cTru]
  (have zz := and_self; repeat' (first | apply w_seq | apply w_ops0 | apply a_n | apply o_nil | refine vZ ?_ | refine bxZ ?_ | fail)) <;> (try clear zz)
  refine o_callP (by ((try simp only [simB0, ZA, reduceEqDiff, ↓reduceIte, reduceAdd, reduceLeDiff]); (try with_reducible rfl))) (by ((try simp only [simB0, ZA, reduceEqDiff, ↓reduceIte, reduceAdd, reduceLeDiff]); (try with_reducible rfl))) (containsFV_c l (fun x => decide (x = v)) 97 [.iptr [encV v] 0] (DatL.cons (Dat.iptr (DatL.cons (encV_dat _) DatL.nil)) DatL.nil) (fun x hx => has1_c v x hv (hs x hx)) hl) (snap_plain (by (repeat' (first | exact snapL_nil | exact Dat.snap Dat.int | exact Dat.snap Dat.bool | exact Dat.snap Dat.str | exact Dat.snap Dat.esl | exact Dat.snap Dat.nilf | exact Dat.snap (encV_dat _) | exact Dat.snap (encVV_dat _) | apply snapL_cons | apply snap_func | apply snap_iptr | (apply snap_ptr; (focus ((try simp only [simB0, ZA, reduceEqDiff, ↓reduceIte, reduceAdd, reduceLeDiff]); with_reducible rfl)); (focus rfl))))) rfl) ?_
  (have zz := and_self; repeat' (first | apply w_ret | apply a_n | apply o_nil | refine vZ ?_ | refine e_ends rfl ?_ | refine r1Z ?_ | fail)) <;> (try clear zz)
  exact .bool _

theorem vector1_c (x most : Int) : Pure Tryz.prog 77 [.int .i64 x, .iptr [.int .i64 most] 0] (.bool (decide (x < 0 ∨ most ≤ x))) := by
  refine Pure.of_c2 follows is77 (Nat.le_of_ble_eq_true rfl) ?_
  simp only [b77, cO, cG, cN, cM, cD, cF, cB, cFal, cTru]
  (have zz := and_self; repeat' (first | apply w_seq | apply w_ops0 | apply w_ret | apply a_n | apply o_nil | refine vZ ?_ | refine gTZ ?_ | refine gFZ ?_ | (refine gBZ ?_ ?_ <;> (intro _hg; (try simp only [ZB] at _hg); try first | exact absurd trivial _hg | (exfalso; omega))) | refine e_ends rfl ?_ | refine r1Z ?_ | fail)) <;> (try clear zz)
  all_goals (refine snap_bool ?_)
  · exact decide_eq_decide.2 (by omega)
  · rw [decide_eq_true (by omega)]

theorem unordered_c (l : List (List Int)) (i : Nat) (hi : i < l.length) (hl : Sh l) (hs : ∀ x ∈ l, Sh x) : Pure Tryz.prog 78 [encVV l, .int .i64 i] (.bool (decide (0 < i) && decide (0 ≤ order (l.getD (i - 1) default) (l.getD i default)))) := by
  refine Pure.of_c2 follows is78 (Nat.le_of_ble_eq_true rfl) ?_
  simp only [b78, cO, cG, cN, cM, cD, cF, cB, cFal, cTru]
  by_cases h0 : i = 0
  · subst h0
    (have zz := (show ((0 : Nat) : Int) = 0 from rfl); repeat' (first | apply w_seq | apply w_ops0 | apply w_mixS1 | apply w_ret | apply a_n | apply o_nil | refine vZ ?_ | refine gFZ ?_ | (refine gBZ ?_ ?_ <;> (intro _hg; (try simp only [ZB] at _hg); try first | exact absurd trivial _hg | (exfalso; omega))) | refine e_ends rfl ?_ | refine r1Z ?_ | fail)) <;> (try clear zz)
    exact snap_bool (by simp)
  · have e : ((i : Int) - 1).toNat = i - 1 := by omega
    have hc := compare_c (l.getD (i - 1) default) (l.getD i default) (hs _ (mem_getD (by omega))) (hs _ (mem_getD (by omega)))
    (have zz := @e; repeat' (first | apply w_seq | apply w_ops0 | apply w_mixS1 | apply w_ret | apply a_n | apply o_nil | refine vZ ?_ | refine cZ ?_ (hp := hc) | refine gTZ ?_ | (refine gBZ ?_ ?_ <;> (intro _hg; (try simp only [ZB] at _hg); try first | exact absurd trivial _hg | (exfalso; omega))) | refine e_ends rfl ?_ | refine r1Z ?_ | fail)) <;> (try clear zz)
    refine snap_bool ?_
    rw [decide_eq_true (show 0 < i by omega), Bool.true_and]

theorem allowed_c (c : CaseV) (faulty : Int) : Pure Tryz.prog 53 [.agg [encV c.inp, encVV c.out, encVV c.calm], .int .i64 faulty] (encVV (if faulty = 0 ∧ 0 < c.calm.length then c.calm else c.out)) := by
  refine Pure.of_c2 follows is53 (Nat.le_of_ble_eq_true rfl) ?_
  simp only [b53, cO, cG, cN, cM, cD, cF, cB, cFal, cTru]
  (have zz := and_self; repeat' (first | apply w_seq | apply w_ops0 | apply w_skip | apply w_ret | apply a_n | apply a_r | apply o_nil | refine vZ ?_ | refine bxZ ?_ | refine gTZ ?_ | refine gFZ ?_ | refine cFZ ?_ | ((first | refine gBZ ?_ ?_ | refine cdZ ?_ ?_) <;> (intro _hg; (try simp only [ZB] at _hg); try first | exact absurd trivial _hg | (exfalso; omega))) | refine e_ends rfl ?_ | refine r1Z ?_ | fail)) <;> (try clear zz)
  · rw [if_pos (by omega)]; exact encVV_dat _ _
  · rw [if_neg (by omega)]; exact encVV_dat _ _
  · rw [if_neg (by omega)]; exact encVV_dat _ _

theorem copied_c (l : List (List Int)) (hl : l.length ≤ 100000) (hs : ∀ x ∈ l, Sh x) : Pure Tryz.prog 52 [encVV l] (encVV l) := by
  refine Pure.of_c2 follows is52 (Nat.le_of_ble_eq_true rfl) ?_
  simp only [b52, cO, cG, cN, cM, cD, cF, cB, cFal, cTru]
  (have zz := and_self; repeat' (first | apply w_seq | apply w_ops0 | apply w_block | apply a_n | apply o_nil | refine vZ ?_ | apply w_loop | fail)) <;> (try clear zz)
  refine loopI (X := AV × Nat) (fun x => [(3, x.1), (6, encVV l), (7, .int .i64 l.length), (8, .int .i64 x.2)]) (fun x H nx => x.2 ≤ l.length ∧ Row H 1 x.1 ((l.take x.2).map encV) ∧ ∀ b, rowB x.1 = some b → b < nx) (fun x => l.length - x.2) (.esl, 0) ⟨Nat.zero_le _, Row.nil, fun b hb => (by cases hb)⟩ (by simp (disch := omega) only [agr, ZG, reduceEqDiff, ↓reduceIte]) ?_
  rintro ⟨s, j⟩ H nx ⟨h1, h2, h3⟩
  dsimp only at h1 h2 h3 ⊢
  by_cases hj : j < l.length
  · have hw := mem_getD hj
    have hcl := cloneF_c _ (hs _ hw)
    (have zz := @h1; repeat' (first | apply w_seq | apply w_ops0 | apply w_block | apply w_skip | apply a_n | apply o_nil | refine vY ?_ | (refine cdY ?_ ?_ <;> (intro _hg; (try simp only [ZB] at _hg); try first | exact absurd trivial _hg | (exfalso; omega))) | fail)) <;> (try clear zz)
    refine o_callF (by ((try simp only [simB0, ZA, reduceEqDiff, ↓reduceIte, reduceAdd, reduceLeDiff]); (try with_reducible rfl))) (by ((try simp only [simB0, ZA, reduceEqDiff, ↓reduceIte, reduceAdd, reduceLeDiff]); (try with_reducible rfl))) hcl (snapL_cons (encV_dat _ _) snapL_nil) ?_
    (have zz := @h1; repeat' (first | refine blY ?_ | fail)) <;> (try clear zz)
    refine e_row rfl (by ((try simp only [simB0, ZA, reduceEqDiff, ↓reduceIte, reduceAdd, reduceLeDiff]); (try with_reducible rfl))) (h2.same fun b hb => ?_) (by ((try simp only [simB0, ZA, reduceEqDiff, ↓reduceIte, reduceAdd, reduceLeDiff]); (try with_reducible rfl))) asrc_one rfl rfl Nat.one_pos (by simp; omega) (by simp; omega) ?_
    · have := h3 b hb
      rw [hupd_ne (by omega)]
    rintro s2 E e hrow hle1 hle2 hsame hb2
    (have zz := and_self; repeat' (first | apply w_ops0 | apply a_n | apply o_nil | refine vZ ?_ | fail)) <;> (try clear zz)
    refine ⟨(s2, j + 1), by dsimp only; omega, ⟨by dsimp only; omega, ?_, fun b hb => ?_⟩, by simp (disch := omega) only [agr, ZG, reduceEqDiff, ↓reduceIte]⟩
    · dsimp only
      rw [take_succ' hj, List.map_append]
      exact hrow
    · rcases hb2 b hb with h | h
      · have := h3 b h; omega
      · omega
  · (have zz := @h1; repeat' (first | apply w_seq | apply w_ops0 | apply w_exit | apply w_ret | apply a_n | apply a_x | apply o_nil | refine vY ?_ | (refine cdY ?_ ?_ <;> (intro _hg; (try simp only [ZB] at _hg); try first | exact absurd trivial _hg | (exfalso; omega))) | refine e_ends rfl ?_ | refine r1Y ?_ | fail)) <;> (try clear zz)
    rw [List.take_of_length_le (by omega)] at h2
    exact h2.snapV

theorem shl1 (tb tf : Bool) (n : Int) (h0 : 0 ≤ n) (h1 : n ≤ 5) : abin2 .shl tb tf (.int .i64 1) (.int .i64 n) = some (.int .i64 (2 ^ n.toNat : Nat)) := by
  have : n = 0 ∨ n = 1 ∨ n = 2 ∨ n = 3 ∨ n = 4 ∨ n = 5 := by omega
  rcases this with rfl | rfl | rfl | rfl | rfl | rfl <;> rfl

def allowV (c : CaseV) (faulty : Int) : List (List Int) := if faulty = 0 ∧ 0 < c.calm.length then c.calm else c.out
theorem permitted1_c (x : Int) (t : TaskV) : Pure Tryz.prog 57 [.int .i64 x, .iptr [.int .i64 t.n, .int .i64 t.ins, .int .i64 t.outs, encCs t.cases] 0] (.bool (decide (x < -1 ∨ t.outs ≤ x))) := by
  refine Pure.of_c2 follows is57 (Nat.le_of_ble_eq_true rfl) ?_
  simp only [b57, cO, cG, cN, cM, cD, cF, cB, cFal, cTru]
  (have zz := aI @encCs_one @encCs_cells; repeat' (first | apply w_seq | apply w_ops0 | apply w_ret | apply a_n | apply o_nil | refine vZ ?_ | refine gTZ ?_ | refine gFZ ?_ | (refine gBZ ?_ ?_ <;> (intro _hg; (try simp only [ZB] at _hg); try first | exact absurd trivial _hg | (exfalso; omega))) | refine e_ends rfl ?_ | refine r1Z ?_ | fail)) <;> (try clear zz)
  all_goals (refine snap_bool ?_)
  · exact decide_eq_decide.2 (by omega)
  · rw [decide_eq_true (by omega)]

def and1 (a : Int) : Int := IntKind.wrap .i64 (BitVec.ofInt 64 a &&& BitVec.ofInt 64 1).toNat
def shrN (f : Int) (p : Nat) : Int := f.fdiv (2 ^ (min p 64))
theorem shr_eq (tb tf : Bool) (f : Int) (p : Nat) : abin2 .shr tb tf (.int .i64 f) (.int .i64 p) = some (.int .i64 (shrN f p)) := by
  have h : ¬ ((p : Int) < 0) := by omega
  simp only [abin2, ashift, h, if_false, or_true, if_true]
  rfl
theorem and_eq1 (tb tf : Bool) (a : Int) : abin2 .and tb tf (.int .i64 a) (.int .i64 1) = some (.int .i64 (and1 a)) := rfl

def agreesB (v outs : List Int) (f : Int) : Bool := (List.range v.length).all fun p => !(decide (and1 (shrN f p) = 0) && decide (outs.getD p default ≠ v.getD p default))
theorem agrees_c (v outs : List Int) (f : Int) (hv : Sh v) (ho : Sh outs) (hl : v.length ≤ outs.length) : Pure Tryz.prog 59 [encV v, encV outs, .int .i64 f] (.bool (agreesB v outs f)) := by
  refine Pure.of_c2 follows is59 (Nat.le_of_ble_eq_true rfl) ?_
  simp only [b59, cO, cG, cN, cM, cD, cF, cB, cFal, cTru]
  (have zz := and_self; repeat' (first | apply w_seq | apply w_ops0 | apply w_block | apply a_n | apply o_nil | refine vZ ?_ | apply w_loop | fail)) <;> (try clear zz)
  refine loop0 (X := Nat) (fun k => [(1, encV outs), (2, .int .i64 f), (9, encV v), (10, .int .i64 v.length), (11, .int .i64 k)]) (fun k => k ≤ v.length ∧ ∀ i, i < k → (decide (and1 (shrN f i) = 0) && decide (outs.getD i default ≠ v.getD i default)) = false) (fun k => v.length - k) 0 ⟨Nat.zero_le _, by simp⟩ (by simp (disch := omega) only [agr, ZG, reduceEqDiff, ↓reduceIte]) ?_
  rintro k ⟨h1, h2⟩
  (have zz := aI @shr_eq @and_eq1; repeat' (first | apply w_seq | apply w_ops0 | apply w_block | apply w_skip | apply w_exit | apply w_ret | apply a_n | apply a_x | apply a_r | apply o_nil | refine vZ ?_ | refine gTZ ?_ | refine gFZ ?_ | refine cFZ ?_ | ((first | refine gBZ ?_ ?_ | refine cdZ ?_ ?_) <;> (intro _hg; (try simp only [ZB] at _hg); try first | exact absurd trivial _hg | (exfalso; omega))) | refine e_ends rfl ?_ | refine r1Z ?_ | fail)) <;> (try clear zz)
  · refine snap_bool ?_
    symm
    unfold agreesB
    rw [Bool.eq_false_iff, ne_eq, List.all_eq_true]
    intro h
    have := h k (List.mem_range.2 (by omega))
    simp_all
  · refine ⟨k + 1, ⟨by omega, fun i hi => ?_⟩, by omega, by simp (disch := omega) only [agr, ZG, reduceEqDiff, ↓reduceIte], rfl, rfl⟩
    rcases Nat.lt_succ_iff_lt_or_eq.1 hi with h | rfl
    · exact h2 i h
    · simp_all
  · refine ⟨k + 1, ⟨by omega, fun i hi => ?_⟩, by omega, by simp (disch := omega) only [agr, ZG, reduceEqDiff, ↓reduceIte], rfl, rfl⟩
    rcases Nat.lt_succ_iff_lt_or_eq.1 hi with h | rfl
    · exact h2 i h
    · simp_all
  · refine snap_bool ?_
    symm
    unfold agreesB
    rw [List.all_eq_true]
    intro i hi
    rw [h2 i (by have := List.mem_range.1 hi; omega)]
    rfl

theorem permitted2_c (v outs : List Int) (f : Int) (hv : Sh v) (ho : Sh outs) (hl : v.length ≤ outs.length) : Pure Tryz.prog 58 [encV v, .iptr [encV outs] 0, .iptr [.int .i64 f] 0] (.bool (agreesB v outs f)) := by
  refine Pure.of_c2 follows is58 (Nat.le_of_ble_eq_true rfl) ?_
  simp only [b58, cO, cG, cN, cM, cD, cF, cB, cFal, cTru]
  (have zz := and_self; repeat' (first | apply w_seq | apply w_ops0 | apply w_ret | apply a_n | apply o_nil | refine vZ ?_ | refine cZ ?_ (hp := by exact agrees_c v outs f hv ho hl) | refine e_ends rfl ?_ | refine r1Z ?_ | fail)) <;> (try clear zz)
  exact .bool _

end Go.Proofs.YtbiikomnhkbblaaGreat

/- T2: contracts of functions and plain laws; for all inputs that the theorems name. -/
namespace Go.Proofs.YtbiikomnhkbblaaGreat
open Go Go.Abs
open Nat (reduceEqDiff reduceAdd reduceLeDiff)
theorem inp_getD {t : TaskV} {k : Nat} (h : k < t.cases.length) : (t.cases.map CaseV.inp).getD k default = (t.cases.getD k default).inp := by simp [List.getD, h]
theorem any_mem (l : List (List Int)) (v : List Int) : (l.any fun x => decide (x = v)) = decide (v ∈ l) := by
  by_cases h : v ∈ l
  · rw [decide_eq_true h, List.any_eq_true]
    exact ⟨v, h, by simp⟩
  · rw [decide_eq_false h, List.any_eq_false]
    intro x hx e
    rw [decide_eq_true_iff] at e
    subst e; exact h hx
attribute [local irreducible] awp2 aops2 ains aloop athen bbind obind gbind acond res1 Go.Abs.Fn PCall Go.Abs.Pure SnapArgs SnapL Yl

/-! ### Check of any task -/
theorem vector_c (v : List Int) (n most : Int) (hv : Sh v) : Pure Tryz.prog 48 [encV v, .int .i64 n, .int .i64 most] (.int .i64 (vectorE v n most)) := by
  refine Pure.of_c2 follows is48 (Nat.le_of_ble_eq_true rfl) ?_
  simp only [b48, cO, cG, cN, cM, cD, cF, cB, cFal, cTru]
  have hv' : v.length ≤ 17592186044416 := hv
  by_cases hn : (v.length : Int) = n
  rotate_left
  · have e : vectorE v n most = 15 := by unfold vectorE; rw [if_pos hn]
    rw [e]
    (have zz := and_self; repeat' (first | apply w_seq | apply w_ops0 | apply w_ret | apply a_n | apply a_r | apply o_nil | refine vZ ?_ | refine bxZ ?_ | (refine cdZ ?_ ?_ <;> (intro _hg; (try simp only [ZB] at _hg); try first | exact absurd trivial _hg | (exfalso; omega))) | refine e_ends rfl ?_ | refine r1Z ?_ | fail)) <;> (try clear zz)
    all_goals exact .int _ _
  have e : vectorE v n most = if v.any (fun x => decide (x < 0 ∨ most ≤ x)) then 2 else 0 := by unfold vectorE; rw [if_neg (fun h => h hn)]
  rw [e]
  have hc := containsF_c v (fun x => decide (x < 0 ∨ most ≤ x)) 77 [.iptr [.int .i64 most] 0] (DatL.cons (Dat.iptr (DatL.cons .int DatL.nil)) DatL.nil) (fun x _ => vector1_c x most) hv
  (have zz := and_self; repeat' (first | apply w_seq | apply w_ops0 | apply w_skip | apply a_n | apply o_nil | refine vZ ?_ | refine bxZ ?_ | (refine cdZ ?_ ?_ <;> (intro _hg; (try simp only [ZB] at _hg); try first | exact absurd trivial _hg | (exfalso; omega))) | fail)) <;> (try clear zz)
  refine o_callP (by ((try simp only [simB0, ZA, reduceEqDiff, ↓reduceIte, reduceAdd, reduceLeDiff]); (try with_reducible rfl))) (by ((try simp only [simB0, ZA, reduceEqDiff, ↓reduceIte, reduceAdd, reduceLeDiff]); (try with_reducible rfl))) hc (snap_plain (by (repeat' (first | exact snapL_nil | exact Dat.snap Dat.int | exact Dat.snap Dat.bool | exact Dat.snap Dat.str | exact Dat.snap Dat.esl | exact Dat.snap Dat.nilf | exact Dat.snap (encV_dat _) | exact Dat.snap (encVV_dat _) | apply snapL_cons | apply snap_func | apply snap_iptr | (apply snap_ptr; (focus ((try simp only [simB0, ZA, reduceEqDiff, ↓reduceIte, reduceAdd, reduceLeDiff]); with_reducible rfl)); (focus rfl))))) rfl) ?_
  cases hb : v.any (fun x => decide (x < 0 ∨ most ≤ x))
  · (have zz := @Bool.false_eq_true; repeat' (first | apply w_seq | apply w_ops0 | apply w_skip | apply w_ret | apply a_n | apply o_nil | refine vZ ?_ | refine cFZ ?_ | refine e_ends rfl ?_ | refine r1Z ?_ | fail)) <;> (try clear zz)
    all_goals exact .int _ _
  · (have zz := @Bool.false_eq_true; repeat' (first | apply w_seq | apply w_ops0 | apply w_ret | apply a_n | apply a_r | apply o_nil | refine vZ ?_ | refine cTZ ?_ | refine e_ends rfl ?_ | refine r1Z ?_ | fail)) <;> (try clear zz)
    all_goals exact .int _ _

theorem vectors_c (n ins outs : Int) (cs : AV) (hcs : Dat cs ∧ cs.cells = [cs] ∧ cs.one = true) (c : CaseV) (hs : ShC c) : Pure Tryz.prog 49 [.agg [.int .i64 n, .int .i64 ins, .int .i64 outs, cs], .agg [encV c.inp, encVV c.out, encVV c.calm]] (.int .i64 (vectorsE n outs c)) := by
  refine Pure.of_c2 follows is49 (Nat.le_of_ble_eq_true rfl) ?_
  simp only [b49, cO, cG, cN, cM, cD, cF, cB, cFal, cTru]
  obtain ⟨hc1, hc2, hc3⟩ := hcs
  obtain ⟨s1, s2, s3, s4, s5⟩ := hs
  have s2' : c.out.length ≤ 17592186044416 := s2
  have s4' : c.calm.length ≤ 17592186044416 := s4
  by_cases h0 : c.out.length < 1 ∨ 1024 < c.out.length
  · have e : vectorsE n outs c = 5 := by unfold vectorsE; rw [if_pos h0]
    rw [e]
    (have zz := aI @hc2 @hc3; repeat' (first | apply w_seq | apply w_ops0 | apply w_ret | apply a_n | apply a_r | apply o_nil | refine vZ ?_ | refine bxZ ?_ | refine gTZ ?_ | refine gFZ ?_ | refine cTZ ?_ | ((first | refine gBZ ?_ ?_ | refine cdZ ?_ ?_) <;> (intro _hg; (try simp only [ZB] at _hg); try first | exact absurd trivial _hg | (exfalso; omega))) | refine e_ends rfl ?_ | refine r1Z ?_ | fail)) <;> (try clear zz)
    all_goals exact .int _ _
  have e : vectorsE n outs c = if firstI (outE n outs c.out) c.out.length ≠ 0 then firstI (outE n outs c.out) c.out.length else firstI (calmE c.out c.calm) c.calm.length := by unfold vectorsE; rw [if_neg h0]
  rw [e]
  (have zz := aI @hc2 @hc3; repeat' (first | apply w_seq | apply w_ops0 | apply w_block | apply w_skip | apply a_n | apply o_nil | refine vZ ?_ | refine bxZ ?_ | refine gTZ ?_ | ((first | refine gBZ ?_ ?_ | refine cdZ ?_ ?_) <;> (intro _hg; (try simp only [ZB] at _hg); try first | exact absurd trivial _hg | (exfalso; omega))) | apply w_loop | fail)) <;> (try clear zz)
  refine loop0 (X := Nat) (fun k => [(2, .ptr 0 4 0), (3, .ptr 1 3 0), (21, encVV c.out), (22, .int .i64 c.out.length), (23, .int .i64 k)]) (fun k => k ≤ c.out.length ∧ ∀ i, i < k → outE n outs c.out i = 0) (fun k => c.out.length - k) 0 ⟨Nat.zero_le _, fun i h => absurd h (by omega)⟩ (by simp (disch := omega) only [agr, ZG, reduceEqDiff, ↓reduceIte, List.length_cons, List.length_nil, reduceAdd, Nat.zero_add]) ?_
  rintro k ⟨hk, hz⟩
  by_cases hj : k < c.out.length
  · have hm := mem_getD hj
    have hv := vector_c (c.out.getD k default) n outs (s3 _ hm)
    have hu := unordered_c c.out k hj s2 s3
    have ho : outE n outs c.out k = if vectorE (c.out.getD k default) n outs ≠ 0 then vectorE (c.out.getD k default) n outs else if unordB c.out k then 14 else 0 := rfl
    change Pure _ _ _ (.bool (unordB c.out k)) at hu
    generalize vectorE (c.out.getD k default) n outs = V at *
    by_cases hV : V = 0
    · subst hV
      cases hub : unordB c.out k
      · rw [hub] at hu ho
        (have zz := aI @hc2 (aI @hc3 @Bool.false_eq_true); repeat' (first | apply w_seq | apply w_ops0 | apply w_block | apply w_skip | apply a_n | apply o_nil | refine vZ ?_ | refine cZ ?_ (hp := by first | exact hv | exact hu) | refine cFZ ?_ | (refine cdZ ?_ ?_ <;> (intro _hg; (try simp only [ZB] at _hg); try first | exact absurd trivial _hg | (exfalso; omega))) | fail)) <;> (try clear zz)
        refine ⟨k + 1, ⟨by omega, fun i hi => ?_⟩, by omega, by simp (disch := omega) only [agr, ZG, reduceEqDiff, ↓reduceIte], rfl, rfl⟩
        rcases Nat.lt_succ_iff_lt_or_eq.1 hi with h | rfl
        · exact hz i h
        · exact ho
      · rw [hub] at hu ho
        (have zz := aI @hc2 (aI @hc3 @Bool.false_eq_true); repeat' (first | apply w_seq | apply w_ops0 | apply w_block | apply w_skip | apply w_ret | apply a_n | apply a_r | apply o_nil | refine vZ ?_ | refine cZ ?_ (hp := by first | exact hv | exact hu) | refine cTZ ?_ | (refine cdZ ?_ ?_ <;> (intro _hg; (try simp only [ZB] at _hg); try first | exact absurd trivial _hg | (exfalso; omega))) | refine e_ends rfl ?_ | refine r1Z ?_ | fail)) <;> (try clear zz)
        refine snap_int ?_
        rw [firstI_hit hj hz (by rw [ho]; decide), if_pos (by rw [ho]; decide), ho]; rfl
    · have ho' : outE n outs c.out k = V := by rw [ho, if_pos hV]
      (have zz := aI @hc2 (aI @hc3 @Bool.false_eq_true); repeat' (first | apply w_seq | apply w_ops0 | apply w_block | apply w_skip | apply w_ret | apply a_n | apply a_r | apply o_nil | refine vZ ?_ | refine cZ ?_ (hp := by first | exact hv | exact hu) | (refine cdZ ?_ ?_ <;> (intro _hg; (try simp only [ZB] at _hg); try first | exact absurd trivial _hg | (exfalso; omega))) | refine e_ends rfl ?_ | refine r1Z ?_ | fail)) <;> (try clear zz)
      refine snap_int ?_
      rw [firstI_hit hj hz (by rw [ho']; exact hV), if_pos (by rw [ho']; exact hV), ho']
  · have hz0 := firstI_zero (f := outE n outs c.out) (n := c.out.length) (fun i hi => hz i (by omega))
    rw [hz0, if_neg (fun h => h rfl)]
    (have zz := aI @hc2 @hc3; repeat' (first | apply w_seq | apply w_ops0 | apply w_block | apply w_exit | apply a_n | apply a_x | apply o_nil | refine vZ ?_ | (refine cdZ ?_ ?_ <;> (intro _hg; (try simp only [ZB] at _hg); try first | exact absurd trivial _hg | (exfalso; omega))) | apply w_loop | fail)) <;> (try clear zz)
    refine loop0 (X := Nat) (fun k => [(2, .ptr 0 4 0), (3, .ptr 1 3 0), (43, encVV c.calm), (44, .int .i64 c.calm.length), (45, .int .i64 k)]) (fun k => k ≤ c.calm.length ∧ ∀ i, i < k → calmE c.out c.calm i = 0) (fun k => c.calm.length - k) 0 ⟨Nat.zero_le _, fun i h => absurd h (by omega)⟩ (by simp (disch := omega) only [agr, ZG, reduceEqDiff, ↓reduceIte]) ?_
    rintro k ⟨hk, hz⟩
    by_cases hj : k < c.calm.length
    · have hm := mem_getD hj
      have hv := has_c c.out (c.calm.getD k default) s2 s3 (s5 _ hm)
      rw [any_mem] at hv
      have hu := unordered_c c.calm k hj s4 s5
      have ho : calmE c.out c.calm k = if c.calm.getD k default ∈ c.out then (if unordB c.calm k then 14 else 0) else 6 := rfl
      change Pure _ _ _ (.bool (unordB c.calm k)) at hu
      by_cases hh : c.calm.getD k default ∈ c.out
      · rw [decide_eq_true hh] at hv
        rw [if_pos hh] at ho
        cases hub : unordB c.calm k
        · rw [hub] at hu ho
          (have zz := aI @hc2 (aI @hc3 @Bool.false_eq_true); repeat' (first | apply w_seq | apply w_ops0 | apply w_block | apply w_skip | apply a_n | apply o_nil | refine vZ ?_ | refine cZ ?_ (hp := by first | exact hv | exact hu) | refine cFZ ?_ | (refine cdZ ?_ ?_ <;> (intro _hg; (try simp only [ZB] at _hg); try first | exact absurd trivial _hg | (exfalso; omega))) | fail)) <;> (try clear zz)
          refine ⟨k + 1, ⟨by omega, fun i hi => ?_⟩, by omega, by simp (disch := omega) only [agr, ZG, reduceEqDiff, ↓reduceIte], rfl, rfl⟩
          rcases Nat.lt_succ_iff_lt_or_eq.1 hi with h | rfl
          · exact hz i h
          · exact ho
        · rw [hub] at hu ho
          (have zz := aI @hc2 (aI @hc3 @Bool.false_eq_true); repeat' (first | apply w_seq | apply w_ops0 | apply w_block | apply w_skip | apply w_ret | apply a_n | apply a_r | apply o_nil | refine vZ ?_ | refine cZ ?_ (hp := by first | exact hv | exact hu) | refine cTZ ?_ | refine cFZ ?_ | (refine cdZ ?_ ?_ <;> (intro _hg; (try simp only [ZB] at _hg); try first | exact absurd trivial _hg | (exfalso; omega))) | refine e_ends rfl ?_ | refine r1Z ?_ | fail)) <;> (try clear zz)
          refine snap_int ?_
          rw [firstI_hit hj hz (by rw [ho]; decide), ho]; rfl
      · rw [decide_eq_false hh] at hv
        rw [if_neg hh] at ho
        (have zz := aI @hc2 (aI @hc3 @Bool.false_eq_true); repeat' (first | apply w_seq | apply w_ops0 | apply w_block | apply w_skip | apply w_ret | apply a_n | apply a_r | apply o_nil | refine vZ ?_ | refine cZ ?_ (hp := by first | exact hv | exact hu) | refine cTZ ?_ | (refine cdZ ?_ ?_ <;> (intro _hg; (try simp only [ZB] at _hg); try first | exact absurd trivial _hg | (exfalso; omega))) | refine e_ends rfl ?_ | refine r1Z ?_ | fail)) <;> (try clear zz)
        refine snap_int ?_
        rw [firstI_hit hj hz (by rw [ho]; decide), ho]
    · (have zz := aI @hc2 @hc3; repeat' (first | apply w_seq | apply w_ops0 | apply w_exit | apply w_ret | apply a_n | apply a_x | apply o_nil | refine vZ ?_ | (refine cdZ ?_ ?_ <;> (intro _hg; (try simp only [ZB] at _hg); try first | exact absurd trivial _hg | (exfalso; omega))) | refine e_ends rfl ?_ | refine r1Z ?_ | fail)) <;> (try clear zz)
      refine snap_int ?_
      rw [firstI_zero fun i hi => hz i (by omega)]

end Go.Proofs.YtbiikomnhkbblaaGreat

/- T3: contracts of functions and plain laws; for all inputs that the theorems name. -/
namespace Go.Proofs.YtbiikomnhkbblaaGreat
open Go Go.Abs
open Nat (reduceEqDiff reduceAdd reduceLeDiff)
attribute [local irreducible] awp2 aops2 ains aloop athen bbind obind gbind acond res1 Go.Abs.Fn PCall Go.Abs.Pure SnapArgs SnapL Yl

set_option maxHeartbeats 2000000 in
theorem check_c (t : TaskV) (hs : ∀ c ∈ t.cases, ShC c) (hsc : Sh t.cases) : Pure Tryz.prog 14 [encT t] (.int .i64 (checkE t)) := by
  refine Pure.of_c2 follows is14 (Nat.le_of_ble_eq_true rfl) ?_
  simp only [b14, cO, cG, cN, cM, cD, cF, cB, cFal, cTru]
  have hsc' : t.cases.length ≤ 17592186044416 := hsc
  unfold encT
  by_cases h0 : t.n < 1 ∨ 5 < t.n ∨ t.ins < 1 ∨ 8 < t.ins ∨ t.outs < 1 ∨ 8 < t.outs
  · have e : checkE t = 2 := by unfold checkE; rw [if_pos h0]
    rw [e]
    (have zz := aI @encCs_one (aI @encCs_cells @alenS_encCs); repeat' (first | apply w_seq | apply w_ops0 | apply w_block | apply w_skip | apply w_ret | apply a_n | apply a_r | apply o_nil | refine vZ ?_ | refine bxZ ?_ | refine gTZ ?_ | refine gFZ ?_ | refine cTZ ?_ | ((first | refine gBZ ?_ ?_ | refine cdZ ?_ ?_) <;> (intro _hg; (try simp only [ZB] at _hg); try first | exact absurd trivial _hg | (exfalso; omega))) | refine e_ends rfl ?_ | refine r1Z ?_ | fail)) <;> (try clear zz)
    all_goals exact .int _ _
  by_cases h1 : t.cases.length < 1 ∨ 1024 < t.cases.length
  · have e : checkE t = 5 := by unfold checkE; rw [if_neg h0, if_pos h1]
    rw [e]
    (have zz := aI @encCs_one (aI @encCs_cells @alenS_encCs); repeat' (first | apply w_seq | apply w_ops0 | apply w_block | apply w_ret | apply a_n | apply a_r | apply o_nil | refine vZ ?_ | refine bxZ ?_ | refine gTZ ?_ | refine gFZ ?_ | refine cTZ ?_ | ((first | refine gBZ ?_ ?_ | refine cdZ ?_ ?_) <;> (intro _hg; (try simp only [ZB] at _hg); try first | exact absurd trivial _hg | (exfalso; omega))) | refine e_ends rfl ?_ | refine r1Z ?_ | fail)) <;> (try clear zz)
    all_goals exact .int _ _
  have e : checkE t = firstI (caseE t) t.cases.length := by unfold checkE; rw [if_neg h0, if_neg h1]
  rw [e]
  (have zz := aI @encCs_one (aI @encCs_cells @alenS_encCs); repeat' (first | apply w_seq | apply w_ops0 | apply w_block | apply w_skip | apply a_n | apply o_nil | refine vZ ?_ | refine bxZ ?_ | refine gTZ ?_ | ((first | refine gBZ ?_ ?_ | refine cdZ ?_ ?_) <;> (intro _hg; (try simp only [ZB] at _hg); try first | exact absurd trivial _hg | (exfalso; omega))) | apply w_loop | fail)) <;> (try clear zz)
  refine loopI (X := Nat) (fun k => [(1, .ptr 0 4 0), (44, encCs t.cases), (45, .int .i64 t.cases.length), (46, .int .i64 k)]) (fun k H nx => k ≤ t.cases.length ∧ (∀ i, i < k → caseE t i = 0) ∧ 1 ≤ nx ∧ H 0 = some [.int .i64 t.n, .int .i64 t.ins, .int .i64 t.outs, encCs t.cases]) (fun k => t.cases.length - k) 0 ⟨Nat.zero_le _, fun i h => absurd h (by omega), Nat.le_refl _, rfl⟩ (by simp (disch := omega) only [agr, ZG, reduceEqDiff, ↓reduceIte, List.length_cons, List.length_nil, reduceAdd]) ?_
  rintro k H nx ⟨hk, hz, hn, g0⟩
  by_cases hj : k < t.cases.length
  rotate_left
  · (have zz := aI @g0 (aI @encCs_one (aI @encCs_cells (aI @alenS_encCs (aI @aixS_encCs @Bool.false_eq_true)))); repeat' (first | apply w_seq | apply w_ops0 | apply w_exit | apply w_ret | apply a_n | apply a_x | apply o_nil | refine vY ?_ | (refine cdY ?_ ?_ <;> (intro _hg; (try simp only [ZB] at _hg); try first | exact absurd trivial _hg | (exfalso; omega))) | refine e_ends rfl ?_ | refine r1Y ?_ | fail)) <;> (try clear zz)
    refine snap_int ?_
    rw [firstI_zero fun i hi => hz i (by omega)]
  have hm := mem_getD hj
  have hsh := hs _ hm
  have hv := vector_c _ t.n t.ins hsh.1
  have hvs := vectors_c t.n t.ins t.outs (encCs t.cases) ⟨encCs_dat _, rfl, rfl⟩ _ hsh
  have d1 : Dat (encC (t.cases.getD k default)) := Dat.agg (DatL.cons (encV_dat _) (DatL.cons (encVV_dat _) (DatL.cons (encVV_dat _) DatL.nil)))
  have d2 := encT_dat t
  unfold encC at d1
  unfold encT at d2
  have hce : caseE t k = if vectorE (t.cases.getD k default).inp t.n t.ins ≠ 0 then vectorE (t.cases.getD k default).inp t.n t.ins else if unordB (t.cases.map CaseV.inp) k then 14 else vectorsE t.n t.outs (t.cases.getD k default) := rfl
  have fin : caseE t k ≠ 0 → firstI (caseE t) t.cases.length = caseE t k := fun h => firstI_hit hj hz h
  have hnext : caseE t k = 0 → ∀ i, i < k + 1 → caseE t i = 0 := fun h i hi => by
    rcases Nat.lt_succ_iff_lt_or_eq.1 hi with h' | rfl
    · exact hz i h'
    · exact h
  by_cases hk0 : k = 0
  · subst hk0
    have hu : unordB (t.cases.map CaseV.inp) 0 = false := rfl
    rw [hu] at hce
    have hi0 : aixS 3 (encCs t.cases) (.int .i64 0) = _ := aixS_encCs (l := t.cases) (k := 0) hj
    generalize vectorE (t.cases.getD 0 default).inp t.n t.ins = V at *
    generalize vectorsE t.n t.outs (t.cases.getD 0 default) = W at *
    by_cases hV : V = 0
    · subst hV
      rw [if_neg (fun h => h rfl), if_neg (by simp)] at hce
      by_cases hW : W = 0
      · subst hW
        (have zz := aI @g0 (aI @encCs_one (aI @encCs_cells (aI @alenS_encCs (aI @aixS_encCs (aI @Bool.false_eq_true (aI (show ((0 : Nat) : Int) = 0 from rfl) @hi0)))))); repeat' (first | apply w_seq | apply w_ops0 | apply w_mixS1 | apply w_block | apply w_skip | apply a_n | apply o_nil | refine vY ?_ | refine cY ?_ (hp := by first | exact hv | exact hvs) | refine alY ?_ | refine stY ?_ | refine gFY ?_ | refine cFY ?_ | ((first | refine gBY ?_ ?_ | refine cdY ?_ ?_) <;> (intro _hg; (try simp only [ZB] at _hg); try first | exact absurd trivial _hg | (exfalso; omega))) | fail)) <;> (try clear zz)
        refine ⟨0 + 1, by omega, ⟨by omega, hnext hce, by omega, ?_⟩, by simp (disch := omega) only [agr, ZG, reduceEqDiff, ↓reduceIte]⟩
        rw [hupd_ne (by omega), hupd_ne (by omega), g0]
      · (have zz := aI @g0 (aI @encCs_one (aI @encCs_cells (aI @alenS_encCs (aI @aixS_encCs (aI @Bool.false_eq_true (aI (show ((0 : Nat) : Int) = 0 from rfl) @hi0)))))); repeat' (first | apply w_seq | apply w_ops0 | apply w_mixS1 | apply w_block | apply w_skip | apply w_ret | apply a_n | apply a_r | apply o_nil | refine vY ?_ | refine cY ?_ (hp := by first | exact hv | exact hvs) | refine alY ?_ | refine stY ?_ | refine gFY ?_ | refine cFY ?_ | ((first | refine gBY ?_ ?_ | refine cdY ?_ ?_) <;> (intro _hg; (try simp only [ZB] at _hg); try first | exact absurd trivial _hg | (exfalso; omega))) | refine e_ends rfl ?_ | refine r1Y ?_ | fail)) <;> (try clear zz)
        refine snap_int ?_
        rw [fin (by rw [hce]; exact hW), hce]
    · rw [if_pos hV] at hce
      (have zz := aI @g0 (aI @encCs_one (aI @encCs_cells (aI @alenS_encCs (aI @aixS_encCs (aI @Bool.false_eq_true (aI (show ((0 : Nat) : Int) = 0 from rfl) @hi0)))))); repeat' (first | apply w_seq | apply w_ops0 | apply w_block | apply w_skip | apply w_ret | apply a_n | apply a_r | apply o_nil | refine vY ?_ | refine cY ?_ (hp := by first | exact hv | exact hvs) | refine alY ?_ | refine stY ?_ | (refine cdY ?_ ?_ <;> (intro _hg; (try simp only [ZB] at _hg); try first | exact absurd trivial _hg | (exfalso; omega))) | refine e_ends rfl ?_ | refine r1Y ?_ | fail)) <;> (try clear zz)
      refine snap_int ?_
      rw [fin (by rw [hce]; exact hV), hce]
  · have e1 : (k : Int) - 1 = ((k - 1 : Nat) : Int) := by omega
    have ho := compare_c (t.cases.getD (k - 1) default).inp (t.cases.getD k default).inp (hs _ (mem_getD (by omega))).1 hsh.1
    have hi1 := aixS_encCs (l := t.cases) (k := k - 1) (by omega)
    rw [← e1] at hi1
    have hu : unordB (t.cases.map CaseV.inp) k = decide (0 ≤ order (t.cases.getD (k - 1) default).inp (t.cases.getD k default).inp) := by
      unfold unordB
      rw [inp_getD hj, inp_getD (by omega), decide_eq_true (show 0 < k by omega), Bool.true_and]
    rw [hu] at hce
    generalize order (t.cases.getD (k - 1) default).inp (t.cases.getD k default).inp = O at *
    generalize vectorE (t.cases.getD k default).inp t.n t.ins = V at *
    generalize vectorsE t.n t.outs (t.cases.getD k default) = W at *
    by_cases hV : V = 0
    · subst hV
      rw [if_neg (fun h => h rfl)] at hce
      by_cases hO : 0 ≤ O
      · rw [decide_eq_true hO, if_pos rfl] at hce
        (have zz := aI @g0 (aI @encCs_one (aI @encCs_cells (aI @alenS_encCs (aI @aixS_encCs (aI @Bool.false_eq_true @hi1))))); repeat' (first | apply w_seq | apply w_ops0 | apply w_mixS1 | apply w_block | apply w_skip | apply w_ret | apply a_n | apply a_r | apply o_nil | refine vY ?_ | refine cY ?_ (hp := by first | exact hv | exact hvs | exact ho) | refine alY ?_ | refine stY ?_ | refine gTY ?_ | ((first | refine gBY ?_ ?_ | refine cdY ?_ ?_) <;> (intro _hg; (try simp only [ZB] at _hg); try first | exact absurd trivial _hg | (exfalso; omega))) | refine e_ends rfl ?_ | refine r1Y ?_ | fail)) <;> (try clear zz)
        refine snap_int ?_
        rw [fin (by rw [hce]; decide), hce]
      · rw [decide_eq_false hO, if_neg (by simp)] at hce
        by_cases hW : W = 0
        · subst hW
          (have zz := aI @g0 (aI @encCs_one (aI @encCs_cells (aI @alenS_encCs (aI @aixS_encCs (aI @Bool.false_eq_true @hi1))))); repeat' (first | apply w_seq | apply w_ops0 | apply w_mixS1 | apply w_block | apply w_skip | apply a_n | apply o_nil | refine vY ?_ | refine cY ?_ (hp := by first | exact hv | exact hvs | exact ho) | refine alY ?_ | refine stY ?_ | refine gTY ?_ | ((first | refine gBY ?_ ?_ | refine cdY ?_ ?_) <;> (intro _hg; (try simp only [ZB] at _hg); try first | exact absurd trivial _hg | (exfalso; omega))) | fail)) <;> (try clear zz)
          refine ⟨k + 1, by omega, ⟨by omega, hnext hce, by omega, ?_⟩, by simp (disch := omega) only [agr, ZG, reduceEqDiff, ↓reduceIte]⟩
          rw [hupd_ne (by omega), hupd_ne (by omega), g0]
        · (have zz := aI @g0 (aI @encCs_one (aI @encCs_cells (aI @alenS_encCs (aI @aixS_encCs (aI @Bool.false_eq_true @hi1))))); repeat' (first | apply w_seq | apply w_ops0 | apply w_mixS1 | apply w_block | apply w_skip | apply w_ret | apply a_n | apply a_r | apply o_nil | refine vY ?_ | refine cY ?_ (hp := by first | exact hv | exact hvs | exact ho) | refine alY ?_ | refine stY ?_ | refine gTY ?_ | ((first | refine gBY ?_ ?_ | refine cdY ?_ ?_) <;> (intro _hg; (try simp only [ZB] at _hg); try first | exact absurd trivial _hg | (exfalso; omega))) | refine e_ends rfl ?_ | refine r1Y ?_ | fail)) <;> (try clear zz)
          refine snap_int ?_
          rw [fin (by rw [hce]; exact hW), hce]
    · rw [if_pos hV] at hce
      (have zz := aI @g0 (aI @encCs_one (aI @encCs_cells (aI @alenS_encCs (aI @aixS_encCs (aI @Bool.false_eq_true @hi1))))); repeat' (first | apply w_seq | apply w_ops0 | apply w_block | apply w_skip | apply w_ret | apply a_n | apply a_r | apply o_nil | refine vY ?_ | refine cY ?_ (hp := by first | exact hv | exact hvs | exact ho) | refine alY ?_ | refine stY ?_ | (refine cdY ?_ ?_ <;> (intro _hg; (try simp only [ZB] at _hg); try first | exact absurd trivial _hg | (exfalso; omega))) | refine e_ends rfl ?_ | refine r1Y ?_ | fail)) <;> (try clear zz)
      refine snap_int ?_
      rw [fin (by rw [hce]; exact hV), hce]

end Go.Proofs.YtbiikomnhkbblaaGreat

/- T4: contracts of functions and plain laws; for all inputs that the theorems name. -/
namespace Go.Proofs.YtbiikomnhkbblaaGreat
open Go Go.Abs
open Nat (reduceEqDiff reduceAdd reduceLeDiff)
def fewVs (l : List (List Int)) : Bool := decide (l.length ≤ 30) && l.all fun v => decide (v.length ≤ 10)
def fewC (c : CaseV) : Bool := decide (c.inp.length ≤ 10) && fewVs c.out && fewVs c.calm
def fewT (t : TaskV) : Bool := decide (t.cases.length ≤ 30) && t.cases.all fewC
theorem mem_getV {l : List (List Int)} {v : List Int} : v ∈ l ↔ ∃ i, i < l.length ∧ l.getD i default = v := by
  constructor
  · intro h
    obtain ⟨i, hi, e⟩ := List.getElem_of_mem h
    exact ⟨i, hi, by simp [List.getD, hi, e]⟩
  · rintro ⟨i, hi, rfl⟩
    exact mem_getD hi
attribute [local irreducible] awp2 aops2 ains aloop athen bbind obind gbind acond res1 Go.Abs.Fn PCall Go.Abs.Pure SnapArgs SnapL Yl

/-! ### Find -/
end Go.Proofs.YtbiikomnhkbblaaGreat

/- T5: contracts of functions and plain laws; for all inputs that the theorems name. -/
namespace Go.Proofs.YtbiikomnhkbblaaGreat
open Go Go.Abs
open Nat (reduceEqDiff reduceAdd reduceLeDiff)
theorem caseE_eq (t : TaskV) (k : Nat) (hk : k < t.cases.length) : caseE t k = if vectorE (t.cases.getD k default).inp t.n t.ins ≠ 0 then vectorE (t.cases.getD k default).inp t.n t.ins else if (decide (0 < k) && decide (0 ≤ order (t.cases.getD (k - 1) default).inp (t.cases.getD k default).inp)) then 14 else vectorsE t.n t.outs (t.cases.getD k default) := by
  unfold caseE unordB
  rw [inp_getD hk, inp_getD (by omega)]
attribute [local irreducible] awp2 aops2 ains aloop athen bbind obind gbind acond res1 Go.Abs.Fn PCall Go.Abs.Pure SnapArgs SnapL Yl

/-! ### the reference's Check, Find and Few -/
theorem orderR (a b : List Int) (ha : Sh a) (hb : Sh b) : Pure Tryz.prog 61 [encV a, encV b] (.int .i64 (order a b)) := by
  refine Pure.of_c2 follows is61 (Nat.le_of_ble_eq_true rfl) ?_
  simp only [b61, cO, cG, cN, cM, cD, cF, cB, cFal, cTru]
  have ha' : a.length ≤ 17592186044416 := ha
  have hb' : b.length ≤ 17592186044416 := hb
  (have zz := and_self; repeat' (first | apply w_seq | apply w_ops0 | apply w_block | apply a_n | apply o_nil | refine vZ ?_ | apply w_loop | fail)) <;> (try clear zz)
  refine loop0 (X := Nat) (fun k => [(0, encV a), (1, encV b), (5, .int .i64 k)]) (fun k => k ≤ a.length ∧ k ≤ b.length ∧ order a b = order (a.drop k) (b.drop k)) (fun k => a.length - k) 0 ⟨Nat.zero_le _, Nat.zero_le _, rfl⟩ (by simp (disch := omega) only [agr, ZG, reduceEqDiff, ↓reduceIte]) ?_
  rintro k ⟨h1, h2, h3⟩
  by_cases hka : k < a.length
  · by_cases hkb : k < b.length
    · rw [drop_cons (l := a) hka, drop_cons (l := b) hkb, order] at h3
      by_cases c1 : a.getD k default < b.getD k default
      · rw [if_pos c1] at h3
        rw [h3]
        (have zz := and_self; repeat' (first | apply w_seq | apply w_ops0 | apply w_ops1 | apply w_block | apply w_skip | apply w_ret | apply a_n | apply a_r | apply o_nil | refine vZ ?_ | refine gTZ ?_ | ((first | refine gBZ ?_ ?_ | refine cdZ ?_ ?_) <;> (intro _hg; (try simp only [ZB] at _hg); try first | exact absurd trivial _hg | (exfalso; omega))) | refine e_ends rfl ?_ | refine r1Z ?_ | fail)) <;> (try clear zz)
        exact .int _ _
      · rw [if_neg c1] at h3
        by_cases c2 : a.getD k default > b.getD k default
        · rw [if_pos c2] at h3
          rw [h3]
          (have zz := and_self; repeat' (first | apply w_seq | apply w_ops0 | apply w_ops1 | apply w_block | apply w_skip | apply w_ret | apply a_n | apply a_r | apply o_nil | refine vZ ?_ | refine gTZ ?_ | ((first | refine gBZ ?_ ?_ | refine cdZ ?_ ?_) <;> (intro _hg; (try simp only [ZB] at _hg); try first | exact absurd trivial _hg | (exfalso; omega))) | refine e_ends rfl ?_ | refine r1Z ?_ | fail)) <;> (try clear zz)
          exact .int _ _
        · rw [if_neg c2] at h3
          (have zz := and_self; repeat' (first | apply w_seq | apply w_ops0 | apply w_ops1 | apply w_block | apply w_skip | apply a_n | apply o_nil | refine vZ ?_ | refine gTZ ?_ | ((first | refine gBZ ?_ ?_ | refine cdZ ?_ ?_) <;> (intro _hg; (try simp only [ZB] at _hg); try first | exact absurd trivial _hg | (exfalso; omega))) | fail)) <;> (try clear zz)
          exact ⟨k + 1, ⟨by omega, by omega, h3⟩, by omega, by simp (disch := omega) only [agr, ZG, reduceEqDiff, ↓reduceIte], rfl, rfl⟩
    · rw [List.drop_eq_nil_of_le (show b.length ≤ k by omega), drop_cons (l := a) hka] at h3
      have h3 : order a b = 1 := h3
      rw [h3]
      (have zz := and_self; repeat' (first | apply w_seq | apply w_ops0 | apply w_skip | apply w_exit | apply w_ret | apply a_n | apply a_x | apply a_r | apply o_nil | refine vZ ?_ | refine gTZ ?_ | ((first | refine gBZ ?_ ?_ | refine cdZ ?_ ?_) <;> (intro _hg; (try simp only [ZB] at _hg); try first | exact absurd trivial _hg | (exfalso; omega))) | refine e_ends rfl ?_ | refine r1Z ?_ | fail)) <;> (try clear zz)
      exact .int _ _
  · by_cases hkb : k < b.length
    · rw [List.drop_eq_nil_of_le (show a.length ≤ k by omega), drop_cons (l := b) hkb] at h3
      have h3 : order a b = -1 := h3
      rw [h3]
      (have zz := and_self; repeat' (first | apply w_seq | apply w_ops0 | apply w_exit | apply w_ret | apply a_n | apply a_x | apply a_r | apply o_nil | refine vZ ?_ | refine gFZ ?_ | refine cFZ ?_ | ((first | refine gBZ ?_ ?_ | refine cdZ ?_ ?_) <;> (intro _hg; (try simp only [ZB] at _hg); try first | exact absurd trivial _hg | (exfalso; omega))) | refine e_ends rfl ?_ | refine r1Z ?_ | fail)) <;> (try clear zz)
      exact .int _ _
    · rw [List.drop_eq_nil_of_le (show a.length ≤ k by omega), List.drop_eq_nil_of_le (show b.length ≤ k by omega)] at h3
      have h3 : order a b = 0 := h3
      rw [h3]
      (have zz := and_self; repeat' (first | apply w_seq | apply w_ops0 | apply w_skip | apply w_exit | apply w_ret | apply a_n | apply a_x | apply o_nil | refine vZ ?_ | refine gFZ ?_ | refine cFZ ?_ | ((first | refine gBZ ?_ ?_ | refine cdZ ?_ ?_) <;> (intro _hg; (try simp only [ZB] at _hg); try first | exact absurd trivial _hg | (exfalso; omega))) | refine e_ends rfl ?_ | refine r1Z ?_ | fail)) <;> (try clear zz)
      exact .int _ _

theorem hasR (l : List (List Int)) (v : List Int) (hl : Sh l) (hs : ∀ x ∈ l, Sh x) (hv : Sh v) : Pure Tryz.prog 81 [encVV l, encV v] (.bool (decide (v ∈ l))) := by
  refine Pure.of_c2 follows is81 (Nat.le_of_ble_eq_true rfl) ?_
  simp only [b81, cO, cG, cN, cM, cD, cF, cB, cFal, cTru]
  have hl' : l.length ≤ 17592186044416 := hl
  (have zz := and_self; repeat' (first | apply w_seq | apply w_ops0 | apply w_block | apply a_n | apply o_nil | refine vZ ?_ | apply w_loop | fail)) <;> (try clear zz)
  refine loopA (fun k => [(0, encVV l), (1, encV v), (5, .int .i64 k)]) l.length (fun k => l.getD k default ≠ v) (by simp (disch := omega) only [agr, ZG, reduceEqDiff, ↓reduceIte]) ?_
  intro k hk hp
  by_cases hk2 : k < l.length
  rotate_left
  · (have zz := and_self; repeat' (first | apply w_seq | apply w_ops0 | apply w_exit | apply w_ret | apply a_n | apply a_x | apply o_nil | refine vZ ?_ | (refine cdZ ?_ ?_ <;> (intro _hg; (try simp only [ZB] at _hg); try first | exact absurd trivial _hg | (exfalso; omega))) | refine e_ends rfl ?_ | refine r1Z ?_ | fail)) <;> (try clear zz)
    exact snap_bool (decide_eq_false (fun hm => by
      obtain ⟨i, hi, e⟩ := mem_getV.1 hm
      exact hp i (by omega) e)).symm
  have hc := orderR (l.getD k default) v (hs _ (mem_getD hk2)) hv
  by_cases he : order (l.getD k default) v = 0
  · (have zz := and_self; repeat' (first | apply w_seq | apply w_ops0 | apply w_block | apply w_skip | apply w_ret | apply a_n | apply a_r | apply o_nil | refine vZ ?_ | refine cZ ?_ (hp := hc) | (refine cdZ ?_ ?_ <;> (intro _hg; (try simp only [ZB] at _hg); try first | exact absurd trivial _hg | (exfalso; omega))) | refine e_ends rfl ?_ | refine r1Z ?_ | fail)) <;> (try clear zz)
    exact snap_bool (decide_eq_true (mem_getV.2 ⟨k, hk2, order_eq he⟩)).symm
  · (have zz := and_self; repeat' (first | apply w_seq | apply w_ops0 | apply w_block | apply w_skip | apply a_n | apply o_nil | refine vZ ?_ | refine cZ ?_ (hp := hc) | (refine cdZ ?_ ?_ <;> (intro _hg; (try simp only [ZB] at _hg); try first | exact absurd trivial _hg | (exfalso; omega))) | fail)) <;> (try clear zz)
    exact ⟨hk2, fun h => he (by rw [h]; exact order_refl v), by simp (disch := omega) only [agr, ZG, reduceEqDiff, ↓reduceIte], rfl, rfl⟩

theorem vectorR (v : List Int) (n most : Int) (hv : Sh v) : Pure Tryz.prog 80 [encV v, .int .i64 n, .int .i64 most] (.int .i64 (vectorE v n most)) := by
  refine Pure.of_c2 follows is80 (Nat.le_of_ble_eq_true rfl) ?_
  simp only [b80, cO, cG, cN, cM, cD, cF, cB, cFal, cTru]
  have hv' : v.length ≤ 17592186044416 := hv
  by_cases hn : (v.length : Int) = n
  rotate_left
  · have e : vectorE v n most = 15 := by unfold vectorE; rw [if_pos hn]
    rw [e]
    (have zz := and_self; repeat' (first | apply w_seq | apply w_ops0 | apply w_ret | apply a_n | apply a_r | apply o_nil | refine vZ ?_ | (refine cdZ ?_ ?_ <;> (intro _hg; (try simp only [ZB] at _hg); try first | exact absurd trivial _hg | (exfalso; omega))) | refine e_ends rfl ?_ | refine r1Z ?_ | fail)) <;> (try clear zz)
    all_goals exact .int _ _
  have e : vectorE v n most = if v.any (fun x => decide (x < 0 ∨ most ≤ x)) then 2 else 0 := by unfold vectorE; rw [if_neg (fun h => h hn)]
  rw [e]
  subst hn
  (have zz := and_self; repeat' (first | apply w_seq | apply w_ops0 | apply w_block | apply w_skip | apply a_n | apply o_nil | refine vZ ?_ | (refine cdZ ?_ ?_ <;> (intro _hg; (try simp only [ZB] at _hg); try first | exact absurd trivial _hg | (exfalso; omega))) | apply w_loop | fail)) <;> (try clear zz)
  refine loopA (fun k => [(0, encV v), (1, .int .i64 v.length), (2, .int .i64 most), (7, .int .i64 k)]) v.length (fun k => decide (v.getD k default < 0 ∨ most ≤ v.getD k default) = false) (by simp (disch := omega) only [agr, ZG, reduceEqDiff, ↓reduceIte]) ?_
  intro k hk hp
  by_cases hk2 : k < v.length
  rotate_left
  · (have zz := and_self; repeat' (first | apply w_seq | apply w_ops0 | apply w_exit | apply w_ret | apply a_n | apply a_x | apply o_nil | refine vZ ?_ | (refine cdZ ?_ ?_ <;> (intro _hg; (try simp only [ZB] at _hg); try first | exact absurd trivial _hg | (exfalso; omega))) | refine e_ends rfl ?_ | refine r1Z ?_ | fail)) <;> (try clear zz)
    rw [any_false fun i hi => hp i (by omega)]
    exact .int _ _
  by_cases hb : v.getD k default < 0 ∨ most ≤ v.getD k default
  · (have zz := and_self; repeat' (first | apply w_seq | apply w_ops0 | apply w_block | apply w_skip | apply w_ret | apply a_n | apply a_r | apply o_nil | refine vZ ?_ | refine gTZ ?_ | refine gFZ ?_ | refine cTZ ?_ | ((first | refine gBZ ?_ ?_ | refine cdZ ?_ ?_) <;> (intro _hg; (try simp only [ZB] at _hg); try first | exact absurd trivial _hg | (exfalso; omega))) | refine e_ends rfl ?_ | refine r1Z ?_ | fail)) <;> (try clear zz)
    all_goals first
      | (rw [any_true (p := fun x => decide (x < 0 ∨ most ≤ x)) hk2 (decide_eq_true hb)]; exact .int _ _)
  · (have zz := and_self; repeat' (first | apply w_seq | apply w_ops0 | apply w_block | apply w_skip | apply a_n | apply o_nil | refine vZ ?_ | refine gTZ ?_ | ((first | refine gBZ ?_ ?_ | refine cdZ ?_ ?_) <;> (intro _hg; (try simp only [ZB] at _hg); try first | exact absurd trivial _hg | (exfalso; omega))) | fail)) <;> (try clear zz)
    exact ⟨hk2, decide_eq_false hb, by simp (disch := omega) only [agr, ZG, reduceEqDiff, ↓reduceIte], rfl, rfl⟩

set_option maxHeartbeats 2000000 in
theorem oneR (t : TaskV) (j : Nat) (hs : ∀ c ∈ t.cases, ShC c) (hsc : Sh t.cases) (hj : j < t.cases.length) : Pure Tryz.prog 50 [encT t, .int .i64 j] (.int .i64 (caseE t j)) := by
  refine Pure.of_c2 follows is50 (Nat.le_of_ble_eq_true rfl) ?_
  simp only [b50, cO, cG, cN, cM, cD, cF, cB, cFal, cTru]
  rw [caseE_eq t j hj]
  have hsc' : t.cases.length ≤ 17592186044416 := hsc
  have hm := mem_getD hj
  obtain ⟨s1, s2, s3, s4, s5⟩ := hs _ hm
  have ix := aixS_encCs hj
  have hv := vectorR _ t.n t.ins s1
  unfold encT
  by_cases hV : vectorE (t.cases.getD j default).inp t.n t.ins = 0
  rotate_left
  · rw [if_pos hV]
    generalize vectorE (t.cases.getD j default).inp t.n t.ins = V at *
    (have zz := aI @encCs_one (aI @encCs_cells (aI @alenS_encCs @ix)); repeat' (first | apply w_seq | apply w_ops0 | apply w_ret | apply a_n | apply a_r | apply o_nil | refine vZ ?_ | refine cZ ?_ (hp := hv) | refine alZ ?_ | refine bxZ ?_ | refine stZ ?_ | (refine cdZ ?_ ?_ <;> (intro _hg; (try simp only [ZB] at _hg); try first | exact absurd trivial _hg | (exfalso; omega))) | refine e_ends rfl ?_ | refine r1Z ?_ | fail)) <;> (try clear zz)
    exact .int _ _
  rw [if_neg (fun h => h hV)]
  rw [hV] at hv
  have hO := orderR (t.cases.getD (j - 1) default).inp (t.cases.getD j default).inp (hs _ (mem_getD (by omega))).1 s1
  have hi1 := aixS_encCs (l := t.cases) (k := j - 1) (by omega)
  generalize hC : t.cases.getD j default = c at *
  obtain ⟨inp, out, calm⟩ := c
  dsimp only at *
  have s2' : out.length ≤ 17592186044416 := s2
  have s4' : calm.length ≤ 17592186044416 := s4
  refine w_seq ?_
  (have zz := aI @encCs_one (aI @encCs_cells (aI @alenS_encCs @ix)); repeat' (first | apply w_ops0 | apply a_n | apply o_nil | refine vZ ?_ | refine bxZ ?_ | fail)) <;> (try clear zz)
  refine w_seq ?_
  (have zz := aI @encCs_one (aI @encCs_cells (aI @alenS_encCs @ix)); repeat' (first | apply w_ops0 | apply a_n | apply o_nil | refine vZ ?_ | refine alZ ?_ | refine stZ ?_ | fail)) <;> (try clear zz)
  refine w_seqC (fun T H nx => T 1 = .int .i64 j ∧ T 2 = .ptr 0 4 0 ∧ T 5 = .ptr 1 3 0 ∧ H 0 = some [.int .i64 t.n, .int .i64 t.ins, .int .i64 t.outs, encCs t.cases] ∧ H 1 = some [encV inp, encVV out, encVV calm]) ?_ ?_
  · (have zz := aI @encCs_one (aI @encCs_cells (aI @alenS_encCs @ix)); repeat' (first | apply w_seq | apply w_ops0 | apply w_skip | apply a_n | apply o_nil | refine vZ ?_ | refine cZ ?_ (hp := hv) | (refine cdZ ?_ ?_ <;> (intro _hg; (try simp only [ZB] at _hg); try first | exact absurd trivial _hg | (exfalso; omega))) | fail)) <;> (try clear zz)
    exact ⟨rfl, rfl, rfl, rfl, rfl⟩
  rintro T H nx ⟨t1, t2, t5, g0, g1⟩
  refine w_seqC (fun T H nx => T 1 = .int .i64 j ∧ T 2 = .ptr 0 4 0 ∧ T 5 = .ptr 1 3 0 ∧ H 0 = some [.int .i64 t.n, .int .i64 t.ins, .int .i64 t.outs, encCs t.cases] ∧ H 1 = some [encV inp, encVV out, encVV calm] ∧ (decide (0 < j) && decide (0 ≤ order (t.cases.getD (j - 1) default).inp inp)) = false) ?_ ?_
  · by_cases hj0 : j = 0
    · subst hj0
      (have zz := aI @t1 (aI @t2 (aI @t5 (aI @g0 (aI @g1 (aI @encCs_one (aI @encCs_cells (aI @alenS_encCs (aI @ix @Bool.false_eq_true)))))))); repeat' (first | apply w_seq | apply w_mixS1 | apply w_skip | apply a_n | apply o_nil | refine vZ ?_ | refine gFZ ?_ | (refine gBZ ?_ ?_ <;> (intro _hg; (try simp only [ZB] at _hg); try first | exact absurd trivial _hg | (exfalso; omega))) | refine cFZ ?_ | fail)) <;> (try clear zz)
      all_goals first | exact ⟨by ((try simp only [simB0, ZA, reduceEqDiff, ↓reduceIte, reduceAdd, reduceLeDiff, t1, t2, t5, g0, g1]); (try with_reducible rfl)), by ((try simp only [simB0, ZA, reduceEqDiff, ↓reduceIte, reduceAdd, reduceLeDiff, t1, t2, t5, g0, g1]); (try with_reducible rfl)), by ((try simp only [simB0, ZA, reduceEqDiff, ↓reduceIte, reduceAdd, reduceLeDiff, t1, t2, t5, g0, g1]); (try with_reducible rfl)), by ((try simp only [simB0, ZA, reduceEqDiff, ↓reduceIte, reduceAdd, reduceLeDiff, t1, t2, t5, g0, g1]); (try with_reducible rfl)), by ((try simp only [simB0, ZA, reduceEqDiff, ↓reduceIte, reduceAdd, reduceLeDiff, t1, t2, t5, g0, g1]); (try with_reducible rfl)), by first | rfl | simp⟩ | trace_state
    · have e1 : (j : Int) - 1 = ((j - 1 : Nat) : Int) := by omega
      rw [← e1] at hi1
      rw [decide_eq_true (show 0 < j by omega), Bool.true_and]
      have hj1 : decide ((0 : Int) < (j : Int)) = true := decide_eq_true (by omega)
      by_cases ho : 0 ≤ order (t.cases.getD (j - 1) default).inp inp
      · rw [decide_eq_true ho, if_pos rfl]
        (have zz := aI @t1 (aI @t2 (aI @t5 (aI @g0 (aI @g1 (aI @encCs_one (aI @encCs_cells (aI @alenS_encCs (aI @ix (aI @hi1 (aI @hj1 @Bool.false_eq_true)))))))))); repeat' (first | apply w_seq | apply w_ops0 | apply w_mixS1 | apply w_ret | apply a_n | apply a_r | apply o_nil | refine vZ ?_ | refine cZ ?_ (hp := hO) | refine gTZ ?_ | (refine cdZ ?_ ?_ <;> (intro _hg; (try simp only [ZB] at _hg); try first | exact absurd trivial _hg | (exfalso; omega))) | refine e_ends rfl ?_ | refine r1Z ?_ | fail)) <;> (try clear zz)
        all_goals first | exact .int _ _ | trace_state
      · rw [decide_eq_false ho]
        (have zz := aI @t1 (aI @t2 (aI @t5 (aI @g0 (aI @g1 (aI @encCs_one (aI @encCs_cells (aI @alenS_encCs (aI @ix (aI @hi1 (aI @hj1 @Bool.false_eq_true)))))))))); repeat' (first | apply w_seq | apply w_mixS1 | apply w_skip | apply a_n | apply o_nil | refine vZ ?_ | refine cZ ?_ (hp := hO) | refine gTZ ?_ | (refine cdZ ?_ ?_ <;> (intro _hg; (try simp only [ZB] at _hg); try first | exact absurd trivial _hg | (exfalso; omega))) | fail)) <;> (try clear zz)
        all_goals first | exact ⟨by ((try simp only [simB0, ZA, reduceEqDiff, ↓reduceIte, reduceAdd, reduceLeDiff, t1, t2, t5, g0, g1]); (try with_reducible rfl)), by ((try simp only [simB0, ZA, reduceEqDiff, ↓reduceIte, reduceAdd, reduceLeDiff, t1, t2, t5, g0, g1]); (try with_reducible rfl)), by ((try simp only [simB0, ZA, reduceEqDiff, ↓reduceIte, reduceAdd, reduceLeDiff, t1, t2, t5, g0, g1]); (try with_reducible rfl)), by ((try simp only [simB0, ZA, reduceEqDiff, ↓reduceIte, reduceAdd, reduceLeDiff, t1, t2, t5, g0, g1]); (try with_reducible rfl)), by ((try simp only [simB0, ZA, reduceEqDiff, ↓reduceIte, reduceAdd, reduceLeDiff, t1, t2, t5, g0, g1]); (try with_reducible rfl)), by first | rfl | simp⟩ | trace_state
  clear t1 t2 t5 g0 g1 hO hi1
  rintro T H nx ⟨t1, t2, t5, g0, g1, hu⟩
  rw [hu, if_neg (by simp)]
  by_cases h0 : out.length < 1 ∨ 1024 < out.length
  · have e : vectorsE t.n t.outs ⟨inp, out, calm⟩ = 5 := by unfold vectorsE; rw [if_pos h0]
    rw [e]
    (have zz := aI @t1 (aI @t2 (aI @t5 (aI @g0 @g1))); repeat' (first | apply w_seq | apply w_ops0 | apply w_ret | apply a_n | apply a_r | apply o_nil | refine vZ ?_ | refine gTZ ?_ | refine gFZ ?_ | refine cTZ ?_ | ((first | refine gBZ ?_ ?_ | refine cdZ ?_ ?_) <;> (intro _hg; (try simp only [ZB] at _hg); try first | exact absurd trivial _hg | (exfalso; omega))) | refine e_ends rfl ?_ | refine r1Z ?_ | fail)) <;> (try clear zz)
    all_goals exact .int _ _
  have e : vectorsE t.n t.outs ⟨inp, out, calm⟩ = if firstI (outE t.n t.outs out) out.length ≠ 0 then firstI (outE t.n t.outs out) out.length else firstI (calmE out calm) calm.length := by unfold vectorsE; rw [if_neg h0]
  rw [e]
  refine w_seqC (fun T H nx => T 2 = .ptr 0 4 0 ∧ T 5 = .ptr 1 3 0 ∧ H 0 = some [.int .i64 t.n, .int .i64 t.ins, .int .i64 t.outs, encCs t.cases] ∧ H 1 = some [encV inp, encVV out, encVV calm]) ?_ ?_
  · (have zz := aI @t1 (aI @t2 (aI @t5 (aI @g0 @g1))); repeat' (first | apply w_seq | apply w_ops0 | apply w_skip | apply a_n | apply o_nil | refine vZ ?_ | refine gTZ ?_ | ((first | refine gBZ ?_ ?_ | refine cdZ ?_ ?_) <;> (intro _hg; (try simp only [ZB] at _hg); try first | exact absurd trivial _hg | (exfalso; omega))) | fail)) <;> (try clear zz)
    all_goals first | exact ⟨by ((try simp only [simB0, ZA, reduceEqDiff, ↓reduceIte, reduceAdd, reduceLeDiff, t1, t2, t5, g0, g1]); (try with_reducible rfl)), by ((try simp only [simB0, ZA, reduceEqDiff, ↓reduceIte, reduceAdd, reduceLeDiff, t1, t2, t5, g0, g1]); (try with_reducible rfl)), by ((try simp only [simB0, ZA, reduceEqDiff, ↓reduceIte, reduceAdd, reduceLeDiff, t1, t2, t5, g0, g1]); (try with_reducible rfl)), by ((try simp only [simB0, ZA, reduceEqDiff, ↓reduceIte, reduceAdd, reduceLeDiff, t1, t2, t5, g0, g1]); (try with_reducible rfl))⟩ | trace_state
  clear t1 t2 t5 g0 g1
  rintro T H nx ⟨t2, t5, g0, g1⟩
  refine w_seqC (fun T H nx => T 2 = .ptr 0 4 0 ∧ T 5 = .ptr 1 3 0 ∧ H 0 = some [.int .i64 t.n, .int .i64 t.ins, .int .i64 t.outs, encCs t.cases] ∧ H 1 = some [encV inp, encVV out, encVV calm] ∧ ∀ i, i < out.length → outE t.n t.outs out i = 0) ?_ ?_
  · (have zz := aI @t2 (aI @t5 (aI @g0 @g1)); repeat' (first | apply w_seq | apply w_ops0 | apply w_block | apply a_n | apply o_nil | refine vZ ?_ | apply w_loop | fail)) <;> (try clear zz)
    refine loopA (fun k => [(2, .ptr 0 4 0), (5, .ptr 1 3 0), (7, .int .i64 k)]) out.length (fun k => outE t.n t.outs out k = 0) (by simp (disch := omega) only [agr, ZG, reduceEqDiff, ↓reduceIte, t2, t5]) ?_
    intro k hk hz
    by_cases hk2 : k < out.length
    rotate_left
    · (have zz := aI @g0 @g1; repeat' (first | apply w_seq | apply w_ops0 | apply w_exit | apply a_n | apply a_x | apply o_nil | refine vZ ?_ | (refine cdZ ?_ ?_ <;> (intro _hg; (try simp only [ZB] at _hg); try first | exact absurd trivial _hg | (exfalso; omega))) | fail)) <;> (try clear zz)
      exact ⟨rfl, rfl, g0, g1, fun i hi => hz i (by omega)⟩
    have hvk := vectorR (out.getD k default) t.n t.outs (s3 _ (mem_getD hk2))
    have hok := orderR (out.getD (k - 1) default) (out.getD k default) (s3 _ (mem_getD (by omega))) (s3 _ (mem_getD hk2))
    have ho : outE t.n t.outs out k = if vectorE (out.getD k default) t.n t.outs ≠ 0 then vectorE (out.getD k default) t.n t.outs else if (decide (0 < k) && decide (0 ≤ order (out.getD (k - 1) default) (out.getD k default))) then 14 else 0 := rfl
    have fin : ∀ r, outE t.n t.outs out k = r → r ≠ 0 → (if firstI (outE t.n t.outs out) out.length ≠ 0 then firstI (outE t.n t.outs out) out.length else firstI (calmE out calm) calm.length) = r := fun r hr h0 => by
      rw [firstI_hit hk2 hz (by rw [hr]; exact h0), hr, if_pos h0]
    generalize vectorE (out.getD k default) t.n t.outs = V at *
    by_cases hV0 : V = 0
    rotate_left
    · rw [if_pos hV0] at ho
      rw [fin V ho hV0]
      (have zz := aI @g0 @g1; repeat' (first | apply w_seq | apply w_ops0 | apply w_mixS1 | apply w_block | apply w_skip | apply w_ret | apply a_n | apply a_r | apply o_nil | refine vZ ?_ | refine cZ ?_ (hp := hvk) | (refine cdZ ?_ ?_ <;> (intro _hg; (try simp only [ZB] at _hg); try first | exact absurd trivial _hg | (exfalso; omega))) | refine e_ends rfl ?_ | refine r1Z ?_ | fail)) <;> (try clear zz)
      exact .int _ _
    subst hV0
    rw [if_neg (fun h => h rfl)] at ho
    by_cases hk0 : k = 0
    · subst hk0
      (have zz := aI @g0 (aI @g1 @Bool.false_eq_true); repeat' (first | apply w_seq | apply w_ops0 | apply w_mixS1 | apply w_block | apply w_skip | apply a_n | apply o_nil | refine vZ ?_ | refine cZ ?_ (hp := hvk) | refine gFZ ?_ | refine cFZ ?_ | ((first | refine gBZ ?_ ?_ | refine cdZ ?_ ?_) <;> (intro _hg; (try simp only [ZB] at _hg); try first | exact absurd trivial _hg | (exfalso; omega))) | fail)) <;> (try clear zz)
      all_goals first | exact ⟨hk2, ho, by simp (disch := omega) only [agr, ZG, reduceEqDiff, ↓reduceIte], rfl, rfl⟩ | trace_state
    · have e1 : (k : Int) - 1 = ((k - 1 : Nat) : Int) := by omega
      have e2 : ((k : Int) - 1).toNat = k - 1 := by omega
      have hj1 : decide ((0 : Int) < (k : Int)) = true := decide_eq_true (by omega)
      rw [decide_eq_true (show 0 < k by omega), Bool.true_and] at ho
      generalize order (out.getD (k - 1) default) (out.getD k default) = O at *
      by_cases hO0 : 0 ≤ O
      · rw [decide_eq_true hO0, if_pos rfl] at ho
        rw [fin 14 ho (by decide)]
        (have zz := aI @g0 (aI @g1 (aI @hj1 (aI @e2 @Bool.false_eq_true))); repeat' (first | apply w_seq | apply w_ops0 | apply w_mixS1 | apply w_block | apply w_skip | apply w_ret | apply a_n | apply a_r | apply o_nil | refine vZ ?_ | refine cZ ?_ (hp := by first | exact hvk | exact hok) | refine gTZ ?_ | (refine cdZ ?_ ?_ <;> (intro _hg; (try simp only [ZB] at _hg); try first | exact absurd trivial _hg | (exfalso; omega))) | refine e_ends rfl ?_ | refine r1Z ?_ | fail)) <;> (try clear zz)
        all_goals first | exact .int _ _ | trace_state
      · rw [decide_eq_false hO0, if_neg (by simp)] at ho
        (have zz := aI @g0 (aI @g1 (aI @hj1 (aI @e2 @Bool.false_eq_true))); repeat' (first | apply w_seq | apply w_ops0 | apply w_mixS1 | apply w_block | apply w_skip | apply a_n | apply o_nil | refine vZ ?_ | refine cZ ?_ (hp := by first | exact hvk | exact hok) | refine gTZ ?_ | (refine cdZ ?_ ?_ <;> (intro _hg; (try simp only [ZB] at _hg); try first | exact absurd trivial _hg | (exfalso; omega))) | fail)) <;> (try clear zz)
        all_goals first | exact ⟨hk2, ho, by simp (disch := omega) only [agr, ZG, reduceEqDiff, ↓reduceIte], rfl, rfl⟩ | trace_state
  clear t2 t5 g0 g1
  rintro T H nx ⟨t2, t5, g0, g1, hz0⟩
  rw [firstI_zero hz0, if_neg (fun h => h rfl)]
  (have zz := aI @t2 (aI @t5 (aI @g0 @g1)); repeat' (first | apply w_seq | apply w_ops0 | apply w_block | apply a_n | apply o_nil | refine vZ ?_ | apply w_loop | fail)) <;> (try clear zz)
  refine loopA (fun k => [(2, .ptr 0 4 0), (5, .ptr 1 3 0), (9, .int .i64 k)]) calm.length (fun k => calmE out calm k = 0) (by simp (disch := omega) only [agr, ZG, reduceEqDiff, ↓reduceIte, t2, t5]) ?_
  intro k hk hz
  by_cases hk2 : k < calm.length
  rotate_left
  · (have zz := aI @g0 @g1; repeat' (first | apply w_seq | apply w_ops0 | apply w_exit | apply w_ret | apply a_n | apply a_x | apply o_nil | refine vZ ?_ | (refine cdZ ?_ ?_ <;> (intro _hg; (try simp only [ZB] at _hg); try first | exact absurd trivial _hg | (exfalso; omega))) | refine e_ends rfl ?_ | refine r1Z ?_ | fail)) <;> (try clear zz)
    rw [firstI_zero fun i hi => hz i (by omega)]
    exact .int _ _
  have hh := hasR out (calm.getD k default) s2 s3 (s5 _ (mem_getD hk2))
  have hok := orderR (calm.getD (k - 1) default) (calm.getD k default) (s5 _ (mem_getD (by omega))) (s5 _ (mem_getD hk2))
  have ho : calmE out calm k = if calm.getD k default ∈ out then (if (decide (0 < k) && decide (0 ≤ order (calm.getD (k - 1) default) (calm.getD k default))) then 14 else 0) else 6 := rfl
  have fin : ∀ r, calmE out calm k = r → r ≠ 0 → firstI (calmE out calm) calm.length = r := fun r hr h0 => by
    rw [firstI_hit hk2 hz (by rw [hr]; exact h0), hr]
  by_cases hm2 : calm.getD k default ∈ out
  rotate_left
  · rw [if_neg hm2] at ho
    rw [decide_eq_false hm2] at hh
    rw [fin 6 ho (by decide)]
    (have zz := aI @g0 (aI @g1 @Bool.false_eq_true); repeat' (first | apply w_seq | apply w_ops0 | apply w_mixS1 | apply w_block | apply w_skip | apply w_ret | apply a_n | apply a_r | apply o_nil | refine vZ ?_ | refine cZ ?_ (hp := hh) | refine cTZ ?_ | (refine cdZ ?_ ?_ <;> (intro _hg; (try simp only [ZB] at _hg); try first | exact absurd trivial _hg | (exfalso; omega))) | refine e_ends rfl ?_ | refine r1Z ?_ | fail)) <;> (try clear zz)
    exact .int _ _
  rw [if_pos hm2] at ho
  rw [decide_eq_true hm2] at hh
  by_cases hk0 : k = 0
  · subst hk0
    (have zz := aI @g0 (aI @g1 @Bool.false_eq_true); repeat' (first | apply w_seq | apply w_ops0 | apply w_mixS1 | apply w_block | apply w_skip | apply a_n | apply o_nil | refine vZ ?_ | refine cZ ?_ (hp := hh) | refine gFZ ?_ | refine cFZ ?_ | ((first | refine gBZ ?_ ?_ | refine cdZ ?_ ?_) <;> (intro _hg; (try simp only [ZB] at _hg); try first | exact absurd trivial _hg | (exfalso; omega))) | fail)) <;> (try clear zz)
    all_goals first | exact ⟨hk2, ho, by simp (disch := omega) only [agr, ZG, reduceEqDiff, ↓reduceIte], rfl, rfl⟩ | trace_state
  · have e2 : ((k : Int) - 1).toNat = k - 1 := by omega
    have hj1 : decide ((0 : Int) < (k : Int)) = true := decide_eq_true (by omega)
    rw [decide_eq_true (show 0 < k by omega), Bool.true_and] at ho
    generalize order (calm.getD (k - 1) default) (calm.getD k default) = O at *
    by_cases hO0 : 0 ≤ O
    · rw [decide_eq_true hO0, if_pos rfl] at ho
      rw [fin 14 ho (by decide)]
      (have zz := aI @g0 (aI @g1 (aI @hj1 (aI @e2 @Bool.false_eq_true))); repeat' (first | apply w_seq | apply w_ops0 | apply w_mixS1 | apply w_block | apply w_skip | apply w_ret | apply a_n | apply a_r | apply o_nil | refine vZ ?_ | refine cZ ?_ (hp := by first | exact hh | exact hok) | refine gTZ ?_ | refine cFZ ?_ | (refine cdZ ?_ ?_ <;> (intro _hg; (try simp only [ZB] at _hg); try first | exact absurd trivial _hg | (exfalso; omega))) | refine e_ends rfl ?_ | refine r1Z ?_ | fail)) <;> (try clear zz)
      all_goals first | exact .int _ _ | trace_state
    · rw [decide_eq_false hO0, if_neg (by simp)] at ho
      (have zz := aI @g0 (aI @g1 (aI @hj1 (aI @e2 @Bool.false_eq_true))); repeat' (first | apply w_seq | apply w_ops0 | apply w_mixS1 | apply w_block | apply w_skip | apply a_n | apply o_nil | refine vZ ?_ | refine cZ ?_ (hp := by first | exact hh | exact hok) | refine gTZ ?_ | refine cFZ ?_ | (refine cdZ ?_ ?_ <;> (intro _hg; (try simp only [ZB] at _hg); try first | exact absurd trivial _hg | (exfalso; omega))) | fail)) <;> (try clear zz)
      all_goals first | exact ⟨hk2, ho, by simp (disch := omega) only [agr, ZG, reduceEqDiff, ↓reduceIte], rfl, rfl⟩ | trace_state

end Go.Proofs.YtbiikomnhkbblaaGreat

/- T6: contracts of functions and plain laws; for all inputs that the theorems name. -/
namespace Go.Proofs.YtbiikomnhkbblaaGreat
open Go Go.Abs
open Nat (reduceEqDiff reduceAdd reduceLeDiff)
attribute [local irreducible] awp2 aops2 ains aloop athen bbind obind gbind acond res1 Go.Abs.Fn PCall Go.Abs.Pure SnapArgs SnapL Yl

theorem checkR (t : TaskV) (hs : ∀ c ∈ t.cases, ShC c) (hsc : Sh t.cases) : Pure Tryz.prog 15 [encT t] (.int .i64 (checkE t)) := by
  refine Pure.of_c2 follows is15 (Nat.le_of_ble_eq_true rfl) ?_
  simp only [b15, cO, cG, cN, cM, cD, cF, cB, cFal, cTru]
  have hsc' : t.cases.length ≤ 17592186044416 := hsc
  have d2 := encT_dat t
  have hone := fun j hj => oneR t j hs hsc hj
  unfold encT at d2 hone ⊢
  by_cases h0 : t.n < 1 ∨ 5 < t.n ∨ t.ins < 1 ∨ 8 < t.ins ∨ t.outs < 1 ∨ 8 < t.outs
  · have e : checkE t = 2 := by unfold checkE; rw [if_pos h0]
    rw [e]
    (have zz := aI @encCs_one (aI @encCs_cells @alenS_encCs); repeat' (first | apply w_seq | apply w_ops0 | apply w_ret | apply a_n | apply a_r | apply o_nil | refine vZ ?_ | refine bxZ ?_ | refine gTZ ?_ | refine gFZ ?_ | refine cTZ ?_ | ((first | refine gBZ ?_ ?_ | refine cdZ ?_ ?_) <;> (intro _hg; (try simp only [ZB] at _hg); try first | exact absurd trivial _hg | (exfalso; omega))) | refine e_ends rfl ?_ | refine r1Z ?_ | fail)) <;> (try clear zz)
    all_goals exact .int _ _
  by_cases h1 : t.cases.length < 1 ∨ 1024 < t.cases.length
  · have e : checkE t = 5 := by unfold checkE; rw [if_neg h0, if_pos h1]
    rw [e]
    (have zz := aI @encCs_one (aI @encCs_cells @alenS_encCs); repeat' (first | apply w_seq | apply w_ops0 | apply w_skip | apply w_ret | apply a_n | apply a_r | apply o_nil | refine vZ ?_ | refine bxZ ?_ | refine gTZ ?_ | refine gFZ ?_ | refine cTZ ?_ | ((first | refine gBZ ?_ ?_ | refine cdZ ?_ ?_) <;> (intro _hg; (try simp only [ZB] at _hg); try first | exact absurd trivial _hg | (exfalso; omega))) | refine e_ends rfl ?_ | refine r1Z ?_ | fail)) <;> (try clear zz)
    all_goals exact .int _ _
  have e : checkE t = firstI (caseE t) t.cases.length := by unfold checkE; rw [if_neg h0, if_neg h1]
  rw [e]
  (have zz := aI @encCs_one (aI @encCs_cells @alenS_encCs); repeat' (first | apply w_seq | apply w_ops0 | apply w_block | apply w_skip | apply a_n | apply o_nil | refine vZ ?_ | refine bxZ ?_ | refine gTZ ?_ | ((first | refine gBZ ?_ ?_ | refine cdZ ?_ ?_) <;> (intro _hg; (try simp only [ZB] at _hg); try first | exact absurd trivial _hg | (exfalso; omega))) | apply w_loop | fail)) <;> (try clear zz)
  refine loopA (fun k => [(1, .ptr 0 4 0), (3, .int .i64 k)]) t.cases.length (fun k => caseE t k = 0) (by simp (disch := omega) only [agr, ZG, reduceEqDiff, ↓reduceIte, List.length_cons, List.length_nil]) ?_
  intro k hk hz
  by_cases hk2 : k < t.cases.length
  rotate_left
  · (have zz := aI @encCs_one (aI @encCs_cells @alenS_encCs); repeat' (first | apply w_seq | apply w_ops0 | apply w_exit | apply w_ret | apply a_n | apply a_x | apply o_nil | refine vZ ?_ | (refine cdZ ?_ ?_ <;> (intro _hg; (try simp only [ZB] at _hg); try first | exact absurd trivial _hg | (exfalso; omega))) | refine e_ends rfl ?_ | refine r1Z ?_ | fail)) <;> (try clear zz)
    rw [firstI_zero fun i hi => hz i (by omega)]
    exact .int _ _
  have hc := hone k hk2
  by_cases hE : caseE t k = 0
  · rw [hE] at hc
    (have zz := aI @encCs_one (aI @encCs_cells @alenS_encCs); repeat' (first | apply w_seq | apply w_ops0 | apply w_block | apply w_skip | apply a_n | apply o_nil | refine vZ ?_ | refine cZ ?_ (hp := hc) | (refine cdZ ?_ ?_ <;> (intro _hg; (try simp only [ZB] at _hg); try first | exact absurd trivial _hg | (exfalso; omega))) | fail)) <;> (try clear zz)
    exact ⟨hk2, hE, by simp (disch := omega) only [agr, ZG, reduceEqDiff, ↓reduceIte], rfl, rfl⟩
  · rw [firstI_hit hk2 hz hE]
    generalize caseE t k = V at *
    (have zz := aI @encCs_one (aI @encCs_cells @alenS_encCs); repeat' (first | apply w_seq | apply w_ops0 | apply w_block | apply w_skip | apply w_ret | apply a_n | apply a_r | apply o_nil | refine vZ ?_ | refine cZ ?_ (hp := hc) | (refine cdZ ?_ ?_ <;> (intro _hg; (try simp only [ZB] at _hg); try first | exact absurd trivial _hg | (exfalso; omega))) | refine e_ends rfl ?_ | refine r1Z ?_ | fail)) <;> (try clear zz)
    exact .int _ _

theorem fewVsR (l : List (List Int)) (hl : Sh l) (hs : ∀ x ∈ l, Sh x) : Pure Tryz.prog 42 [encVV l, .int .i64 30] (.bool (fewVs l)) := by
  refine Pure.of_c2 follows is42 (Nat.le_of_ble_eq_true rfl) ?_
  simp only [b42, cO, cG, cN, cM, cD, cF, cB, cFal, cTru]
  have hl' : l.length ≤ 17592186044416 := hl
  unfold fewVs
  by_cases h0 : l.length ≤ 30
  rotate_left
  · rw [decide_eq_false h0]
    (have zz := and_self; repeat' (first | apply w_seq | apply w_ops0 | apply w_ret | apply a_n | apply a_r | apply o_nil | refine vZ ?_ | (refine cdZ ?_ ?_ <;> (intro _hg; (try simp only [ZB] at _hg); try first | exact absurd trivial _hg | (exfalso; omega))) | refine e_ends rfl ?_ | refine r1Z ?_ | fail)) <;> (try clear zz)
    exact .bool _
  rw [decide_eq_true h0, Bool.true_and]
  (have zz := and_self; repeat' (first | apply w_seq | apply w_ops0 | apply w_block | apply w_skip | apply a_n | apply o_nil | refine vZ ?_ | (refine cdZ ?_ ?_ <;> (intro _hg; (try simp only [ZB] at _hg); try first | exact absurd trivial _hg | (exfalso; omega))) | apply w_loop | fail)) <;> (try clear zz)
  refine loopA (fun k => [(0, encVV l), (5, .int .i64 k)]) l.length (fun k => decide ((l.getD k default).length ≤ 10) = true) (by simp (disch := omega) only [agr, ZG, reduceEqDiff, ↓reduceIte]) ?_
  intro k hk hz
  by_cases hk2 : k < l.length
  rotate_left
  · (have zz := and_self; repeat' (first | apply w_seq | apply w_ops0 | apply w_exit | apply w_ret | apply a_n | apply a_x | apply o_nil | refine vZ ?_ | (refine cdZ ?_ ?_ <;> (intro _hg; (try simp only [ZB] at _hg); try first | exact absurd trivial _hg | (exfalso; omega))) | refine e_ends rfl ?_ | refine r1Z ?_ | fail)) <;> (try clear zz)
    rw [all_true fun i hi => hz i (by omega)]
    exact .bool _
  have hsk : (l.getD k default).length ≤ 17592186044416 := hs _ (mem_getD hk2)
  by_cases hE : (l.getD k default).length ≤ 10
  · (have zz := and_self; repeat' (first | apply w_seq | apply w_ops0 | apply w_block | apply w_skip | apply a_n | apply o_nil | refine vZ ?_ | (refine cdZ ?_ ?_ <;> (intro _hg; (try simp only [ZB] at _hg); try first | exact absurd trivial _hg | (exfalso; omega))) | fail)) <;> (try clear zz)
    exact ⟨hk2, decide_eq_true hE, by simp (disch := omega) only [agr, ZG, reduceEqDiff, ↓reduceIte], rfl, rfl⟩
  · (have zz := and_self; repeat' (first | apply w_seq | apply w_ops0 | apply w_block | apply w_skip | apply w_ret | apply a_n | apply a_r | apply o_nil | refine vZ ?_ | (refine cdZ ?_ ?_ <;> (intro _hg; (try simp only [ZB] at _hg); try first | exact absurd trivial _hg | (exfalso; omega))) | refine e_ends rfl ?_ | refine r1Z ?_ | fail)) <;> (try clear zz)
    rw [all_false (p := fun v => decide (v.length ≤ 10)) hk2 (decide_eq_false hE)]
    exact .bool _

theorem fewR (t : TaskV) (hs : ∀ c ∈ t.cases, ShC c) (hsc : Sh t.cases) : Pure Tryz.prog 10 [encT t] (.bool (fewT t)) := by
  refine Pure.of_c2 follows is10 (Nat.le_of_ble_eq_true rfl) ?_
  simp only [b10, cO, cG, cN, cM, cD, cF, cB, cFal, cTru]
  have hsc' : t.cases.length ≤ 17592186044416 := hsc
  unfold fewT encT
  by_cases h0 : t.cases.length ≤ 30
  rotate_left
  · rw [decide_eq_false h0]
    (have zz := aI @encCs_one (aI @encCs_cells @alenS_encCs); repeat' (first | apply w_seq | apply w_ops0 | apply w_ret | apply a_n | apply a_r | apply o_nil | refine vZ ?_ | refine bxZ ?_ | (refine cdZ ?_ ?_ <;> (intro _hg; (try simp only [ZB] at _hg); try first | exact absurd trivial _hg | (exfalso; omega))) | refine e_ends rfl ?_ | refine r1Z ?_ | fail)) <;> (try clear zz)
    exact .bool _
  rw [decide_eq_true h0, Bool.true_and]
  (have zz := aI @encCs_one (aI @encCs_cells @alenS_encCs); repeat' (first | apply w_seq | apply w_ops0 | apply w_block | apply w_skip | apply a_n | apply o_nil | refine vZ ?_ | refine bxZ ?_ | (refine cdZ ?_ ?_ <;> (intro _hg; (try simp only [ZB] at _hg); try first | exact absurd trivial _hg | (exfalso; omega))) | apply w_loop | fail)) <;> (try clear zz)
  refine loopI (X := Nat) (fun k => [(1, .ptr 0 4 0), (3, .int .i64 k)]) (fun k H nx => k ≤ t.cases.length ∧ (∀ i, i < k → fewC (t.cases.getD i default) = true) ∧ 1 ≤ nx ∧ H 0 = some [.int .i64 t.n, .int .i64 t.ins, .int .i64 t.outs, encCs t.cases]) (fun k => t.cases.length - k) 0 ⟨Nat.zero_le _, fun i h => absurd h (by omega), Nat.le_refl _, rfl⟩ (by simp (disch := omega) only [agr, ZG, reduceEqDiff, ↓reduceIte, List.length_cons, List.length_nil]) ?_
  rintro k H nx ⟨hk, hz, hn, g0⟩
  by_cases hk2 : k < t.cases.length
  rotate_left
  · (have zz := aI @g0 (aI @encCs_one (aI @encCs_cells @alenS_encCs)); repeat' (first | apply w_seq | apply w_ops0 | apply w_exit | apply w_ret | apply a_n | apply a_x | apply o_nil | refine vY ?_ | (refine cdY ?_ ?_ <;> (intro _hg; (try simp only [ZB] at _hg); try first | exact absurd trivial _hg | (exfalso; omega))) | refine e_ends rfl ?_ | refine r1Y ?_ | fail)) <;> (try clear zz)
    rw [all_true fun i hi => hz i (by omega)]
    exact .bool _
  have ix := aixS_encCs hk2
  obtain ⟨s1, s2, s3, s4, s5⟩ := hs _ (mem_getD hk2)
  have hf1 := fewVsR _ s2 s3
  have hf2 := fewVsR _ s4 s5
  have hF : fewC (t.cases.getD k default) = (decide ((t.cases.getD k default).inp.length ≤ 10) && fewVs (t.cases.getD k default).out && fewVs (t.cases.getD k default).calm) := rfl
  have hno : fewC (t.cases.getD k default) = false → Snap H (.bool false) (.bool (t.cases.all fewC)) := fun h => by
    rw [all_false hk2 h]; exact .bool _
  have hno' : ∀ {H'}, fewC (t.cases.getD k default) = false → Snap H' (.bool false) (.bool (t.cases.all fewC)) := fun h => by
    rw [all_false hk2 h]; exact .bool _
  have s1' : (t.cases.getD k default).inp.length ≤ 17592186044416 := s1
  generalize fewVs (t.cases.getD k default).out = F1 at *
  generalize fewVs (t.cases.getD k default).calm = F2 at *
  by_cases hl : (t.cases.getD k default).inp.length ≤ 10
  rotate_left
  · rw [decide_eq_false hl] at hF
    (have zz := aI @g0 (aI @encCs_one (aI @encCs_cells (aI @alenS_encCs @ix))); repeat' (first | apply w_seq | apply w_ops0 | apply w_block | apply w_skip | apply w_ret | apply a_n | apply a_r | apply o_nil | refine vY ?_ | refine alY ?_ | refine stY ?_ | refine gFY ?_ | refine cTY ?_ | ((first | refine gBY ?_ ?_ | refine cdY ?_ ?_) <;> (intro _hg; (try simp only [ZB] at _hg); try first | exact absurd trivial _hg | (exfalso; omega))) | refine e_ends rfl ?_ | refine r1Y ?_ | fail)) <;> (try clear zz)
    all_goals exact hno' hF
  rw [decide_eq_true hl, Bool.true_and] at hF
  cases F1 with
  | false =>
    (have zz := aI @g0 (aI @encCs_one (aI @encCs_cells (aI @alenS_encCs (aI @ix @Bool.false_eq_true)))); repeat' (first | apply w_seq | apply w_ops0 | apply w_block | apply w_skip | apply w_ret | apply a_n | apply a_r | apply o_nil | refine vY ?_ | refine cY ?_ (hp := by first | exact hf1 | exact hf2) | refine alY ?_ | refine stY ?_ | refine gTY ?_ | refine gFY ?_ | refine cTY ?_ | ((first | refine gBY ?_ ?_ | refine cdY ?_ ?_) <;> (intro _hg; (try simp only [ZB] at _hg); try first | exact absurd trivial _hg | (exfalso; omega))) | refine e_ends rfl ?_ | refine r1Y ?_ | fail)) <;> (try clear zz)
    all_goals exact hno' hF
  | true =>
    cases F2 with
    | false =>
      (have zz := aI @g0 (aI @encCs_one (aI @encCs_cells (aI @alenS_encCs (aI @ix @Bool.false_eq_true)))); repeat' (first | apply w_seq | apply w_ops0 | apply w_block | apply w_skip | apply w_ret | apply a_n | apply a_r | apply o_nil | refine vY ?_ | refine cY ?_ (hp := by first | exact hf1 | exact hf2) | refine alY ?_ | refine stY ?_ | refine gTY ?_ | refine cTY ?_ | ((first | refine gBY ?_ ?_ | refine cdY ?_ ?_) <;> (intro _hg; (try simp only [ZB] at _hg); try first | exact absurd trivial _hg | (exfalso; omega))) | refine e_ends rfl ?_ | refine r1Y ?_ | fail)) <;> (try clear zz)
      all_goals exact hno' hF
    | true =>
      (have zz := aI @g0 (aI @encCs_one (aI @encCs_cells (aI @alenS_encCs (aI @ix @Bool.false_eq_true)))); repeat' (first | apply w_seq | apply w_ops0 | apply w_block | apply w_skip | apply a_n | apply o_nil | refine vY ?_ | refine cY ?_ (hp := by first | exact hf1 | exact hf2) | refine alY ?_ | refine stY ?_ | refine gTY ?_ | refine cFY ?_ | ((first | refine gBY ?_ ?_ | refine cdY ?_ ?_) <;> (intro _hg; (try simp only [ZB] at _hg); try first | exact absurd trivial _hg | (exfalso; omega))) | fail)) <;> (try clear zz)
      refine ⟨k + 1, by omega, ⟨by omega, fun i hi => ?_, by omega, ?_⟩, by simp (disch := omega) only [agr, ZG, reduceEqDiff, ↓reduceIte]⟩
      · rcases Nat.lt_succ_iff_lt_or_eq.1 hi with h | rfl
        · exact hz i h
        · exact hF
      · rw [hupd_ne (by omega), hupd_ne (by omega), g0]

end Go.Proofs.YtbiikomnhkbblaaGreat

/- A11: contracts of functions and plain laws; for all inputs that the theorems name. -/
namespace Go.Proofs.YtbiikomnhkbblaaGreat
open Go Go.Abs
/-! ### the examples of the chapter, by a run of the code -/
def codeL : List (Nat × F2) := [(11, b11), (12, b12), (14, b14), (16, b16), (18, b18), (20, b20), (21, b21), (23, b23), (24, b24), (26, b26), (29, b29), (31, b31), (37, b37), (39, b39), (40, b40), (43, b43), (44, b44), (45, b45), (46, b46), (48, b48), (49, b49), (51, b51), (52, b52), (53, b53), (56, b56), (57, b57), (58, b58), (59, b59), (61, b61), (62, b62), (64, b64), (65, b65), (66, b66), (67, b67), (68, b68), (70, b70), (74, b74), (75, b75), (76, b76), (77, b77), (78, b78), (79, b79), (83, b83), (85, b85), (86, b86), (87, b87), (88, b88), (89, b89), (90, b90), (91, b91), (94, b94), (96, b96), (97, b97), (100, b100), (109, b109), (110, b110), (111, b111), (125, b125)]
theorem codes : Codes Tryz.prog (lookup codeL) :=
  (codes_cons is11 (codes_cons is12 (codes_cons is14 (codes_cons is16 (codes_cons is18 (codes_cons is20 (codes_cons is21 (codes_cons is23 (codes_cons is24 (codes_cons is26 (codes_cons is29 (codes_cons is31 (codes_cons is37 (codes_cons is39 (codes_cons is40 (codes_cons is43 (codes_cons is44 (codes_cons is45 (codes_cons is46 (codes_cons is48 (codes_cons is49 (codes_cons is51 (codes_cons is52 (codes_cons is53 (codes_cons is56 (codes_cons is57 (codes_cons is58 (codes_cons is59 (codes_cons is61 (codes_cons is62 (codes_cons is64 (codes_cons is65 (codes_cons is66 (codes_cons is67 (codes_cons is68 (codes_cons is70 (codes_cons is74 (codes_cons is75 (codes_cons is76 (codes_cons is77 (codes_cons is78 (codes_cons is79 (codes_cons is83 (codes_cons is85 (codes_cons is86 (codes_cons is87 (codes_cons is88 (codes_cons is89 (codes_cons is90 (codes_cons is91 (codes_cons is94 (codes_cons is96 (codes_cons is97 (codes_cons is100 (codes_cons is109 (codes_cons is110 (codes_cons is111 (codes_cons is125 codes_nil))))))))))))))))))))))))))))))))))))))))))))))))))))))))))
set_option maxRecDepth 100000 in
theorem awake_c : Go.Abs.Pure Tryz.prog 11 [] (.bool true) := Pure.of_run follows codes (pf := named [43, 16, 18, 21, 24, 26, 29, 31, 12]) (n := 2000) (good := isTrue) (by decide +kernel) isTrue_eq
end Go.Proofs.YtbiikomnhkbblaaGreat

/- T8: contracts of functions and plain laws; for all inputs that the theorems name. -/
namespace Go.Proofs.YtbiikomnhkbblaaGreat
open Go Go.Abs Go.RowKit

/-! ### the arguments of the laws, opened -/
section
variable {H : Type} {enc : TypeId × Value → H} {W : World}
theorem oi : Opens enc Tryz.prog W 3 (AV.int .i64) (fun n => (Lit.int .i64 n).wf = true) := opens_int Tryz.underlying3
theorem oL1 : Opens enc Tryz.prog W 25 encV Sh :=
  (opens_slice Tryz.underlying25 (sz := 1) (by_ := 8) (by kernel_rfl) (by kernel_rfl) Nat.one_pos (fun _ => rfl) oi).mono fun l h => by have := h.2.2; show _ ≤ _; omega
theorem oL2 : Opens enc Tryz.prog W 38 encVV (fun l => Sh l ∧ ∀ x ∈ l, Sh x) :=
  (opens_slice Tryz.underlying38 (sz := 1) (by_ := 24) (by kernel_rfl) (by kernel_rfl) Nat.one_pos (fun _ => rfl) oL1).mono fun l h => ⟨by have := h.2.2; show _ ≤ _; omega, h.1⟩
set_option maxRecDepth 100000 in
theorem oCase : Opens enc Tryz.prog W 69 encC ShC :=
  (opens_struct Tryz.underlying69 (by kernel_rfl) (opensF_cons (off := 0) (off' := 1) rfl (by kernel_rfl) oL1 (opensF_cons (off := 1) (off' := 2) rfl (by kernel_rfl) oL2 (opensF_cons (off := 2) (off' := 3) rfl (by kernel_rfl) oL2 opensF_nil)))).map
    (fun a => (⟨a.1, a.2.1, a.2.2.1⟩ : CaseV)) (by
      rintro ⟨i, o, c, u⟩ ⟨h1, h2, h3, _⟩
      exact ⟨h1, h2.1, h2.2, h3.1, h3.2⟩) (fun _ _ => rfl)
theorem oCases : Opens enc Tryz.prog W 22 encCs (fun l => Sh l ∧ ∀ c ∈ l, ShC c) :=
  (opens_slice Tryz.underlying22 (sz := 3) (by_ := 72) (by kernel_rfl) (by kernel_rfl) (by omega) (fun _ => rfl) oCase).mono fun l h => ⟨by have := h.2.2; show _ ≤ _; omega, h.1⟩
set_option maxRecDepth 100000 in
theorem oTask : Opens enc Tryz.prog W 24 encT (fun t => Sh t.cases ∧ ∀ c ∈ t.cases, ShC c) :=
  (opens_struct Tryz.underlying24 (by kernel_rfl) (opensF_cons (off := 0) (off' := 1) rfl (by kernel_rfl) oi (opensF_cons (off := 1) (off' := 2) rfl (by kernel_rfl) oi (opensF_cons (off := 2) (off' := 3) rfl (by kernel_rfl) oi (opensF_cons (off := 3) (off' := 4) rfl (by kernel_rfl) oCases opensF_nil))))).map
    (fun a => (⟨a.1, a.2.1, a.2.2.1, a.2.2.2.1⟩ : TaskV)) (by
      rintro ⟨n, i, o, c, u⟩ ⟨_, _, _, h, _⟩
      exact h) (fun _ _ => rfl)
end

theorem calls_of_pureO {f : FuncId} {xs : List AV} {vs : List Value} (h : Go.Abs.Pure Tryz.prog f xs (.bool true)) (w : World) (hv : RelL (E0 (oldB w)) w xs vs) :
    Calls Tryz.prog f vs.toArray w fun e w' => e = .returned (.bool true) ∧ Below w.heap.size w w' := by
  refine (h.2 (oldB w) w vs (fun _ h => h) hv).mono ?_
  rintro e w' ⟨v, imm', rfl, hb, _, _, _, hr⟩
  cases hr
  exact ⟨rfl, hb⟩
theorem laid : laidOutB Tryz.prog = true := by kernel_rfl

end Go.Proofs.YtbiikomnhkbblaaGreat

/- T9: contracts of functions and plain laws; for all inputs that the theorems name. -/
namespace Go.Proofs.YtbiikomnhkbblaaGreat
open Go Go.Abs Go.RowKit Go.ChangeShapes Go.WideShapes Go.ChangeAt

theorem post_of_below {H : Type} {enc : TypeId × Value → H} {P : Program} {f : Func} {s : ChangeSpec} {apart fresh handsOn again : Bool} {W W' : World} {args : Array Value} {v : Value} {ds gs : List (DataW H)} {before pa pv : List MemPlace}
    (hW : DataW.Whole enc P f.params.toList s.vars apart W args.toList ds gs before)
    (hres : ∀ (b : Nat) (sp : Nat → Bool) (hd : Bool), DataW.TrodAll enc P W' b sp hd f.resultTypes.toList (v.resultList f.resultTypes.size) (s.fn H (ds ++ gs)).results [])
    (hargs : ∀ sp : Nat → Bool, (∀ p ∈ before, sp p.block = true) → DataW.TrodAll enc P W' 0 sp true f.params.toList args.toList (s.fn H (ds ++ gs)).args pa)
    (hvars : ∀ sp : Nat → Bool, (∀ p ∈ before, sp p.block = true) → DataW.TrodVars enc P W' sp s.vars (s.fn H (ds ++ gs)).vars pv)
    (hps : before = pa ++ pv) (hb : Below W.heap.size W W')
    (hok : ∀ (j : Nat) (t : TypeId) (r : Value), f.resultTypes[j]? = some t → (v.resultList f.resultTypes.size)[j]? = some r → Value.okWide P W' .any 0 t r) :
    s.post enc P f apart fresh handsOn again W args v W' := by
  have hold : ∀ p ∈ before, (fun b => decide (b < W.heap.size)) p.block = true := fun p hp => by simpa using hW.lt p hp
  have hlt := fun p hp => hW.lt p hp
  refine ⟨ds, gs, before, [], pa, pv, hW, hres _ _ _, hargs _ hold, hvars _ hold, World.keptBut_mono (fun p hp => ⟨hp, ?_⟩) (hb.frame _), fun _ => ?_⟩
  · rw [hps, List.mem_append] at hp
    exact Or.inr hp
  · obtain ⟨_, _, _, _, _, hz, hn⟩ := hW
    refine ⟨hok, _, _, ([] ++ pa) ++ pv, ⟨[] ++ pa, pv, trodAll_append (hargs _ (fun _ _ => rfl)) (hres _ _ _), hvars _ (fun _ _ => rfl), rfl, ?_, ?_⟩, ?_⟩
    · intro b off hp
      have hp' : MemPlace.cell b off ∈ before := by rw [hps]; simpa using hp
      rw [hb.frozen (hlt _ hp')]
      exact hz b off hp'
    · intro ha
      have := hn ha
      rw [hps] at this
      simpa using this
    · intro p hp _
      rw [hps]
      simpa using hp

theorem relL_nil {E : Env} {w : World} : RelL E w [] [] := ⟨rfl, fun i x y h => (by cases h)⟩
theorem relL_cons {E : Env} {w : World} {x : AV} {y : Value} {xs : List AV} {ys : List Value} (h : Rel E w x y) (hs : RelL E w xs ys) : RelL E w (x :: xs) (y :: ys) := by
  refine ⟨by simp [hs.1], fun i a b ha hb => ?_⟩
  cases i with
  | zero => simp at ha hb; subst ha hb; exact h
  | succ i => simp at ha hb; exact hs.2 i a b ha hb
theorem own : ownKnob Tryz.prog.godebug = none := by kernel_rfl

end Go.Proofs.YtbiikomnhkbblaaGreat

/- T10: contracts of functions and plain laws; for all inputs that the theorems name. -/
namespace Go.Proofs.YtbiikomnhkbblaaGreat
open Go Go.Abs
open Nat (reduceEqDiff reduceAdd reduceLeDiff)
/-! ### a task with some of its cases -/
def pickC (t : TaskV) (i : Int) : CaseV := t.cases.getD i.toNat default
theorem encC_dat (c : CaseV) : Dat (encC c) := Dat.agg (DatL.cons (encV_dat _) (DatL.cons (encVV_dat _) (DatL.cons (encVV_dat _) DatL.nil)))
attribute [local irreducible] awp2 aops2 ains aloop athen bbind obind gbind acond res1 Go.Abs.Fn PCall Go.Abs.Pure SnapArgs SnapL Yl

end Go.Proofs.YtbiikomnhkbblaaGreat

/- T11: contracts of functions and plain laws; for all inputs that the theorems name. -/
namespace Go.Proofs.YtbiikomnhkbblaaGreat
open Go Go.Abs
open Nat (reduceEqDiff reduceAdd reduceLeDiff)
def idx (l : List Int) (v : Int) : Int := if v ∈ l then (l.idxOf v : Nat) else -1
theorem idx_at {l : List Int} {v : Int} {k : Nat} (hk : k < l.length) (h : ∀ i, i < k → l.getD i default ≠ v) (hv : v = l.getD k default) : idx l v = k := by
  have e : l.getD k default = l[k] := by simp [List.getD, hk]
  have hm : v ∈ l := by rw [hv, e]; exact List.getElem_mem hk
  unfold idx; rw [if_pos hm]
  have h1 : l.idxOf v ≤ k := by
    by_cases hlt : l.idxOf v ≤ k
    · exact hlt
    · exfalso
      have := List.not_of_lt_findIdx (xs := l) (p := (· == v)) (i := k) (by simp only [List.idxOf] at hlt; omega)
      rw [e] at hv; subst hv; simp at this
  have h2 : k ≤ l.idxOf v := by
    by_cases hlt : k ≤ l.idxOf v
    · exact hlt
    · exfalso
      have hi := List.idxOf_lt_length_iff.2 hm
      have := h (l.idxOf v) (by omega)
      apply this
      simp [List.getD, hi]
  omega
theorem idx_none {l : List Int} {v : Int} (h : ∀ i, i < l.length → l.getD i default ≠ v) : idx l v = -1 := by
  unfold idx; rw [if_neg]
  intro hm
  obtain ⟨i, hi, e⟩ := List.getElem_of_mem hm
  exact h i hi (by simp [List.getD, hi, e])

/-! ### tasks with some of their cases, plainly -/
section
variable {t : TaskV} {S : List Nat} (hc : checkE t = 0) (hp : S.Pairwise (· < ·)) (hS : ∀ i ∈ S, i < t.cases.length)
theorem check_parts (h : checkE t = 0) : (¬ (t.n < 1 ∨ 5 < t.n ∨ t.ins < 1 ∨ 8 < t.ins ∨ t.outs < 1 ∨ 8 < t.outs)) ∧ (1 ≤ t.cases.length ∧ t.cases.length ≤ 1024) ∧ ∀ k, k < t.cases.length → vectorE (t.cases.getD k default).inp t.n t.ins = 0 ∧ vectorsE t.n t.outs (t.cases.getD k default) = 0 := by
  unfold checkE at h
  split at h
  · omega
  · rename_i h1
    split at h
    · omega
    · rename_i h2
      refine ⟨h1, by omega, fun k hk => ?_⟩
      have h3 := firstI_all h k hk
      unfold caseE at h3
      split at h3
      · exact absurd h3 ‹_›
      · rename_i h4
        split at h3
        · omega
        · exact ⟨Decidable.byContradiction fun x => h4 x, h3⟩
end
def selB (w : Int) (i : Nat) : Bool := decide (IntKind.wrap .u16 ((BitVec.ofInt 16 (w.fdiv (2 ^ (min (i % 16) 16))) &&& BitVec.ofInt 16 1).toNat : Int) = 1)
def sm (w : Int) (k : Nat) : List Nat := (List.range k).filter (selB w)
attribute [local irreducible] awp2 aops2 ains aloop athen bbind obind gbind acond res1 Go.Abs.Fn PCall Go.Abs.Pure SnapArgs SnapL Yl

theorem index_c (l : List Int) (v : Int) (hl : Sh l) : Pure Tryz.prog 73 [encV l, .int .i64 v] (.int .i64 (idx l v)) := by
  refine Pure.of_c2 follows is73 (Nat.le_of_ble_eq_true rfl) ?_
  simp only [b73, cO, cG, cN, cM, cD, cF, cB, cFal, cTru]
  (have zz := and_self; repeat' (first | apply w_seq | apply w_ops0 | apply w_block | apply a_n | apply o_nil | refine vZ ?_ | apply w_loop | fail)) <;> (try clear zz)
  refine loop0 (X := Nat) (fun k => [(0, encV l), (1, .int .i64 v), (7, .int .i64 l.length), (8, .int .i64 k)]) (fun k => k ≤ l.length ∧ ∀ i, i < k → l.getD i default ≠ v) (fun k => l.length - k) 0 ⟨Nat.zero_le _, by simp⟩ (by simp (disch := omega) only [agr, ZG, reduceEqDiff, ↓reduceIte]) ?_
  rintro k ⟨h1, h2⟩
  (have zz := and_self; repeat' (first | apply w_seq | apply w_ops0 | apply w_block | apply w_skip | apply w_exit | apply w_ret | apply a_n | apply a_x | apply a_r | apply o_nil | refine vZ ?_ | (refine cdZ ?_ ?_ <;> (intro _hg; (try simp only [ZB] at _hg); try first | exact absurd trivial _hg | (exfalso; omega))) | refine e_ends rfl ?_ | refine r1Z ?_ | fail)) <;> (try clear zz)
  · exact snap_int (idx_at (by omega) h2 _hg).symm
  · refine ⟨k + 1, ⟨by omega, fun i hi => ?_⟩, by omega, by simp (disch := omega) only [agr, ZG, reduceEqDiff, ↓reduceIte], rfl, rfl⟩
    rcases Nat.lt_succ_iff_lt_or_eq.1 hi with h | rfl
    · exact h2 i h
    · exact fun e => _hg e.symm
  · exact snap_int (idx_none fun i hi => h2 i (by omega)).symm

theorem contains_c (l : List Int) (v : Int) (hl : Sh l) : Pure Tryz.prog 36 [encV l, .int .i64 v] (.bool (decide (v ∈ l))) := by
  refine Pure.of_c2 follows is36 (Nat.le_of_ble_eq_true rfl) ?_
  simp only [b36, cO, cG, cN, cM, cD, cF, cB, cFal, cTru]
  (have zz := and_self; repeat' (first | apply w_seq | apply w_ops0 | apply w_ret | apply a_n | apply o_nil | refine vZ ?_ | refine cZ ?_ (hp := by exact index_c _ _ hl) | refine e_ends rfl ?_ | refine r1Z ?_ | fail)) <;> (try clear zz)
  refine snap_bool ?_
  unfold idx; split <;> simp_all

end Go.Proofs.YtbiikomnhkbblaaGreat

/- T20: contracts of functions and plain laws; for all inputs that the theorems name. -/
namespace Go.Proofs.YtbiikomnhkbblaaGreat
open Go Go.Abs
open Nat (reduceEqDiff reduceAdd reduceLeDiff)

/-! ### places -/
def placeE (t : TaskV) (i f : Int) : Int := if checkE t ≠ 0 then checkE t else if i < 0 ∨ (t.cases.length : Int) ≤ i then 6 else if f < 0 ∨ ((2 ^ t.n.toNat : Nat) : Int) ≤ f then 2 else 0
theorem checkE_n {t : TaskV} (h : checkE t = 0) : 1 ≤ t.n ∧ t.n ≤ 5 := by
  unfold checkE at h
  by_cases c : t.n < 1 ∨ 5 < t.n ∨ t.ins < 1 ∨ 8 < t.ins ∨ t.outs < 1 ∨ 8 < t.outs
  · rw [if_pos c] at h; exact absurd h (by decide)
  · omega
attribute [local irreducible] awp2 aops2 ains aloop athen bbind obind gbind acond res1 Go.Abs.Fn PCall Go.Abs.Pure SnapArgs SnapL Yl

theorem place_c (t : TaskV) (i f : Int) (hs : ∀ c ∈ t.cases, ShC c) (hsc : Sh t.cases) : Pure Tryz.prog 51 [encT t, .int .i64 i, .int .i64 f] (.int .i64 (placeE t i f)) := by
  refine Pure.of_c2 follows is51 (Nat.le_of_ble_eq_true rfl) ?_
  simp only [b51, cO, cG, cN, cM, cD, cF, cB, cFal, cTru]
  have hsc' : t.cases.length ≤ 17592186044416 := hsc
  have hc := check_c t hs hsc
  have d2 := encT_dat t
  by_cases he : checkE t = 0
  rotate_left
  · have e : placeE t i f = checkE t := by unfold placeE; rw [if_pos he]
    rw [e]
    generalize checkE t = C at *
    unfold encT at hc d2
    rw [show encT t = .agg [.int .i64 t.n, .int .i64 t.ins, .int .i64 t.outs, encCs t.cases] from rfl]
    (have zz := aI @encCs_one (aI @encCs_cells @alenS_encCs); repeat' (first | apply w_seq | apply w_ops0 | apply w_ret | apply a_n | apply a_r | apply o_nil | refine vZ ?_ | refine cZ ?_ (hp := hc) | refine bxZ ?_ | (refine cdZ ?_ ?_ <;> (intro _hg; (try simp only [ZB] at _hg); try first | exact absurd trivial _hg | (exfalso; omega))) | refine e_ends rfl ?_ | refine r1Z ?_ | fail)) <;> (try clear zz)
    exact snap_int rfl
  obtain ⟨n1, n5⟩ := checkE_n he
  obtain ⟨nn, hnn⟩ : ∃ nn : Nat, t.n = nn := ⟨t.n.toNat, by omega⟩
  have sh : abin2 .shl false false (.int .i64 1) (.int .i64 t.n) = some (.int .i64 ((2 ^ t.n.toNat : Nat) : Int)) := by
    have h2 : 2 ^ nn ≤ 2 ^ 5 := Nat.pow_le_pow_right (by omega) (by omega)
    have h := shl_nat (k := .i64) (k' := .i64) (a := 1) (b := nn) (tb := false) (tf := false) (by show nn ≤ 64; omega) (by show 1 * 2 ^ nn < 2 ^ 63; omega)
    rw [Nat.one_mul] at h
    rw [hnn]
    exact h
  have e : placeE t i f = if i < 0 ∨ (t.cases.length : Int) ≤ i then 6 else if f < 0 ∨ ((2 ^ t.n.toNat : Nat) : Int) ≤ f then 2 else 0 := by unfold placeE; rw [if_neg (fun h => h he)]
  rw [e]
  rw [he] at hc
  generalize ((2 ^ t.n.toNat : Nat) : Int) = W at *
  unfold encT at hc d2
  rw [show encT t = .agg [.int .i64 t.n, .int .i64 t.ins, .int .i64 t.outs, encCs t.cases] from rfl]
  by_cases h1 : i < 0 ∨ (t.cases.length : Int) ≤ i
  · rw [if_pos h1]
    (have zz := aI @encCs_one (aI @encCs_cells (aI @alenS_encCs @sh)); repeat' (first | apply w_seq | apply w_ops0 | apply w_block | apply w_skip | apply w_ret | apply a_n | apply a_r | apply o_nil | refine vZ ?_ | refine cZ ?_ (hp := hc) | refine bxZ ?_ | refine gTZ ?_ | refine gFZ ?_ | refine cTZ ?_ | ((first | refine gBZ ?_ ?_ | refine cdZ ?_ ?_) <;> (intro _hg; (try simp only [ZB] at _hg); try first | exact absurd trivial _hg | (exfalso; omega))) | refine e_ends rfl ?_ | refine r1Z ?_ | fail)) <;> (try clear zz)
    all_goals exact snap_int rfl
  · rw [if_neg h1]
    by_cases h2 : f < 0 ∨ W ≤ f
    · rw [if_pos h2]
      (have zz := aI @encCs_one (aI @encCs_cells (aI @alenS_encCs @sh)); repeat' (first | apply w_seq | apply w_ops0 | apply w_block | apply w_skip | apply w_ret | apply a_n | apply a_r | apply o_nil | refine vZ ?_ | refine cZ ?_ (hp := hc) | refine bxZ ?_ | refine gTZ ?_ | refine gFZ ?_ | refine cTZ ?_ | ((first | refine gBZ ?_ ?_ | refine cdZ ?_ ?_) <;> (intro _hg; (try simp only [ZB] at _hg); try first | exact absurd trivial _hg | (exfalso; omega))) | refine e_ends rfl ?_ | refine r1Z ?_ | fail)) <;> (try clear zz)
      all_goals exact snap_int rfl
    · rw [if_neg h2]
      (have zz := aI @encCs_one (aI @encCs_cells (aI @alenS_encCs @sh)); repeat' (first | apply w_seq | apply w_ops0 | apply w_block | apply w_skip | apply w_ret | apply a_n | apply o_nil | refine vZ ?_ | refine cZ ?_ (hp := hc) | refine bxZ ?_ | refine gTZ ?_ | ((first | refine gBZ ?_ ?_ | refine cdZ ?_ ?_) <;> (intro _hg; (try simp only [ZB] at _hg); try first | exact absurd trivial _hg | (exfalso; omega))) | refine e_ends rfl ?_ | refine r1Z ?_ | fail)) <;> (try clear zz)
      all_goals exact snap_int rfl
end Go.Proofs.YtbiikomnhkbblaaGreat
