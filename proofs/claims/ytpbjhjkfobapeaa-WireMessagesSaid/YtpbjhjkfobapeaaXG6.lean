/- Texts of this claim, one after the other: Q18, Q19, Q20, Q21, Q22, Q23, Q24, Q25, Q26, Q27, Q28, Q29, Q30, Q31, Q32, Q33, Q34. -/
import Derived.Test.YtpbjhjkfobapeaaXG5
import Derived.Test.YtpbjhjkfobapeaaRows
import Derived.WalkKit
import Derived.ProofKit
import Derived.OpenShut
import Derived.Test.YtpbjhjkfobapeaaXG4

set_option linter.unusedSimpArgs false
set_option linter.unusedVariables false

/- Q18: contracts of functions and plain laws; for all inputs that the theorems name. -/
namespace Go.Proofs.Ytpbjhjkfobapeaa
open Go Go.Abs
open Nat (reduceEqDiff reduceAdd reduceLeDiff)

theorem bytes_dec (a b : ByteArray) : (a.toList == b.toList) = decide (a = b) := by
  by_cases h : a = b
  · subst h; simp
  · have : a.toList ≠ b.toList := fun e => h (bytes_inj e)
    simp [h, this]
theorem str_dec (a b : List UInt8) : ((⟨a.toArray⟩ : ByteArray).toList == (⟨b.toArray⟩ : ByteArray).toList) = decide (a = b) := by
  rw [bytes_dec]
  exact decide_eq_decide.2 ⟨fun h => by simpa using congrArg ByteArray.data h, fun h => by rw [h]⟩
theorem str_eq {a b : List UInt8} {tb tf : Bool} : abin2 .eql tb tf (.str ⟨a.toArray⟩) (.str ⟨b.toArray⟩) = some (.bool (decide (a = b))) := by
  simp only [abin2, astrop, str_dec]
theorem str_ne {a b : List UInt8} {tb tf : Bool} : abin2 .neq tb tf (encS a) (encS b) = some (.bool (!decide (a = b))) := by
  simp only [abin2, astrop, encS, str_dec]

theorem Fz.bytes {H : Hp} {b c n len : Nat} {l : List UInt8} (hb : H b = some (l.map encB)) (hc : H c = some [.msl b n 1 0 len, .bool false]) (hbc : c ≠ b) (hn : n = l.length) (hl : len = l.length) : Fz (only b (l.map encB)) H (hupd (hdel H b) c [encBs l, .bool false]) := by
  refine ⟨fun x cs h => by unfold only at h; split at h <;> cases h; subst_vars; exact hb, fun x cs h => ?_⟩
  rcases hupd_some h with ⟨rfl, rfl⟩ | ⟨h1, h2⟩
  · refine ⟨_, hc, by simp [only, hbc], rfl, ?_⟩
    rintro (_ | _ | i) y y' hy hy'
    · simp only [List.getElem?_cons_zero, Option.some.injEq] at hy hy'
      subst hy hy'
      exact .inr (snap_rowD only_at (by omega) (by simp [hl]) (by simp only [List.mem_map]; rintro y ⟨a, _, rfl⟩; exact ⟨rfl, .int⟩))
    · simp only [List.getElem?_cons_succ, List.getElem?_cons_zero, Option.some.injEq] at hy hy'
      subst hy hy'
      exact .inl rfl
    · simp at hy
  · have := hdel_some h2
    exact ⟨cs, this.2, by simp [only, this.1], CellsTo.refl _ _⟩

def threeB (r f t : Int) : List UInt8 := [UInt8.ofNat (r % 256).toNat, UInt8.ofNat (f % 256).toNat, UInt8.ofNat (t % 256).toNat]
def readB (m : MachV) (r f t : Int) (L : List UInt8) : Int × Int :=
  if (nextR (L.drop 3) false).2.2 = true ∨ 0 < (nextR (L.drop 3) false).2.1.length ∨ 1048576 < (nextR (L.drop 3) false).1 then (0, 3) else if L.take 3 ≠ threeB r f t then (0, 22) else if (nextR (L.drop 3) false).1 ∉ symV m ⟨r, f, t⟩ then (0, 6) else ((nextR (L.drop 3) false).1, 0)
def decodeB (m : MachV) (r f t : Int) (l : List UInt8) : Int × Int :=
  if placeI m r f t ≠ 0 then (0, placeI m r f t) else if rightB l = true then readB m r f t (l.take (l.length - 2)) else (0, 24)
attribute [local irreducible] awp2 aops2 ains aloop athen bbind obind gbind acond res1 Go.Abs.Fn PCall Go.Abs.Pure SnapArgs SnapL Yl

theorem equal_f (b1 b2 n1 n2 : Nat) (l1 l2 : List UInt8) (H : Hp) (nx : Nat) (h1 : H b1 = some (l1.map encB)) (h2 : H b2 = some (l2.map encB)) (e1 : n1 = l1.length) (e2 : n2 = l2.length) :
    Abs.Fn Try.prog 37 [.msl b1 n1 1 0 n1, .msl b2 n2 1 0 n2] H nx fun r H' nx' => r = .bool (decide (l1 = l2)) ∧ H' = H ∧ nx' = nx := by
  refine Abs.Fn.of_c2 follows is37 (Nat.le_of_ble_eq_true rfl) ?_
  simp only [b37, O, G, N, M, D, F, B2, cFal, cTru]
  repeat' (first | apply w_seq | apply w_ops0 | apply a_n | apply o_nil | (apply o_val rfl rfl; (focus ((try simp (disch := omega) only [simB0, ZA, reduceEqDiff, ↓reduceIte, reduceAdd, reduceLeDiff, ZV, reduceCtorEq]); first | with_reducible rfl | (apply s_ite; (focus omega); with_reducible rfl)))))
  refine o_b2s (n := n1) (bs := l1) (by ((try simp only [simB0, ZA, reduceEqDiff, ↓reduceIte, reduceAdd, reduceLeDiff]); (try with_reducible rfl)); exact asrc_bytes h1 e1) ?_
  repeat' (first | (apply o_val rfl rfl; (focus ((try simp (disch := omega) only [simB0, ZA, reduceEqDiff, ↓reduceIte, reduceAdd, reduceLeDiff, ZV, reduceCtorEq]); first | with_reducible rfl | (apply s_ite; (focus omega); with_reducible rfl)))))
  refine o_b2s (n := n2) (bs := l2) (by ((try simp only [simB0, ZA, reduceEqDiff, ↓reduceIte, reduceAdd, reduceLeDiff]); (try with_reducible rfl)); exact asrc_bytes h2 e2) ?_
  repeat' (first | apply w_ret | apply a_n | apply o_nil | (apply o_val rfl rfl; (focus ((try simp (disch := omega) only [simB0, ZA, reduceEqDiff, ↓reduceIte, reduceAdd, reduceLeDiff, ZV, reduceCtorEq, str_eq]); first | with_reducible rfl | (apply s_ite; (focus omega); with_reducible rfl)))) | (refine e_ends rfl ?_) | (apply r_1; (focus (simp only [rv, simB0, ZA, reduceEqDiff, ↓reduceIte, reduceAdd, reduceLeDiff, str_eq]; with_reducible rfl))))
  exact ⟨rfl, rfl, rfl⟩

theorem decode_c (m : MachV) (r f t : Int) (l : List UInt8) (hs : ShM m) (hl : Sh l) : Pure Try.prog 17 [encM m, .int .i64 r, .int .i64 f, .int .i64 t, encS l] (.tup [.int .i64 (decodeB m r f t l).1, .int .i64 (decodeB m r f t l).2]) := by
  refine Pure.of_c2 follows is17 (Nat.le_of_ble_eq_true rfl) ?_
  simp only [b17, O, G, N, M, D, F, B2, cFal, cTru]
  have hp := place_c m r f t hs
  have em := encM_dat m
  have ep := encP_dat ⟨r, f, t⟩
  have ho := opened_c l hl
  have hl' : l.length ≤ 9223372036854775807 := hl
  by_cases h0 : placeI m r f t = 0
  rotate_left
  · have e : decodeB m r f t l = (0, placeI m r f t) := by unfold decodeB; rw [if_pos h0]
    rw [e]
    unfold encM MachV.cells at hp em
    unfold encP at hp ep
    repeat' (first | apply w_seq | apply w_ops0 | apply w_ret | apply a_n | apply a_r | apply o_nil | (apply o_val rfl rfl; (focus ((try simp (disch := omega) only [simB0, ZA, reduceEqDiff, ↓reduceIte, reduceAdd, reduceLeDiff, ZV, reduceCtorEq, ME, h0, ne_eq, decide_true, decide_false, not_false_eq_true]); first | with_reducible rfl | (apply s_ite; (focus omega); with_reducible rfl)))) | (apply o_callD; (iterate 2 (focus ((try simp only [simB0, ZA, reduceEqDiff, ↓reduceIte, reduceAdd, reduceLeDiff, ME, h0, ne_eq, decide_true, decide_false, not_false_eq_true]); (try with_reducible rfl); done))); (focus (first | (exact hp))); (focus ((first | refine snap_plain ?_ rfl | apply snap_data); repeat' (first | exact snapL_nil | apply snapL_i | apply snapL_dat | exact em | exact ep)))) | (apply e_alloc rfl; (focus ((try simp only [simB0, ZA, reduceEqDiff, ↓reduceIte, reduceAdd, reduceLeDiff, ME, h0, ne_eq, decide_true, decide_false, not_false_eq_true]); (try with_reducible rfl); done)); (focus (simp only [SO, Bool.and_self, one_encV, one_encVV, ME, h0, ne_eq, decide_true, decide_false, not_false_eq_true]))) | (apply e_box rfl; (iterate 2 (focus ((try simp only [simB0, ZA, reduceEqDiff, ↓reduceIte, reduceAdd, reduceLeDiff, ME, h0, ne_eq, decide_true, decide_false, not_false_eq_true]); (try with_reducible rfl); done))); (focus (simp only [SO, Bool.and_self, one_encV, one_encVV, ME, h0, ne_eq, decide_true, decide_false, not_false_eq_true]))) | (apply e_st rfl; (iterate 4 (focus ((try simp only [simB0, ZA, reduceEqDiff, ↓reduceIte, reduceAdd, reduceLeDiff, ME, h0, ne_eq, decide_true, decide_false, not_false_eq_true]); (try with_reducible rfl); done))); (focus (simp only [SO, Bool.and_self, one_encV, one_encVV, ME, h0, ne_eq, decide_true, decide_false, not_false_eq_true])); (iterate 3 (focus ((try simp only [SL, reduceAdd, Nat.reduceMul, List.length_map]); first | done | omega)))) | (apply w_condT; (focus (simp only [simB0, ZA, reduceEqDiff, ↓reduceIte, reduceAdd, reduceLeDiff, ME, h0, ne_eq, decide_true, decide_false, not_false_eq_true]; done))) | (refine e_ends rfl ?_) | (apply r_2; (iterate 2 (focus (simp only [rv, simB0, ZA, reduceEqDiff, ↓reduceIte, reduceAdd, reduceLeDiff, ME, h0, ne_eq, decide_true, decide_false, not_false_eq_true]; with_reducible rfl)))))
    exact (Dat.tup (DatL.cons .int (DatL.cons .int DatL.nil))) _
  rw [h0] at hp
  have hy := sym_c m r f t hs h0
  have hsh := symV_sh hs h0
  have e : decodeB m r f t l = if rightB l = true then readB m r f t (l.take (l.length - 2)) else (0, 24) := by
    unfold decodeB; rw [if_neg (by simpa using h0)]
  rw [e]
  clear e
  by_cases hr : rightB l = true
  rotate_left
  · rw [if_neg hr]
    unfold openedB at ho
    rw [if_neg hr] at ho
    unfold encM MachV.cells at hp em
    unfold encP at hp ep
    repeat' (first | apply w_seq | apply w_ops0 | apply w_skip | apply w_ret | apply a_n | apply a_r | apply o_nil | (apply o_val rfl rfl; (focus ((try simp (disch := omega) only [simB0, ZA, reduceEqDiff, ↓reduceIte, reduceAdd, reduceLeDiff, ZV, reduceCtorEq, ME]); first | with_reducible rfl | (apply s_ite; (focus omega); with_reducible rfl)))) | (apply o_callD; (iterate 2 (focus ((try simp only [simB0, ZA, reduceEqDiff, ↓reduceIte, reduceAdd, reduceLeDiff, ME]); (try with_reducible rfl); done))); (focus (first | (exact hp) | (exact ho))); (focus ((first | refine snap_plain ?_ rfl | apply snap_data); repeat' (first | exact snapL_nil | apply snapL_i | apply snapL_dat | exact em | exact ep | exact encS_dat _)))) | (apply e_alloc rfl; (focus ((try simp only [simB0, ZA, reduceEqDiff, ↓reduceIte, reduceAdd, reduceLeDiff, ME]); (try with_reducible rfl); done)); (focus (simp only [SO, Bool.and_self, one_encV, one_encVV, ME]))) | (apply e_box rfl; (iterate 2 (focus ((try simp only [simB0, ZA, reduceEqDiff, ↓reduceIte, reduceAdd, reduceLeDiff, ME]); (try with_reducible rfl); done))); (focus (simp only [SO, Bool.and_self, one_encV, one_encVV, ME]))) | (apply e_st rfl; (iterate 4 (focus ((try simp only [simB0, ZA, reduceEqDiff, ↓reduceIte, reduceAdd, reduceLeDiff, ME]); (try with_reducible rfl); done))); (focus (simp only [SO, Bool.and_self, one_encV, one_encVV, ME])); (iterate 3 (focus ((try simp only [SL, reduceAdd, Nat.reduceMul, List.length_map]); first | done | omega)))) | (apply w_cond; (focus ((try simp only [simB0, ZA, reduceEqDiff, ↓reduceIte, reduceAdd, reduceLeDiff, ME]); (try with_reducible rfl); done)); all_goals (intro _hg; (try simp only [ZB] at _hg); try first | exact absurd trivial _hg | (exfalso; omega))) | (refine e_ends rfl ?_) | (apply r_2; (iterate 2 (focus (simp only [rv, simB0, ZA, reduceEqDiff, ↓reduceIte, reduceAdd, reduceLeDiff, ME]; with_reducible rfl)))))
    exact (Dat.tup (DatL.cons .int (DatL.cons .int DatL.nil))) _
  rw [if_pos hr]
  unfold openedB at ho
  rw [if_pos hr] at ho
  have h6 : 6 ≤ l.length := by
    unfold rightB at hr
    simp only [Bool.and_eq_true, decide_eq_true_eq] at hr
    exact hr.1
  have hLl : (l.take (l.length - 2)).length = l.length - 2 := by rw [List.length_take]; omega
  generalize hL : l.take (l.length - 2) = L at *
  have x1 : aslstr (encS L) (some (.int .i64 3)) none = some (encS (L.drop 3)) := aslstr_lo (k := 3) (by omega)
  have x2 : aslstr (encS L) none (some (.int .i64 3)) = some (encS (L.take 3)) := aslstr_hi (k := 3) (by omega)
  have e3 : (L.drop 3).length = l.length - 5 := by rw [List.length_drop]; omega
  have e4 : (L.take 3).length = 3 := by rw [List.length_take]; omega
  unfold readB
  generalize hR : L.drop 3 = R at *
  generalize hF : L.take 3 = F at *
  have hrs : Sh R := by show _ ≤ _; omega
  unfold encM MachV.cells at hp em hy
  unfold encP at hp hy ep
  repeat' (first | apply w_seq | apply w_ops0 | apply w_skip | apply a_n | apply o_nil | (apply o_val rfl rfl; (focus ((try simp (disch := omega) only [simB0, ZA, reduceEqDiff, ↓reduceIte, reduceAdd, reduceLeDiff, ZV, reduceCtorEq, ME, x1]); first | with_reducible rfl | (apply s_ite; (focus omega); with_reducible rfl)))) | (apply o_callD; (iterate 2 (focus ((try simp only [simB0, ZA, reduceEqDiff, ↓reduceIte, reduceAdd, reduceLeDiff, ME, x1]); (try with_reducible rfl); done))); (focus (first | (exact hp) | (exact ho))); (focus ((first | refine snap_plain ?_ rfl | apply snap_data); repeat' (first | exact snapL_nil | apply snapL_i | apply snapL_dat | exact em | exact ep | exact encS_dat _)))) | (apply e_alloc rfl; (focus ((try simp only [simB0, ZA, reduceEqDiff, ↓reduceIte, reduceAdd, reduceLeDiff, ME, x1]); (try with_reducible rfl); done)); (focus (simp only [SO, Bool.and_self, one_encV, one_encVV, ME, x1]))) | (apply e_box rfl; (iterate 2 (focus ((try simp only [simB0, ZA, reduceEqDiff, ↓reduceIte, reduceAdd, reduceLeDiff, ME, x1]); (try with_reducible rfl); done))); (focus (simp only [SO, Bool.and_self, one_encV, one_encVV, ME, x1]))) | (apply e_st rfl; (iterate 4 (focus ((try simp only [simB0, ZA, reduceEqDiff, ↓reduceIte, reduceAdd, reduceLeDiff, ME, x1]); (try with_reducible rfl); done))); (focus (simp only [SO, Bool.and_self, one_encV, one_encVV, ME, x1])); (iterate 3 (focus ((try simp only [SL, reduceAdd, Nat.reduceMul, List.length_map]); first | done | omega)))) | (apply w_cond; (focus ((try simp only [simB0, ZA, reduceEqDiff, ↓reduceIte, reduceAdd, reduceLeDiff, ME, x1]); (try with_reducible rfl); done)); all_goals (intro _hg; (try simp only [ZB] at _hg); try first | exact absurd trivial _hg | (exfalso; omega))))
  refine o_s2b (bs := ⟨R.toArray⟩) (by ((try simp only [simB0, ZA, reduceEqDiff, ↓reduceIte, reduceAdd, reduceLeDiff]); (try with_reducible rfl)); rfl) (fun h => absurd h (by rw [encS_size]; omega)) (fun _ => ?_)
  repeat' (first | apply a_n | apply o_nil | (apply o_val rfl rfl; (focus ((try simp (disch := omega) only [simB0, ZA, reduceEqDiff, ↓reduceIte, reduceAdd, reduceLeDiff, ZV, reduceCtorEq, encS_size, encS_data]); first | with_reducible rfl | (apply s_ite; (focus omega); with_reducible rfl)))) | (apply e_box rfl; (iterate 2 (focus ((try simp only [simB0, ZA, reduceEqDiff, ↓reduceIte, reduceAdd, reduceLeDiff, encS_size, encS_data]); (try with_reducible rfl); done))); (focus (simp only [SO, Bool.and_self, one_encV, one_encVV, encS_size, encS_data]))))
  refine w_seq ?_
  refine w_ops0F (only 2 (R.map encB)) _ [(1, .int .i64 r), (2, .int .i64 f), (3, .int .i64 t), (5, .ptr 0 8 0), (12, .ptr 1 3 0), (14, encS L), (16, .ptr 3 2 0)] (Fz.bytes (b := 2) (c := 3) (n := R.length) (len := R.length) (by ((try simp only [simB0, ZA, reduceEqDiff, ↓reduceIte, reduceAdd, reduceLeDiff]); (try with_reducible rfl))) (by ((try simp only [simB0, ZA, reduceEqDiff, ↓reduceIte, reduceAdd, reduceLeDiff]); (try with_reducible rfl))) (by omega) rfl rfl) ⟨.inl (by ((try simp only [simB0, ZA, reduceEqDiff, ↓reduceIte, reduceAdd, reduceLeDiff]); (try with_reducible rfl))), .inl (by ((try simp only [simB0, ZA, reduceEqDiff, ↓reduceIte, reduceAdd, reduceLeDiff]); (try with_reducible rfl))), .inl (by ((try simp only [simB0, ZA, reduceEqDiff, ↓reduceIte, reduceAdd, reduceLeDiff]); (try with_reducible rfl))), .inl (by ((try simp only [simB0, ZA, reduceEqDiff, ↓reduceIte, reduceAdd, reduceLeDiff]); (try with_reducible rfl))), .inl (by ((try simp only [simB0, ZA, reduceEqDiff, ↓reduceIte, reduceAdd, reduceLeDiff]); (try with_reducible rfl))), .inl (by ((try simp only [simB0, ZA, reduceEqDiff, ↓reduceIte, reduceAdd, reduceLeDiff]); (try with_reducible rfl))), .inl (by ((try simp only [simB0, ZA, reduceEqDiff, ↓reduceIte, reduceAdd, reduceLeDiff]); (try with_reducible rfl))), trivial⟩ ?_
  repeat' (first | (apply o_val rfl rfl; (focus ((try simp (disch := omega) only [simB0, ZA, reduceEqDiff, ↓reduceIte, reduceAdd, reduceLeDiff, ZV, reduceCtorEq]); first | with_reducible rfl | (apply s_ite; (focus omega); with_reducible rfl)))))
  refine o_callE (by ((try simp only [simB0, ZA, reduceEqDiff, ↓reduceIte, reduceAdd, reduceLeDiff]); (try with_reducible rfl))) (by ((try simp only [simB0, ZA, reduceEqDiff, ↓reduceIte, reduceAdd, reduceLeDiff]); (try with_reducible rfl))) (number_f 3 R false _ _ (by ((try simp only [simB0, ZA, reduceEqDiff, ↓reduceIte, reduceAdd, reduceLeDiff]); (try with_reducible rfl))) hrs) ?_
  rintro v H2 nx2 ⟨rfl, rfl, rfl⟩
  repeat' (first | apply a_n | apply o_nil | (apply o_val rfl rfl; (focus ((try simp (disch := omega) only [simB0, ZA, reduceEqDiff, ↓reduceIte, reduceAdd, reduceLeDiff, ZV, reduceCtorEq]); first | with_reducible rfl | (apply s_ite; (focus omega); with_reducible rfl)))))
  have hbd := nextR_bd R false
  generalize nextR R false = res at *
  obtain ⟨v, cs, bd⟩ := res
  dsimp only at hbd ⊢
  have w : ∀ n : Int, IntKind.wrap .u8 n = ((UInt8.ofNat (n % 256).toNat).toNat : Int) := fun n => by
    rw [wrapU8, UInt8.toNat_ofNat']
    have : (2 : Nat) ^ 8 = 256 := rfl
    omega
  have dt : ∀ a b : Int, Dat (AV.tup [.int .i64 a, .int .i64 b]) := fun a b => Dat.tup (DatL.cons .int (DatL.cons .int DatL.nil))
  cases bd with
  | true =>
    rw [if_pos (.inl rfl)]
    repeat' (first | apply w_seq | apply w_ops0 | apply w_block | apply w_ret | apply a_n | apply a_r | apply o_nil | (apply o_val rfl rfl; (focus ((try simp (disch := omega) only [simB0, ZA, reduceEqDiff, ↓reduceIte, reduceAdd, reduceLeDiff, ZV, reduceCtorEq, ME, NK]); first | with_reducible rfl | (apply s_ite; (focus omega); with_reducible rfl)))) | (apply o_gF; (focus (simp only [simB0, ZA, reduceEqDiff, ↓reduceIte, reduceAdd, reduceLeDiff, or_true, true_or, ME, NK]; done))) | (apply w_condT; (focus (simp only [simB0, ZA, reduceEqDiff, ↓reduceIte, reduceAdd, reduceLeDiff, ME, NK]; done))) | (refine e_ends rfl ?_) | (apply r_2; (iterate 2 (focus (simp only [rv, simB0, ZA, reduceEqDiff, ↓reduceIte, reduceAdd, reduceLeDiff, ME, NK]; with_reducible rfl)))))
    exact dt _ _ _
  | false =>
  by_cases hc : 0 < cs.length
  · rw [if_pos (.inr (.inl hc))]
    repeat' (first | apply w_seq | apply w_ops0 | apply w_block | apply w_ret | apply a_n | apply a_r | apply o_nil | (apply o_val rfl rfl; (focus ((try simp (disch := omega) only [simB0, ZA, reduceEqDiff, ↓reduceIte, reduceAdd, reduceLeDiff, ZV, reduceCtorEq, ME, NK, alenS_encBs, Bool.false_eq_true]); first | with_reducible rfl | (apply s_ite; (focus omega); with_reducible rfl)))) | (apply o_gT; (focus (simp only [simB0, ZA, reduceEqDiff, ↓reduceIte, reduceAdd, reduceLeDiff, ME, NK, alenS_encBs, Bool.false_eq_true]; done))) | (apply o_gF; (focus (simp only [simB0, ZA, reduceEqDiff, ↓reduceIte, reduceAdd, reduceLeDiff, or_true, true_or, ME, NK, alenS_encBs, Bool.false_eq_true]; done))) | (apply o_gB; (focus ((try simp only [simB0, ZA, reduceEqDiff, ↓reduceIte, reduceAdd, reduceLeDiff, ME, NK, alenS_encBs, Bool.false_eq_true]); (try with_reducible rfl); done)); all_goals (intro _hg; (try simp only [ZB] at _hg); try first | exact absurd trivial _hg | (exfalso; omega))) | (apply w_condT; (focus (simp only [simB0, ZA, reduceEqDiff, ↓reduceIte, reduceAdd, reduceLeDiff, ME, NK, alenS_encBs, Bool.false_eq_true]; done))) | (refine e_ends rfl ?_) | (apply r_2; (iterate 2 (focus (simp only [rv, simB0, ZA, reduceEqDiff, ↓reduceIte, reduceAdd, reduceLeDiff, ME, NK, alenS_encBs, Bool.false_eq_true]; with_reducible rfl)))))
    exact dt _ _ _
  by_cases hv : 1048576 < v
  · rw [if_pos (.inr (.inr hv))]
    repeat' (first | apply w_seq | apply w_ops0 | apply w_block | apply w_ret | apply a_n | apply a_r | apply o_nil | (apply o_val rfl rfl; (focus ((try simp (disch := omega) only [simB0, ZA, reduceEqDiff, ↓reduceIte, reduceAdd, reduceLeDiff, ZV, reduceCtorEq, ME, NK, alenS_encBs, Bool.false_eq_true]); first | with_reducible rfl | (apply s_ite; (focus omega); with_reducible rfl)))) | (apply o_gT; (focus (simp only [simB0, ZA, reduceEqDiff, ↓reduceIte, reduceAdd, reduceLeDiff, ME, NK, alenS_encBs, Bool.false_eq_true]; done))) | ((first | apply o_gB | apply w_cond); (focus ((try simp only [simB0, ZA, reduceEqDiff, ↓reduceIte, reduceAdd, reduceLeDiff, ME, NK, alenS_encBs, Bool.false_eq_true]); (try with_reducible rfl); done)); all_goals (intro _hg; (try simp only [ZB] at _hg); try first | exact absurd trivial _hg | (exfalso; omega))) | (refine e_ends rfl ?_) | (apply r_2; (iterate 2 (focus (simp only [rv, simB0, ZA, reduceEqDiff, ↓reduceIte, reduceAdd, reduceLeDiff, ME, NK, alenS_encBs, Bool.false_eq_true]; with_reducible rfl)))))
    exact dt _ _ _
  rw [if_neg (by rintro (h | h | h); exact absurd h (by decide); exact hc h; exact hv h)]
  repeat' (first | apply w_seq | apply w_ops0 | apply w_block | apply a_n | apply o_nil | (apply o_val rfl rfl; (focus ((try simp (disch := omega) only [simB0, ZA, reduceEqDiff, ↓reduceIte, reduceAdd, reduceLeDiff, ZV, reduceCtorEq, ME, NK, alenS_encBs, Bool.false_eq_true, x2, w r, w f, w t]); first | with_reducible rfl | (apply s_ite; (focus omega); with_reducible rfl)))) | (apply o_gT; (focus (simp only [simB0, ZA, reduceEqDiff, ↓reduceIte, reduceAdd, reduceLeDiff, ME, NK, alenS_encBs, Bool.false_eq_true, x2, w r, w f, w t]; done))) | ((first | apply o_gB | apply w_cond); (focus ((try simp only [simB0, ZA, reduceEqDiff, ↓reduceIte, reduceAdd, reduceLeDiff, ME, NK, alenS_encBs, Bool.false_eq_true, x2, w r, w f, w t]); (try with_reducible rfl); done)); all_goals (intro _hg; (try simp only [ZB] at _hg); try first | exact absurd trivial _hg | (exfalso; omega))))
  refine o_s2b (bs := ⟨F.toArray⟩) (by ((try simp only [simB0, ZA, reduceEqDiff, ↓reduceIte, reduceAdd, reduceLeDiff]); (try with_reducible rfl)); rfl) (fun h => absurd h (by rw [encS_size]; omega)) (fun _ => ?_)
  repeat' (first | (apply o_val rfl rfl; (focus ((try simp (disch := omega) only [simB0, ZA, reduceEqDiff, ↓reduceIte, reduceAdd, reduceLeDiff, ZV, reduceCtorEq, ME, NK, alenS_encBs, Bool.false_eq_true, x2, w r, w f, w t, encS_size, encS_data]); first | with_reducible rfl | (apply s_ite; (focus omega); with_reducible rfl)))) | (apply e_bld rfl; (focus (exact Nat.succ_ne_zero _)); (focus ((try simp only [simB0, ZA, reduceEqDiff, ↓reduceIte, reduceAdd, reduceLeDiff, ME, NK, alenS_encBs, Bool.false_eq_true, x2, w r, w f, w t, encS_size, encS_data]); (try with_reducible rfl); done)); (focus ((try simp only [simB0, ZA, reduceEqDiff, ↓reduceIte, reduceAdd, reduceLeDiff, SO, Bool.and_self, one_encV, one_encVV, ME, NK, alenS_encBs, Bool.false_eq_true, x2, w r, w f, w t, encS_size, encS_data]); (try with_reducible rfl); done))))
  refine o_callE (by ((try simp only [simB0, ZA, reduceEqDiff, ↓reduceIte, reduceAdd, reduceLeDiff]); (try with_reducible rfl))) (by ((try simp only [simB0, ZA, reduceEqDiff, ↓reduceIte, reduceAdd, reduceLeDiff]); (try with_reducible rfl)); rw [encS_size]) (equal_f 4 5 F.length 3 F (threeB r f t) _ _ (by ((try simp only [simB0, ZA, reduceEqDiff, ↓reduceIte, reduceAdd, reduceLeDiff]); (try with_reducible rfl))) (by ((try simp only [simB0, ZA, reduceEqDiff, ↓reduceIte, reduceAdd, reduceLeDiff]); (try with_reducible rfl)); rfl) rfl rfl) ?_
  rintro v2 H2 nx2 ⟨rfl, rfl, rfl⟩
  by_cases hF : F = threeB r f t
  rotate_left
  · rw [if_pos hF]
    repeat' (first | apply w_seq | apply w_ops0 | apply w_ret | apply a_n | apply a_r | apply o_nil | (apply o_val rfl rfl; (focus ((try simp (disch := omega) only [simB0, ZA, reduceEqDiff, ↓reduceIte, reduceAdd, reduceLeDiff, ZV, reduceCtorEq, hF, decide_false]); first | with_reducible rfl | (apply s_ite; (focus omega); with_reducible rfl)))) | (apply w_condT; (focus (simp only [simB0, ZA, reduceEqDiff, ↓reduceIte, reduceAdd, reduceLeDiff, hF, decide_false]; done))) | (refine e_ends rfl ?_) | (apply r_2; (iterate 2 (focus (simp only [rv, simB0, ZA, reduceEqDiff, ↓reduceIte, reduceAdd, reduceLeDiff, hF, decide_false]; with_reducible rfl)))))
    exact dt _ _ _
  rw [if_neg (by simpa using hF)]
  have hcn := contains_c _ v hsh
  by_cases hm : v ∈ symV m ⟨r, f, t⟩
  · rw [if_neg (by simpa using hm)]
    rw [decide_eq_true hm] at hcn
    repeat' (first | apply w_seq | apply w_ops0 | apply w_skip | apply w_ret | apply a_n | apply o_nil | (apply o_val rfl rfl; (focus ((try simp (disch := omega) only [simB0, ZA, reduceEqDiff, ↓reduceIte, reduceAdd, reduceLeDiff, ZV, reduceCtorEq, hF, decide_true, ME]); first | with_reducible rfl | (apply s_ite; (focus omega); with_reducible rfl)))) | (apply o_callD; (iterate 2 (focus ((try simp only [simB0, ZA, reduceEqDiff, ↓reduceIte, reduceAdd, reduceLeDiff, hF, decide_true, ME]); (try with_reducible rfl); done))); (focus (first | (exact hy) | (exact hcn))); (focus ((first | refine snap_plain ?_ rfl | apply snap_data); repeat' (first | exact snapL_nil | apply snapL_i | apply snapL_dat | exact em | exact ep)))) | (apply w_condF; (focus (simp only [simB0, ZA, reduceEqDiff, ↓reduceIte, reduceAdd, reduceLeDiff, hF, decide_true, ME]; done))) | (refine e_ends rfl ?_) | (apply r_2; (iterate 2 (focus (simp only [rv, simB0, ZA, reduceEqDiff, ↓reduceIte, reduceAdd, reduceLeDiff, hF, decide_true, ME]; with_reducible rfl)))))
    exact dt _ _ _
  · rw [if_pos hm]
    rw [decide_eq_false hm] at hcn
    repeat' (first | apply w_seq | apply w_ops0 | apply w_ret | apply a_n | apply a_r | apply o_nil | (apply o_val rfl rfl; (focus ((try simp (disch := omega) only [simB0, ZA, reduceEqDiff, ↓reduceIte, reduceAdd, reduceLeDiff, ZV, reduceCtorEq, hF, decide_true, ME]); first | with_reducible rfl | (apply s_ite; (focus omega); with_reducible rfl)))) | (apply o_callD; (iterate 2 (focus ((try simp only [simB0, ZA, reduceEqDiff, ↓reduceIte, reduceAdd, reduceLeDiff, hF, decide_true, ME]); (try with_reducible rfl); done))); (focus (first | (exact hy) | (exact hcn))); (focus ((first | refine snap_plain ?_ rfl | apply snap_data); repeat' (first | exact snapL_nil | apply snapL_i | apply snapL_dat | exact em | exact ep)))) | (apply w_condT; (focus (simp only [simB0, ZA, reduceEqDiff, ↓reduceIte, reduceAdd, reduceLeDiff, hF, decide_true, ME]; done))) | (apply w_condF; (focus (simp only [simB0, ZA, reduceEqDiff, ↓reduceIte, reduceAdd, reduceLeDiff, hF, decide_true, ME]; done))) | (refine e_ends rfl ?_) | (apply r_2; (iterate 2 (focus (simp only [rv, simB0, ZA, reduceEqDiff, ↓reduceIte, reduceAdd, reduceLeDiff, hF, decide_true, ME]; with_reducible rfl)))))
    exact dt _ _ _

end Go.Proofs.Ytpbjhjkfobapeaa

/- Q19: contracts of functions and plain laws; for all inputs that the theorems name. -/
namespace Go.Proofs.Ytpbjhjkfobapeaa
open Go Go.Abs
open Nat (reduceEqDiff reduceAdd reduceLeDiff)

theorem sameL_cons {k : IntKind} {a b : Int} {ks : List TK} {xs ys : List AV} {r : Bool} (h : sameL ks xs ys = some r) : sameL (.int :: ks) (.int k a :: xs) (.int k b :: ys) = some (decide (a = b) && r) := by
  simp only [sameL, same1, if_true]
  by_cases e : a = b
  · subst e; simp [h]
  · have : (a == b) = false := by simpa using e
    rw [this, decide_eq_false e]; rfl
theorem sameL_step (s t : StepV) : acmpS .neq [.int, .int, .int, .int, .int, .int, .int, .int] s.cells t.cells = some (.bool (!decide (s = t))) := by
  have h : sameL [.int, .int, .int, .int, .int, .int, .int, .int] s.cells t.cells = some (decide (s = t)) := by
    unfold StepV.cells
    rw [sameL_cons (sameL_cons (sameL_cons (sameL_cons (sameL_cons (sameL_cons (sameL_cons (sameL_cons (r := true) rfl)))))))]
    obtain ⟨a1, a2, a3, a4, a5, a6, a7, a8⟩ := s
    obtain ⟨b1, b2, b3, b4, b5, b6, b7, b8⟩ := t
    simp only [StepV.mk.injEq, Bool.decide_and, Bool.and_true]
  unfold acmpS
  rw [h]
attribute [local irreducible] awp2 aops2 ains aloop athen bbind obind gbind acond res1 Go.Abs.Fn PCall Go.Abs.Pure SnapArgs SnapL Yl

theorem equalS_c (l m : List StepV) (hl : Sh l) (hm : Sh m) : Pure Try.prog 64 [encSteps l, encSteps m] (.bool (decide (l = m))) := by
  refine Pure.of_c2 follows is64 (Nat.le_of_ble_eq_true rfl) ?_
  simp only [b64, O, G, N, M, D, F, B2, cFal, cTru]
  have hl' : l.length ≤ 9223372036854775807 := hl
  have hm' : m.length ≤ 9223372036854775807 := hm
  repeat' (first | apply w_seq | apply w_ops0 | apply w_block | apply w_skip | apply w_ret | apply a_n | apply a_r | apply o_nil | (apply o_val rfl rfl; (focus ((try simp (disch := omega) only [simB0, ZA, reduceEqDiff, ↓reduceIte, reduceAdd, reduceLeDiff, ZV, reduceCtorEq, ME]); first | with_reducible rfl | (apply s_ite; (focus omega); with_reducible rfl)))) | (apply w_cond; (focus ((try simp only [simB0, ZA, reduceEqDiff, ↓reduceIte, reduceAdd, reduceLeDiff, ME]); (try with_reducible rfl); done)); all_goals (intro _hg; (try simp only [ZB] at _hg); try first | exact absurd trivial _hg | (exfalso; omega))) | (refine e_ends rfl ?_) | (apply r_1; (focus (simp only [rv, simB0, ZA, reduceEqDiff, ↓reduceIte, reduceAdd, reduceLeDiff, ME]; with_reducible rfl))) | apply w_loop)
  · refine snap_bool ?_
    symm; rw [decide_eq_false_iff_not]; rintro rfl; omega
  refine loop0 (X := Nat) (fun k => [(0, encSteps l), (1, encSteps m), (12, .int .i64 l.length), (13, .int .i64 k)]) (fun k => k ≤ l.length ∧ ∀ i, i < k → l.getD i default = m.getD i default) (fun k => l.length - k) 0 ⟨Nat.zero_le _, by simp⟩ (by simp (disch := omega) only [agr, ZG, reduceEqDiff, ↓reduceIte]) ?_
  rintro k ⟨h1, h2⟩
  have hcmp := sameL_step (l.getD k default) (m.getD k default)
  by_cases he : l.getD k default = m.getD k default
  · rw [decide_eq_true he] at hcmp
    unfold StepV.cells at hcmp
    repeat' (first | apply w_seq | apply w_ops0 | apply w_ops1 | apply w_block | apply w_skip | apply w_exit | apply w_ret | apply a_n | apply a_x | apply o_nil | (apply o_val rfl rfl; (focus ((try simp (disch := omega) only [simB0, ZA, reduceEqDiff, ↓reduceIte, reduceAdd, reduceLeDiff, ZV, reduceCtorEq, ME, acells, hcmp]); first | with_reducible rfl | (apply s_ite; (focus omega); with_reducible rfl)))) | (apply w_condF; (focus (simp only [simB0, ZA, reduceEqDiff, ↓reduceIte, reduceAdd, reduceLeDiff, ME, acells, hcmp]; done))) | (apply w_cond; (focus ((try simp only [simB0, ZA, reduceEqDiff, ↓reduceIte, reduceAdd, reduceLeDiff, ME, acells, hcmp]); (try with_reducible rfl); done)); all_goals (intro _hg; (try simp only [ZB] at _hg); try first | exact absurd trivial _hg | (exfalso; omega))) | (refine e_ends rfl ?_) | (apply r_1; (focus (simp only [rv, simB0, ZA, reduceEqDiff, ↓reduceIte, reduceAdd, reduceLeDiff, ME, acells, hcmp]; with_reducible rfl))))
    · refine ⟨k + 1, ⟨by omega, fun i hi => ?_⟩, by omega, by simp (disch := omega) only [agr, ZG, reduceEqDiff, ↓reduceIte], rfl, rfl⟩
      rcases Nat.lt_succ_iff_lt_or_eq.1 hi with h | rfl
      · exact h2 i h
      · exact he
    · refine snap_bool ?_
      symm; rw [decide_eq_true_iff]
      refine List.ext_getElem (by omega) (fun i h3 h4 => ?_)
      have := h2 i (by omega)
      simpa [List.getD, h3, h4] using this
  · rw [decide_eq_false he] at hcmp
    unfold StepV.cells at hcmp
    repeat' (first | apply w_seq | apply w_ops0 | apply w_ops1 | apply w_block | apply w_skip | apply w_exit | apply w_ret | apply a_n | apply a_x | apply a_r | apply o_nil | (apply o_val rfl rfl; (focus ((try simp (disch := omega) only [simB0, ZA, reduceEqDiff, ↓reduceIte, reduceAdd, reduceLeDiff, ZV, reduceCtorEq, ME, acells, hcmp]); first | with_reducible rfl | (apply s_ite; (focus omega); with_reducible rfl)))) | (apply w_condT; (focus (simp only [simB0, ZA, reduceEqDiff, ↓reduceIte, reduceAdd, reduceLeDiff, ME, acells, hcmp]; done))) | (apply w_cond; (focus ((try simp only [simB0, ZA, reduceEqDiff, ↓reduceIte, reduceAdd, reduceLeDiff, ME, acells, hcmp]); (try with_reducible rfl); done)); all_goals (intro _hg; (try simp only [ZB] at _hg); try first | exact absurd trivial _hg | (exfalso; omega))) | (refine e_ends rfl ?_) | (apply r_1; (focus (simp only [rv, simB0, ZA, reduceEqDiff, ↓reduceIte, reduceAdd, reduceLeDiff, ME, acells, hcmp]; with_reducible rfl))))
    · refine snap_bool ?_
      symm; rw [decide_eq_false_iff_not]; rintro rfl; exact he rfl
    · refine snap_bool ?_
      symm; rw [decide_eq_true_iff]
      refine List.ext_getElem (by omega) (fun i h3 h4 => ?_)
      have := h2 i (by omega)
      simpa [List.getD, h3, h4] using this

theorem eqfunc_c {α : Type} [DecidableEq α] [Inhabited α] (e : α → AV) (n g : Nat) (hn : Is Try.prog n b99) (hc : ∀ x, (e x).cells = [e x]) (ho : ∀ x, (e x).one = true) (hd : ∀ x, Dat (e x)) (l m : List α) (hl : Sh l) (hm : Sh m)
    (hg : ∀ a ∈ l, ∀ b ∈ m, Pure Try.prog g [e a, e b] (.bool (decide (a = b)))) : Pure Try.prog n [encL 1 e l, encL 1 e m, .func g []] (.bool (decide (l = m))) := by
  refine Pure.of_c2 follows hn (Nat.le_of_ble_eq_true rfl) ?_
  simp only [b99, O, G, N, M, D, F, B2, cFal, cTru]
  have hl' : l.length ≤ 9223372036854775807 := hl
  have hm' : m.length ≤ 9223372036854775807 := hm
  have x1 : ∀ (k : IntKind) (n : Int), aixS 1 (encL 1 e l) (.int k n) = if 0 ≤ n ∧ n < l.length then some (.iptr [e (l.getD n.toNat default)] 0) else none := fun k n => by rw [aixS_encL, hc]
  have x2 : ∀ (k : IntKind) (n : Int), aixS 1 (encL 1 e m) (.int k n) = if 0 ≤ n ∧ n < m.length then some (.iptr [e (m.getD n.toNat default)] 0) else none := fun k n => by rw [aixS_encL, hc]
  have x3 : alenS (encL 1 e l) = some (.int .i64 l.length) := alenS_encL
  have x4 : alenS (encL 1 e m) = some (.int .i64 m.length) := alenS_encL
  repeat' (first | apply w_seq | apply w_ops0 | apply w_block | apply w_skip | apply w_ret | apply a_n | apply a_r | apply o_nil | (apply o_val rfl rfl; (focus ((try simp (disch := omega) only [simB0, ZA, reduceEqDiff, ↓reduceIte, reduceAdd, reduceLeDiff, ZV, reduceCtorEq, x3, x4]); first | with_reducible rfl | (apply s_ite; (focus omega); with_reducible rfl)))) | (apply w_cond; (focus ((try simp only [simB0, ZA, reduceEqDiff, ↓reduceIte, reduceAdd, reduceLeDiff, x3, x4]); (try with_reducible rfl); done)); all_goals (intro _hg; (try simp only [ZB] at _hg); try first | exact absurd trivial _hg | (exfalso; omega))) | (refine e_ends rfl ?_) | (apply r_1; (focus (simp only [rv, simB0, ZA, reduceEqDiff, ↓reduceIte, reduceAdd, reduceLeDiff, x3, x4]; with_reducible rfl))) | apply w_loop)
  · refine snap_bool ?_
    symm; rw [decide_eq_false_iff_not]; rintro rfl; omega
  rename_i hlen
  refine loop0 (X := Nat) (fun k => [(0, encL 1 e l), (1, encL 1 e m), (2, .func g []), (15, encL 1 e l), (16, .int .i64 l.length), (17, .int .i64 k)]) (fun k => k ≤ l.length ∧ ∀ i, i < k → l.getD i default = m.getD i default) (fun k => l.length - k) 0 ⟨Nat.zero_le _, by simp⟩ (by simp (disch := omega) only [agr, ZG, reduceEqDiff, ↓reduceIte]) ?_
  rintro k ⟨h1, h2⟩
  by_cases hk : k < l.length
  rotate_left
  · repeat' (first | apply w_seq | apply w_ops0 | apply w_exit | apply w_ret | apply a_n | apply a_x | apply o_nil | (apply o_val rfl rfl; (focus ((try simp (disch := omega) only [simB0, ZA, reduceEqDiff, ↓reduceIte, reduceAdd, reduceLeDiff, ZV, reduceCtorEq, x1, x2, x3, x4]); first | with_reducible rfl | (apply s_ite; (focus omega); with_reducible rfl)))) | (apply w_cond; (focus ((try simp only [simB0, ZA, reduceEqDiff, ↓reduceIte, reduceAdd, reduceLeDiff, x1, x2, x3, x4]); (try with_reducible rfl); done)); all_goals (intro _hg; (try simp only [ZB] at _hg); try first | exact absurd trivial _hg | (exfalso; omega))) | (refine e_ends rfl ?_) | (apply r_1; (focus (simp only [rv, simB0, ZA, reduceEqDiff, ↓reduceIte, reduceAdd, reduceLeDiff, x1, x2, x3, x4]; with_reducible rfl))))
    refine snap_bool ?_
    symm; rw [decide_eq_true_iff]
    refine List.ext_getElem (by omega) (fun i h3 h4 => ?_)
    have := h2 i (by omega)
    simpa [List.getD, h3, h4] using this
  have hcall := hg _ (mem_getD hk) _ (mem_getD (l := m) (k := k) (by omega))
  by_cases he : l.getD k default = m.getD k default
  · rw [decide_eq_true he] at hcall
    repeat' (first | apply w_seq | apply w_ops0 | apply w_block | apply w_skip | apply a_n | apply o_nil | (apply o_val rfl rfl; (focus ((try simp (disch := omega) only [simB0, ZA, reduceEqDiff, ↓reduceIte, reduceAdd, reduceLeDiff, ZV, reduceCtorEq, x1, x2, x3, x4]); first | with_reducible rfl | (apply s_ite; (focus omega); with_reducible rfl)))) | (apply o_callD; (iterate 2 (focus ((try simp only [simB0, ZA, reduceEqDiff, ↓reduceIte, reduceAdd, reduceLeDiff, x1, x2, x3, x4]); (try with_reducible rfl); done))); (focus (first | (exact hcall))); (focus ((first | refine snap_plain ?_ rfl | apply snap_data); repeat' (first | exact snapL_nil | apply snapL_i | apply snapL_dat | exact hd _)))) | (apply w_condF; (focus (simp only [simB0, ZA, reduceEqDiff, ↓reduceIte, reduceAdd, reduceLeDiff, x1, x2, x3, x4]; done))) | (apply w_cond; (focus ((try simp only [simB0, ZA, reduceEqDiff, ↓reduceIte, reduceAdd, reduceLeDiff, x1, x2, x3, x4]); (try with_reducible rfl); done)); all_goals (intro _hg; (try simp only [ZB] at _hg); try first | exact absurd trivial _hg | (exfalso; omega))))
    refine ⟨k + 1, ⟨by omega, fun i hi => ?_⟩, by omega, by simp (disch := omega) only [agr, ZG, reduceEqDiff, ↓reduceIte], rfl, rfl⟩
    rcases Nat.lt_succ_iff_lt_or_eq.1 hi with h | rfl
    · exact h2 i h
    · exact he
  · rw [decide_eq_false he] at hcall
    repeat' (first | apply w_seq | apply w_ops0 | apply w_block | apply w_skip | apply w_ret | apply a_n | apply a_r | apply o_nil | (apply o_val rfl rfl; (focus ((try simp (disch := omega) only [simB0, ZA, reduceEqDiff, ↓reduceIte, reduceAdd, reduceLeDiff, ZV, reduceCtorEq, x1, x2, x3, x4]); first | with_reducible rfl | (apply s_ite; (focus omega); with_reducible rfl)))) | (apply o_callD; (iterate 2 (focus ((try simp only [simB0, ZA, reduceEqDiff, ↓reduceIte, reduceAdd, reduceLeDiff, x1, x2, x3, x4]); (try with_reducible rfl); done))); (focus (first | (exact hcall))); (focus ((first | refine snap_plain ?_ rfl | apply snap_data); repeat' (first | exact snapL_nil | apply snapL_i | apply snapL_dat | exact hd _)))) | (apply w_condT; (focus (simp only [simB0, ZA, reduceEqDiff, ↓reduceIte, reduceAdd, reduceLeDiff, x1, x2, x3, x4]; done))) | (apply w_cond; (focus ((try simp only [simB0, ZA, reduceEqDiff, ↓reduceIte, reduceAdd, reduceLeDiff, x1, x2, x3, x4]); (try with_reducible rfl); done)); all_goals (intro _hg; (try simp only [ZB] at _hg); try first | exact absurd trivial _hg | (exfalso; omega))) | (refine e_ends rfl ?_) | (apply r_1; (focus (simp only [rv, simB0, ZA, reduceEqDiff, ↓reduceIte, reduceAdd, reduceLeDiff, x1, x2, x3, x4]; with_reducible rfl))))
    refine snap_bool ?_
    symm; rw [decide_eq_false_iff_not]; rintro rfl; exact he rfl

end Go.Proofs.Ytpbjhjkfobapeaa

/- Q20: contracts of functions and plain laws; for all inputs that the theorems name. -/
namespace Go.Proofs.Ytpbjhjkfobapeaa
open Go Go.Abs
open Nat (reduceEqDiff reduceAdd reduceLeDiff)

def Sh2 (l : List (List Int)) : Prop := Sh l ∧ ∀ x ∈ l, Sh x
def Sh3 (l : List (List (List Int))) : Prop := Sh l ∧ ∀ x ∈ l, Sh2 x
def Sh4 (l : List (List (List (List Int)))) : Prop := Sh l ∧ ∀ x ∈ l, Sh3 x
attribute [local irreducible] awp2 aops2 ains aloop athen bbind obind gbind acond res1 Go.Abs.Fn PCall Go.Abs.Pure SnapArgs SnapL Yl

theorem row99_c (l m : List (List Int)) (hl : Sh2 l) (hm : Sh2 m) : Pure Try.prog 99 [encVV l, encVV m, .func 89 []] (.bool (decide (l = m))) :=
  eqfunc_c encV 99 89 is99 (fun _ => rfl) (fun _ => rfl) encV_dat l m hl.1 hm.1 (fun a ha b hb => equalV_c a b (hl.2 a ha) (hm.2 b hb))
theorem row88_c (l m : List (List Int)) (hl : Sh2 l) (hm : Sh2 m) : Pure Try.prog 88 [encVV l, encVV m, .func 89 []] (.bool (decide (l = m))) := by
  refine Pure.of_c2 follows is88 (Nat.le_of_ble_eq_true rfl) ?_
  simp only [b88, O, G, N, M, D, F, B2, cFal, cTru]
  repeat' (first | apply w_seq | apply w_ops0 | apply w_ret | apply a_n | apply o_nil | (apply o_val rfl rfl; (focus ((try simp (disch := omega) only [simB0, ZA, reduceEqDiff, ↓reduceIte, reduceAdd, reduceLeDiff, ZV, reduceCtorEq]); first | with_reducible rfl | (apply s_ite; (focus omega); with_reducible rfl)))) | (apply o_callD; (iterate 2 (focus ((try simp only [simB0, ZA, reduceEqDiff, ↓reduceIte, reduceAdd, reduceLeDiff]); (try with_reducible rfl); done))); (focus (first | (exact row99_c l m hl hm))); (focus ((first | refine snap_plain ?_ rfl | apply snap_data); repeat' (first | exact snapL_nil | apply snapL_i | apply snapL_dat | exact encVV_dat _ | exact Dat.func (by simp))))) | (refine e_ends rfl ?_) | (apply r_1; (focus (simp only [rv, simB0, ZA, reduceEqDiff, ↓reduceIte, reduceAdd, reduceLeDiff]; with_reducible rfl))))
  exact snap_bool rfl
theorem row_c (l m : List (List Int)) (hl : Sh2 l) (hm : Sh2 m) : Pure Try.prog 61 [encVV l, encVV m] (.bool (decide (l = m))) := by
  refine Pure.of_c2 follows is61 (Nat.le_of_ble_eq_true rfl) ?_
  simp only [b61, O, G, N, M, D, F, B2, cFal, cTru]
  repeat' (first | apply w_seq | apply w_ops0 | apply w_ret | apply a_n | apply o_nil | (apply o_val rfl rfl; (focus ((try simp (disch := omega) only [simB0, ZA, reduceEqDiff, ↓reduceIte, reduceAdd, reduceLeDiff, ZV, reduceCtorEq]); first | with_reducible rfl | (apply s_ite; (focus omega); with_reducible rfl)))) | (apply o_callD; (iterate 2 (focus ((try simp only [simB0, ZA, reduceEqDiff, ↓reduceIte, reduceAdd, reduceLeDiff]); (try with_reducible rfl); done))); (focus (first | (exact row88_c l m hl hm))); (focus ((first | refine snap_plain ?_ rfl | apply snap_data); repeat' (first | exact snapL_nil | apply snapL_i | apply snapL_dat | exact encVV_dat _ | exact Dat.func (by simp))))) | (refine e_ends rfl ?_) | (apply r_1; (focus (simp only [rv, simB0, ZA, reduceEqDiff, ↓reduceIte, reduceAdd, reduceLeDiff]; with_reducible rfl))))
  exact snap_bool rfl
theorem table100_c (l m : List (List (List Int))) (hl : Sh3 l) (hm : Sh3 m) : Pure Try.prog 100 [encV3 l, encV3 m, .func 61 []] (.bool (decide (l = m))) :=
  eqfunc_c encVV 100 61 is100 (fun _ => rfl) (fun _ => rfl) encVV_dat l m hl.1 hm.1 (fun a ha b hb => row_c a b (hl.2 a ha) (hm.2 b hb))
theorem table90_c (l m : List (List (List Int))) (hl : Sh3 l) (hm : Sh3 m) : Pure Try.prog 90 [encV3 l, encV3 m, .func 61 []] (.bool (decide (l = m))) := by
  refine Pure.of_c2 follows is90 (Nat.le_of_ble_eq_true rfl) ?_
  simp only [b90, O, G, N, M, D, F, B2, cFal, cTru]
  repeat' (first | apply w_seq | apply w_ops0 | apply w_ret | apply a_n | apply o_nil | (apply o_val rfl rfl; (focus ((try simp (disch := omega) only [simB0, ZA, reduceEqDiff, ↓reduceIte, reduceAdd, reduceLeDiff, ZV, reduceCtorEq, ME]); first | with_reducible rfl | (apply s_ite; (focus omega); with_reducible rfl)))) | (apply o_callD; (iterate 2 (focus ((try simp only [simB0, ZA, reduceEqDiff, ↓reduceIte, reduceAdd, reduceLeDiff, ME]); (try with_reducible rfl); done))); (focus (first | (exact table100_c l m hl hm))); (focus ((first | refine snap_plain ?_ rfl | apply snap_data); repeat' (first | exact snapL_nil | apply snapL_i | apply snapL_dat | exact encV3_dat _ | exact Dat.func (by simp))))) | (refine e_ends rfl ?_) | (apply r_1; (focus (simp only [rv, simB0, ZA, reduceEqDiff, ↓reduceIte, reduceAdd, reduceLeDiff, ME]; with_reducible rfl))))
  exact snap_bool rfl
theorem table_c (l m : List (List (List Int))) (hl : Sh3 l) (hm : Sh3 m) : Pure Try.prog 62 [encV3 l, encV3 m] (.bool (decide (l = m))) := by
  refine Pure.of_c2 follows is62 (Nat.le_of_ble_eq_true rfl) ?_
  simp only [b62, O, G, N, M, D, F, B2, cFal, cTru]
  repeat' (first | apply w_seq | apply w_ops0 | apply w_ret | apply a_n | apply o_nil | (apply o_val rfl rfl; (focus ((try simp (disch := omega) only [simB0, ZA, reduceEqDiff, ↓reduceIte, reduceAdd, reduceLeDiff, ZV, reduceCtorEq, ME]); first | with_reducible rfl | (apply s_ite; (focus omega); with_reducible rfl)))) | (apply o_callD; (iterate 2 (focus ((try simp only [simB0, ZA, reduceEqDiff, ↓reduceIte, reduceAdd, reduceLeDiff, ME]); (try with_reducible rfl); done))); (focus (first | (exact table90_c l m hl hm))); (focus ((first | refine snap_plain ?_ rfl | apply snap_data); repeat' (first | exact snapL_nil | apply snapL_i | apply snapL_dat | exact encV3_dat _ | exact Dat.func (by simp))))) | (refine e_ends rfl ?_) | (apply r_1; (focus (simp only [rv, simB0, ZA, reduceEqDiff, ↓reduceIte, reduceAdd, reduceLeDiff, ME]; with_reducible rfl))))
  exact snap_bool rfl
theorem syms91_c (l m : List (List (List (List Int)))) (hl : Sh4 l) (hm : Sh4 m) : Pure Try.prog 91 [encV4 l, encV4 m, .func 62 []] (.bool (decide (l = m))) :=
  eqfunc_c encV3 91 62 is91 (fun _ => rfl) (fun _ => rfl) encV3_dat l m hl.1 hm.1 (fun a ha b hb => table_c a b (hl.2 a ha) (hm.2 b hb))
theorem syms_c (l m : List (List (List (List Int)))) (hl : Sh4 l) (hm : Sh4 m) : Pure Try.prog 63 [encV4 l, encV4 m, .func 62 []] (.bool (decide (l = m))) := by
  refine Pure.of_c2 follows is63 (Nat.le_of_ble_eq_true rfl) ?_
  simp only [b63, O, G, N, M, D, F, B2, cFal, cTru]
  repeat' (first | apply w_seq | apply w_ops0 | apply w_ret | apply a_n | apply o_nil | (apply o_val rfl rfl; (focus ((try simp (disch := omega) only [simB0, ZA, reduceEqDiff, ↓reduceIte, reduceAdd, reduceLeDiff, ZV, reduceCtorEq, ME]); first | with_reducible rfl | (apply s_ite; (focus omega); with_reducible rfl)))) | (apply o_callD; (iterate 2 (focus ((try simp only [simB0, ZA, reduceEqDiff, ↓reduceIte, reduceAdd, reduceLeDiff, ME]); (try with_reducible rfl); done))); (focus (first | (exact syms91_c l m hl hm))); (focus ((first | refine snap_plain ?_ rfl | apply snap_data); repeat' (first | exact snapL_nil | apply snapL_i | apply snapL_dat | exact encV4_dat _ | exact Dat.func (by simp))))) | (refine e_ends rfl ?_) | (apply r_1; (focus (simp only [rv, simB0, ZA, reduceEqDiff, ↓reduceIte, reduceAdd, reduceLeDiff, ME]; with_reducible rfl))))
  exact snap_bool rfl

theorem ShM.first' {m : MachV} (h : ShM m) : Sh2 m.first := ⟨h.first, h.first1⟩
theorem ShM.out' {m : MachV} (h : ShM m) : Sh3 m.out := ⟨h.out, fun l hl => ⟨h.out1 l hl, h.out2 l hl⟩⟩
theorem ShM.symbols' {m : MachV} (h : ShM m) : Sh4 m.symbols := ⟨h.symbols, fun l hl => ⟨h.symbols1 l hl, fun x hx => ⟨h.symbols2 l hl x hx, h.symbols3 l hl x hx⟩⟩⟩

theorem same_c (a b : MachV) (ha : ShM a) (hb : ShM b) : Pure Try.prog 27 [encM a, encM b] (.bool (decide (a = b))) := by
  refine Pure.of_c2 follows is27 (Nat.le_of_ble_eq_true rfl) ?_
  simp only [b27, O, G, N, M, D, F, B2, cFal, cTru]
  have c1 := row_c _ _ ha.first' hb.first'
  have c2 := table_c _ _ ha.out' hb.out'
  have c3 := syms_c _ _ ha.symbols' hb.symbols'
  have c4 := equalS_c _ _ ha.steps hb.steps
  have hab : decide (a = b) = (decide (a.n = b.n) && (decide (a.rounds = b.rounds) && (decide (a.ins = b.ins) && (decide (a.outs = b.outs) && (decide (a.first = b.first) && (decide (a.out = b.out) && (decide (a.symbols = b.symbols) && decide (a.steps = b.steps)))))))) := by
    obtain ⟨a1, a2, a3, a4, a5, a6, a7, a8⟩ := a
    obtain ⟨b1, b2, b3, b4, b5, b6, b7, b8⟩ := b
    simp only [MachV.mk.injEq, Bool.decide_and]
    cases decide (a1 = b1) <;> cases decide (a2 = b2) <;> cases decide (a3 = b3) <;> cases decide (a4 = b4) <;> cases decide (a5 = b5) <;> cases decide (a6 = b6) <;> cases decide (a7 = b7) <;> cases decide (a8 = b8) <;> rfl
  rw [hab]
  repeat' (first | apply w_seq | apply w_ops0 | apply w_ret | apply a_n | apply o_nil | (apply o_val rfl rfl; (focus ((try simp (disch := omega) only [simB0, ZA, reduceEqDiff, ↓reduceIte, reduceAdd, reduceLeDiff, ZV, reduceCtorEq, ME, acells]); first | with_reducible rfl | (apply s_ite; (focus omega); with_reducible rfl)))) | (apply o_callD; (iterate 2 (focus ((try simp only [simB0, ZA, reduceEqDiff, ↓reduceIte, reduceAdd, reduceLeDiff, ME, acells]); (try with_reducible rfl); done))); (focus (first | (exact c1) | (exact c2) | (exact c3) | (exact c4))); (focus ((first | refine snap_plain ?_ rfl | apply snap_data); repeat' (first | exact snapL_nil | apply snapL_i | apply snapL_dat | exact encVV_dat _ | exact encV3_dat _ | exact encV4_dat _ | exact encSteps_dat _ | exact Dat.func (by simp))))) | (apply e_box rfl; (iterate 2 (focus ((try simp only [simB0, ZA, reduceEqDiff, ↓reduceIte, reduceAdd, reduceLeDiff, ME, acells]); (try with_reducible rfl); done))); (focus (simp only [SO, Bool.and_self, one_encV, one_encVV, ME, acells]))) | (apply o_gT; (focus (simp only [simB0, ZA, reduceEqDiff, ↓reduceIte, reduceAdd, reduceLeDiff, ME, acells]; done))) | (apply o_gF; (focus (simp only [simB0, ZA, reduceEqDiff, ↓reduceIte, reduceAdd, reduceLeDiff, or_true, true_or, ME, acells]; done))) | (apply o_gB; (focus ((try simp only [simB0, ZA, reduceEqDiff, ↓reduceIte, reduceAdd, reduceLeDiff, ME, acells]); (try with_reducible rfl); done)); all_goals (intro _hg; (try simp only [ZB] at _hg); try first | exact absurd trivial _hg | (exfalso; omega))) | (refine e_ends rfl ?_) | (apply r_1; (focus (simp only [rv, simB0, ZA, reduceEqDiff, ↓reduceIte, reduceAdd, reduceLeDiff, ME, acells]; with_reducible rfl))))
  all_goals
    refine snap_bool ?_
    clear hab c1 c2 c3 c4 ha hb
    simp_all

end Go.Proofs.Ytpbjhjkfobapeaa

/- Q21: contracts of functions and plain laws; for all inputs that the theorems name. -/
namespace Go.Proofs.Ytpbjhjkfobapeaa
open Go Go.Abs
open Nat (reduceEqDiff reduceAdd reduceLeDiff)

def exM : MachV := { n := 2, rounds := 1, ins := 2, outs := 2, first := [[0, -1], [0, 1]], symbols := [[[[], [0]], [[0, 0], []]]], steps := [⟨0, 0, 0, -1, -1, -1, -1, 0⟩, ⟨0, 0, 0, 0, -1, -1, -1, 0⟩, ⟨0, 1, 0, 0, -1, -1, -1, 0⟩, ⟨0, 1, 0, 1, -1, -1, -1, 1⟩], out := [[[-1], [-1, -1]], [[-1], [-1, 1]]] }
theorem snap_rowL {H : Hp} {b n len : Nat} {cs l : List AV} (hb : H b = some cs) (hn : cs.length = n) (hl : len = n) (h : SnapL H cs l) (hc : ∀ y ∈ l, y.cells = [y]) : Snap H (.msl b n 1 0 len) (.sl 1 l) :=
  snap_msl hb hn (by omega) (by have := h.1; omega) hc (fun i a c ha hc' => h.2 i a c (by rwa [Nat.zero_add] at ha) hc')
theorem snap_rowN {H : Hp} {b n len sz : Nat} {cs l : List AV} (hb : H b = some cs) (hn : cs.length = n) (hl : len * sz = n) (hll : l.length = len) (h : cs = l.flatMap AV.cells) (hc : ∀ y ∈ l, y.cells.length = sz) (hz : 0 < sz) (hd : ∀ y ∈ l, ∀ c ∈ y.cells, Dat c) : Snap H (.msl b n sz 0 len) (.sl sz l) := by
  subst h
  subst hl
  exact Row.snap (Row.box b len _ hb hn) hc hz hd
theorem ex_sh : ShM exM := by
  constructor <;> simp [exM, Sh]
attribute [local irreducible] awp2 aops2 ains aloop athen bbind obind gbind acond res1 Go.Abs.Fn PCall Go.Abs.Pure SnapArgs SnapL Yl

theorem heard_c (a b : Int) : Pure Try.prog 65 [.int .i64 a, .int .i64 b] (.agg [.int .i64 a, .int .i64 b, .int .i64 (-1), .int .i64 (-1), .int .i64 (-1)]) := by
  refine Pure.of_c2 follows is65 (Nat.le_of_ble_eq_true rfl) ?_
  simp only [b65, O, G, N, M, D, F, B2, cFal, cTru]
  repeat' (first | apply w_seq | apply w_ops0 | apply w_ret | apply a_n | apply o_nil | (apply o_val rfl rfl; (focus ((try simp (disch := omega) only [simB0, ZA, reduceEqDiff, ↓reduceIte, reduceAdd, reduceLeDiff, ZV, reduceCtorEq]); first | with_reducible rfl | (apply s_ite; (focus omega); with_reducible rfl)))) | (apply e_alloc rfl; (focus ((try simp only [simB0, ZA, reduceEqDiff, ↓reduceIte, reduceAdd, reduceLeDiff]); (try with_reducible rfl); done)); (focus (simp only [SO, Bool.and_self, one_encV, one_encVV]))) | (apply e_st rfl; (iterate 4 (focus ((try simp only [simB0, ZA, reduceEqDiff, ↓reduceIte, reduceAdd, reduceLeDiff]); (try with_reducible rfl); done))); (focus (simp only [SO, Bool.and_self, one_encV, one_encVV])); (iterate 3 (focus ((try simp only [SL, reduceAdd, Nat.reduceMul, List.length_map]); first | done | omega)))) | (refine e_ends rfl ?_) | (apply r_1; (focus (simp only [rv, simB0, ZA, reduceEqDiff, ↓reduceIte, reduceAdd, reduceLeDiff]; with_reducible rfl))))
  exact Dat.agg (DatL.cons .int (DatL.cons .int (DatL.cons .int (DatL.cons .int (DatL.cons .int DatL.nil))))) _

theorem example_c : Pure Try.prog 29 [] (encM exM) := by
  refine Pure.of_c2 follows is29 (Nat.le_of_ble_eq_true rfl) ?_
  simp only [b29, O, G, N, M, D, F, B2, cFal, cTru]
  repeat' (first | apply w_seq | apply w_ops0 | apply w_ret | apply a_n | apply o_nil | (apply o_val rfl rfl; (focus ((try simp (disch := omega) only [simB0, ZA, reduceEqDiff, ↓reduceIte, reduceAdd, reduceLeDiff, ZV, reduceCtorEq, acells]); first | with_reducible rfl | (apply s_ite; (focus omega); with_reducible rfl)))) | (apply o_callD; (iterate 2 (focus ((try simp only [simB0, ZA, reduceEqDiff, ↓reduceIte, reduceAdd, reduceLeDiff, acells]); (try with_reducible rfl); done))); (focus (first | (exact heard_c _ _))); (focus ((first | refine snap_plain ?_ rfl | apply snap_data); repeat' (first | exact snapL_nil | apply snapL_i | apply snapL_dat)))) | (apply e_alloc rfl; (focus ((try simp only [simB0, ZA, reduceEqDiff, ↓reduceIte, reduceAdd, reduceLeDiff, acells]); (try with_reducible rfl); done)); (focus (simp only [SO, Bool.and_self, one_encV, one_encVV, acells]))) | (apply e_st rfl; (iterate 4 (focus ((try simp only [simB0, ZA, reduceEqDiff, ↓reduceIte, reduceAdd, reduceLeDiff, acells]); (try with_reducible rfl); done))); (focus (simp only [SO, Bool.and_self, one_encV, one_encVV, acells])); (iterate 3 (focus ((try simp only [SL, reduceAdd, Nat.reduceMul, List.length_map]); first | done | omega)))) | (apply e_bld rfl; (focus (exact Nat.succ_ne_zero _)); (focus ((try simp only [simB0, ZA, reduceEqDiff, ↓reduceIte, reduceAdd, reduceLeDiff, acells]); (try with_reducible rfl); done)); (focus ((try simp only [simB0, ZA, reduceEqDiff, ↓reduceIte, reduceAdd, reduceLeDiff, SO, Bool.and_self, one_encV, one_encVV, acells]); (try with_reducible rfl); done))) | (refine e_ends rfl ?_) | (apply r_1; (focus (simp only [rv, simB0, ZA, reduceEqDiff, ↓reduceIte, reduceAdd, reduceLeDiff, acells]; with_reducible rfl))))
  generalize hH : hupd _ _ _ = H
  have g1 : H 1 = some [.int .i64 0, .int .i64 (-1)] := by rw [← hH]; rfl
  have g2 : H 2 = some [.int .i64 0, .int .i64 1] := by rw [← hH]; rfl
  have g3 : H 3 = some [.msl 1 2 1 0 2, .msl 2 2 1 0 2] := by rw [← hH]; rfl
  have g4 : H 4 = some [.int .i64 0] := by rw [← hH]; rfl
  have g5 : H 5 = some [.esl, .msl 4 1 1 0 1] := by rw [← hH]; rfl
  have g6 : H 6 = some [.int .i64 0, .int .i64 0] := by rw [← hH]; rfl
  have g7 : H 7 = some [.msl 6 2 1 0 2, .esl] := by rw [← hH]; rfl
  have g8 : H 8 = some [.msl 5 2 1 0 2, .msl 7 2 1 0 2] := by rw [← hH]; rfl
  have g9 : H 9 = some [.msl 8 2 1 0 2] := by rw [← hH]; rfl
  have g10 : H 10 = some (exM.steps.flatMap StepV.cells) := by rw [← hH]; rfl
  have g11 : H 11 = some [.int .i64 (-1)] := by rw [← hH]; rfl
  have g12 : H 12 = some [.int .i64 (-1), .int .i64 (-1)] := by rw [← hH]; rfl
  have g13 : H 13 = some [.msl 11 1 1 0 1, .msl 12 2 1 0 2] := by rw [← hH]; rfl
  have g14 : H 14 = some [.int .i64 (-1)] := by rw [← hH]; rfl
  have g15 : H 15 = some [.int .i64 (-1), .int .i64 1] := by rw [← hH]; rfl
  have g16 : H 16 = some [.msl 14 1 1 0 1, .msl 15 2 1 0 2] := by rw [← hH]; rfl
  have g17 : H 17 = some [.msl 13 2 1 0 2, .msl 16 2 1 0 2] := by rw [← hH]; rfl
  clear hH
  have r1 : Snap H (.msl 1 2 1 0 2) (encV [0, -1]) := snap_row g1 rfl rfl
  have r2 : Snap H (.msl 2 2 1 0 2) (encV [0, 1]) := snap_row g2 rfl rfl
  have r4 : Snap H (.msl 4 1 1 0 1) (encV [0]) := snap_row g4 rfl rfl
  have r6 : Snap H (.msl 6 2 1 0 2) (encV [0, 0]) := snap_row g6 rfl rfl
  have r11 : Snap H (.msl 11 1 1 0 1) (encV [-1]) := snap_row g11 rfl rfl
  have r12 : Snap H (.msl 12 2 1 0 2) (encV [-1, -1]) := snap_row g12 rfl rfl
  have r14 : Snap H (.msl 14 1 1 0 1) (encV [-1]) := snap_row g14 rfl rfl
  have r15 : Snap H (.msl 15 2 1 0 2) (encV [-1, 1]) := snap_row g15 rfl rfl
  have re : Snap H .esl (encV []) := snap_esl rfl
  have vv : ∀ (b : Nat) (x y : AV) (l m : List Int), H b = some [x, y] → Snap H x (encV l) → Snap H y (encV m) → Snap H (.msl b 2 1 0 2) (encVV [l, m]) := fun b x y l m hb h1 h2 => snap_rowL hb rfl rfl (snapL_cons h1 (snapL_cons h2 snapL_nil)) (fun z hz => by simp at hz; rcases hz with rfl | rfl <;> rfl)
  have v3 := vv 3 _ _ _ _ g3 r1 r2
  have v5 := vv 5 _ _ _ _ g5 re r4
  have v7 := vv 7 _ _ _ _ g7 r6 re
  have v13 := vv 13 _ _ _ _ g13 r11 r12
  have v16 := vv 16 _ _ _ _ g16 r14 r15
  have ww : ∀ (b : Nat) (x y : AV) (l m : List (List Int)), H b = some [x, y] → Snap H x (encVV l) → Snap H y (encVV m) → Snap H (.msl b 2 1 0 2) (encV3 [l, m]) := fun b x y l m hb h1 h2 => snap_rowL hb rfl rfl (snapL_cons h1 (snapL_cons h2 snapL_nil)) (fun z hz => by simp at hz; rcases hz with rfl | rfl <;> rfl)
  have v8 := ww 8 _ _ _ _ g8 v5 v7
  have v17 := ww 17 _ _ _ _ g17 v13 v16
  have v9 : Snap H (.msl 9 1 1 0 1) (encV4 [[[[], [0]], [[0, 0], []]]]) := snap_rowL g9 rfl rfl (snapL_cons v8 snapL_nil) (fun z hz => by simp at hz; subst hz; rfl)
  have v10 : Snap H (.msl 10 32 8 0 4) (encSteps exM.steps) := by
    refine snap_rowN g10 rfl rfl rfl ?_ (fun y hy => ?_) (by omega) (fun y hy c hc => ?_)
    · simp only [List.flatMap_map]; rfl
    · simp only [List.mem_map] at hy; obtain ⟨s, _, rfl⟩ := hy; rfl
    · simp only [List.mem_map] at hy; obtain ⟨s, _, rfl⟩ := hy; exact step_dat s c hc
  exact snap_agg (snapL_cons (.int _ _) (snapL_cons (.int _ _) (snapL_cons (.int _ _) (snapL_cons (.int _ _) (snapL_cons v3 (snapL_cons v9 (snapL_cons v10 (snapL_cons v17 snapL_nil))))))))

end Go.Proofs.Ytpbjhjkfobapeaa

/- Q22: contracts of functions and plain laws; for all inputs that the theorems name. -/
namespace Go.Proofs.Ytpbjhjkfobapeaa
open Go Go.Abs
open Nat (reduceEqDiff reduceAdd reduceLeDiff)

/-! ### what the parts of a machine are -/
def repI {α : Type} (f : Nat → List UInt8 → Bool → α × List UInt8 × Bool) : Nat → List UInt8 → Bool → List α × List UInt8 × Bool
  | 0, bs, bad => ([], bs, bad)
  | k + 1, bs, bad => ((repI f k bs bad).1 ++ [(f k (repI f k bs bad).2.1 (repI f k bs bad).2.2).1], (f k (repI f k bs bad).2.1 (repI f k bs bad).2.2).2)
theorem repI_succ {α : Type} (f : Nat → List UInt8 → Bool → α × List UInt8 × Bool) (k : Nat) (bs : List UInt8) (bad : Bool) : repI f (k + 1) bs bad = ((repI f k bs bad).1 ++ [(f k (repI f k bs bad).2.1 (repI f k bs bad).2.2).1], (f k (repI f k bs bad).2.1 (repI f k bs bad).2.2).2) := rfl
theorem repI_len {α : Type} (f : Nat → List UInt8 → Bool → α × List UInt8 × Bool) (hf : ∀ i bs bad, (f i bs bad).2.1.length ≤ bs.length) : ∀ (k : Nat) (bs : List UInt8) (bad : Bool), (repI f k bs bad).1.length = k ∧ (repI f k bs bad).2.1.length ≤ bs.length
  | 0, bs, bad => ⟨rfl, Nat.le_refl _⟩
  | k + 1, bs, bad => by
    obtain ⟨h1, h2⟩ := repI_len f hf k bs bad
    rw [repI_succ]
    exact ⟨by simp [h1], Nat.le_trans (hf _ _ _) h2⟩
def lessS (n : Int) : List UInt8 → Bool → List Int × List UInt8 × Bool := fun bs bad => repS 1 n.toNat bs bad
theorem lessS_len (n : Int) (bs : List UInt8) (bad : Bool) : (lessS n bs bad).2.1.length ≤ bs.length := (repS_len 1 n.toNat bs bad).2
def outS (bs : List UInt8) (bad : Bool) : List Int × List UInt8 × Bool := lessS (nextR bs bad).1 (nextR bs bad).2.1 (nextR bs bad).2.2
theorem outS_len (bs : List UInt8) (bad : Bool) : (outS bs bad).2.1.length ≤ bs.length := Nat.le_trans (lessS_len _ _ _) (nextR_bd bs bad).2.2
def roundS (n : Nat) (bs : List UInt8) (bad : Bool) : List (List Int) × List UInt8 × Bool := repI (fun _ => outS) n bs bad
theorem roundS_len (n : Nat) (bs : List UInt8) (bad : Bool) : (roundS n bs bad).2.1.length ≤ bs.length := (repI_len _ (fun _ => outS_len) n bs bad).2

/-! ### a row within a machine -/
def mkF (n r i o : Int) (f : AV) : List AV := [.int .i64 n, .int .i64 r, .int .i64 i, .int .i64 o, f, .esl, .esl, .esl]
def mkO (n r i o : Int) (F : List (List Int)) (x : AV) : List AV := [.int .i64 n, .int .i64 r, .int .i64 i, .int .i64 o, encVV F, .esl, .esl, x]
def mkS (n r i o : Int) (F : List (List Int)) (O : List (List (List Int))) (x : AV) : List AV := [.int .i64 n, .int .i64 r, .int .i64 i, .int .i64 o, encVV F, x, .esl, encV3 O]
def mkT (n r i o : Int) (F : List (List Int)) (O : List (List (List Int))) (S : List (List (List (List Int)))) (x : AV) : List AV := [.int .i64 n, .int .i64 r, .int .i64 i, .int .i64 o, encVV F, encV4 S, x, encV3 O]
def hkeep (B : Nat → Bool) (H : Hp) : Hp := fun b => if B b = true then H b else none
def hdrop (B : Nat → Bool) (H : Hp) : Hp := fun b => if B b = true then none else H b
theorem CellsTo.nil {Hf : Hp} : CellsTo Hf [] [] := CellsTo.refl _ _
theorem CellsTo.cons {Hf : Hp} {x x' : AV} {cs cs' : List AV} (h : x' = x ∨ Snap Hf x x') (h2 : CellsTo Hf cs cs') : CellsTo Hf (x :: cs) (x' :: cs') := by
  refine ⟨by simp [h2.1], fun i y y' e1 e2 => ?_⟩
  cases i with
  | zero => simp at e1 e2; subst e1 e2; exact h
  | succ i => simp at e1 e2; exact h2.2 i y y' e1 e2
theorem Fz.put {H : Hp} {B : Nat → Bool} {x : Nat} {cs cs' : List AV} (hx : B x = false) (h : H x = some cs) (hc : CellsTo (hkeep B H) cs cs') : Fz (hkeep B H) H (hupd (hdrop B H) x cs') := by
  refine ⟨fun b c hb => ?_, fun b c hb => ?_⟩
  · unfold hkeep at hb; split at hb
    · exact hb
    · cases hb
  · by_cases e : b = x
    · subst e
      rw [hupd_self'] at hb
      cases hb
      exact ⟨cs, h, by simp [hkeep, hx], hc⟩
    · rw [hupd_ne e] at hb
      unfold hdrop at hb; split at hb
      · cases hb
      · rename_i hB
        exact ⟨c, hb, by simp [hkeep, hB], CellsTo.refl _ _⟩
theorem hdrop_at {B : Nat → Bool} {H : Hp} {x : Nat} (h : B x = false) : hdrop B H x = H x := by simp [hdrop, h]
structure PH (mk : AV → List AV) (sz : Nat) (bs : List UInt8) (bad : Bool) (s : AV) (cs : List AV) (H0 H : Hp) (nx : Nat) : Prop where
  rd : H 2 = some [encBs bs, .bool bad]
  mc : H 3 = some (mk s)
  row : Row H sz s cs
  rlt : ∀ x, rowB s = some x → 4 ≤ x ∧ x < nx
  lt : 4 ≤ nx
  fr : ∀ i, i < 2 → H i = H0 i

theorem Row_keep {H : Hp} {sz : Nat} {s : AV} {cs : List AV} {B : Nat → Bool} (h : Row H sz s cs) (hb : ∀ b, rowB s = some b → B b = true) : Row (hkeep B H) sz s cs := h.same fun b e => by simp [hkeep, hb b e]
theorem Row_lastR {H : Hp} {s x x' : AV} {cs : List AV} (hrow : Row H 1 s (cs ++ [x])) (hne : ∀ b, rowB x = some b → rowB s ≠ some b) (hs : ∀ Hf : Hp, (∀ b, rowB x = some b → Hf b = H b) → Snap Hf x x') :
    ∃ Hf H'', Fz Hf H H'' ∧ Row H'' 1 s (cs ++ [x']) ∧ (∀ i, rowB x ≠ some i → rowB s ≠ some i → H'' i = H i) := by
  generalize hc : cs ++ [x] = cs1 at hrow
  cases hrow with
  | nil => simp at hc
  | box b len cs1 hb hl =>
    subst hc
    have hnb : ¬ rowB x = some b := fun e => hne b e rfl
    refine ⟨_, _, Fz.put (B := fun y => decide (rowB x = some y)) (x := b) (cs' := cs ++ [x']) (by simpa using hnb) hb (CellsTo.snoc (hs _ fun y hy => by simp [hkeep, hy])), ?_, fun i h1 h2 => ?_⟩
    · have hl' : (cs ++ [x']).length = len * 1 := by rw [← hl]; simp
      exact Row.box (H := hupd (hdrop (fun y => decide (rowB x = some y)) H) b (cs ++ [x'])) (sz := 1) b len (cs ++ [x']) hupd_self' hl'
    · rw [hupd_ne (fun e => h2 (by rw [e]; rfl)), hdrop_at (by simpa using h1)]
theorem sub_only {H : Hp} {b : Nat} {cs : List AV} (h : H b = some cs) : Sub (only b cs) H := fun x c hx => by
  unfold only at hx
  split at hx
  · cases hx; subst_vars; exact h
  · cases hx
theorem PH.step {mk : AV → List AV} {sz : Nat} {bs bs' : List UInt8} {bad bad' : Bool} {s : AV} {cs : List AV} {H0 H H' : Hp} {nx nx' : Nat} (h : PH mk sz bs bad s cs H0 H nx) (hrd : H' 2 = some [encBs bs', .bool bad']) (hfr : ∀ i, i < nx → i ≠ 2 → H' i = H i) (hle : nx ≤ nx') : PH mk sz bs' bad' s cs H0 H' nx' := by
  obtain ⟨g1, g2, g3, g4, g5, g6⟩ := h
  refine ⟨hrd, by rw [hfr 3 (by omega) (by omega), g2], g3.same fun b hb => ?_, fun x hx => ?_, by omega, fun i hi => by rw [hfr i (by omega) (by omega), g6 i hi]⟩
  · have := g4 b hb; exact hfr b (by omega) (by omega)
  · have := g4 x hx; omega
theorem PH.push {mk : AV → List AV} {bs : List UInt8} {bad : Bool} {s : AV} {cs : List AV} {H0 H : Hp} {nx : Nat} (h : PH mk 1 bs bad s cs H0 H nx) {v v' : AV} (hv : ∀ b, rowB v = some b → 4 ≤ b ∧ b < nx ∧ rowB s ≠ some b) (hs : ∀ Hf : Hp, (∀ b, rowB v = some b → Hf b = H b) → Snap Hf v v')
    {s' : AV} {H3 : Hp} {nx3 : Nat} (hrow : Row H3 1 s' (cs ++ [v])) (j1 : nx + 1 ≤ nx3) (j3 : ∀ i, i < nx + 1 → rowB s ≠ some i → H3 i = hupd H nx [v] i) (j4 : ∀ b, rowB s' = some b → rowB s = some b ∨ b = nx + 1 ∧ nx3 = nx + 1 + 1) :
    H3 3 = some (mk s) ∧ ∃ Hf H'', Fz Hf (hupd H3 3 (mk s')) H'' ∧ PH mk 1 bs bad s' (cs ++ [v']) H0 H'' nx3 := by
  obtain ⟨g1, g2, g3, g4, g5, g6⟩ := h
  have hlow : ∀ i, i < 4 → H3 i = H i := fun i hi => by
    rw [j3 i (by omega) (fun h => by have := g4 i h; omega), hupd_ne (by omega)]
  have hsB : ∀ b, rowB s' = some b → 4 ≤ b ∧ b < nx3 ∧ rowB v ≠ some b := fun b hb => by
    rcases j4 b hb with h | h
    · have := g4 b h
      exact ⟨by omega, by omega, fun hv' => (hv b hv').2.2 h⟩
    · exact ⟨by omega, by omega, fun hv' => by have := hv b hv'; omega⟩
  refine ⟨by rw [hlow 3 (by omega), g2], ?_⟩
  have hrow2 : Row (hupd H3 3 (mk s')) 1 s' (cs ++ [v]) := hrow.same fun b hb => by
    have := hsB b hb
    rw [hupd_ne (by omega)]
  obtain ⟨Hf, H'', f1, f2, f3⟩ := Row_lastR (x' := v') hrow2 (fun b hb h => (hsB b h).2.2 hb) (fun Hf hf => hs Hf fun b hb => by
    have := hv b hb
    rw [hf b hb, hupd_ne (by omega), j3 b (by omega) this.2.2, hupd_ne (by omega)])
  have hv23 : ∀ x, x < 4 → rowB v ≠ some x ∧ rowB s' ≠ some x := fun x hx => ⟨fun h => by have := hv x h; omega, fun h => by have := hsB x h; omega⟩
  refine ⟨Hf, H'', f1, ?_, ?_, f2, fun b hb => ⟨(hsB b hb).1, (hsB b hb).2.1⟩, by omega, fun x hx => ?_⟩
  · rw [f3 2 (hv23 2 (by omega)).1 (hv23 2 (by omega)).2, hupd_ne (by omega), hlow 2 (by omega), g1]
  · rw [f3 3 (hv23 3 (by omega)).1 (hv23 3 (by omega)).2, hupd_self']
  · rw [f3 x (hv23 x (by omega)).1 (hv23 x (by omega)).2, hupd_ne (by omega), hlow x (by omega), g6 x hx]
structure PL (mk : AV → List AV) (bs : List UInt8) (bad : Bool) (s : AV) (cs : List AV) (t : AV) (ds : List AV) (H0 H : Hp) (nx : Nat) : Prop where
  ph : PH mk 1 bs bad s cs H0 H nx
  row2 : Row H 1 t ds
  rlt2 : ∀ x, rowB t = some x → 4 ≤ x ∧ x < nx ∧ rowB s ≠ some x
theorem PL.step {mk : AV → List AV} {bs bs' : List UInt8} {bad bad' : Bool} {s t : AV} {cs ds : List AV} {H0 H H' : Hp} {nx nx' : Nat} (h : PL mk bs bad s cs t ds H0 H nx) (hrd : H' 2 = some [encBs bs', .bool bad']) (hfr : ∀ i, i < nx → i ≠ 2 → H' i = H i) (hle : nx ≤ nx') : PL mk bs' bad' s cs t ds H0 H' nx' := by
  obtain ⟨g1, g2, g3⟩ := h
  refine ⟨g1.step hrd hfr hle, g2.same fun b hb => ?_, fun x hx => ?_⟩
  · have := g3 b hb; exact hfr b (by omega) (by omega)
  · have := g3 x hx; exact ⟨this.1, by omega, this.2.2⟩
theorem PL.push {mk : AV → List AV} {bs : List UInt8} {bad : Bool} {s t : AV} {cs ds : List AV} {H0 H : Hp} {nx : Nat} (h : PL mk bs bad s cs t ds H0 H nx) {v v' : AV} (hv : ∀ b, rowB v = some b → 4 ≤ b ∧ b < nx ∧ rowB s ≠ some b ∧ rowB t ≠ some b) (hs : ∀ Hf : Hp, (∀ b, rowB v = some b → Hf b = H b) → Snap Hf v v')
    {t' : AV} {H3 : Hp} {nx3 : Nat} (hrow : Row H3 1 t' (ds ++ [v])) (j1 : nx + 1 ≤ nx3) (j3 : ∀ i, i < nx + 1 → rowB t ≠ some i → H3 i = hupd H nx [v] i) (j4 : ∀ b, rowB t' = some b → rowB t = some b ∨ b = nx + 1 ∧ nx3 = nx + 1 + 1) :
    ∃ Hf H'', Fz Hf H3 H'' ∧ PL mk bs bad s cs t' (ds ++ [v']) H0 H'' nx3 := by
  obtain ⟨⟨g1, g2, g3, g4, g5, g6⟩, g7, g8⟩ := h
  have hlow : ∀ i, i < 4 → H3 i = H i := fun i hi => by
    rw [j3 i (by omega) (fun h => by have := g8 i h; omega), hupd_ne (by omega)]
  have hsB : ∀ b, rowB t' = some b → 4 ≤ b ∧ b < nx3 ∧ rowB v ≠ some b ∧ rowB s ≠ some b := fun b hb => by
    rcases j4 b hb with h | h
    · have := g8 b h
      exact ⟨by omega, by omega, fun hv' => (hv b hv').2.2.2 h, this.2.2⟩
    · exact ⟨by omega, by omega, fun hv' => by have := hv b hv'; omega, fun h' => by have := g4 b h'; omega⟩
  obtain ⟨Hf, H'', f1, f2, f3⟩ := Row_lastR (x' := v') hrow (fun b hb h => (hsB b h).2.2.1 hb) (fun Hf hf => hs Hf fun b hb => by
    have := hv b hb
    rw [hf b hb, j3 b (by omega) this.2.2.2, hupd_ne (by omega)])
  have hv23 : ∀ x, x < 4 → rowB v ≠ some x ∧ rowB t' ≠ some x := fun x hx => ⟨fun h => by have := hv x h; omega, fun h => by have := hsB x h; omega⟩
  refine ⟨Hf, H'', f1, ⟨?_, ?_, g3.same fun b hb => ?_, fun x hx => by have := g4 x hx; omega, by omega, fun x hx => ?_⟩, f2, fun b hb => ⟨(hsB b hb).1, (hsB b hb).2.1, (hsB b hb).2.2.2⟩⟩
  · rw [f3 2 (hv23 2 (by omega)).1 (hv23 2 (by omega)).2, hlow 2 (by omega), g1]
  · rw [f3 3 (hv23 3 (by omega)).1 (hv23 3 (by omega)).2, hlow 3 (by omega), g2]
  · have := g4 b hb
    rw [f3 b (fun h => (hv b h).2.2.1 hb) (fun h => (hsB b h).2.2.2 hb), j3 b (by omega) (fun h => (g8 b h).2.2 hb), hupd_ne (by omega)]
  · rw [f3 x (hv23 x (by omega)).1 (hv23 x (by omega)).2, hlow x (by omega), g6 x hx]
theorem asrc_new {H : Hp} {nx : Nat} {v : AV} : asrc 1 (hupd H nx [v]) (.msl nx 1 1 0 1) = some (1, [v]) := asrc_msl (cs := [v]) hupd_self' rfl (by omega)
theorem PH.freeze {mk mk' : AV → List AV} {sz sz' : Nat} {bs : List UInt8} {bad : Bool} {s v : AV} {cs : List AV} {H0 H : Hp} {nx : Nat} (h : PH mk sz bs bad s cs H0 H nx) (hs : ∀ Hf : Hp, Row Hf sz s cs → Snap Hf s v) (hct : ∀ Hf : Hp, Snap Hf s v → CellsTo Hf (mk s) (mk' .esl)) :
    ∃ Hf H'', Fz Hf H H'' ∧ PH mk' sz' bs bad .esl [] H0 H'' nx := by
  obtain ⟨g1, g2, g3, g4, g5, g6⟩ := h
  have hB : ∀ x, x < 4 → decide (rowB s = some x) = false := fun x hx => by
    rw [decide_eq_false_iff_not]; intro h; have := g4 x h; omega
  refine ⟨_, _, Fz.put (B := fun y => decide (rowB s = some y)) (hB 3 (by omega)) g2 (hct _ (hs _ (Row_keep g3 fun b hb => by simpa using hb))), ?_, hupd_self', Row.nil, fun x h => (by cases h), g5, fun x hx => ?_⟩
  · rw [hupd_ne (by omega), hdrop_at (hB 2 (by omega)), g1]
  · rw [hupd_ne (by omega), hdrop_at (hB x (by omega)), g6 x hx]
theorem ctF {n r i o : Int} {F : List (List Int)} {s : AV} {Hf : Hp} (h : Snap Hf s (encVV F)) : CellsTo Hf (mkF n r i o s) (mkO n r i o F .esl) :=
  CellsTo.cons (.inl rfl) (CellsTo.cons (.inl rfl) (CellsTo.cons (.inl rfl) (CellsTo.cons (.inl rfl) (CellsTo.cons (.inr h) (CellsTo.refl _ _)))))
theorem ctO {n r i o : Int} {F : List (List Int)} {O : List (List (List Int))} {s : AV} {Hf : Hp} (h : Snap Hf s (encV3 O)) : CellsTo Hf (mkO n r i o F s) (mkS n r i o F O .esl) :=
  CellsTo.cons (.inl rfl) (CellsTo.cons (.inl rfl) (CellsTo.cons (.inl rfl) (CellsTo.cons (.inl rfl) (CellsTo.cons (.inl rfl) (CellsTo.cons (.inl rfl) (CellsTo.cons (.inl rfl) (CellsTo.cons (.inr h) CellsTo.nil)))))))
theorem ctS {n r i o : Int} {F : List (List Int)} {O : List (List (List Int))} {S : List (List (List (List Int)))} {s : AV} {Hf : Hp} (h : Snap Hf s (encV4 S)) : CellsTo Hf (mkS n r i o F O s) (mkT n r i o F O S .esl) :=
  CellsTo.cons (.inl rfl) (CellsTo.cons (.inl rfl) (CellsTo.cons (.inl rfl) (CellsTo.cons (.inl rfl) (CellsTo.cons (.inl rfl) (CellsTo.cons (.inr h) (CellsTo.refl _ _))))))
structure PB (mk : AV → List AV) (bs : List UInt8) (bad : Bool) (s : AV) (cs : List AV) (t : AV) (ds : List AV) (b : Nat) (es : List AV) (H0 H : Hp) (nx : Nat) : Prop where
  pl : PL mk bs bad s cs t ds H0 H nx
  bx : H b = some es
  b1 : 4 ≤ b ∧ b < nx
  b2 : rowB s ≠ some b
  b3 : rowB t ≠ some b
theorem PB.step {mk : AV → List AV} {bs bs' : List UInt8} {bad bad' : Bool} {s t : AV} {cs ds es : List AV} {b : Nat} {H0 H H' : Hp} {nx nx' : Nat} (h : PB mk bs bad s cs t ds b es H0 H nx) (hrd : H' 2 = some [encBs bs', .bool bad']) (hfr : ∀ i, i < nx → i ≠ 2 → H' i = H i) (hle : nx ≤ nx') : PB mk bs' bad' s cs t ds b es H0 H' nx' := by
  obtain ⟨g1, g2, g3, g4, g5⟩ := h
  exact ⟨g1.step hrd hfr hle, by rw [hfr b g3.2 (by omega), g2], ⟨g3.1, by omega⟩, g4, g5⟩
theorem CellsTo.mid {Hf : Hp} {A C : List AV} {v v' : AV} (h : v' = v ∨ Snap Hf v v') : CellsTo Hf (A ++ v :: C) (A ++ v' :: C) := by
  induction A with
  | nil => exact CellsTo.cons h (CellsTo.refl _ _)
  | cons a A ih => exact CellsTo.cons (.inl rfl) ih
theorem lput_mid {A C : List AV} {x v : AV} {q : Nat} (h : A.length = q) : lput (A ++ x :: C) q [v] = A ++ v :: C := by
  subst h; simp [lput]
theorem PB.put {mk : AV → List AV} {bs : List UInt8} {bad : Bool} {s t : AV} {cs ds A C : List AV} {x : AV} {b : Nat} {H0 H : Hp} {nx : Nat} (h : PB mk bs bad s cs t ds b (A ++ x :: C) H0 H nx) {v v' : AV} (hv : ∀ y, rowB v = some y → 4 ≤ y ∧ y < nx ∧ y ≠ b ∧ rowB s ≠ some y ∧ rowB t ≠ some y)
    (hs : ∀ Hf : Hp, (∀ y, rowB v = some y → Hf y = H y) → Snap Hf v v') : ∃ Hf H'', Fz Hf (hupd H b (A ++ v :: C)) H'' ∧ PB mk bs bad s cs t ds b (A ++ v' :: C) H0 H'' nx := by
  obtain ⟨⟨⟨g1, g2, g3, g4, g5, g6⟩, g7, g8⟩, g9, g10, g11, g12⟩ := h
  have hB : decide (rowB v = some b) = false := by
    rw [decide_eq_false_iff_not]; exact fun h => (hv b h).2.2.1 rfl
  have hoth : ∀ i, i ≠ b → rowB v ≠ some i → hupd (hdrop (fun y => decide (rowB v = some y)) (hupd H b (A ++ v :: C))) b (A ++ v' :: C) i = H i := fun i h1 h2 => by
    rw [hupd_ne h1, hdrop_at (by simpa using h2), hupd_ne h1]
  have hlow : ∀ i, i < 4 → rowB v ≠ some i := fun i hi h => by have := hv i h; omega
  refine ⟨_, _, Fz.put (B := fun y => decide (rowB v = some y)) (cs := A ++ v :: C) (cs' := A ++ v' :: C) hB hupd_self' (CellsTo.mid (.inr (hs _ fun y hy => ?_))), ⟨⟨?_, ?_, g3.same fun y hy => ?_, g4, g5, fun y hy => ?_⟩, g7.same fun y hy => ?_, g8⟩, hupd_self', g10, g11, g12⟩
  · have := hv y hy
    simp only [hkeep, hy, decide_true, if_true]
    rw [hupd_ne this.2.2.1]
  · rw [hoth 2 (by omega) (hlow 2 (by omega)), g1]
  · rw [hoth 3 (by omega) (hlow 3 (by omega)), g2]
  · exact hoth y (fun h => g11 (h ▸ hy)) (fun h => (hv y h).2.2.2.1 hy)
  · rw [hoth y (by omega) (hlow y (by omega)), g6 y hy]
  · exact hoth y (fun h => g12 (h ▸ hy)) (fun h => (hv y h).2.2.2.2 hy)

theorem repI_mem {α : Type} (f : Nat → List UInt8 → Bool → α × List UInt8 × Bool) (hf : ∀ i bs bad, (f i bs bad).2.1.length ≤ bs.length) : ∀ (k : Nat) (bs : List UInt8) (bad : Bool) (x : α), x ∈ (repI f k bs bad).1 → ∃ i bs' bad', bs'.length ≤ bs.length ∧ x = (f i bs' bad').1
  | 0, bs, bad, x, h => by cases h
  | k + 1, bs, bad, x, h => by
    rw [repI_succ] at h
    simp only [List.mem_append, List.mem_singleton] at h
    rcases h with h | h
    · exact repI_mem f hf k bs bad x h
    · exact ⟨k, _, _, (repI_len f hf k bs bad).2, h⟩
theorem outS_bd (bs : List UInt8) (bad : Bool) : (outS bs bad).1.length ≤ bs.length + 1 := by
  have h1 := (repS_len 1 (nextR bs bad).1.toNat (nextR bs bad).2.1 (nextR bs bad).2.2).1
  have h2 := (nextR_bd bs bad).2.2
  unfold outS lessS
  omega
theorem rounds_bd {n k : Nat} {bs : List UInt8} {bad : Bool} {x : List (List Int)} (h : x ∈ (repI (fun _ => roundS n) k bs bad).1) : x.length = n ∧ ∀ y ∈ x, y.length ≤ bs.length + 1 := by
  obtain ⟨i, bs', bad', h1, rfl⟩ := repI_mem _ (fun _ => roundS_len n) k bs bad x h
  refine ⟨(repI_len _ (fun _ => outS_len) n bs' bad').1, fun y hy => ?_⟩
  obtain ⟨j, bs2, bad2, h2, rfl⟩ := repI_mem _ (fun _ => outS_len) n bs' bad' y hy
  have := outS_bd bs2 bad2
  show (outS bs2 bad2).1.length ≤ _
  omega
def recvS (O : List (List (List Int))) (k p q : Nat) (bs : List UInt8) (bad : Bool) : List Int × List UInt8 × Bool := if p = q then ([], bs, bad) else repS 0 ((O.getD k default).getD p default).length bs bad
theorem recvS_len (O : List (List (List Int))) (k p q : Nat) (bs : List UInt8) (bad : Bool) : (recvS O k p q bs bad).2.1.length ≤ bs.length := by
  unfold recvS
  split
  · exact Nat.le_refl _
  · exact (repS_len 0 _ bs bad).2
def sendS (O : List (List (List Int))) (n k p : Nat) (bs : List UInt8) (bad : Bool) : List (List Int) × List UInt8 × Bool := repI (recvS O k p) n bs bad
theorem sendS_len (O : List (List (List Int))) (n k p : Nat) (bs : List UInt8) (bad : Bool) : (sendS O n k p bs bad).2.1.length ≤ bs.length := (repI_len _ (recvS_len O k p) n bs bad).2
def symS (O : List (List (List Int))) (n k : Nat) (bs : List UInt8) (bad : Bool) : List (List (List Int)) × List UInt8 × Bool := repI (sendS O n k) n bs bad
theorem symS_len (O : List (List (List Int))) (n k : Nat) (bs : List UInt8) (bad : Bool) : (symS O n k bs bad).2.1.length ≤ bs.length := (repI_len _ (sendS_len O n k) n bs bad).2
theorem Row_snap3 {H : Hp} {s : AV} {l : List (List (List Int))} (h : Row H 1 s (l.map encVV)) : Snap H s (encV3 l) := h.snapL' (fun _ => rfl) (fun x _ => encVV_dat x)
theorem Row_snap4 {H : Hp} {s : AV} {l : List (List (List (List Int)))} (h : Row H 1 s (l.map encV3)) : Snap H s (encV4 l) := h.snapL' (fun _ => rfl) (fun x _ => encV3_dat x)
structure PX (mk : AV → List AV) (sz : Nat) (bs : List UInt8) (bad : Bool) (s : AV) (cs : List AV) (b : Nat) (es : List AV) (H0 H : Hp) (nx : Nat) : Prop where
  ph : PH mk sz bs bad s cs H0 H nx
  bx : H b = some es
  b1 : 4 ≤ b ∧ b < nx
  b2 : rowB s ≠ some b
theorem PX.step {mk : AV → List AV} {sz : Nat} {bs bs' : List UInt8} {bad bad' : Bool} {s : AV} {cs es : List AV} {b : Nat} {H0 H H' : Hp} {nx nx' : Nat} (h : PX mk sz bs bad s cs b es H0 H nx) (hrd : H' 2 = some [encBs bs', .bool bad']) (hfr : ∀ i, i < nx → i ≠ 2 → H' i = H i) (hle : nx ≤ nx') : PX mk sz bs' bad' s cs b es H0 H' nx' := by
  obtain ⟨g1, g2, g3, g4⟩ := h
  exact ⟨g1.step hrd hfr hle, by rw [hfr b g3.2 (by omega), g2], ⟨g3.1, by omega⟩, g4⟩
theorem PX.set {mk : AV → List AV} {sz : Nat} {bs : List UInt8} {bad : Bool} {s : AV} {cs es es' : List AV} {b : Nat} {H0 H : Hp} {nx : Nat} (h : PX mk sz bs bad s cs b es H0 H nx) : PX mk sz bs bad s cs b es' H0 (hupd H b es') nx := by
  obtain ⟨⟨g1, g2, g3, g4, g5, g6⟩, g7, g8, g9⟩ := h
  refine ⟨⟨by rw [hupd_ne (by omega), g1], by rw [hupd_ne (by omega), g2], g3.same fun y hy => hupd_ne (fun h => g9 (h ▸ hy)), g4, g5, fun x hx => by rw [hupd_ne (by omega), g6 x hx]⟩, hupd_self', g8, g9⟩
def heardS (n q : Nat) (bs : List UInt8) (bad : Bool) : Int × List UInt8 × Bool := if q < n then ((nextR bs bad).1 - 1, (nextR bs bad).2) else (-1, bs, bad)
theorem heardS_len (n q : Nat) (bs : List UInt8) (bad : Bool) : (heardS n q bs bad).2.1.length ≤ bs.length := by
  unfold heardS
  split
  · exact (nextR_bd bs bad).2.2
  · exact Nat.le_refl _
def stepR (n : Nat) (bs : List UInt8) (bad : Bool) : StepV × List UInt8 × Bool :=
  let a := nextR bs bad
  let b := nextR a.2.1 a.2.2
  let h := repI (heardS n) 5 b.2.1 b.2.2
  let t := nextR h.2.1 h.2.2
  (⟨a.1, b.1, h.1.getD 0 default, h.1.getD 1 default, h.1.getD 2 default, h.1.getD 3 default, h.1.getD 4 default, t.1⟩, t.2)
def stepsS (n : Nat) : Nat → List UInt8 → Bool → List StepV × List UInt8 × Bool
  | 0, bs, bad => ([], bs, bad)
  | k + 1, bs, bad => if bad = true then ([], bs, bad) else ((stepR n bs bad).1 :: (stepsS n k (stepR n bs bad).2.1 (stepR n bs bad).2.2).1, (stepsS n k (stepR n bs bad).2.1 (stepR n bs bad).2.2).2)
theorem stepsS_bad (n k : Nat) (bs : List UInt8) : stepsS n k bs true = ([], bs, true) := by cases k <;> rfl
theorem stepsS_succ (n k : Nat) (bs : List UInt8) : stepsS n (k + 1) bs false = ((stepR n bs false).1 :: (stepsS n k (stepR n bs false).2.1 (stepR n bs false).2.2).1, (stepsS n k (stepR n bs false).2.1 (stepR n bs false).2.2).2) := rfl
def pF (n i : Int) (bs : List UInt8) (bad : Bool) : List (List Int) × List UInt8 × Bool := repI (fun _ => lessS i) n.toNat bs bad
def pO (n r : Int) (bs : List UInt8) (bad : Bool) : List (List (List Int)) × List UInt8 × Bool := repI (fun _ => roundS n.toNat) (r + 1).toNat bs bad
def pS (n r : Int) (O : List (List (List Int))) (bs : List UInt8) (bad : Bool) : List (List (List (List Int))) × List UInt8 × Bool := repI (symS O n.toNat) r.toNat bs bad
def pT (n : Int) (bs : List UInt8) (bad : Bool) : List StepV × List UInt8 × Bool := stepsS n.toNat (nextR bs bad).1.toNat (nextR bs bad).2.1 (nextR bs bad).2.2
def partsV (n r i o : Int) (bs : List UInt8) (bad : Bool) : MachV × List UInt8 × Bool :=
  let f := pF n i bs bad
  let O := pO n r f.2.1 f.2.2
  let S := pS n r O.1 O.2.1 O.2.2
  let t := pT n S.2.1 S.2.2
  (⟨n, r, i, o, f.1, S.1, t.1, O.1⟩, t.2)
theorem ixaA_ptr {T : Tm} {H : Hp} {b n off len sz q : Nat} {x i : Opd} (hx : ov T x = .ptr b n off) (hi : ov T i = .int .i64 (q : Int)) (h : q < len) : ival T H (.ixaA len sz x i) = some (.ptr b n (off + q * sz)) := by
  simp only [ival, hx, hi, aint]
  rw [if_pos ⟨by omega, by omega⟩, Int.toNat_natCast]
  rfl
theorem flat_cells (D : List StepV) : (D.flatMap StepV.cells).length = D.length * 8 := by
  induction D with
  | nil => rfl
  | cons d D ih => rw [List.flatMap_cons, List.length_append, ih, List.length_cons]; show 8 + _ = _; omega
attribute [local irreducible] awp2 aops2 ains aloop athen bbind obind gbind acond res1 Go.Abs.Fn PCall Go.Abs.Pure SnapArgs SnapL Yl

theorem parts_f (n r i o : Int) (bs : List UInt8) (bad : Bool) (H : Hp) (nx : Nat) (hr : H 2 = some [encBs bs, .bool bad]) (hm : H 3 = some (mkF n r i o .esl)) (hx : 4 ≤ nx) (hl : bs.length ≤ 100000) (hn : 0 ≤ n ∧ n ≤ 5) (hr' : 0 ≤ r ∧ r ≤ 6) (hi : 0 ≤ i ∧ i ≤ 8) :
    Abs.Fn Try.prog 48 [.ptr 2 2 0, .ptr 3 8 0] H nx fun _ H' nx' => ∃ s, PH (mkT n r i o (partsV n r i o bs bad).1.first (partsV n r i o bs bad).1.out (partsV n r i o bs bad).1.symbols) 8 (partsV n r i o bs bad).2.1 (partsV n r i o bs bad).2.2 s ((partsV n r i o bs bad).1.steps.flatMap StepV.cells) H H' nx' := by
  refine Abs.Fn.of_c2 follows is48 (Nat.le_of_ble_eq_true rfl) ?_
  simp only [b48, O, G, N, M, D, F, B2, cFal, cTru]
  refine w_seqC (fun T H1 nx1 => T 0 = .ptr 2 2 0 ∧ T 1 = .ptr 3 8 0 ∧ ∃ s, PH (mkF n r i o) 1 (repI (fun _ => lessS i) n.toNat bs bad).2.1 (repI (fun _ => lessS i) n.toNat bs bad).2.2 s ((repI (fun _ => lessS i) n.toNat bs bad).1.map encV) H H1 nx1) ?_ ?_
  · have hm' := hm
    unfold mkF at hm'
    repeat' (first | apply w_seq | apply w_ops0 | apply w_block | apply a_n | apply o_nil | (apply o_val rfl rfl; (focus ((try simp (disch := omega) only [simB0, ZA, reduceEqDiff, ↓reduceIte, reduceAdd, reduceLeDiff, ZV, reduceCtorEq, NK, hm']); first | with_reducible rfl | (apply s_ite; (focus omega); with_reducible rfl)))) | apply w_loop)
    refine loopF (X := Nat × AV) (fun x => [(0, .ptr 2 2 0), (1, .ptr 3 8 0), (16, .int .i64 n), (17, .int .i64 x.1)]) (fun x H1 nx1 => x.1 ≤ n.toNat ∧ PH (mkF n r i o) 1 (repI (fun _ => lessS i) x.1 bs bad).2.1 (repI (fun _ => lessS i) x.1 bs bad).2.2 x.2 ((repI (fun _ => lessS i) x.1 bs bad).1.map encV) H H1 nx1) (fun x => n.toNat - x.1) (0, .esl)
      ⟨_, _, Fz.none, ⟨Nat.zero_le _, ⟨hr, hm, Row.nil, fun x h => (by cases h), hx, fun _ _ => rfl⟩⟩, agrF_of (by simp (disch := omega) only [agr, ZG, reduceEqDiff, ↓reduceIte])⟩ ?_
    rintro ⟨k, s⟩ H1 nx1 ⟨k1, hP⟩
    dsimp only at k1 hP ⊢
    obtain ⟨p1, p2⟩ := repI_len (fun _ => lessS i) (fun _ => lessS_len i) k bs bad
    have hsucc := repI_succ (fun _ => lessS i) k bs bad
    generalize hst : repI (fun _ => lessS i) k bs bad = st at *
    obtain ⟨l, bs1, bad1⟩ := st
    dsimp only at hP p1 p2 hsucc
    by_cases hk : k < n.toNat
    rotate_left
    · repeat' (first | apply w_seq | apply w_ops0 | apply w_exit | apply a_n | apply a_x | apply o_nil | (apply o_val rfl rfl; (focus ((try simp (disch := omega) only [simB0, ZA, reduceEqDiff, ↓reduceIte, reduceAdd, reduceLeDiff, ZV, reduceCtorEq]); first | with_reducible rfl | (apply s_ite; (focus omega); with_reducible rfl)))) | (apply w_cond; (focus ((try simp only [simB0, ZA, reduceEqDiff, ↓reduceIte, reduceAdd, reduceLeDiff]); (try with_reducible rfl); done)); all_goals (intro _hg; (try simp only [ZB] at _hg); try first | exact absurd trivial _hg | (exfalso; omega))))
      have : k = n.toNat := by omega
      subst this
      exact ⟨by ((try simp only [simB0, ZA, reduceEqDiff, ↓reduceIte, reduceAdd, reduceLeDiff]); (try with_reducible rfl)), by ((try simp only [simB0, ZA, reduceEqDiff, ↓reduceIte, reduceAdd, reduceLeDiff]); (try with_reducible rfl)), s, by rw [hst]; exact hP⟩
    obtain ⟨g1, g2, g3, g4, g5, g6⟩ := hP
    have hP : PH (mkF n r i o) 1 bs1 bad1 s (l.map encV) H H1 nx1 := ⟨g1, g2, g3, g4, g5, g6⟩
    have hone := g3.one
    repeat' (first | apply w_seq | apply w_ops0 | apply w_block | apply w_skip | apply a_n | apply o_nil | (apply o_val rfl rfl; (focus ((try simp (disch := omega) only [simB0, ZA, reduceEqDiff, ↓reduceIte, reduceAdd, reduceLeDiff, ZV, reduceCtorEq]); first | with_reducible rfl | (apply s_ite; (focus omega); with_reducible rfl)))) | (apply w_cond; (focus ((try simp only [simB0, ZA, reduceEqDiff, ↓reduceIte, reduceAdd, reduceLeDiff]); (try with_reducible rfl); done)); all_goals (intro _hg; (try simp only [ZB] at _hg); try first | exact absurd trivial _hg | (exfalso; omega))))
    refine w_mixS (only 3 (mkF n r i o s)) rfl (sub_only g2) ?_
    have hS : only 3 (mkF n r i o s) 3 = some [.int .i64 n, .int .i64 r, .int .i64 i, .int .i64 o, s, .esl, .esl, .esl] := only_at
    repeat' (first | (apply n_val; (focus ((try simp (disch := omega) only [simB0, ZA, reduceEqDiff, ↓reduceIte, reduceAdd, reduceLeDiff, ZV, reduceCtorEq, NK, hS]); first | with_reducible rfl | (apply s_ite; (focus omega); with_reducible rfl)))))
    refine n_keep ?_
    refine o_callE (by ((try simp only [simB0, ZA, reduceEqDiff, ↓reduceIte, reduceAdd, reduceLeDiff]); (try with_reducible rfl))) (by ((try simp only [simB0, ZA, reduceEqDiff, ↓reduceIte, reduceAdd, reduceLeDiff]); (try with_reducible rfl))) (repeated_f 78 1 (.inr ⟨rfl, rfl⟩) 2 bs1 bad1 i H1 nx1 g1 (by omega) (by omega) (by omega)) ?_
    rintro v H2 nx2 ⟨q1, q2, q3, q4, q5⟩
    repeat' (first | apply o_nil)
    have h3 : H2 3 = some (mkF n r i o s) := by rw [q4 3 (by omega) (by omega), g2]
    have hvo := q2.one
    refine ⟨sub_only h3, ?_⟩
    refine n_keep ?_
    repeat' (first | apply o_nil | (apply e_bld rfl; (focus (exact Nat.succ_ne_zero _)); (focus ((try simp (disch := omega) only [simB2, ZA, reduceEqDiff, ↓reduceIte, reduceAdd, reduceLeDiff, hvo.1, hvo.2]); (try with_reducible rfl); done)); (focus ((try simp (disch := omega) only [simB2, ZA, reduceEqDiff, ↓reduceIte, reduceAdd, reduceLeDiff, SO, Bool.and_self, one_encV, one_encVV, hvo.1, hvo.2]); (try with_reducible rfl); done))))
    refine ⟨sub_only (by rw [hupd_ne (by omega)]; exact h3), ?_⟩
    repeat' (first | apply n_any)
    have hP2 := hP.step (H' := H2) (nx' := nx2) q1 q4 q3
    refine e_row (k := 1) (new := [v]) rfl (by ((try simp only [simB0, ZA, reduceEqDiff, ↓reduceIte, reduceAdd, reduceLeDiff]); (try with_reducible rfl))) (hP2.row.same fun b hb => hupd_ne (by have := hP2.rlt b hb; omega)) (by ((try simp only [simB0, ZA, reduceEqDiff, ↓reduceIte, reduceAdd, reduceLeDiff]); (try with_reducible rfl))) asrc_new (by simp [AV.ones, hvo.1]) rfl Nat.one_pos (by simp; omega) (by simp; omega) ?_
    rintro s' H3 nx3 hrow j1 _ j3 j4
    have hone' := hrow.one
    obtain ⟨h33, Hf, H'', f1, f2⟩ := hP2.push (v' := encV (repS 1 i.toNat bs1 bad1).1) (fun b hb => ⟨by have := q5 b hb; omega, (q5 b hb).2, fun h => by have := q5 b hb; have := g4 b h; omega⟩) (fun Hf hf => (q2.same hf).snapI) hrow j1 j3 j4
    unfold mkF at h33
    repeat' (first | apply w_ops0 | apply a_n | apply o_nil | (apply o_val rfl rfl; (focus ((try simp (disch := omega) only [simB0, ZA, reduceEqDiff, ↓reduceIte, reduceAdd, reduceLeDiff, ZV, reduceCtorEq, NK, h33, hone'.1, hone'.2]); first | with_reducible rfl | (apply s_ite; (focus omega); with_reducible rfl)))) | (apply n_val; (focus ((try simp (disch := omega) only [simB0, ZA, reduceEqDiff, ↓reduceIte, reduceAdd, reduceLeDiff, ZV, reduceCtorEq, NK, h33, hone'.1, hone'.2]); first | with_reducible rfl | (apply s_ite; (focus omega); with_reducible rfl)))) | apply n_any | (apply e_st rfl; (iterate 4 (focus ((try simp only [simB0, ZA, reduceEqDiff, ↓reduceIte, reduceAdd, reduceLeDiff, NK, h33, hone'.1, hone'.2]); (try with_reducible rfl); done))); (focus (simp only [SO, Bool.and_self, one_encV, one_encVV, NK, h33, hone'.1, hone'.2])); (iterate 3 (focus ((try simp only [SL, reduceAdd, Nat.reduceMul, List.length_map]); first | done | omega)))))
    refine ⟨(k + 1, s'), by dsimp only; omega, Hf, H'', f1, ⟨by dsimp only; omega, ?_⟩, agrF_of (by simp (disch := omega) only [agr, ZG, reduceEqDiff, ↓reduceIte])⟩
    dsimp only
    rw [hsucc, List.map_append]
    exact f2
  rintro T H1 nx1 ⟨t0, t1, s1, hP⟩
  obtain ⟨p1, p2⟩ := repI_len (fun _ => lessS i) (fun _ => lessS_len i) n.toNat bs bad
  generalize hst : repI (fun _ => lessS i) n.toNat bs bad = st at *
  obtain ⟨F, bs1, bad1⟩ := st
  dsimp only at hP p1 p2
  refine w_seqC (fun T H1 nx1 => T 0 = .ptr 2 2 0 ∧ T 1 = .ptr 3 8 0 ∧ ∃ s, PH (mkO n r i o F) 1 (repI (fun _ => roundS n.toNat) (r + 1).toNat bs1 bad1).2.1 (repI (fun _ => roundS n.toNat) (r + 1).toNat bs1 bad1).2.2 s ((repI (fun _ => roundS n.toNat) (r + 1).toNat bs1 bad1).1.map encVV) H H1 nx1) ?_ ?_
  · obtain ⟨Hf, H2, f1, f2⟩ := hP.freeze (mk' := mkO n r i o F) (sz' := 1) (v := encVV F) (fun Hf h => h.snapV) (fun Hf h => ctF h)
    refine w_seq ?_
    refine w_ops0F Hf H2 [(0, .ptr 2 2 0), (1, .ptr 3 8 0)] f1 (agrF_of (by simp (disch := omega) only [agr, ZG, reduceEqDiff, ↓reduceIte, t0, t1])) ?_
    clear hP
    have hm2 := f2.mc
    unfold mkO at hm2
    have hr1 : r + 1 = ((r + 1).toNat : Int) := by omega
    repeat' (first | apply w_block | apply a_n | apply o_nil | (apply o_val rfl rfl; (focus ((try simp (disch := omega) only [simB0, ZA, reduceEqDiff, ↓reduceIte, reduceAdd, reduceLeDiff, ZV, reduceCtorEq, NK, hm2]); first | with_reducible rfl | (apply s_ite; (focus omega); with_reducible rfl)))) | apply w_loop)
    refine loopF (X := Nat × AV) (fun x => [(0, .ptr 2 2 0), (1, .ptr 3 8 0), (41, .int .i64 (r + 1)), (42, .int .i64 x.1)]) (fun x H1 nx1 => x.1 ≤ (r + 1).toNat ∧ PH (mkO n r i o F) 1 (repI (fun _ => roundS n.toNat) x.1 bs1 bad1).2.1 (repI (fun _ => roundS n.toNat) x.1 bs1 bad1).2.2 x.2 ((repI (fun _ => roundS n.toNat) x.1 bs1 bad1).1.map encVV) H H1 nx1) (fun x => (r + 1).toNat - x.1) (0, .esl)
      ⟨_, _, Fz.none, ⟨Nat.zero_le _, f2⟩, agrF_of (by simp (disch := omega) only [agr, ZG, reduceEqDiff, ↓reduceIte])⟩ ?_
    clear f1 f2 hm2
    rintro ⟨k, s⟩ H3 nx3 ⟨k1, hP⟩
    dsimp only at k1 hP ⊢
    obtain ⟨p3, p4⟩ := repI_len (fun _ => roundS n.toNat) (fun _ => roundS_len n.toNat) k bs1 bad1
    have hsucc := repI_succ (fun _ => roundS n.toNat) k bs1 bad1
    generalize hst2 : repI (fun _ => roundS n.toNat) k bs1 bad1 = st2 at *
    obtain ⟨O, bs2, bad2⟩ := st2
    dsimp only at hP p3 p4 hsucc
    by_cases hk : k < (r + 1).toNat
    rotate_left
    · repeat' (first | apply w_seq | apply w_ops0 | apply w_exit | apply a_n | apply a_x | apply o_nil | (apply o_val rfl rfl; (focus ((try simp (disch := omega) only [simB0, ZA, reduceEqDiff, ↓reduceIte, reduceAdd, reduceLeDiff, ZV, reduceCtorEq]); first | with_reducible rfl | (apply s_ite; (focus omega); with_reducible rfl)))) | (apply w_cond; (focus ((try simp only [simB0, ZA, reduceEqDiff, ↓reduceIte, reduceAdd, reduceLeDiff]); (try with_reducible rfl); done)); all_goals (intro _hg; (try simp only [ZB] at _hg); try first | exact absurd trivial _hg | (exfalso; omega))))
      have : k = (r + 1).toNat := by omega
      subst this
      exact ⟨by ((try simp only [simB0, ZA, reduceEqDiff, ↓reduceIte, reduceAdd, reduceLeDiff]); (try with_reducible rfl)), by ((try simp only [simB0, ZA, reduceEqDiff, ↓reduceIte, reduceAdd, reduceLeDiff]); (try with_reducible rfl)), s, by rw [hst2]; exact hP⟩
    have hm3 := hP.mc
    unfold mkO at hm3
    repeat' (first | apply w_seq | apply w_ops0 | apply w_block | apply w_skip | apply a_n | apply o_nil | (apply o_val rfl rfl; (focus ((try simp (disch := omega) only [simB0, ZA, reduceEqDiff, ↓reduceIte, reduceAdd, reduceLeDiff, ZV, reduceCtorEq, NK, hm3]); first | with_reducible rfl | (apply s_ite; (focus omega); with_reducible rfl)))) | (apply w_cond; (focus ((try simp only [simB0, ZA, reduceEqDiff, ↓reduceIte, reduceAdd, reduceLeDiff, NK, hm3]); (try with_reducible rfl); done)); all_goals (intro _hg; (try simp only [ZB] at _hg); try first | exact absurd trivial _hg | (exfalso; omega))) | apply w_loop)
    refine loopF (X := Nat × AV) (fun x => [(0, .ptr 2 2 0), (1, .ptr 3 8 0), (41, .int .i64 (r + 1)), (42, .int .i64 k), (4, x.2), (47, .int .i64 n), (48, .int .i64 x.1)]) (fun x H1 nx1 => x.1 ≤ n.toNat ∧ PL (mkO n r i o F) (repI (fun _ => outS) x.1 bs2 bad2).2.1 (repI (fun _ => outS) x.1 bs2 bad2).2.2 s (O.map encVV) x.2 ((repI (fun _ => outS) x.1 bs2 bad2).1.map encV) H H1 nx1) (fun x => n.toNat - x.1) (0, .esl)
      ⟨_, _, Fz.none, ⟨Nat.zero_le _, ⟨hP, Row.nil, fun x h => (by cases h)⟩⟩, agrF_of (by simp (disch := omega) only [agr, ZG, reduceEqDiff, ↓reduceIte])⟩ ?_
    clear hP hm3
    rintro ⟨k2, t⟩ H4 nx4 ⟨k3, hP⟩
    dsimp only at k3 hP ⊢
    obtain ⟨p5, p6⟩ := repI_len (fun _ => outS) (fun _ => outS_len) k2 bs2 bad2
    have hsucc2 := repI_succ (fun _ => outS) k2 bs2 bad2
    generalize hst3 : repI (fun _ => outS) k2 bs2 bad2 = st3 at *
    obtain ⟨l, bs3, bad3⟩ := st3
    dsimp only at hP p5 p6 hsucc2
    have honet := hP.row2.one
    by_cases hk2 : k2 < n.toNat
    rotate_left
    · have : k2 = n.toNat := by omega
      subst this
      have hm4 := hP.ph.mc
      unfold mkO at hm4
      have hones := hP.ph.row.one
      repeat' (first | apply w_seq | apply w_ops0 | apply w_exit | apply a_n | apply a_x | apply o_nil | (apply o_val rfl; (focus (first | rfl | (simp (disch := omega) only [dm2, oldP, newP, simB0, ZA, reduceEqDiff, ↓reduceIte, reduceAdd, reduceLeDiff, decide_eq_true_eq]; first | done | omega))); (focus ((try simp (disch := omega) only [simB2, ZA, reduceEqDiff, ↓reduceIte, reduceAdd, reduceLeDiff, ZV, reduceCtorEq, NK, hm4, honet.1, honet.2]); first | with_reducible rfl | (apply s_ite; (focus omega); with_reducible rfl)))) | (apply e_bld rfl; (focus (exact Nat.succ_ne_zero _)); (focus ((try simp (disch := omega) only [simB2, ZA, reduceEqDiff, ↓reduceIte, reduceAdd, reduceLeDiff, NK, hm4, honet.1, honet.2]); (try with_reducible rfl); done)); (focus ((try simp (disch := omega) only [simB2, ZA, reduceEqDiff, ↓reduceIte, reduceAdd, reduceLeDiff, SO, Bool.and_self, one_encV, one_encVV, NK, hm4, honet.1, honet.2]); (try with_reducible rfl); done))) | (apply w_cond; (focus ((try simp (disch := omega) only [simB2, ZA, reduceEqDiff, ↓reduceIte, reduceAdd, reduceLeDiff, NK, hm4, honet.1, honet.2]); (try with_reducible rfl); done)); all_goals (intro _hg; (try simp (disch := omega) only [ZB] at _hg); try first | exact absurd trivial _hg | (exfalso; omega))))
      refine e_row (k := 1) (new := [t]) rfl (by ((try simp only [simB0, ZA, reduceEqDiff, ↓reduceIte, reduceAdd, reduceLeDiff]); (try with_reducible rfl))) (hP.ph.row.same fun b hb => hupd_ne (by have := hP.ph.rlt b hb; omega)) (by ((try simp only [simB0, ZA, reduceEqDiff, ↓reduceIte, reduceAdd, reduceLeDiff]); (try with_reducible rfl))) asrc_new (by simp [AV.ones, honet.1]) rfl Nat.one_pos (by simp; omega) (by simp; omega) ?_
      rintro s' H5 nx5 hrow j1 _ j3 j4
      have hone' := hrow.one
      obtain ⟨h53, Hf, H'', f1, f2⟩ := hP.ph.push (v' := encVV l) hP.rlt2 (fun Hf hf => (hP.row2.same hf).snapV) hrow j1 j3 j4
      unfold mkO at h53
      repeat' (first | apply w_ops0 | apply a_n | apply o_nil | (apply o_val rfl rfl; (focus ((try simp (disch := omega) only [simB0, ZA, reduceEqDiff, ↓reduceIte, reduceAdd, reduceLeDiff, ZV, reduceCtorEq, NK, h53, hone'.1, hone'.2]); first | with_reducible rfl | (apply s_ite; (focus omega); with_reducible rfl)))) | (apply e_st rfl; (iterate 4 (focus ((try simp only [simB0, ZA, reduceEqDiff, ↓reduceIte, reduceAdd, reduceLeDiff, NK, h53, hone'.1, hone'.2]); (try with_reducible rfl); done))); (focus (simp only [SO, Bool.and_self, one_encV, one_encVV, NK, h53, hone'.1, hone'.2])); (iterate 3 (focus ((try simp only [SL, reduceAdd, Nat.reduceMul, List.length_map]); first | done | omega)))))
      refine ⟨(k + 1, s'), by dsimp only; omega, Hf, H'', f1, ⟨by dsimp only; omega, ?_⟩, agrF_of (by simp (disch := omega) only [agr, ZG, reduceEqDiff, ↓reduceIte])⟩
      have hst3' : roundS n.toNat bs2 bad2 = (l, bs3, bad3) := hst3
      dsimp only
      rw [hsucc, hst3', List.map_append]
      exact f2
    repeat' (first | apply w_seq | apply w_ops0 | apply w_block | apply w_skip | apply a_n | apply o_nil | (apply o_val rfl rfl; (focus ((try simp (disch := omega) only [simB0, ZA, reduceEqDiff, ↓reduceIte, reduceAdd, reduceLeDiff, ZV, reduceCtorEq]); first | with_reducible rfl | (apply s_ite; (focus omega); with_reducible rfl)))) | (apply w_cond; (focus ((try simp only [simB0, ZA, reduceEqDiff, ↓reduceIte, reduceAdd, reduceLeDiff]); (try with_reducible rfl); done)); all_goals (intro _hg; (try simp only [ZB] at _hg); try first | exact absurd trivial _hg | (exfalso; omega))))
    have hnb := nextR_bd bs3 bad3
    refine o_callE (by ((try simp only [simB0, ZA, reduceEqDiff, ↓reduceIte, reduceAdd, reduceLeDiff]); (try with_reducible rfl))) (by ((try simp only [simB0, ZA, reduceEqDiff, ↓reduceIte, reduceAdd, reduceLeDiff]); (try with_reducible rfl))) (number_f 2 bs3 bad3 H4 nx4 hP.ph.rd (by show _ ≤ _; omega)) ?_
    rintro v0 H5 nx5 ⟨rfl, rfl, rfl⟩
    have hnx4 := hP.ph.lt
    repeat' (first | (apply o_val rfl rfl; (focus ((try simp (disch := omega) only [simB0, ZA, reduceEqDiff, ↓reduceIte, reduceAdd, reduceLeDiff, ZV, reduceCtorEq]); first | with_reducible rfl | (apply s_ite; (focus omega); with_reducible rfl)))))
    refine o_callE (by ((try simp only [simB0, ZA, reduceEqDiff, ↓reduceIte, reduceAdd, reduceLeDiff]); (try with_reducible rfl))) (by ((try simp only [simB0, ZA, reduceEqDiff, ↓reduceIte, reduceAdd, reduceLeDiff]); (try with_reducible rfl))) (repeated_f 78 1 (.inr ⟨rfl, rfl⟩) 2 (nextR bs3 bad3).2.1 (nextR bs3 bad3).2.2 (nextR bs3 bad3).1 _ _ hupd_self' (by omega) (by omega) (by omega)) ?_
    rintro v H6 nx6 ⟨q1, q2, q3, q4, q5⟩
    have hP2 := hP.step (H' := H6) (nx' := nx6) q1 (fun i hi h2 => by rw [q4 i hi h2, hupd_ne h2]) q3
    have hvo := q2.one
    repeat' (first | (apply e_bld rfl; (focus (exact Nat.succ_ne_zero _)); (focus ((try simp (disch := omega) only [simB2, ZA, reduceEqDiff, ↓reduceIte, reduceAdd, reduceLeDiff, hvo.1, hvo.2]); (try with_reducible rfl); done)); (focus ((try simp (disch := omega) only [simB2, ZA, reduceEqDiff, ↓reduceIte, reduceAdd, reduceLeDiff, SO, Bool.and_self, one_encV, one_encVV, hvo.1, hvo.2]); (try with_reducible rfl); done))))
    refine e_row (k := 1) (new := [v]) rfl (by ((try simp only [simB0, ZA, reduceEqDiff, ↓reduceIte, reduceAdd, reduceLeDiff]); (try with_reducible rfl))) (hP2.row2.same fun b hb => hupd_ne (by have := hP2.rlt2 b hb; omega)) (by ((try simp only [simB0, ZA, reduceEqDiff, ↓reduceIte, reduceAdd, reduceLeDiff]); (try with_reducible rfl))) asrc_new (by simp [AV.ones, hvo.1]) rfl Nat.one_pos (by simp; omega) (by simp; omega) ?_
    rintro t' H7 nx7 hrow j1 _ j3 j4
    obtain ⟨Hf, H'', f1, f2⟩ := hP2.push (v' := encV (repS 1 (nextR bs3 bad3).1.toNat (nextR bs3 bad3).2.1 (nextR bs3 bad3).2.2).1) (fun b hb => ⟨by have := q5 b hb; omega, (q5 b hb).2, fun h => by have := q5 b hb; have := hP.ph.rlt b h; omega, fun h => by have := q5 b hb; have := hP.rlt2 b h; omega⟩) (fun Hf hf => (q2.same hf).snapI) hrow j1 j3 j4
    repeat' (first | apply w_ops0 | apply a_n | apply o_nil | (apply o_val rfl rfl; (focus ((try simp (disch := omega) only [simB0, ZA, reduceEqDiff, ↓reduceIte, reduceAdd, reduceLeDiff, ZV, reduceCtorEq]); first | with_reducible rfl | (apply s_ite; (focus omega); with_reducible rfl)))))
    refine ⟨(k2 + 1, t'), by dsimp only; omega, Hf, H'', f1, ⟨by dsimp only; omega, ?_⟩, agrF_of (by simp (disch := omega) only [agr, ZG, reduceEqDiff, ↓reduceIte])⟩
    dsimp only
    rw [hsucc2, List.map_append]
    exact f2
  clear hP t0 t1
  rintro T H1 nx1 ⟨t0, t1, s1, hP⟩
  obtain ⟨p3, p4⟩ := repI_len (fun _ => roundS n.toNat) (fun _ => roundS_len n.toNat) (r + 1).toNat bs1 bad1
  have hO := fun x => rounds_bd (x := x) (n := n.toNat) (k := (r + 1).toNat) (bs := bs1) (bad := bad1)
  generalize hst2 : repI (fun _ => roundS n.toNat) (r + 1).toNat bs1 bad1 = st at *
  obtain ⟨O, bs2, bad2⟩ := st
  dsimp only at hP p3 p4 hO
  refine w_seqC (fun T H1 nx1 => T 0 = .ptr 2 2 0 ∧ T 1 = .ptr 3 8 0 ∧ ∃ s, PH (mkS n r i o F O) 1 (repI (symS O n.toNat) r.toNat bs2 bad2).2.1 (repI (symS O n.toNat) r.toNat bs2 bad2).2.2 s ((repI (symS O n.toNat) r.toNat bs2 bad2).1.map encV3) H H1 nx1) ?_ ?_
  · obtain ⟨Hf, H2, f1, f2⟩ := hP.freeze (mk' := mkS n r i o F O) (sz' := 1) (v := encV3 O) (fun Hf h => Row_snap3 h) (fun Hf h => ctO h)
    refine w_seq ?_
    refine w_ops0F Hf H2 [(0, .ptr 2 2 0), (1, .ptr 3 8 0)] f1 (agrF_of (by simp (disch := omega) only [agr, ZG, reduceEqDiff, ↓reduceIte, t0, t1])) ?_
    clear hP
    have hm2 := f2.mc
    unfold mkS at hm2
    repeat' (first | apply w_block | apply a_n | apply o_nil | (apply o_val rfl rfl; (focus ((try simp (disch := omega) only [simB0, ZA, reduceEqDiff, ↓reduceIte, reduceAdd, reduceLeDiff, ZV, reduceCtorEq, NK, hm2]); first | with_reducible rfl | (apply s_ite; (focus omega); with_reducible rfl)))) | apply w_loop)
    refine loopF (X := Nat × AV) (fun x => [(0, .ptr 2 2 0), (1, .ptr 3 8 0), (74, .int .i64 r), (75, .int .i64 x.1)]) (fun x H1 nx1 => x.1 ≤ r.toNat ∧ PH (mkS n r i o F O) 1 (repI (symS O n.toNat) x.1 bs2 bad2).2.1 (repI (symS O n.toNat) x.1 bs2 bad2).2.2 x.2 ((repI (symS O n.toNat) x.1 bs2 bad2).1.map encV3) H H1 nx1) (fun x => r.toNat - x.1) (0, .esl)
      ⟨_, _, Fz.none, ⟨Nat.zero_le _, f2⟩, agrF_of (by simp (disch := omega) only [agr, ZG, reduceEqDiff, ↓reduceIte])⟩ ?_
    clear f1 f2 hm2
    rintro ⟨k, s⟩ H3 nx3 ⟨k1, hP⟩
    dsimp only at k1 hP ⊢
    obtain ⟨p5, p6⟩ := repI_len (symS O n.toNat) (symS_len O n.toNat) k bs2 bad2
    have hsucc := repI_succ (symS O n.toNat) k bs2 bad2
    generalize hst3 : repI (symS O n.toNat) k bs2 bad2 = st3 at *
    obtain ⟨S, bs3, bad3⟩ := st3
    dsimp only at hP p5 p6 hsucc
    by_cases hk : k < r.toNat
    rotate_left
    · repeat' (first | apply w_seq | apply w_ops0 | apply w_exit | apply a_n | apply a_x | apply o_nil | (apply o_val rfl rfl; (focus ((try simp (disch := omega) only [simB0, ZA, reduceEqDiff, ↓reduceIte, reduceAdd, reduceLeDiff, ZV, reduceCtorEq]); first | with_reducible rfl | (apply s_ite; (focus omega); with_reducible rfl)))) | (apply w_cond; (focus ((try simp only [simB0, ZA, reduceEqDiff, ↓reduceIte, reduceAdd, reduceLeDiff]); (try with_reducible rfl); done)); all_goals (intro _hg; (try simp only [ZB] at _hg); try first | exact absurd trivial _hg | (exfalso; omega))))
      have : k = r.toNat := by omega
      subst this
      exact ⟨by ((try simp only [simB0, ZA, reduceEqDiff, ↓reduceIte, reduceAdd, reduceLeDiff]); (try with_reducible rfl)), by ((try simp only [simB0, ZA, reduceEqDiff, ↓reduceIte, reduceAdd, reduceLeDiff]); (try with_reducible rfl)), s, by rw [hst3]; exact hP⟩
    obtain ⟨o1, o2⟩ := hO _ (mem_getD (l := O) (k := k) (by omega))
    have hm3 := hP.mc
    unfold mkS at hm3
    repeat' (first | apply w_seq | apply w_ops0 | apply w_block | apply w_skip | apply a_n | apply o_nil | (apply o_val rfl rfl; (focus ((try simp (disch := omega) only [simB0, ZA, reduceEqDiff, ↓reduceIte, reduceAdd, reduceLeDiff, ZV, reduceCtorEq, NK, hm3]); first | with_reducible rfl | (apply s_ite; (focus omega); with_reducible rfl)))) | (apply w_cond; (focus ((try simp only [simB0, ZA, reduceEqDiff, ↓reduceIte, reduceAdd, reduceLeDiff, NK, hm3]); (try with_reducible rfl); done)); all_goals (intro _hg; (try simp only [ZB] at _hg); try first | exact absurd trivial _hg | (exfalso; omega))) | apply w_loop)
    refine loopF (X := Nat × AV) (fun x => [(0, .ptr 2 2 0), (1, .ptr 3 8 0), (74, .int .i64 r), (75, .int .i64 k), (5, .int .i64 k), (6, x.2), (81, .int .i64 n), (82, .int .i64 x.1)]) (fun x H1 nx1 => x.1 ≤ n.toNat ∧ PL (mkS n r i o F O) (repI (sendS O n.toNat k) x.1 bs3 bad3).2.1 (repI (sendS O n.toNat k) x.1 bs3 bad3).2.2 s (S.map encV3) x.2 ((repI (sendS O n.toNat k) x.1 bs3 bad3).1.map encVV) H H1 nx1) (fun x => n.toNat - x.1) (0, .esl)
      ⟨_, _, Fz.none, ⟨Nat.zero_le _, ⟨hP, Row.nil, fun x h => (by cases h)⟩⟩, agrF_of (by simp (disch := omega) only [agr, ZG, reduceEqDiff, ↓reduceIte])⟩ ?_
    clear hP hm3
    rintro ⟨p, t⟩ H4 nx4 ⟨k3, hP⟩
    dsimp only at k3 hP ⊢
    obtain ⟨p7, p8⟩ := repI_len (sendS O n.toNat k) (sendS_len O n.toNat k) p bs3 bad3
    have hsucc2 := repI_succ (sendS O n.toNat k) p bs3 bad3
    generalize hst4 : repI (sendS O n.toNat k) p bs3 bad3 = st4 at *
    obtain ⟨l, bs4, bad4⟩ := st4
    dsimp only at hP p7 p8 hsucc2
    have honet := hP.row2.one
    have hm4 := hP.ph.mc
    unfold mkS at hm4
    by_cases hp : p < n.toNat
    rotate_left
    · have : p = n.toNat := by omega
      subst this
      repeat' (first | apply w_seq | apply w_ops0 | apply w_exit | apply a_n | apply a_x | apply o_nil | (apply o_val rfl; (focus (first | rfl | (simp (disch := omega) only [dm2, oldP, newP, simB0, ZA, reduceEqDiff, ↓reduceIte, reduceAdd, reduceLeDiff, decide_eq_true_eq]; first | done | omega))); (focus ((try simp (disch := omega) only [simB2, ZA, reduceEqDiff, ↓reduceIte, reduceAdd, reduceLeDiff, ZV, reduceCtorEq, NK, hm4, honet.1, honet.2]); first | with_reducible rfl | (apply s_ite; (focus omega); with_reducible rfl)))) | (apply e_bld rfl; (focus (exact Nat.succ_ne_zero _)); (focus ((try simp (disch := omega) only [simB2, ZA, reduceEqDiff, ↓reduceIte, reduceAdd, reduceLeDiff, NK, hm4, honet.1, honet.2]); (try with_reducible rfl); done)); (focus ((try simp (disch := omega) only [simB2, ZA, reduceEqDiff, ↓reduceIte, reduceAdd, reduceLeDiff, SO, Bool.and_self, one_encV, one_encVV, NK, hm4, honet.1, honet.2]); (try with_reducible rfl); done))) | (apply w_cond; (focus ((try simp (disch := omega) only [simB2, ZA, reduceEqDiff, ↓reduceIte, reduceAdd, reduceLeDiff, NK, hm4, honet.1, honet.2]); (try with_reducible rfl); done)); all_goals (intro _hg; (try simp (disch := omega) only [ZB] at _hg); try first | exact absurd trivial _hg | (exfalso; omega))))
      refine e_row (k := 1) (new := [t]) rfl (by ((try simp only [simB0, ZA, reduceEqDiff, ↓reduceIte, reduceAdd, reduceLeDiff]); (try with_reducible rfl))) (hP.ph.row.same fun b hb => hupd_ne (by have := hP.ph.rlt b hb; omega)) (by ((try simp only [simB0, ZA, reduceEqDiff, ↓reduceIte, reduceAdd, reduceLeDiff]); (try with_reducible rfl))) asrc_new (by simp [AV.ones, honet.1]) rfl Nat.one_pos (by simp; omega) (by simp; omega) ?_
      rintro s' H5 nx5 hrow j1 _ j3 j4
      have hone' := hrow.one
      obtain ⟨h53, Hf, H'', f1, f2⟩ := hP.ph.push (v' := encV3 l) hP.rlt2 (fun Hf hf => Row_snap3 (hP.row2.same hf)) hrow j1 j3 j4
      unfold mkS at h53
      repeat' (first | apply w_ops0 | apply a_n | apply o_nil | (apply o_val rfl rfl; (focus ((try simp (disch := omega) only [simB0, ZA, reduceEqDiff, ↓reduceIte, reduceAdd, reduceLeDiff, ZV, reduceCtorEq, NK, h53, hone'.1, hone'.2]); first | with_reducible rfl | (apply s_ite; (focus omega); with_reducible rfl)))) | (apply e_st rfl; (iterate 4 (focus ((try simp only [simB0, ZA, reduceEqDiff, ↓reduceIte, reduceAdd, reduceLeDiff, NK, h53, hone'.1, hone'.2]); (try with_reducible rfl); done))); (focus (simp only [SO, Bool.and_self, one_encV, one_encVV, NK, h53, hone'.1, hone'.2])); (iterate 3 (focus ((try simp only [SL, reduceAdd, Nat.reduceMul, List.length_map]); first | done | omega)))))
      refine ⟨(k + 1, s'), by dsimp only; omega, Hf, H'', f1, ⟨by dsimp only; omega, ?_⟩, agrF_of (by simp (disch := omega) only [agr, ZG, reduceEqDiff, ↓reduceIte])⟩
      have hst4' : symS O n.toNat k bs3 bad3 = (l, bs4, bad4) := hst4
      dsimp only
      rw [hsucc, hst4', List.map_append]
      exact f2
    repeat' (first | apply w_seq | apply w_ops0 | apply w_block | apply w_skip | apply a_n | apply o_nil | (apply o_val rfl rfl; (focus ((try simp (disch := omega) only [simB0, ZA, reduceEqDiff, ↓reduceIte, reduceAdd, reduceLeDiff, ZV, reduceCtorEq, NK, hm4]); first | with_reducible rfl | (apply s_ite; (focus omega); with_reducible rfl)))) | (apply w_cond; (focus ((try simp only [simB0, ZA, reduceEqDiff, ↓reduceIte, reduceAdd, reduceLeDiff, NK, hm4]); (try with_reducible rfl); done)); all_goals (intro _hg; (try simp only [ZB] at _hg); try first | exact absurd trivial _hg | (exfalso; omega))))
    refine e_mks rfl (by ((try simp only [simB0, ZA, reduceEqDiff, ↓reduceIte, reduceAdd, reduceLeDiff]); (try with_reducible rfl))) (by ((try simp only [simB0, ZA, reduceEqDiff, ↓reduceIte, reduceAdd, reduceLeDiff]); (try with_reducible rfl))) (by omega) (by omega) (by omega) (by omega) ?_
    have hz : zcells (.agg [.esl]) n.toNat = ([] : List (List Int)).map encV ++ List.replicate (n.toNat - 0) .esl := by
      rw [List.map_nil, List.nil_append, Nat.sub_zero]
      unfold zcells
      induction n.toNat with
      | zero => rfl
      | succ m ih => rw [List.replicate_succ, List.flatten_cons, ih]; rfl
    rw [hz, Nat.mul_one]
    have hB : PB (mkS n r i o F O) bs4 bad4 s (S.map encV3) t (l.map encVV) nx4 (([] : List (List Int)).map encV ++ List.replicate (n.toNat - 0) .esl) H (hupd H4 nx4 (([] : List (List Int)).map encV ++ List.replicate (n.toNat - 0) .esl)) (nx4 + 1) :=
      ⟨hP.step (by rw [hupd_ne (by have := hP.ph.lt; omega), hP.ph.rd]) (fun i hi _ => hupd_ne (by omega)) (by omega), hupd_self', ⟨hP.ph.lt, by omega⟩, fun h => by have := hP.ph.rlt _ h; omega, fun h => by have := hP.rlt2 _ h; omega⟩
    generalize hupd H4 nx4 (([] : List (List Int)).map encV ++ List.replicate (n.toNat - 0) .esl) = H5 at *
    clear hP hm4 hz
    have hnN : n = (n.toNat : Int) := by omega
    repeat' (first | apply w_seq | apply w_ops0 | apply w_block | apply a_n | apply o_nil | (apply o_val rfl rfl; (focus ((try simp (disch := omega) only [simB0, ZA, reduceEqDiff, ↓reduceIte, reduceAdd, reduceLeDiff, ZV, reduceCtorEq]); first | with_reducible rfl | (apply s_ite; (focus omega); with_reducible rfl)))) | apply w_loop)
    refine loopF (X := Nat) (fun q => [(0, .ptr 2 2 0), (1, .ptr 3 8 0), (74, .int .i64 r), (75, .int .i64 k), (5, .int .i64 k), (6, t), (81, .int .i64 n), (82, .int .i64 p), (7, .int .i64 p), (8, .msl nx4 n.toNat 1 0 n.toNat), (91, .int .i64 n.toNat), (92, .int .i64 q)]) (fun q H1 nx1 => q ≤ n.toNat ∧ PB (mkS n r i o F O) (repI (recvS O k p) q bs4 bad4).2.1 (repI (recvS O k p) q bs4 bad4).2.2 s (S.map encV3) t (l.map encVV) nx4 ((repI (recvS O k p) q bs4 bad4).1.map encV ++ List.replicate (n.toNat - q) AV.esl) H H1 nx1) (fun q => n.toNat - q) 0
      ⟨_, _, Fz.none, ⟨Nat.zero_le _, hB⟩, agrF_of (by simp (disch := omega) only [agr, ZG, reduceEqDiff, ↓reduceIte])⟩ ?_
    clear hB
    rintro q H6 nx6 ⟨k4, hB⟩
    obtain ⟨p9, p10⟩ := repI_len (recvS O k p) (recvS_len O k p) q bs4 bad4
    have hsucc3 := repI_succ (recvS O k p) q bs4 bad4
    generalize hst5 : repI (recvS O k p) q bs4 bad4 = st5 at *
    obtain ⟨e, bs5, bad5⟩ := st5
    dsimp only at hB p9 p10 hsucc3
    by_cases hq : q < n.toNat
    rotate_left
    · have hqn : q = n.toNat := by omega
      subst hqn
      have hBx := hB.bx
      rw [Nat.sub_self, List.replicate_zero, List.append_nil] at hBx
      have hrowB : Row H6 1 (.msl nx4 n.toNat 1 0 n.toNat) (e.map encV) := by
        have := Row.box (H := H6) (sz := 1) nx4 n.toNat (e.map encV) hBx (by simp [p9])
        rwa [Nat.mul_one] at this
      repeat' (first | apply w_seq | apply w_ops0 | apply w_exit | apply a_n | apply a_x | apply o_nil | (apply o_val rfl rfl; (focus ((try simp (disch := omega) only [simB0, ZA, reduceEqDiff, ↓reduceIte, reduceAdd, reduceLeDiff, ZV, reduceCtorEq]); first | with_reducible rfl | (apply s_ite; (focus omega); with_reducible rfl)))) | (apply e_bld rfl; (focus (exact Nat.succ_ne_zero _)); (focus ((try simp only [simB0, ZA, reduceEqDiff, ↓reduceIte, reduceAdd, reduceLeDiff]); (try with_reducible rfl); done)); (focus ((try simp only [simB0, ZA, reduceEqDiff, ↓reduceIte, reduceAdd, reduceLeDiff, SO, Bool.and_self, one_encV, one_encVV]); (try with_reducible rfl); done))) | (apply w_cond; (focus ((try simp only [simB0, ZA, reduceEqDiff, ↓reduceIte, reduceAdd, reduceLeDiff]); (try with_reducible rfl); done)); all_goals (intro _hg; (try simp only [ZB] at _hg); try first | exact absurd trivial _hg | (exfalso; omega))))
      refine e_row (k := 1) (new := [.msl nx4 n.toNat 1 0 n.toNat]) rfl (by ((try simp only [simB0, ZA, reduceEqDiff, ↓reduceIte, reduceAdd, reduceLeDiff]); (try with_reducible rfl))) (hB.pl.row2.same fun b hb => hupd_ne (by have := hB.pl.rlt2 b hb; omega)) (by ((try simp only [simB0, ZA, reduceEqDiff, ↓reduceIte, reduceAdd, reduceLeDiff]); (try with_reducible rfl))) asrc_new rfl rfl Nat.one_pos (by simp; omega) (by simp; omega) ?_
      rintro t' H7 nx7 hrow j1 _ j3 j4
      obtain ⟨Hf, H'', f1, f2⟩ := hB.pl.push (v := .msl nx4 n.toNat 1 0 n.toNat) (v' := encVV e) (fun b hb => by cases hb; exact ⟨hB.b1.1, hB.b1.2, hB.b2, hB.b3⟩) (fun Hf hf => (hrowB.same hf).snapV) hrow j1 j3 j4
      repeat' (first | apply w_ops0 | apply a_n | apply o_nil | (apply o_val rfl rfl; (focus ((try simp (disch := omega) only [simB0, ZA, reduceEqDiff, ↓reduceIte, reduceAdd, reduceLeDiff, ZV, reduceCtorEq]); first | with_reducible rfl | (apply s_ite; (focus omega); with_reducible rfl)))))
      refine ⟨(p + 1, t'), by dsimp only; omega, Hf, H'', f1, ⟨by dsimp only; omega, ?_⟩, agrF_of (by simp (disch := omega) only [agr, ZG, reduceEqDiff, ↓reduceIte])⟩
      have hst5' : sendS O n.toNat k p bs4 bad4 = (e, bs5, bad5) := hst5
      dsimp only
      rw [hsucc2, hst5', List.map_append]
      exact f2
    obtain ⟨z, hz⟩ : ∃ z, n.toNat - q = z + 1 := ⟨n.toNat - q - 1, by omega⟩
    rw [hz, List.replicate_succ] at hB
    have hz' : n.toNat - (q + 1) = z := by omega
    have helen : (e.map encV).length = q := by simp [p9]
    by_cases hpq : p = q
    · have hsame : hupd H6 nx4 (e.map encV ++ .esl :: List.replicate z .esl) = H6 := hupd_self hB.bx
      obtain ⟨Hf, H'', f1, f2⟩ := hB.put (v := .esl) (v' := encV []) (fun y hy => (by cases hy)) (fun Hf _ => snap_esl rfl)
      rw [hsame] at f1
      have dpq : decide ((p : Int) ≠ q) = false := decide_eq_false (fun h => h (by omega))
      repeat' (first | apply w_seq | apply w_ops0 | apply w_block | apply w_skip | apply a_n | apply o_nil | (apply o_val rfl rfl; (focus ((try simp (disch := omega) only [simB0, ZA, reduceEqDiff, ↓reduceIte, reduceAdd, reduceLeDiff, ZV, reduceCtorEq, dpq]); first | with_reducible rfl | (apply s_ite; (focus omega); with_reducible rfl)))) | (apply w_condF; (focus (simp only [simB0, ZA, reduceEqDiff, ↓reduceIte, reduceAdd, reduceLeDiff, dpq]; done))) | (apply w_cond; (focus ((try simp only [simB0, ZA, reduceEqDiff, ↓reduceIte, reduceAdd, reduceLeDiff, dpq]); (try with_reducible rfl); done)); all_goals (intro _hg; (try simp only [ZB] at _hg); try first | exact absurd trivial _hg | (exfalso; omega))))
      refine ⟨q + 1, by omega, Hf, H'', f1, ⟨by omega, ?_⟩, agrF_of (by simp (disch := omega) only [agr, ZG, reduceEqDiff, ↓reduceIte])⟩
      have hrec : recvS O k p q bs5 bad5 = ([], bs5, bad5) := by unfold recvS; rw [if_pos hpq]
      rw [hsucc3, hrec, hz', List.map_append, List.append_assoc]
      exact f2
    · have dpq : decide ((p : Int) ≠ q) = true := decide_eq_true (fun h => hpq (by omega))
      have hm5 := hB.pl.ph.mc
      unfold mkS at hm5
      have ho2 := o2 _ (mem_getD (l := O.getD k default) (k := p) (by omega))
      repeat' (first | apply w_seq | apply w_ops0 | apply w_block | apply w_skip | apply a_n | apply o_nil | (apply o_val rfl rfl; (focus ((try simp (disch := omega) only [simB0, ZA, reduceEqDiff, ↓reduceIte, reduceAdd, reduceLeDiff, ZV, reduceCtorEq, dpq, NK, hm5, ME]); first | with_reducible rfl | (apply s_ite; (focus omega); with_reducible rfl)))) | (apply w_condT; (focus (simp only [simB0, ZA, reduceEqDiff, ↓reduceIte, reduceAdd, reduceLeDiff, dpq, NK, hm5, ME]; done))) | (apply w_cond; (focus ((try simp only [simB0, ZA, reduceEqDiff, ↓reduceIte, reduceAdd, reduceLeDiff, dpq, NK, hm5, ME]); (try with_reducible rfl); done)); all_goals (intro _hg; (try simp only [ZB] at _hg); try first | exact absurd trivial _hg | (exfalso; omega))))
      refine o_callE (by ((try simp only [simB0, ZA, reduceEqDiff, ↓reduceIte, reduceAdd, reduceLeDiff]); (try with_reducible rfl))) (by ((try simp only [simB0, ZA, reduceEqDiff, ↓reduceIte, reduceAdd, reduceLeDiff]); (try with_reducible rfl))) (repeated_f 36 0 (.inl ⟨rfl, rfl⟩) 2 bs5 bad5 (((O.getD k default).getD p default).length : Int) _ _ hB.pl.ph.rd (by have := hB.pl.ph.lt; omega) (by omega) (by omega)) ?_
      rintro v H7 nx7 ⟨q1, q2, q3, q4, q5⟩
      have hB2 := hB.step (H' := H7) (nx' := nx7) q1 q4 q3
      have hvo := q2.one
      repeat' (first | (apply o_val rfl rfl; (focus ((try simp (disch := omega) only [simB0, ZA, reduceEqDiff, ↓reduceIte, reduceAdd, reduceLeDiff, ZV, reduceCtorEq]); first | with_reducible rfl | (apply s_ite; (focus omega); with_reducible rfl)))))
      refine e_st rfl (b := nx4) (n := n.toNat) (off := q) (by ((try simp only [simB0, ZA, reduceEqDiff, ↓reduceIte, reduceAdd, reduceLeDiff]); (try with_reducible rfl))) (by ((try simp only [simB0, ZA, reduceEqDiff, ↓reduceIte, reduceAdd, reduceLeDiff]); (try with_reducible rfl))) hB2.bx hvo.2 (by simp [AV.ones, hvo.1]) (by simp; omega) rfl (by omega) ?_
      rw [lput_mid helen]
      obtain ⟨Hf, H'', f1, f2⟩ := hB2.put (v := v) (v' := encV (repS 0 (((O.getD k default).getD p default).length : Int).toNat bs5 bad5).1) (fun y hy => ⟨by have := q5 y hy; have := hB.pl.ph.lt; omega, (q5 y hy).2, fun h => by have := q5 y hy; have := hB.b1; omega, fun h => by have := q5 y hy; have := hB.pl.ph.rlt y h; omega, fun h => by have := q5 y hy; have := hB.pl.rlt2 y h; omega⟩) (fun Hf hf => (q2.same hf).snapI)
      repeat' (first | apply w_ops0 | apply a_n | apply o_nil | (apply o_val rfl rfl; (focus ((try simp (disch := omega) only [simB0, ZA, reduceEqDiff, ↓reduceIte, reduceAdd, reduceLeDiff, ZV, reduceCtorEq]); first | with_reducible rfl | (apply s_ite; (focus omega); with_reducible rfl)))))
      refine ⟨q + 1, by omega, Hf, H'', f1, ⟨by omega, ?_⟩, agrF_of (by simp (disch := omega) only [agr, ZG, reduceEqDiff, ↓reduceIte])⟩
      have hrec : recvS O k p q bs5 bad5 = repS 0 ((O.getD k default).getD p default).length bs5 bad5 := by unfold recvS; rw [if_neg hpq]
      rw [hsucc3, hrec, hz', List.map_append, List.append_assoc]
      exact f2
  clear hP t0 t1
  rintro T H1 nx1 ⟨t0, t1, s1, hP⟩
  obtain ⟨p5, p6⟩ := repI_len (symS O n.toNat) (symS_len O n.toNat) r.toNat bs2 bad2
  generalize hst3 : repI (symS O n.toNat) r.toNat bs2 bad2 = st at *
  obtain ⟨S, bs3, bad3⟩ := st
  dsimp only at hP p5 p6
  have hfin : partsV n r i o bs bad = (⟨n, r, i, o, F, S, (pT n bs3 bad3).1, O⟩, (pT n bs3 bad3).2) := by
    unfold partsV pF pO pS
    simp only [hst, hst2, hst3]
  rw [hfin]
  dsimp only
  clear hfin hst hst2 hst3 hO
  obtain ⟨Hf, H2, f1, f2⟩ := hP.freeze (mk' := mkT n r i o F O S) (sz' := 8) (v := encV4 S) (fun Hf h => Row_snap4 h) (fun Hf h => ctS h)
  refine w_seq ?_
  refine w_ops0F Hf H2 [(0, .ptr 2 2 0), (1, .ptr 3 8 0)] f1 (agrF_of (by simp (disch := omega) only [agr, ZG, reduceEqDiff, ↓reduceIte, t0, t1])) ?_
  clear hP f1
  have hnb := nextR_bd bs3 bad3
  repeat' (first | (apply o_val rfl rfl; (focus ((try simp (disch := omega) only [simB0, ZA, reduceEqDiff, ↓reduceIte, reduceAdd, reduceLeDiff, ZV, reduceCtorEq]); first | with_reducible rfl | (apply s_ite; (focus omega); with_reducible rfl)))))
  refine o_callE (by ((try simp only [simB0, ZA, reduceEqDiff, ↓reduceIte, reduceAdd, reduceLeDiff]); (try with_reducible rfl))) (by ((try simp only [simB0, ZA, reduceEqDiff, ↓reduceIte, reduceAdd, reduceLeDiff]); (try with_reducible rfl))) (number_f 2 bs3 bad3 H2 nx1 f2.rd (by show _ ≤ _; omega)) ?_
  rintro v0 H3 nx3 ⟨rfl, rfl, rfl⟩
  have hP := f2.step (H' := hupd H2 2 [encBs (nextR bs3 bad3).2.1, .bool (nextR bs3 bad3).2.2]) (nx' := nx3) hupd_self' (fun i hi h2 => hupd_ne h2) (Nat.le_refl _)
  clear f2
  generalize hupd H2 2 [encBs (nextR bs3 bad3).2.1, .bool (nextR bs3 bad3).2.2] = H3 at *
  unfold pT
  generalize nextR bs3 bad3 = c at *
  obtain ⟨c, bs4, bad4⟩ := c
  dsimp only at hnb hP ⊢
  obtain ⟨tot, htot⟩ : ∃ tot : Nat, c = tot := ⟨c.toNat, by omega⟩
  subst htot
  rw [Int.toNat_natCast]
  repeat' (first | apply w_block | apply a_n | apply o_nil | (apply o_val rfl rfl; (focus ((try simp (disch := omega) only [simB0, ZA, reduceEqDiff, ↓reduceIte, reduceAdd, reduceLeDiff, ZV, reduceCtorEq]); first | with_reducible rfl | (apply s_ite; (focus omega); with_reducible rfl)))) | apply w_loop)
  refine loopI (X := AV × Nat × List StepV × List UInt8 × Bool) (fun x => [(0, .ptr 2 2 0), (1, .ptr 3 8 0), (10, .int .i64 x.2.1)]) (fun x H1 nx1 => x.2.2.1.length + x.2.1 ≤ tot ∧ x.2.2.2.1.length ≤ bs4.length ∧ PH (mkT n r i o F O S) 8 x.2.2.2.1 x.2.2.2.2 x.1 (x.2.2.1.flatMap StepV.cells) H H1 nx1 ∧ stepsS n.toNat tot bs4 bad4 = (x.2.2.1 ++ (stepsS n.toNat x.2.1 x.2.2.2.1 x.2.2.2.2).1, (stepsS n.toNat x.2.1 x.2.2.2.1 x.2.2.2.2).2)) (fun x => x.2.1) (.esl, tot, [], bs4, bad4)
    ⟨by simp, Nat.le_refl _, hP, rfl⟩ (by simp (disch := omega) only [agr, ZG, reduceEqDiff, ↓reduceIte]) ?_
  clear hP
  rintro ⟨s, j, D, bs5, bad5⟩ H4 nx4 ⟨k1, k2, hP, k4⟩
  dsimp only at k1 k2 hP k4 ⊢
  have hrd := hP.rd
  by_cases hgo : 0 < j ∧ bad5 = false
  rotate_left
  · have hfin : stepsS n.toNat j bs5 bad5 = ([], bs5, bad5) := by
      cases bad5 with
      | true => exact stepsS_bad _ _ _
      | false =>
        have : j = 0 := by
          rcases Nat.eq_zero_or_pos j with h | h
          · exact h
          · exact absurd ⟨h, rfl⟩ hgo
        rw [this]; rfl
    rw [hfin, List.append_nil] at k4
    rw [k4]
    by_cases hk : 0 < j
    · have hbd : bad5 = true := by simpa using fun h => hgo ⟨hk, h⟩
      subst hbd
      repeat' (first | apply w_seq | apply w_ops0 | apply w_exit | apply a_n | apply a_x | apply o_nil | (apply o_val rfl rfl; (focus ((try simp (disch := omega) only [simB0, ZA, reduceEqDiff, ↓reduceIte, reduceAdd, reduceLeDiff, ZV, reduceCtorEq, NK, hrd, Bool.false_eq_true]); first | with_reducible rfl | (apply s_ite; (focus omega); with_reducible rfl)))) | (apply o_gT; (focus (simp only [simB0, ZA, reduceEqDiff, ↓reduceIte, reduceAdd, reduceLeDiff, NK, hrd, Bool.false_eq_true]; done))) | (apply o_gB; (focus ((try simp only [simB0, ZA, reduceEqDiff, ↓reduceIte, reduceAdd, reduceLeDiff, NK, hrd, Bool.false_eq_true]); (try with_reducible rfl); done)); all_goals (intro _hg; (try simp only [ZB] at _hg); try first | exact absurd trivial _hg | (exfalso; omega))) | (apply w_condF; (focus (simp only [simB0, ZA, reduceEqDiff, ↓reduceIte, reduceAdd, reduceLeDiff, NK, hrd, Bool.false_eq_true]; done))) | (refine e_ends rfl ?_) | apply r_0)
      exact ⟨s, hP⟩
    · repeat' (first | apply w_seq | apply w_ops0 | apply w_exit | apply a_n | apply a_x | apply o_nil | (apply o_val rfl rfl; (focus ((try simp (disch := omega) only [simB0, ZA, reduceEqDiff, ↓reduceIte, reduceAdd, reduceLeDiff, ZV, reduceCtorEq, NK, hrd, Bool.false_eq_true]); first | with_reducible rfl | (apply s_ite; (focus omega); with_reducible rfl)))) | (apply o_gF; (focus (simp only [simB0, ZA, reduceEqDiff, ↓reduceIte, reduceAdd, reduceLeDiff, or_true, true_or, NK, hrd, Bool.false_eq_true]; done))) | (apply o_gB; (focus ((try simp only [simB0, ZA, reduceEqDiff, ↓reduceIte, reduceAdd, reduceLeDiff, NK, hrd, Bool.false_eq_true]); (try with_reducible rfl); done)); all_goals (intro _hg; (try simp only [ZB] at _hg); try first | exact absurd trivial _hg | (exfalso; omega))) | (apply w_condF; (focus (simp only [simB0, ZA, reduceEqDiff, ↓reduceIte, reduceAdd, reduceLeDiff, NK, hrd, Bool.false_eq_true]; done))) | (refine e_ends rfl ?_) | apply r_0)
      all_goals exact ⟨s, hP⟩
  obtain ⟨hj, rfl⟩ := hgo
  obtain ⟨z, rfl⟩ : ∃ z, j = z + 1 := ⟨j - 1, by omega⟩
  rw [stepsS_succ] at k4
  repeat' (first | apply w_seq | apply w_ops0 | apply w_block | apply w_skip | apply a_n | apply o_nil | (apply o_val rfl rfl; (focus ((try simp (disch := omega) only [simB0, ZA, reduceEqDiff, ↓reduceIte, reduceAdd, reduceLeDiff, ZV, reduceCtorEq, NK, hrd, Bool.false_eq_true]); first | with_reducible rfl | (apply s_ite; (focus omega); with_reducible rfl)))) | (apply o_gT; (focus (simp only [simB0, ZA, reduceEqDiff, ↓reduceIte, reduceAdd, reduceLeDiff, NK, hrd, Bool.false_eq_true]; done))) | (apply o_gB; (focus ((try simp only [simB0, ZA, reduceEqDiff, ↓reduceIte, reduceAdd, reduceLeDiff, NK, hrd, Bool.false_eq_true]); (try with_reducible rfl); done)); all_goals (intro _hg; (try simp only [ZB] at _hg); try first | exact absurd trivial _hg | (exfalso; omega))) | (apply w_condT; (focus (simp only [simB0, ZA, reduceEqDiff, ↓reduceIte, reduceAdd, reduceLeDiff, NK, hrd, Bool.false_eq_true]; done))))
  have hlt4 := hP.lt
  have hn1 := nextR_bd bs5 false
  refine o_callE (by ((try simp only [simB0, ZA, reduceEqDiff, ↓reduceIte, reduceAdd, reduceLeDiff]); (try with_reducible rfl))) (by ((try simp only [simB0, ZA, reduceEqDiff, ↓reduceIte, reduceAdd, reduceLeDiff]); (try with_reducible rfl))) (number_f 2 bs5 false H4 nx4 hP.rd (by show _ ≤ _; omega)) ?_
  rintro v0 H5 nx5 ⟨rfl, rfl, rfl⟩
  have hP1 := hP.step (H' := hupd H4 2 [encBs (nextR bs5 false).2.1, .bool (nextR bs5 false).2.2]) (nx' := nx5) hupd_self' (fun i hi h2 => hupd_ne h2) (Nat.le_refl _)
  have hst : stepR n.toNat bs5 false = stepR n.toNat bs5 false := rfl
  conv at hst => rhs; unfold stepR
  dsimp only at hst
  generalize hupd H4 2 [encBs (nextR bs5 false).2.1, .bool (nextR bs5 false).2.2] = H5 at *
  generalize nextR bs5 false = ra at *
  obtain ⟨a, bs6, bad6⟩ := ra
  dsimp only at hn1 hP1 hst ⊢
  repeat' (first | (apply o_val rfl rfl; (focus ((try simp (disch := omega) only [simB0, ZA, reduceEqDiff, ↓reduceIte, reduceAdd, reduceLeDiff, ZV, reduceCtorEq]); first | with_reducible rfl | (apply s_ite; (focus omega); with_reducible rfl)))))
  have hn2 := nextR_bd bs6 bad6
  refine o_callE (by ((try simp only [simB0, ZA, reduceEqDiff, ↓reduceIte, reduceAdd, reduceLeDiff]); (try with_reducible rfl))) (by ((try simp only [simB0, ZA, reduceEqDiff, ↓reduceIte, reduceAdd, reduceLeDiff]); (try with_reducible rfl))) (number_f 2 bs6 bad6 H5 nx5 hP1.rd (by show _ ≤ _; omega)) ?_
  rintro v0 H6 nx6 ⟨rfl, rfl, rfl⟩
  have hP2 := hP1.step (H' := hupd H5 2 [encBs (nextR bs6 bad6).2.1, .bool (nextR bs6 bad6).2.2]) (nx' := nx6) hupd_self' (fun i hi h2 => hupd_ne h2) (Nat.le_refl _)
  generalize hupd H5 2 [encBs (nextR bs6 bad6).2.1, .bool (nextR bs6 bad6).2.2] = H6 at *
  generalize nextR bs6 bad6 = rb at *
  obtain ⟨b, bs7, bad7⟩ := rb
  dsimp only at hn2 hP2 hst ⊢
  clear hP hP1 hrd
  repeat' (first | apply w_seq | apply w_ops0 | apply w_block | apply a_n | apply o_nil | (apply o_val rfl; (focus (first | rfl | (simp (disch := omega) only [dm2, oldP, newP, simB0, ZA, reduceEqDiff, ↓reduceIte, reduceAdd, reduceLeDiff, decide_eq_true_eq]; first | done | omega))); (focus ((try simp (disch := omega) only [simB2, ZA, reduceEqDiff, ↓reduceIte, reduceAdd, reduceLeDiff, ZV, reduceCtorEq]); first | with_reducible rfl | (apply s_ite; (focus omega); with_reducible rfl)))) | (apply e_alloc rfl; (focus ((try simp (disch := omega) only [simB2, ZA, reduceEqDiff, ↓reduceIte, reduceAdd, reduceLeDiff]); (try with_reducible rfl); done)); (focus (simp (disch := omega) only [SO, Bool.and_self, one_encV, one_encVV]))) | (apply e_st; (focus (first | rfl | (simp (disch := omega) only [dm2, oldP, newP, simB0, ZA, reduceEqDiff, ↓reduceIte, reduceAdd, reduceLeDiff, decide_eq_true_eq]; first | done | omega))); (iterate 4 (focus ((try simp (disch := omega) only [simB2, ZA, reduceEqDiff, ↓reduceIte, reduceAdd, reduceLeDiff]); (try with_reducible rfl); done))); (focus (simp (disch := omega) only [SO, Bool.and_self, one_encV, one_encVV])); (iterate 3 (focus ((try simp (disch := omega) only [SL, reduceAdd, Nat.reduceMul, List.length_map]); first | done | omega)))) | apply w_loop)
  have hX : PX (mkT n r i o F O S) 8 bs7 bad7 s (D.flatMap StepV.cells) nx6 ((.int .i64 a :: .int .i64 b :: ([] : List Int).map (AV.int .i64)) ++ ((List.replicate (5 - 0) (0 : Int)).map (AV.int .i64) ++ [.int .i64 0])) H (hupd (hupd H6 nx6 [.int .i64 0, .int .i64 0, .int .i64 0, .int .i64 0, .int .i64 0, .int .i64 0, .int .i64 0, .int .i64 0]) nx6 ((.int .i64 a :: .int .i64 b :: ([] : List Int).map (AV.int .i64)) ++ ((List.replicate (5 - 0) (0 : Int)).map (AV.int .i64) ++ [.int .i64 0]))) (nx6 + 1) := by
    have h1 := hP2.step (H' := hupd H6 nx6 [.int .i64 0, .int .i64 0, .int .i64 0, .int .i64 0, .int .i64 0, .int .i64 0, .int .i64 0, .int .i64 0]) (nx' := nx6 + 1) (by rw [hupd_ne (by omega)]; exact hP2.rd) (fun i hi h2 => hupd_ne (by omega)) (by omega)
    exact PX.set ⟨h1, hupd_self', ⟨hP2.lt, by omega⟩, fun h => by have := hP2.rlt _ h; omega⟩
  refine loopI (X := Nat) (fun q => [(0, .ptr 2 2 0), (1, .ptr 3 8 0), (10, .int .i64 ((z + 1 : Nat) : Int)), (11, .ptr nx6 8 0), (151, .int .i64 q)]) (fun q H1 nx1 => q ≤ 5 ∧ PX (mkT n r i o F O S) 8 (repI (heardS n.toNat) q bs7 bad7).2.1 (repI (heardS n.toNat) q bs7 bad7).2.2 s (D.flatMap StepV.cells) nx6 ((.int .i64 a :: .int .i64 b :: (repI (heardS n.toNat) q bs7 bad7).1.map (AV.int .i64)) ++ ((List.replicate (5 - q) (0 : Int)).map (AV.int .i64) ++ [AV.int .i64 0])) H H1 nx1) (fun q => 5 - q) 0
    ⟨by omega, hX⟩ (by simp (disch := omega) only [agr, ZG, reduceEqDiff, ↓reduceIte, List.length_cons, List.length_nil, reduceAdd]) ?_
  clear hX hP2
  rintro q H7 nx7 ⟨u1, hX⟩
  obtain ⟨p9, p10⟩ := repI_len (heardS n.toNat) (heardS_len n.toNat) q bs7 bad7
  have hsucc := repI_succ (heardS n.toNat) q bs7 bad7
  generalize hst5 : repI (heardS n.toNat) q bs7 bad7 = st5 at *
  obtain ⟨e, bs8, bad8⟩ := st5
  dsimp only at hX p9 p10 hsucc
  by_cases hq : q < 5
  rotate_left
  · have : q = 5 := by omega
    subst this
    rw [hst5] at hst
    dsimp only at hst
    repeat' (first | apply w_seq | apply w_ops0 | apply w_exit | apply a_n | apply a_x | apply o_nil | (apply o_val rfl rfl; (focus ((try simp (disch := omega) only [simB0, ZA, reduceEqDiff, ↓reduceIte, reduceAdd, reduceLeDiff, ZV, reduceCtorEq]); first | with_reducible rfl | (apply s_ite; (focus omega); with_reducible rfl)))) | (apply w_cond; (focus ((try simp only [simB0, ZA, reduceEqDiff, ↓reduceIte, reduceAdd, reduceLeDiff]); (try with_reducible rfl); done)); all_goals (intro _hg; (try simp only [ZB] at _hg); try first | exact absurd trivial _hg | (exfalso; omega))))
    refine o_callE (by ((try simp only [simB0, ZA, reduceEqDiff, ↓reduceIte, reduceAdd, reduceLeDiff]); (try with_reducible rfl))) (by ((try simp only [simB0, ZA, reduceEqDiff, ↓reduceIte, reduceAdd, reduceLeDiff]); (try with_reducible rfl))) (number_f 2 bs8 bad8 H7 nx7 hX.ph.rd (by show _ ≤ _; omega)) ?_
    rintro v0 H8 nx8 ⟨rfl, rfl, rfl⟩
    have hn3 := nextR_bd bs8 bad8
    have hX2 := hX.step (H' := hupd H7 2 [encBs (nextR bs8 bad8).2.1, .bool (nextR bs8 bad8).2.2]) (nx' := nx8) hupd_self' (fun i hi h2 => hupd_ne h2) (Nat.le_refl _)
    generalize hupd H7 2 [encBs (nextR bs8 bad8).2.1, .bool (nextR bs8 bad8).2.2] = H8 at *
    generalize nextR bs8 bad8 = rt at *
    obtain ⟨tt, bs9, bad9⟩ := rt
    dsimp only at hn3 hX2 hst ⊢
    rw [Nat.sub_self, List.replicate_zero, List.map_nil, List.nil_append] at hX2
    clear hX
    obtain ⟨h0, h1, h2, h3, h4, rfl⟩ : ∃ h0 h1 h2 h3 h4, e = [h0, h1, h2, h3, h4] := by
      match e, p9 with
      | [h0, h1, h2, h3, h4], _ => exact ⟨_, _, _, _, _, rfl⟩
    have hX3 := hX2.set (es' := (⟨a, b, h0, h1, h2, h3, h4, tt⟩ : StepV).cells)
    have hbx := hX2.bx
    simp only [List.map_cons, List.map_nil, List.cons_append, List.nil_append] at hbx
    repeat' (first | (apply o_val rfl rfl; (focus ((try simp (disch := omega) only [simB0, ZA, reduceEqDiff, ↓reduceIte, reduceAdd, reduceLeDiff, ZV, reduceCtorEq]); first | with_reducible rfl | (apply s_ite; (focus omega); with_reducible rfl)))))
    refine e_st rfl (b := nx6) (n := 8) (off := 7) (vs := [.int .i64 tt]) (by ((try simp only [simB0, ZA, reduceEqDiff, ↓reduceIte, reduceAdd, reduceLeDiff]); (try with_reducible rfl))) (by ((try simp only [simB0, ZA, reduceEqDiff, ↓reduceIte, reduceAdd, reduceLeDiff]); (try with_reducible rfl))) hbx rfl rfl rfl rfl (by omega) ?_
    have hl8 : lput [.int .i64 a, .int .i64 b, .int .i64 h0, .int .i64 h1, .int .i64 h2, .int .i64 h3, .int .i64 h4, .int .i64 0] 7 [.int .i64 tt] = (⟨a, b, h0, h1, h2, h3, h4, tt⟩ : StepV).cells := rfl
    rw [hl8]
    clear hbx hl8
    generalize hupd H8 nx6 (⟨a, b, h0, h1, h2, h3, h4, tt⟩ : StepV).cells = H9 at *
    have hst' : stepR n.toNat bs5 false = (⟨a, b, h0, h1, h2, h3, h4, tt⟩, bs9, bad9) := hst
    have hbx := hX3.bx
    unfold StepV.cells at hbx
    have hm9 := hX3.ph.mc
    unfold mkT at hm9
    have hone := hX3.ph.row.one
    repeat' (first | apply w_ops1 | apply a_n | apply o_nil | (apply o_val rfl rfl; (focus ((try simp (disch := omega) only [simB0, ZA, reduceEqDiff, ↓reduceIte, reduceAdd, reduceLeDiff, ZV, reduceCtorEq, NK, hm9, hbx, acells]); first | with_reducible rfl | (apply s_ite; (focus omega); with_reducible rfl)))) | (apply e_bld rfl; (focus (exact Nat.succ_ne_zero _)); (focus ((try simp only [simB0, ZA, reduceEqDiff, ↓reduceIte, reduceAdd, reduceLeDiff, NK, hm9, hbx, acells]); (try with_reducible rfl); done)); (focus ((try simp only [simB0, ZA, reduceEqDiff, ↓reduceIte, reduceAdd, reduceLeDiff, SO, Bool.and_self, one_encV, one_encVV, NK, hm9, hbx, acells]); (try with_reducible rfl); done))))
    have hDl := flat_cells D
    refine e_row (k := 1) (new := (⟨a, b, h0, h1, h2, h3, h4, tt⟩ : StepV).cells) rfl (by ((try simp only [simB0, ZA, reduceEqDiff, ↓reduceIte, reduceAdd, reduceLeDiff]); (try with_reducible rfl))) (hX3.ph.row.same fun b hb => hupd_ne (by have := hX3.ph.rlt b hb; omega)) (xv := .msl nx8 8 8 0 1) (by ((try simp only [simB0, ZA, reduceEqDiff, ↓reduceIte, reduceAdd, reduceLeDiff]); (try with_reducible rfl))) (asrc_msl (sz := 8) (b := nx8) (n := 8) (off := 0) (len := 1) (cs := (⟨a, b, h0, h1, h2, h3, h4, tt⟩ : StepV).cells) hupd_self' rfl (by omega)) rfl rfl (by omega) (by omega) (by omega) ?_
    rintro s' H10 nx10 hrow j1 _ j3 j4
    have hone' := hrow.one
    have hlow : ∀ x, x < 4 → H10 x = H9 x := fun x hx => by
      have := hX3.ph.lt
      rw [j3 x (by omega) (fun h => by have := hX3.ph.rlt x h; omega), hupd_ne (by omega)]
    have h10 := hX3.ph.mc
    rw [← hlow 3 (by omega)] at h10
    unfold mkT at h10
    repeat' (first | apply w_ops0 | apply a_n | apply o_nil | (apply o_val rfl rfl; (focus ((try simp (disch := omega) only [simB0, ZA, reduceEqDiff, ↓reduceIte, reduceAdd, reduceLeDiff, ZV, reduceCtorEq, NK, h10, hone'.1, hone'.2]); first | with_reducible rfl | (apply s_ite; (focus omega); with_reducible rfl)))) | (apply e_st rfl; (iterate 4 (focus ((try simp only [simB0, ZA, reduceEqDiff, ↓reduceIte, reduceAdd, reduceLeDiff, NK, h10, hone'.1, hone'.2]); (try with_reducible rfl); done))); (focus (simp only [SO, Bool.and_self, one_encV, one_encVV, NK, h10, hone'.1, hone'.2])); (iterate 3 (focus ((try simp only [SL, reduceAdd, Nat.reduceMul, List.length_map]); first | done | omega)))))
    have hrlt : ∀ x, rowB s' = some x → 4 ≤ x ∧ x < nx10 := fun x hx => by
      have := hX3.ph.lt
      rcases j4 x hx with h | h
      · have := hX3.ph.rlt x h; omega
      · omega
    have hlt8 := hX3.ph.lt
    refine ⟨(s', z, D ++ [⟨a, b, h0, h1, h2, h3, h4, tt⟩], bs9, bad9), by dsimp only; omega, ⟨?_, ?_, ⟨?_, ?_, ?_, hrlt, by omega, fun x hx => ?_⟩, ?_⟩, by simp (disch := omega) only [agr, ZG, reduceEqDiff, ↓reduceIte, Int.add_sub_cancel]⟩
    · simp only [List.length_append, List.length_singleton]; omega
    · dsimp only; omega
    · rw [hupd_ne (by omega), hlow 2 (by omega), hX3.ph.rd]
    · rw [hupd_self']; rfl
    · dsimp only
      rw [List.flatMap_append, List.flatMap_cons, List.flatMap_nil, List.append_nil]
      exact hrow.same fun x hx => hupd_ne (by have := hrlt x hx; omega)
    · rw [hupd_ne (by omega), hlow x (by omega), hX3.ph.fr x hx]
    · dsimp only
      rw [k4, hst', List.append_assoc]
      rfl
  obtain ⟨y, hy⟩ : ∃ y, 5 - q = y + 1 := ⟨4 - q, by omega⟩
  have hy' : 5 - (q + 1) = y := by omega
  rw [hy, List.replicate_succ, List.map_cons, List.cons_append (a := AV.int .i64 0)] at hX
  have hb1 := hX.b1
  repeat' (first | apply w_seq | apply w_ops0 | apply w_block | apply w_skip | apply a_n | apply o_nil | (apply o_val rfl rfl; (focus ((try simp (disch := omega) only [simB0, ZA, reduceEqDiff, ↓reduceIte, reduceAdd, reduceLeDiff, ZV, reduceCtorEq]); first | with_reducible rfl | (apply s_ite; (focus omega); with_reducible rfl)))) | (apply w_cond; (focus ((try simp only [simB0, ZA, reduceEqDiff, ↓reduceIte, reduceAdd, reduceLeDiff]); (try with_reducible rfl); done)); all_goals (intro _hg; (try simp only [ZB] at _hg); try first | exact absurd trivial _hg | (exfalso; omega))))
  refine o_val rfl rfl (ixaA_ptr (by ((try simp only [simB0, ZA, reduceEqDiff, ↓reduceIte, reduceAdd, reduceLeDiff]); (try with_reducible rfl))) (by ((try simp only [simB0, ZA, reduceEqDiff, ↓reduceIte, reduceAdd, reduceLeDiff]); (try with_reducible rfl))) hq) ?_
  refine e_st rfl (b := nx6) (n := 8) (off := 2 + q * 1) (vs := [.int .i64 (-1)]) (by ((try simp only [simB0, ZA, reduceEqDiff, ↓reduceIte, reduceAdd, reduceLeDiff]); (try with_reducible rfl))) (by ((try simp only [simB0, ZA, reduceEqDiff, ↓reduceIte, reduceAdd, reduceLeDiff]); (try with_reducible rfl))) hX.bx rfl rfl (by simp; omega) rfl (by omega) ?_
  rw [lput_mid (by simp; omega)]
  have hX2 := hX.set (es' := (.int .i64 a :: .int .i64 b :: e.map (AV.int .i64)) ++ .int .i64 (-1) :: ((List.replicate y (0 : Int)).map (AV.int .i64) ++ [.int .i64 0]))
  clear hX
  generalize hupd H7 nx6 ((.int .i64 a :: .int .i64 b :: e.map (AV.int .i64)) ++ .int .i64 (-1) :: ((List.replicate y (0 : Int)).map (AV.int .i64) ++ [.int .i64 0])) = H8 at *
  have hm8 := hX2.ph.mc
  unfold mkT at hm8
  by_cases hqn : q < n.toNat
  · repeat' (first | apply w_seq | apply w_ops0 | apply a_n | apply o_nil | (apply o_val rfl rfl; (focus ((try simp (disch := omega) only [simB0, ZA, reduceEqDiff, ↓reduceIte, reduceAdd, reduceLeDiff, ZV, reduceCtorEq, NK, hm8]); first | with_reducible rfl | (apply s_ite; (focus omega); with_reducible rfl)))) | (apply w_cond; (focus ((try simp only [simB0, ZA, reduceEqDiff, ↓reduceIte, reduceAdd, reduceLeDiff, NK, hm8]); (try with_reducible rfl); done)); all_goals (intro _hg; (try simp only [ZB] at _hg); try first | exact absurd trivial _hg | (exfalso; omega))))
    refine o_callE (by ((try simp only [simB0, ZA, reduceEqDiff, ↓reduceIte, reduceAdd, reduceLeDiff]); (try with_reducible rfl))) (by ((try simp only [simB0, ZA, reduceEqDiff, ↓reduceIte, reduceAdd, reduceLeDiff]); (try with_reducible rfl))) (less_f 2 bs8 bad8 H8 nx7 hX2.ph.rd (by show _ ≤ _; omega)) ?_
    rintro v0 H9 nx9 ⟨rfl, rfl, rfl⟩
    have hX3 := hX2.step (H' := hupd H8 2 [encBs (nextR bs8 bad8).2.1, .bool (nextR bs8 bad8).2.2]) (nx' := nx9) hupd_self' (fun i hi h2 => hupd_ne h2) (Nat.le_refl _)
    clear hX2
    repeat' (first | (apply o_val rfl rfl; (focus ((try simp (disch := omega) only [simB0, ZA, reduceEqDiff, ↓reduceIte, reduceAdd, reduceLeDiff, ZV, reduceCtorEq]); first | with_reducible rfl | (apply s_ite; (focus omega); with_reducible rfl)))))
    refine o_val rfl rfl (ixaA_ptr (by ((try simp only [simB0, ZA, reduceEqDiff, ↓reduceIte, reduceAdd, reduceLeDiff]); (try with_reducible rfl))) (by ((try simp only [simB0, ZA, reduceEqDiff, ↓reduceIte, reduceAdd, reduceLeDiff]); (try with_reducible rfl))) hq) ?_
    refine e_st rfl (b := nx6) (n := 8) (off := 2 + q * 1) (vs := [.int .i64 ((nextR bs8 bad8).1 - 1)]) (by ((try simp only [simB0, ZA, reduceEqDiff, ↓reduceIte, reduceAdd, reduceLeDiff]); (try with_reducible rfl))) (by ((try simp only [simB0, ZA, reduceEqDiff, ↓reduceIte, reduceAdd, reduceLeDiff]); (try with_reducible rfl))) hX3.bx rfl rfl (by simp; omega) rfl (by omega) ?_
    rw [lput_mid (by simp; omega)]
    have hX4 := hX3.set (es' := (.int .i64 a :: .int .i64 b :: e.map (AV.int .i64)) ++ .int .i64 ((nextR bs8 bad8).1 - 1) :: ((List.replicate y (0 : Int)).map (AV.int .i64) ++ [.int .i64 0]))
    repeat' (first | apply w_ops0 | apply a_n | apply o_nil | (apply o_val rfl rfl; (focus ((try simp (disch := omega) only [simB0, ZA, reduceEqDiff, ↓reduceIte, reduceAdd, reduceLeDiff, ZV, reduceCtorEq]); first | with_reducible rfl | (apply s_ite; (focus omega); with_reducible rfl)))))
    refine ⟨q + 1, by omega, ⟨by omega, ?_⟩, by simp (disch := omega) only [agr, ZG, reduceEqDiff, ↓reduceIte]⟩
    have hrec : heardS n.toNat q bs8 bad8 = ((nextR bs8 bad8).1 - 1, (nextR bs8 bad8).2) := by unfold heardS; rw [if_pos hqn]
    rw [hsucc, hrec, hy']
    simpa using hX4
  · repeat' (first | apply w_seq | apply w_ops0 | apply w_skip | apply a_n | apply o_nil | (apply o_val rfl rfl; (focus ((try simp (disch := omega) only [simB0, ZA, reduceEqDiff, ↓reduceIte, reduceAdd, reduceLeDiff, ZV, reduceCtorEq, NK, hm8]); first | with_reducible rfl | (apply s_ite; (focus omega); with_reducible rfl)))) | (apply w_cond; (focus ((try simp only [simB0, ZA, reduceEqDiff, ↓reduceIte, reduceAdd, reduceLeDiff, NK, hm8]); (try with_reducible rfl); done)); all_goals (intro _hg; (try simp only [ZB] at _hg); try first | exact absurd trivial _hg | (exfalso; omega))))
    refine ⟨q + 1, by omega, ⟨by omega, ?_⟩, by simp (disch := omega) only [agr, ZG, reduceEqDiff, ↓reduceIte]⟩
    have hrec : heardS n.toNat q bs8 bad8 = (-1, bs8, bad8) := by unfold heardS; rw [if_neg hqn]
    rw [hsucc, hrec, hy']
    simpa using hX2

end Go.Proofs.Ytpbjhjkfobapeaa

/- Q23: contracts of functions and plain laws; for all inputs that the theorems name. -/
namespace Go.Proofs.Ytpbjhjkfobapeaa
open Go Go.Abs
open Nat (reduceEqDiff reduceAdd reduceLeDiff)

theorem sh_of {α : Type} {l : List α} {b : Nat} (h : l.length ≤ b) (hb : b ≤ 1000000000) : Sh l := by
  show _ ≤ _
  omega
theorem stepsS_len (n : Nat) : ∀ (k : Nat) (bs : List UInt8) (bad : Bool), (stepsS n k bs bad).1.length ≤ k
  | 0, bs, bad => Nat.le_refl _
  | k + 1, bs, true => Nat.zero_le _
  | k + 1, bs, false => by
    rw [stepsS_succ]
    have := stepsS_len n k (stepR n bs false).2.1 (stepR n bs false).2.2
    simp only [List.length_cons]; omega
theorem recvS_bd (O : List (List (List Int))) (k p q : Nat) (bs : List UInt8) (bad : Bool) : (recvS O k p q bs bad).1.length ≤ bs.length + 1 := by
  unfold recvS
  split
  · simp
  · exact (repS_len 0 _ bs bad).1
theorem parts_sh (n r i o : Int) (bs : List UInt8) (bad : Bool) (hl : bs.length ≤ 100000) (hn : 0 ≤ n ∧ n ≤ 5) (hr : 0 ≤ r ∧ r ≤ 6) : ShM (partsV n r i o bs bad).1 := by
  unfold partsV
  dsimp only
  have f1 := repI_len (fun _ => lessS i) (fun _ => lessS_len i) n.toNat bs bad
  have f2 := repI_mem (fun _ => lessS i) (fun _ => lessS_len i) n.toNat bs bad
  change (pF n i bs bad).1.length = n.toNat ∧ (pF n i bs bad).2.1.length ≤ bs.length at f1
  change ∀ x, x ∈ (pF n i bs bad).1 → _ at f2
  generalize pF n i bs bad = F at *
  obtain ⟨F, b1, d1⟩ := F
  dsimp only at f1 f2 ⊢
  have o1 := repI_len (fun _ => roundS n.toNat) (fun _ => roundS_len n.toNat) (r + 1).toNat b1 d1
  have o2 := fun x => rounds_bd (x := x) (n := n.toNat) (k := (r + 1).toNat) (bs := b1) (bad := d1)
  change (pO n r b1 d1).1.length = _ ∧ (pO n r b1 d1).2.1.length ≤ _ at o1
  change ∀ x, x ∈ (pO n r b1 d1).1 → _ at o2
  generalize pO n r b1 d1 = O at *
  obtain ⟨O, b2, d2⟩ := O
  dsimp only at o1 o2 ⊢
  have s1 := repI_len (symS O n.toNat) (symS_len O n.toNat) r.toNat b2 d2
  have s2 := repI_mem (symS O n.toNat) (symS_len O n.toNat) r.toNat b2 d2
  change (pS n r O b2 d2).1.length = _ ∧ (pS n r O b2 d2).2.1.length ≤ _ at s1
  change ∀ x, x ∈ (pS n r O b2 d2).1 → _ at s2
  generalize pS n r O b2 d2 = S at *
  obtain ⟨S, b3, d3⟩ := S
  dsimp only at s1 s2 ⊢
  have t1 := stepsS_len n.toNat (nextR b3 d3).1.toNat (nextR b3 d3).2.1 (nextR b3 d3).2.2
  have t2 := nextR_bd b3 d3
  refine ⟨sh_of (b := 5) (by show F.length ≤ _; omega) (by omega), fun l hl' => ?_, sh_of (b := 7) (by show O.length ≤ _; omega) (by omega), fun l hl' => ?_, fun l hl' x hx => ?_, fun l hl' x hx => ?_, sh_of (b := 6) (by show S.length ≤ _; omega) (by omega), fun l hl' => ?_, fun l hl' x hx => ?_, fun l hl' x hx y hy => ?_, sh_of (b := 268435456) (by show (stepsS _ _ _ _).1.length ≤ _; omega) (by omega)⟩
  · obtain ⟨j, c, d, h1, rfl⟩ := f2 l hl'
    have := (repS_len 1 i.toNat c d).1
    exact sh_of (b := 100001) (by show (repS 1 i.toNat c d).1.length ≤ _; omega) (by omega)
  · exact sh_of (b := 5) (by have := (o2 l hl').1; omega) (by omega)
  · exact sh_of (b := 100001) (by have := (o2 l hl').2 x hx; omega) (by omega)
  · have := (o2 l hl').2 x hx; omega
  · obtain ⟨j, c, d, h1, rfl⟩ := s2 l hl'
    have := (repI_len (sendS O n.toNat j) (sendS_len O n.toNat j) n.toNat c d).1
    exact sh_of (b := 5) (by show (repI (sendS O n.toNat j) n.toNat c d).1.length ≤ _; omega) (by omega)
  · obtain ⟨j, c, d, h1, rfl⟩ := s2 l hl'
    obtain ⟨j2, c2, d2', h2, rfl⟩ := repI_mem (sendS O n.toNat j) (sendS_len O n.toNat j) n.toNat c d x hx
    have := (repI_len (recvS O j j2) (recvS_len O j j2) n.toNat c2 d2').1
    exact sh_of (b := 5) (by show (repI (recvS O j j2) n.toNat c2 d2').1.length ≤ _; omega) (by omega)
  · obtain ⟨j, c, d, h1, rfl⟩ := s2 l hl'
    obtain ⟨j2, c2, d2', h2, rfl⟩ := repI_mem (sendS O n.toNat j) (sendS_len O n.toNat j) n.toNat c d x hx
    obtain ⟨j3, c3, d3', h3, rfl⟩ := repI_mem (recvS O j j2) (recvS_len O j j2) n.toNat c2 d2' y hy
    have := recvS_bd O j j2 j3 c3 d3'
    exact sh_of (b := 100001) (by omega) (by omega)

def zM : MachV := ⟨0, 0, 0, 0, [], [], [], []⟩
def readM (R : List UInt8) : MachV × List UInt8 × Bool :=
  let a := nextR R false
  let b := nextR a.2.1 a.2.2
  let c := nextR b.2.1 b.2.2
  let d := nextR c.2.1 c.2.2
  if d.2.2 = true ∨ 5 < a.1 ∨ 6 < b.1 ∨ 8 < c.1 then (zM, [], true) else partsV a.1 b.1 c.1 d.1 d.2.1 d.2.2
def parseB (l : List UInt8) : MachV × Int :=
  if 65536 < l.length then (zM, 13) else if rightB l = true then
    (let m := readM ((l.take (l.length - 2)).drop 4)
     if m.2.2 = true ∨ chkM m.1 ≠ 0 ∨ writtenB m.1 ≠ l then (zM, 3) else (m.1, 0))
  else (zM, 24)
theorem zM_snap {H : Hp} : SnapL H [.int .i64 0, .int .i64 0, .int .i64 0, .int .i64 0, .esl, .esl, .esl, .esl] zM.cells :=
  snapL_cons (.int _ _) (snapL_cons (.int _ _) (snapL_cons (.int _ _) (snapL_cons (.int _ _) (snapL_cons (.eslsl 1) (snapL_cons (.eslsl 1) (snapL_cons (.eslsl 8) (snapL_cons (.eslsl 1) snapL_nil)))))))
theorem zM_res {H : Hp} {e : Int} : Snap H (.tup [.agg [.int .i64 0, .int .i64 0, .int .i64 0, .int .i64 0, .esl, .esl, .esl, .esl], .int .i64 e]) (.tup [encM zM, .int .i64 e]) := snap_tup (snapL_cons (snap_agg zM_snap) (snapL_cons (.int _ _) snapL_nil))
theorem str_ne2 {a b : List UInt8} {tb tf : Bool} : abin2 .neq tb tf (encS a) (encS b) = some (.bool (decide (a ≠ b))) := by
  rw [str_ne]
  congr 2
  by_cases h : a = b <;> simp [h]
theorem nextR_nil : nextR [] false = (0, [], true) := rfl
theorem nextR_bad (bs : List UInt8) : nextR bs true = (0, bs, true) := rfl
theorem ctT {n r i o : Int} {F : List (List Int)} {O : List (List (List Int))} {S : List (List (List (List Int)))} {s v : AV} {Hf : Hp} (h : Snap Hf s v) : CellsTo Hf (mkT n r i o F O S s) (mkT n r i o F O S v) :=
  CellsTo.cons (.inl rfl) (CellsTo.cons (.inl rfl) (CellsTo.cons (.inl rfl) (CellsTo.cons (.inl rfl) (CellsTo.cons (.inl rfl) (CellsTo.cons (.inl rfl) (CellsTo.cons (.inr h) (CellsTo.refl _ _)))))))
theorem Row_steps {H : Hp} {s : AV} {l : List StepV} (h : Row H 8 s (l.flatMap StepV.cells)) : Snap H s (encSteps l) := by
  refine Row.snap (elems := l.map encStep) (by simp only [List.flatMap_map]; exact h) (fun y hy => ?_) (by omega) (fun y hy c hc => ?_)
  · simp only [List.mem_map] at hy; obtain ⟨s, _, rfl⟩ := hy; rfl
  · simp only [List.mem_map] at hy; obtain ⟨s, _, rfl⟩ := hy; exact step_dat s c hc
attribute [local irreducible] awp2 aops2 ains aloop athen bbind obind gbind acond res1 Go.Abs.Fn PCall Go.Abs.Pure SnapArgs SnapL Yl

theorem parse_c (l : List UInt8) (hl : Sh l) : Pure Try.prog 21 [encS l] (.tup [encM (parseB l).1, .int .i64 (parseB l).2]) := by
  refine Pure.of_c2 follows is21 (Nat.le_of_ble_eq_true rfl) ?_
  simp only [b21, O, G, N, M, D, F, B2, cFal, cTru]
  have ho := opened_c l hl
  have hl' : l.length ≤ 9223372036854775807 := hl
  by_cases hlong : 65536 < l.length
  · have e : parseB l = (zM, 13) := by unfold parseB; rw [if_pos hlong]
    rw [e]
    repeat' (first | apply w_seq | apply w_ops0 | apply w_ret | apply a_n | apply a_r | apply o_nil | (apply o_val rfl rfl; (focus ((try simp (disch := omega) only [simB0, ZA, reduceEqDiff, ↓reduceIte, reduceAdd, reduceLeDiff, ZV, reduceCtorEq, alenStr_encS, acells]); first | with_reducible rfl | (apply s_ite; (focus omega); with_reducible rfl)))) | (apply e_alloc rfl; (focus ((try simp only [simB0, ZA, reduceEqDiff, ↓reduceIte, reduceAdd, reduceLeDiff, alenStr_encS, acells]); (try with_reducible rfl); done)); (focus (simp only [SO, Bool.and_self, one_encV, one_encVV, alenStr_encS, acells]))) | (apply e_st rfl; (iterate 4 (focus ((try simp only [simB0, ZA, reduceEqDiff, ↓reduceIte, reduceAdd, reduceLeDiff, alenStr_encS, acells]); (try with_reducible rfl); done))); (focus (simp only [SO, Bool.and_self, one_encV, one_encVV, alenStr_encS, acells])); (iterate 3 (focus ((try simp only [SL, reduceAdd, Nat.reduceMul, List.length_map]); first | done | omega)))) | (apply w_cond; (focus ((try simp only [simB0, ZA, reduceEqDiff, ↓reduceIte, reduceAdd, reduceLeDiff, alenStr_encS, acells]); (try with_reducible rfl); done)); all_goals (intro _hg; (try simp only [ZB] at _hg); try first | exact absurd trivial _hg | (exfalso; omega))) | (refine e_ends rfl ?_) | (apply r_2; (iterate 2 (focus (simp only [rv, simB0, ZA, reduceEqDiff, ↓reduceIte, reduceAdd, reduceLeDiff, alenStr_encS, acells]; with_reducible rfl)))))
    all_goals exact zM_res
  by_cases hr : rightB l = true
  rotate_left
  · have e : parseB l = (zM, 24) := by unfold parseB; rw [if_neg hlong, if_neg hr]
    rw [e]
    unfold openedB at ho
    rw [if_neg hr] at ho
    repeat' (first | apply w_seq | apply w_ops0 | apply w_skip | apply w_ret | apply a_n | apply a_r | apply o_nil | (apply o_val rfl rfl; (focus ((try simp (disch := omega) only [simB0, ZA, reduceEqDiff, ↓reduceIte, reduceAdd, reduceLeDiff, ZV, reduceCtorEq, alenStr_encS, acells]); first | with_reducible rfl | (apply s_ite; (focus omega); with_reducible rfl)))) | (apply o_callD; (iterate 2 (focus ((try simp only [simB0, ZA, reduceEqDiff, ↓reduceIte, reduceAdd, reduceLeDiff, alenStr_encS, acells]); (try with_reducible rfl); done))); (focus (first | (exact ho))); (focus ((first | refine snap_plain ?_ rfl | apply snap_data); repeat' (first | exact snapL_nil | apply snapL_i | apply snapL_dat | exact encS_dat _)))) | (apply e_alloc rfl; (focus ((try simp only [simB0, ZA, reduceEqDiff, ↓reduceIte, reduceAdd, reduceLeDiff, alenStr_encS, acells]); (try with_reducible rfl); done)); (focus (simp only [SO, Bool.and_self, one_encV, one_encVV, alenStr_encS, acells]))) | (apply e_st rfl; (iterate 4 (focus ((try simp only [simB0, ZA, reduceEqDiff, ↓reduceIte, reduceAdd, reduceLeDiff, alenStr_encS, acells]); (try with_reducible rfl); done))); (focus (simp only [SO, Bool.and_self, one_encV, one_encVV, alenStr_encS, acells])); (iterate 3 (focus ((try simp only [SL, reduceAdd, Nat.reduceMul, List.length_map]); first | done | omega)))) | (apply w_cond; (focus ((try simp only [simB0, ZA, reduceEqDiff, ↓reduceIte, reduceAdd, reduceLeDiff, alenStr_encS, acells]); (try with_reducible rfl); done)); all_goals (intro _hg; (try simp only [ZB] at _hg); try first | exact absurd trivial _hg | (exfalso; omega))) | (refine e_ends rfl ?_) | (apply r_2; (iterate 2 (focus (simp only [rv, simB0, ZA, reduceEqDiff, ↓reduceIte, reduceAdd, reduceLeDiff, alenStr_encS, acells]; with_reducible rfl)))))
    all_goals exact zM_res
  unfold openedB at ho
  rw [if_pos hr] at ho
  have h6 : 6 ≤ l.length := by
    unfold rightB at hr
    simp only [Bool.and_eq_true, decide_eq_true_eq] at hr
    exact hr.1
  have e : parseB l = (let m := readM ((l.take (l.length - 2)).drop 4); if m.2.2 = true ∨ chkM m.1 ≠ 0 ∨ writtenB m.1 ≠ l then (zM, 3) else (m.1, 0)) := by unfold parseB; rw [if_neg hlong, if_pos hr]
  rw [e]
  clear e
  have hLl : (l.take (l.length - 2)).length = l.length - 2 := by rw [List.length_take]; omega
  generalize hL : l.take (l.length - 2) = L at *
  have x1 : aslstr (encS L) (some (.int .i64 4)) none = some (encS (L.drop 4)) := aslstr_lo (k := 4) (by omega)
  have e3 : (L.drop 4).length = l.length - 6 := by rw [List.length_drop]; omega
  generalize hR : L.drop 4 = R at *
  have hzs : ∀ x ∈ ([] : List AV), Dat x := DatL.nil
  repeat' (first | apply w_seq | apply w_ops0 | apply w_skip | apply a_n | apply o_nil | (apply o_val rfl rfl; (focus ((try simp (disch := omega) only [simB0, ZA, reduceEqDiff, ↓reduceIte, reduceAdd, reduceLeDiff, ZV, reduceCtorEq, alenStr_encS, acells, x1]); first | with_reducible rfl | (apply s_ite; (focus omega); with_reducible rfl)))) | (apply o_callD; (iterate 2 (focus ((try simp only [simB0, ZA, reduceEqDiff, ↓reduceIte, reduceAdd, reduceLeDiff, alenStr_encS, acells, x1]); (try with_reducible rfl); done))); (focus (first | (exact ho))); (focus ((first | refine snap_plain ?_ rfl | apply snap_data); repeat' (first | exact snapL_nil | apply snapL_i | apply snapL_dat | exact encS_dat _)))) | (apply e_alloc rfl; (focus ((try simp only [simB0, ZA, reduceEqDiff, ↓reduceIte, reduceAdd, reduceLeDiff, alenStr_encS, acells, x1]); (try with_reducible rfl); done)); (focus (simp only [SO, Bool.and_self, one_encV, one_encVV, alenStr_encS, acells, x1]))) | (apply w_cond; (focus ((try simp only [simB0, ZA, reduceEqDiff, ↓reduceIte, reduceAdd, reduceLeDiff, alenStr_encS, acells, x1]); (try with_reducible rfl); done)); all_goals (intro _hg; (try simp only [ZB] at _hg); try first | exact absurd trivial _hg | (exfalso; omega))))
  refine o_s2b (bs := ⟨R.toArray⟩) (by ((try simp only [simB0, ZA, reduceEqDiff, ↓reduceIte, reduceAdd, reduceLeDiff]); (try with_reducible rfl)); rfl) (fun hz => ?_) (fun hnz => ?_)
  · have hRn : R = [] := by
      rw [encS_size] at hz
      exact List.length_eq_zero_iff.1 hz
    subst hRn
    have em : readM [] = (zM, [], true) := rfl
    rw [em]
    dsimp only
    rw [if_pos (.inl rfl)]
    repeat' (first | apply w_seq | apply w_ops0 | apply a_n | apply o_nil | (apply o_val rfl rfl; (focus ((try simp (disch := omega) only [simB0, ZA, reduceEqDiff, ↓reduceIte, reduceAdd, reduceLeDiff, ZV, reduceCtorEq]); first | with_reducible rfl | (apply s_ite; (focus omega); with_reducible rfl)))) | (apply e_box rfl; (iterate 2 (focus ((try simp only [simB0, ZA, reduceEqDiff, ↓reduceIte, reduceAdd, reduceLeDiff]); (try with_reducible rfl); done))); (focus (simp only [SO, Bool.and_self, one_encV, one_encVV]))))
    refine o_callE (by ((try simp only [simB0, ZA, reduceEqDiff, ↓reduceIte, reduceAdd, reduceLeDiff]); (try with_reducible rfl))) (by ((try simp only [simB0, ZA, reduceEqDiff, ↓reduceIte, reduceAdd, reduceLeDiff]); (try with_reducible rfl))) (number_f 1 [] false _ _ (by ((try simp only [simB0, ZA, reduceEqDiff, ↓reduceIte, reduceAdd, reduceLeDiff]); (try with_reducible rfl)); rfl) (by show _ ≤ _; simp)) ?_
    rintro v0 H2 nx2 ⟨rfl, rfl, rfl⟩
    rw [nextR_nil]
    repeat' (first | (apply o_val rfl rfl; (focus ((try simp (disch := omega) only [simB0, ZA, reduceEqDiff, ↓reduceIte, reduceAdd, reduceLeDiff, ZV, reduceCtorEq]); first | with_reducible rfl | (apply s_ite; (focus omega); with_reducible rfl)))))
    refine o_callE (by ((try simp only [simB0, ZA, reduceEqDiff, ↓reduceIte, reduceAdd, reduceLeDiff]); (try with_reducible rfl))) (by ((try simp only [simB0, ZA, reduceEqDiff, ↓reduceIte, reduceAdd, reduceLeDiff]); (try with_reducible rfl))) (number_f 1 [] true _ _ hupd_self' (by show _ ≤ _; simp)) ?_
    rintro v0 H2 nx2 ⟨rfl, rfl, rfl⟩
    rw [nextR_bad]
    repeat' (first | (apply o_val rfl rfl; (focus ((try simp (disch := omega) only [simB0, ZA, reduceEqDiff, ↓reduceIte, reduceAdd, reduceLeDiff, ZV, reduceCtorEq]); first | with_reducible rfl | (apply s_ite; (focus omega); with_reducible rfl)))))
    refine o_callE (by ((try simp only [simB0, ZA, reduceEqDiff, ↓reduceIte, reduceAdd, reduceLeDiff]); (try with_reducible rfl))) (by ((try simp only [simB0, ZA, reduceEqDiff, ↓reduceIte, reduceAdd, reduceLeDiff]); (try with_reducible rfl))) (number_f 1 [] true _ _ hupd_self' (by show _ ≤ _; simp)) ?_
    rintro v0 H2 nx2 ⟨rfl, rfl, rfl⟩
    rw [nextR_bad]
    repeat' (first | (apply o_val rfl rfl; (focus ((try simp (disch := omega) only [simB0, ZA, reduceEqDiff, ↓reduceIte, reduceAdd, reduceLeDiff, ZV, reduceCtorEq]); first | with_reducible rfl | (apply s_ite; (focus omega); with_reducible rfl)))))
    refine o_callE (by ((try simp only [simB0, ZA, reduceEqDiff, ↓reduceIte, reduceAdd, reduceLeDiff]); (try with_reducible rfl))) (by ((try simp only [simB0, ZA, reduceEqDiff, ↓reduceIte, reduceAdd, reduceLeDiff]); (try with_reducible rfl))) (number_f 1 [] true _ _ hupd_self' (by show _ ≤ _; simp)) ?_
    rintro v0 H2 nx2 ⟨rfl, rfl, rfl⟩
    rw [nextR_bad]
    repeat' (first | apply w_seq | apply w_ops0 | apply w_ret | apply a_n | apply a_r | apply o_nil | (apply o_val rfl rfl; (focus ((try simp (disch := omega) only [simB0, ZA, reduceEqDiff, ↓reduceIte, reduceAdd, reduceLeDiff, ZV, reduceCtorEq, NK, acells]); first | with_reducible rfl | (apply s_ite; (focus omega); with_reducible rfl)))) | (apply e_alloc rfl; (focus ((try simp only [simB0, ZA, reduceEqDiff, ↓reduceIte, reduceAdd, reduceLeDiff, NK, acells]); (try with_reducible rfl); done)); (focus (simp only [SO, Bool.and_self, one_encV, one_encVV, NK, acells]))) | (apply e_st rfl; (iterate 4 (focus ((try simp only [simB0, ZA, reduceEqDiff, ↓reduceIte, reduceAdd, reduceLeDiff, NK, acells]); (try with_reducible rfl); done))); (focus (simp only [SO, Bool.and_self, one_encV, one_encVV, NK, acells])); (iterate 3 (focus ((try simp only [SL, reduceAdd, Nat.reduceMul, List.length_map]); first | done | omega)))) | (apply o_gF; (focus (simp only [simB0, ZA, reduceEqDiff, ↓reduceIte, reduceAdd, reduceLeDiff, or_true, true_or, NK, acells]; done))) | (apply w_condT; (focus (simp only [simB0, ZA, reduceEqDiff, ↓reduceIte, reduceAdd, reduceLeDiff, NK, acells]; done))) | (refine e_ends rfl ?_) | (apply r_2; (iterate 2 (focus (simp only [rv, simB0, ZA, reduceEqDiff, ↓reduceIte, reduceAdd, reduceLeDiff, NK, acells]; with_reducible rfl)))))
    exact zM_res
  repeat' (first | apply a_n | apply o_nil | (apply o_val rfl rfl; (focus ((try simp (disch := omega) only [simB0, ZA, reduceEqDiff, ↓reduceIte, reduceAdd, reduceLeDiff, ZV, reduceCtorEq, encS_size, encS_data]); first | with_reducible rfl | (apply s_ite; (focus omega); with_reducible rfl)))) | (apply e_box rfl; (iterate 2 (focus ((try simp only [simB0, ZA, reduceEqDiff, ↓reduceIte, reduceAdd, reduceLeDiff, encS_size, encS_data]); (try with_reducible rfl); done))); (focus (simp only [SO, Bool.and_self, one_encV, one_encVV, encS_size, encS_data]))))
  refine w_seq ?_
  refine w_ops0F (only 1 (R.map encB)) _ [(0, encS l), (2, .ptr 0 8 0), (6, .ptr 2 2 0)] (Fz.bytes (b := 1) (c := 2) (n := R.length) (len := R.length) (by ((try simp only [simB0, ZA, reduceEqDiff, ↓reduceIte, reduceAdd, reduceLeDiff]); (try with_reducible rfl))) (by ((try simp only [simB0, ZA, reduceEqDiff, ↓reduceIte, reduceAdd, reduceLeDiff]); (try with_reducible rfl))) (by omega) rfl rfl) ⟨.inl (by ((try simp only [simB0, ZA, reduceEqDiff, ↓reduceIte, reduceAdd, reduceLeDiff]); (try with_reducible rfl))), .inl (by ((try simp only [simB0, ZA, reduceEqDiff, ↓reduceIte, reduceAdd, reduceLeDiff]); (try with_reducible rfl))), .inl (by ((try simp only [simB0, ZA, reduceEqDiff, ↓reduceIte, reduceAdd, reduceLeDiff]); (try with_reducible rfl))), trivial⟩ ?_
  repeat' (first | (apply o_val rfl rfl; (focus ((try simp (disch := omega) only [simB0, ZA, reduceEqDiff, ↓reduceIte, reduceAdd, reduceLeDiff, ZV, reduceCtorEq]); first | with_reducible rfl | (apply s_ite; (focus omega); with_reducible rfl)))))
  have hrd : readM R = readM R := rfl
  conv at hrd => rhs; unfold readM
  dsimp only at hrd
  rw [hrd]
  clear hrd
  generalize hH : hupd (hdel _ _) _ _ = K0
  have q2 : K0 2 = some [encBs R, .bool false] := by rw [← hH]; rfl
  have q0 : K0 0 = some [.int .i64 0, .int .i64 0, .int .i64 0, .int .i64 0, .esl, .esl, .esl, .esl] := by rw [← hH]; rfl
  clear hH
  have hrd := ()
  have hn1 := nextR_bd R false
  refine o_callE (by ((try simp only [simB0, ZA, reduceEqDiff, ↓reduceIte, reduceAdd, reduceLeDiff]); (try with_reducible rfl))) (by ((try simp only [simB0, ZA, reduceEqDiff, ↓reduceIte, reduceAdd, reduceLeDiff]); (try with_reducible rfl))) (number_f 2 R false K0 _ q2 (by show _ ≤ _; omega)) ?_
  rintro v0 H2 nx2 ⟨rfl, rfl, rfl⟩
  clear q2
  have q2 : hupd K0 2 [encBs (nextR R false).2.1, .bool (nextR R false).2.2] 2 = some [encBs (nextR R false).2.1, .bool (nextR R false).2.2] := hupd_self'
  rw [← hupd_ne (H := K0) (b := 2) (x := 0) (cs := [encBs (nextR R false).2.1, .bool (nextR R false).2.2]) (by omega)] at q0
  generalize hupd K0 2 [encBs (nextR R false).2.1, .bool (nextR R false).2.2] = K1 at *
  generalize nextR R false = ra at *
  obtain ⟨a, R1, d1⟩ := ra
  dsimp only at hn1 q2 ⊢
  repeat' (first | (apply o_val rfl rfl; (focus ((try simp (disch := omega) only [simB0, ZA, reduceEqDiff, ↓reduceIte, reduceAdd, reduceLeDiff, ZV, reduceCtorEq]); first | with_reducible rfl | (apply s_ite; (focus omega); with_reducible rfl)))))
  have hn2 := nextR_bd R1 d1
  refine o_callE (by ((try simp only [simB0, ZA, reduceEqDiff, ↓reduceIte, reduceAdd, reduceLeDiff]); (try with_reducible rfl))) (by ((try simp only [simB0, ZA, reduceEqDiff, ↓reduceIte, reduceAdd, reduceLeDiff]); (try with_reducible rfl))) (number_f 2 R1 d1 K1 _ q2 (by show _ ≤ _; omega)) ?_
  rintro v0 H2 nx2 ⟨rfl, rfl, rfl⟩
  clear q2
  have q2 : hupd K1 2 [encBs (nextR R1 d1).2.1, .bool (nextR R1 d1).2.2] 2 = some [encBs (nextR R1 d1).2.1, .bool (nextR R1 d1).2.2] := hupd_self'
  rw [← hupd_ne (H := K1) (b := 2) (x := 0) (cs := [encBs (nextR R1 d1).2.1, .bool (nextR R1 d1).2.2]) (by omega)] at q0
  generalize hupd K1 2 [encBs (nextR R1 d1).2.1, .bool (nextR R1 d1).2.2] = K2 at *
  generalize nextR R1 d1 = ra at *
  obtain ⟨b, R2, d2⟩ := ra
  dsimp only at hn2 q2 ⊢
  repeat' (first | (apply o_val rfl rfl; (focus ((try simp (disch := omega) only [simB0, ZA, reduceEqDiff, ↓reduceIte, reduceAdd, reduceLeDiff, ZV, reduceCtorEq]); first | with_reducible rfl | (apply s_ite; (focus omega); with_reducible rfl)))))
  have hn3 := nextR_bd R2 d2
  refine o_callE (by ((try simp only [simB0, ZA, reduceEqDiff, ↓reduceIte, reduceAdd, reduceLeDiff]); (try with_reducible rfl))) (by ((try simp only [simB0, ZA, reduceEqDiff, ↓reduceIte, reduceAdd, reduceLeDiff]); (try with_reducible rfl))) (number_f 2 R2 d2 K2 _ q2 (by show _ ≤ _; omega)) ?_
  rintro v0 H2 nx2 ⟨rfl, rfl, rfl⟩
  clear q2
  have q2 : hupd K2 2 [encBs (nextR R2 d2).2.1, .bool (nextR R2 d2).2.2] 2 = some [encBs (nextR R2 d2).2.1, .bool (nextR R2 d2).2.2] := hupd_self'
  rw [← hupd_ne (H := K2) (b := 2) (x := 0) (cs := [encBs (nextR R2 d2).2.1, .bool (nextR R2 d2).2.2]) (by omega)] at q0
  generalize hupd K2 2 [encBs (nextR R2 d2).2.1, .bool (nextR R2 d2).2.2] = K3 at *
  generalize nextR R2 d2 = ra at *
  obtain ⟨c, R3, d3⟩ := ra
  dsimp only at hn3 q2 ⊢
  repeat' (first | (apply o_val rfl rfl; (focus ((try simp (disch := omega) only [simB0, ZA, reduceEqDiff, ↓reduceIte, reduceAdd, reduceLeDiff, ZV, reduceCtorEq]); first | with_reducible rfl | (apply s_ite; (focus omega); with_reducible rfl)))))
  have hn4 := nextR_bd R3 d3
  refine o_callE (by ((try simp only [simB0, ZA, reduceEqDiff, ↓reduceIte, reduceAdd, reduceLeDiff]); (try with_reducible rfl))) (by ((try simp only [simB0, ZA, reduceEqDiff, ↓reduceIte, reduceAdd, reduceLeDiff]); (try with_reducible rfl))) (number_f 2 R3 d3 K3 _ q2 (by show _ ≤ _; omega)) ?_
  rintro v0 H2 nx2 ⟨rfl, rfl, rfl⟩
  clear q2
  have q2 : hupd K3 2 [encBs (nextR R3 d3).2.1, .bool (nextR R3 d3).2.2] 2 = some [encBs (nextR R3 d3).2.1, .bool (nextR R3 d3).2.2] := hupd_self'
  rw [← hupd_ne (H := K3) (b := 2) (x := 0) (cs := [encBs (nextR R3 d3).2.1, .bool (nextR R3 d3).2.2]) (by omega)] at q0
  generalize hupd K3 2 [encBs (nextR R3 d3).2.1, .bool (nextR R3 d3).2.2] = K4 at *
  generalize nextR R3 d3 = ra at *
  obtain ⟨d, R4, d4⟩ := ra
  dsimp only at hn4 q2 ⊢
  repeat' (first | apply a_n | apply o_nil | (apply o_val rfl rfl; (focus ((try simp (disch := omega) only [simB0, ZA, reduceEqDiff, ↓reduceIte, reduceAdd, reduceLeDiff, ZV, reduceCtorEq]); first | with_reducible rfl | (apply s_ite; (focus omega); with_reducible rfl)))) | (apply e_alloc rfl; (focus ((try simp only [simB0, ZA, reduceEqDiff, ↓reduceIte, reduceAdd, reduceLeDiff]); (try with_reducible rfl); done)); (focus (simp only [SO, Bool.and_self, one_encV, one_encVV]))) | (apply e_st rfl; (iterate 4 (focus ((try simp only [simB0, ZA, reduceEqDiff, ↓reduceIte, reduceAdd, reduceLeDiff]); (try with_reducible rfl); done))); (focus (simp only [SO, Bool.and_self, one_encV, one_encVV])); (iterate 3 (focus ((try simp only [SL, reduceAdd, Nat.reduceMul, List.length_map]); first | done | omega)))))
  generalize hH : hupd (hupd _ _ _) _ _ = K5
  have p2 : K5 2 = some [encBs R4, .bool d4] := by rw [← hH, hupd_ne (by omega), hupd_ne (by omega), q2]
  have p0 : K5 0 = some [.int .i64 0, .int .i64 0, .int .i64 0, .int .i64 0, .esl, .esl, .esl, .esl] := by rw [← hH, hupd_ne (by omega), hupd_ne (by omega), q0]
  have p3 : K5 3 = some [.int .i64 a, .int .i64 b, .int .i64 c, .int .i64 d, .esl, .esl, .esl, .esl] := by rw [← hH, hupd_self']; rfl
  clear hH q0 q2
  by_cases hbad : d4 = true ∨ 5 < a ∨ 6 < b ∨ 8 < c
  · rw [if_pos hbad]
    dsimp only
    rw [if_pos (.inl rfl)]
    cases d4 with
    | true =>
      repeat' (first | apply w_seq | apply w_ops0 | apply w_ret | apply a_n | apply a_r | apply o_nil | (apply o_val rfl rfl; (focus ((try simp (disch := omega) only [simB0, ZA, reduceEqDiff, ↓reduceIte, reduceAdd, reduceLeDiff, ZV, reduceCtorEq, NK, p2, p3, p0, acells]); first | with_reducible rfl | (apply s_ite; (focus omega); with_reducible rfl)))) | (apply e_st rfl; (iterate 4 (focus ((try simp only [simB0, ZA, reduceEqDiff, ↓reduceIte, reduceAdd, reduceLeDiff, NK, p2, p3, p0, acells]); (try with_reducible rfl); done))); (focus (simp only [SO, Bool.and_self, one_encV, one_encVV, NK, p2, p3, p0, acells])); (iterate 3 (focus ((try simp only [SL, reduceAdd, Nat.reduceMul, List.length_map]); first | done | omega)))) | (apply o_gF; (focus (simp only [simB0, ZA, reduceEqDiff, ↓reduceIte, reduceAdd, reduceLeDiff, or_true, true_or, NK, p2, p3, p0, acells]; done))) | (apply w_condT; (focus (simp only [simB0, ZA, reduceEqDiff, ↓reduceIte, reduceAdd, reduceLeDiff, NK, p2, p3, p0, acells]; done))) | (refine e_ends rfl ?_) | (apply r_2; (iterate 2 (focus (simp only [rv, simB0, ZA, reduceEqDiff, ↓reduceIte, reduceAdd, reduceLeDiff, NK, p2, p3, p0, acells]; with_reducible rfl)))))
      all_goals exact zM_res
    | false =>
      have hb2 : 5 < a ∨ 6 < b ∨ 8 < c := by simpa using hbad
      repeat' (first | apply w_seq | apply w_ops0 | apply w_ret | apply a_n | apply a_r | apply o_nil | (apply o_val rfl rfl; (focus ((try simp (disch := omega) only [simB0, ZA, reduceEqDiff, ↓reduceIte, reduceAdd, reduceLeDiff, ZV, reduceCtorEq, NK, p2, p3, p0, acells, Bool.false_eq_true]); first | with_reducible rfl | (apply s_ite; (focus omega); with_reducible rfl)))) | (apply e_st rfl; (iterate 4 (focus ((try simp only [simB0, ZA, reduceEqDiff, ↓reduceIte, reduceAdd, reduceLeDiff, NK, p2, p3, p0, acells, Bool.false_eq_true]); (try with_reducible rfl); done))); (focus (simp only [SO, Bool.and_self, one_encV, one_encVV, NK, p2, p3, p0, acells, Bool.false_eq_true])); (iterate 3 (focus ((try simp only [SL, reduceAdd, Nat.reduceMul, List.length_map]); first | done | omega)))) | (apply o_gT; (focus (simp only [simB0, ZA, reduceEqDiff, ↓reduceIte, reduceAdd, reduceLeDiff, NK, p2, p3, p0, acells, Bool.false_eq_true]; done))) | (apply o_gF; (focus (simp only [simB0, ZA, reduceEqDiff, ↓reduceIte, reduceAdd, reduceLeDiff, or_true, true_or, NK, p2, p3, p0, acells, Bool.false_eq_true]; done))) | (apply w_condT; (focus (simp only [simB0, ZA, reduceEqDiff, ↓reduceIte, reduceAdd, reduceLeDiff, NK, p2, p3, p0, acells, Bool.false_eq_true]; done))) | ((first | apply o_gB | apply w_cond); (focus ((try simp only [simB0, ZA, reduceEqDiff, ↓reduceIte, reduceAdd, reduceLeDiff, NK, p2, p3, p0, acells, Bool.false_eq_true]); (try with_reducible rfl); done)); all_goals (intro _hg; (try simp only [ZB] at _hg); try first | exact absurd trivial _hg | (exfalso; omega))) | (refine e_ends rfl ?_) | (apply r_2; (iterate 2 (focus (simp only [rv, simB0, ZA, reduceEqDiff, ↓reduceIte, reduceAdd, reduceLeDiff, NK, p2, p3, p0, acells, Bool.false_eq_true]; with_reducible rfl)))))
      all_goals exact zM_res
  rw [if_neg hbad]
  have hd4 : d4 = false := by
    cases d4 with
    | true => exact absurd (.inl rfl) hbad
    | false => rfl
  subst hd4
  have hb2 : ¬ (5 < a ∨ 6 < b ∨ 8 < c) := fun h => hbad (.inr h)
  refine w_seq ?_
  refine w_seq ?_
  repeat' (first | apply w_ops0 | apply w_skip | apply a_n | apply o_nil | (apply o_val rfl rfl; (focus ((try simp (disch := omega) only [simB0, ZA, reduceEqDiff, ↓reduceIte, reduceAdd, reduceLeDiff, ZV, reduceCtorEq, NK, p2, p3, p0, acells, Bool.false_eq_true]); first | with_reducible rfl | (apply s_ite; (focus omega); with_reducible rfl)))) | (apply o_gT; (focus (simp only [simB0, ZA, reduceEqDiff, ↓reduceIte, reduceAdd, reduceLeDiff, NK, p2, p3, p0, acells, Bool.false_eq_true]; done))) | ((first | apply o_gB | apply w_cond); (focus ((try simp only [simB0, ZA, reduceEqDiff, ↓reduceIte, reduceAdd, reduceLeDiff, NK, p2, p3, p0, acells, Bool.false_eq_true]); (try with_reducible rfl); done)); all_goals (intro _hg; (try simp only [ZB] at _hg); try first | exact absurd trivial _hg | (exfalso; omega))))
  refine w_seq ?_
  repeat' (first | apply w_ops0 | (apply o_val rfl rfl; (focus ((try simp (disch := omega) only [simB0, ZA, reduceEqDiff, ↓reduceIte, reduceAdd, reduceLeDiff, ZV, reduceCtorEq]); first | with_reducible rfl | (apply s_ite; (focus omega); with_reducible rfl)))))
  refine o_callE (by ((try simp only [simB0, ZA, reduceEqDiff, ↓reduceIte, reduceAdd, reduceLeDiff]); (try with_reducible rfl))) (by ((try simp only [simB0, ZA, reduceEqDiff, ↓reduceIte, reduceAdd, reduceLeDiff]); (try with_reducible rfl))) (parts_f a b c d R4 false K5 _ p2 p3 (by omega) (by omega) (by omega) (by omega) (by omega)) ?_
  rintro v K6 nx6 ⟨s, hP⟩
  repeat' (first | apply a_n | apply o_nil)
  have hsh := parts_sh a b c d R4 false (by omega) (by omega) (by omega)
  have hmc : (partsV a b c d R4 false).1.cells = mkT a b c d (partsV a b c d R4 false).1.first (partsV a b c d R4 false).1.out (partsV a b c d R4 false).1.symbols (encSteps (partsV a b c d R4 false).1.steps) := rfl
  generalize partsV a b c d R4 false = M at *
  obtain ⟨m, R5, d5⟩ := M
  dsimp only at hP hsh hmc ⊢
  obtain ⟨Hf, H7, f1, f2⟩ := hP.freeze (mk' := fun _ => m.cells) (sz' := 1) (v := encSteps m.steps) (fun Hf h => Row_steps h) (fun Hf h => by rw [hmc]; exact ctT h)
  refine w_seq ?_
  refine w_seq ?_
  refine w_ops0F Hf H7 [(0, encS l), (2, .ptr 0 8 0), (6, .ptr 2 2 0), (7, .ptr 3 8 0)] f1 ⟨.inl (by ((try simp only [simB0, ZA, reduceEqDiff, ↓reduceIte, reduceAdd, reduceLeDiff]); (try with_reducible rfl))), .inl (by ((try simp only [simB0, ZA, reduceEqDiff, ↓reduceIte, reduceAdd, reduceLeDiff]); (try with_reducible rfl))), .inl (by ((try simp only [simB0, ZA, reduceEqDiff, ↓reduceIte, reduceAdd, reduceLeDiff]); (try with_reducible rfl))), .inl (by ((try simp only [simB0, ZA, reduceEqDiff, ↓reduceIte, reduceAdd, reduceLeDiff]); (try with_reducible rfl))), trivial⟩ ?_
  have g2 := f2.rd
  have g3 := f2.mc
  have g0 := f2.fr 0 (by omega)
  rw [p0] at g0
  have em := encM_dat m
  have hck := check_c m hsh
  clear f1 hP hmc
  by_cases hd5 : d5 = true
  · rw [if_pos (.inl hd5)]
    subst hd5
    unfold MachV.cells at g3
    repeat' (first | apply w_seq | apply w_ops0 | apply w_ret | apply a_n | apply a_r | apply o_nil | (apply o_val rfl rfl; (focus ((try simp (disch := omega) only [simB0, ZA, reduceEqDiff, ↓reduceIte, reduceAdd, reduceLeDiff, ZV, reduceCtorEq, NK, g2, g3, g0, acells]); first | with_reducible rfl | (apply s_ite; (focus omega); with_reducible rfl)))) | (apply e_st rfl; (iterate 4 (focus ((try simp only [simB0, ZA, reduceEqDiff, ↓reduceIte, reduceAdd, reduceLeDiff, NK, g2, g3, g0, acells]); (try with_reducible rfl); done))); (focus (simp only [SO, Bool.and_self, one_encV, one_encVV, NK, g2, g3, g0, acells])); (iterate 3 (focus ((try simp only [SL, reduceAdd, Nat.reduceMul, List.length_map]); first | done | omega)))) | (apply o_gF; (focus (simp only [simB0, ZA, reduceEqDiff, ↓reduceIte, reduceAdd, reduceLeDiff, or_true, true_or, NK, g2, g3, g0, acells]; done))) | (apply w_condT; (focus (simp only [simB0, ZA, reduceEqDiff, ↓reduceIte, reduceAdd, reduceLeDiff, NK, g2, g3, g0, acells]; done))) | (refine e_ends rfl ?_) | (apply r_2; (iterate 2 (focus (simp only [rv, simB0, ZA, reduceEqDiff, ↓reduceIte, reduceAdd, reduceLeDiff, NK, g2, g3, g0, acells]; with_reducible rfl)))))
    all_goals exact zM_res
  have hd5' : d5 = false := by simpa using hd5
  subst hd5'
  by_cases hc0 : chkM m = 0
  rotate_left
  · rw [if_pos (.inr (.inl hc0))]
    have dk : decide (chkM m ≠ 0) = true := decide_eq_true hc0
    unfold encM MachV.cells at em hck
    unfold MachV.cells at g3
    repeat' (first | apply w_seq | apply w_ops0 | apply w_ret | apply a_n | apply a_r | apply o_nil | (apply o_val rfl rfl; (focus ((try simp (disch := omega) only [simB0, ZA, reduceEqDiff, ↓reduceIte, reduceAdd, reduceLeDiff, ZV, reduceCtorEq, NK, g2, g3, g0, acells, Bool.false_eq_true, dk, ME]); first | with_reducible rfl | (apply s_ite; (focus omega); with_reducible rfl)))) | (apply o_callD; (iterate 2 (focus ((try simp only [simB0, ZA, reduceEqDiff, ↓reduceIte, reduceAdd, reduceLeDiff, NK, g2, g3, g0, acells, Bool.false_eq_true, dk, ME]); (try with_reducible rfl); done))); (focus (first | (exact hck))); (focus ((first | refine snap_plain ?_ rfl | apply snap_data); repeat' (first | exact snapL_nil | apply snapL_i | apply snapL_dat | exact em)))) | (apply e_st rfl; (iterate 4 (focus ((try simp only [simB0, ZA, reduceEqDiff, ↓reduceIte, reduceAdd, reduceLeDiff, NK, g2, g3, g0, acells, Bool.false_eq_true, dk, ME]); (try with_reducible rfl); done))); (focus (simp only [SO, Bool.and_self, one_encV, one_encVV, NK, g2, g3, g0, acells, Bool.false_eq_true, dk, ME])); (iterate 3 (focus ((try simp only [SL, reduceAdd, Nat.reduceMul, List.length_map]); first | done | omega)))) | (apply o_gT; (focus (simp only [simB0, ZA, reduceEqDiff, ↓reduceIte, reduceAdd, reduceLeDiff, NK, g2, g3, g0, acells, Bool.false_eq_true, dk, ME]; done))) | (apply o_gF; (focus (simp only [simB0, ZA, reduceEqDiff, ↓reduceIte, reduceAdd, reduceLeDiff, or_true, true_or, NK, g2, g3, g0, acells, Bool.false_eq_true, dk, ME]; done))) | (apply w_condT; (focus (simp only [simB0, ZA, reduceEqDiff, ↓reduceIte, reduceAdd, reduceLeDiff, NK, g2, g3, g0, acells, Bool.false_eq_true, dk, ME]; done))) | (refine e_ends rfl ?_) | (apply r_2; (iterate 2 (focus (simp only [rv, simB0, ZA, reduceEqDiff, ↓reduceIte, reduceAdd, reduceLeDiff, NK, g2, g3, g0, acells, Bool.false_eq_true, dk, ME]; with_reducible rfl)))))
    all_goals exact zM_res
  have hw := written_c m (chk_zero hc0)
  rw [hc0] at hck
  have er := encM_dat m
  unfold encM MachV.cells at em hck hw
  unfold MachV.cells at g3
  by_cases hwl : writtenB m = l
  · rw [if_neg (by rintro (h | h | h); exact absurd h (by decide); exact h hc0; exact h hwl)]
    have dw : decide (writtenB m ≠ l) = false := decide_eq_false (fun h => h hwl)
    repeat' (first | apply w_seq | apply w_ops0 | apply w_skip | apply w_ret | apply a_n | apply o_nil | (apply o_val rfl rfl; (focus ((try simp (disch := omega) only [simB0, ZA, reduceEqDiff, ↓reduceIte, reduceAdd, reduceLeDiff, ZV, reduceCtorEq, NK, g2, g3, g0, acells, Bool.false_eq_true, ME, str_ne2, dw]); first | with_reducible rfl | (apply s_ite; (focus omega); with_reducible rfl)))) | (apply o_callD; (iterate 2 (focus ((try simp only [simB0, ZA, reduceEqDiff, ↓reduceIte, reduceAdd, reduceLeDiff, NK, g2, g3, g0, acells, Bool.false_eq_true, ME, str_ne2, dw]); (try with_reducible rfl); done))); (focus (first | (exact hck) | (exact hw))); (focus ((first | refine snap_plain ?_ rfl | apply snap_data); repeat' (first | exact snapL_nil | apply snapL_i | apply snapL_dat | exact em | exact encS_dat _)))) | (apply e_st rfl; (iterate 4 (focus ((try simp only [simB0, ZA, reduceEqDiff, ↓reduceIte, reduceAdd, reduceLeDiff, NK, g2, g3, g0, acells, Bool.false_eq_true, ME, str_ne2, dw]); (try with_reducible rfl); done))); (focus (simp only [SO, Bool.and_self, one_encV, one_encVV, NK, g2, g3, g0, acells, Bool.false_eq_true, ME, str_ne2, dw])); (iterate 3 (focus ((try simp only [SL, reduceAdd, Nat.reduceMul, List.length_map]); first | done | omega)))) | (apply o_gT; (focus (simp only [simB0, ZA, reduceEqDiff, ↓reduceIte, reduceAdd, reduceLeDiff, NK, g2, g3, g0, acells, Bool.false_eq_true, ME, str_ne2, dw]; done))) | (apply o_gB; (focus ((try simp only [simB0, ZA, reduceEqDiff, ↓reduceIte, reduceAdd, reduceLeDiff, NK, g2, g3, g0, acells, Bool.false_eq_true, ME, str_ne2, dw]); (try with_reducible rfl); done)); all_goals (intro _hg; (try simp only [ZB] at _hg); try first | exact absurd trivial _hg | (exfalso; omega))) | (apply w_condF; (focus (simp only [simB0, ZA, reduceEqDiff, ↓reduceIte, reduceAdd, reduceLeDiff, NK, g2, g3, g0, acells, Bool.false_eq_true, ME, str_ne2, dw]; done))) | (refine e_ends rfl ?_) | (apply r_2; (iterate 2 (focus (simp only [rv, simB0, ZA, reduceEqDiff, ↓reduceIte, reduceAdd, reduceLeDiff, NK, g2, g3, g0, acells, Bool.false_eq_true, ME, str_ne2, dw]; with_reducible rfl)))))
    all_goals exact Dat.tup (DatL.cons er (DatL.cons .int DatL.nil)) _
  · rw [if_pos (.inr (.inr hwl))]
    have dw : decide (writtenB m ≠ l) = true := decide_eq_true hwl
    repeat' (first | apply w_seq | apply w_ops0 | apply w_ret | apply a_n | apply a_r | apply o_nil | (apply o_val rfl rfl; (focus ((try simp (disch := omega) only [simB0, ZA, reduceEqDiff, ↓reduceIte, reduceAdd, reduceLeDiff, ZV, reduceCtorEq, NK, g2, g3, g0, acells, Bool.false_eq_true, ME, str_ne2, dw]); first | with_reducible rfl | (apply s_ite; (focus omega); with_reducible rfl)))) | (apply o_callD; (iterate 2 (focus ((try simp only [simB0, ZA, reduceEqDiff, ↓reduceIte, reduceAdd, reduceLeDiff, NK, g2, g3, g0, acells, Bool.false_eq_true, ME, str_ne2, dw]); (try with_reducible rfl); done))); (focus (first | (exact hck) | (exact hw))); (focus ((first | refine snap_plain ?_ rfl | apply snap_data); repeat' (first | exact snapL_nil | apply snapL_i | apply snapL_dat | exact em | exact encS_dat _)))) | (apply e_st rfl; (iterate 4 (focus ((try simp only [simB0, ZA, reduceEqDiff, ↓reduceIte, reduceAdd, reduceLeDiff, NK, g2, g3, g0, acells, Bool.false_eq_true, ME, str_ne2, dw]); (try with_reducible rfl); done))); (focus (simp only [SO, Bool.and_self, one_encV, one_encVV, NK, g2, g3, g0, acells, Bool.false_eq_true, ME, str_ne2, dw])); (iterate 3 (focus ((try simp only [SL, reduceAdd, Nat.reduceMul, List.length_map]); first | done | omega)))) | (apply o_gT; (focus (simp only [simB0, ZA, reduceEqDiff, ↓reduceIte, reduceAdd, reduceLeDiff, NK, g2, g3, g0, acells, Bool.false_eq_true, ME, str_ne2, dw]; done))) | (apply o_gB; (focus ((try simp only [simB0, ZA, reduceEqDiff, ↓reduceIte, reduceAdd, reduceLeDiff, NK, g2, g3, g0, acells, Bool.false_eq_true, ME, str_ne2, dw]); (try with_reducible rfl); done)); all_goals (intro _hg; (try simp only [ZB] at _hg); try first | exact absurd trivial _hg | (exfalso; omega))) | (apply w_condT; (focus (simp only [simB0, ZA, reduceEqDiff, ↓reduceIte, reduceAdd, reduceLeDiff, NK, g2, g3, g0, acells, Bool.false_eq_true, ME, str_ne2, dw]; done))) | (refine e_ends rfl ?_) | (apply r_2; (iterate 2 (focus (simp only [rv, simB0, ZA, reduceEqDiff, ↓reduceIte, reduceAdd, reduceLeDiff, NK, g2, g3, g0, acells, Bool.false_eq_true, ME, str_ne2, dw]; with_reducible rfl)))))
    all_goals exact zM_res

end Go.Proofs.Ytpbjhjkfobapeaa

/- Q24: contracts of functions and plain laws; for all inputs that the theorems name. -/
namespace Go.Proofs.Ytpbjhjkfobapeaa
open Go Go.Abs
open Nat (reduceEqDiff reduceAdd reduceLeDiff)

theorem ex_encode : encodeB exM 0 1 0 1 = ([0, 1, 0, 0, 0, 6], 0) := by decide +kernel
theorem ex_length : lengthB exM 0 1 0 = (6, 0) := by decide +kernel
theorem ex_decode : decodeB exM 0 1 0 [0, 1, 0, 0, 0, 6] = (0, 0) := by decide +kernel
theorem ex_decode2 : (decodeB exM 0 1 0 [0, 1, 0, 0, 0, 7]).2 = 24 := by decide +kernel
theorem ex_decode3 : (decodeB exM 0 0 1 [0, 1, 0, 0, 0, 6]).2 = 22 := by decide +kernel
theorem ex_mach : (machB exM).2 = 0 := by decide +kernel
theorem ex_parse : parseB (machB exM).1 = (exM, 0) := by decide +kernel
theorem ex_len : 6 < (machB exM).1.length ∧ (machB exM).1.length ≤ 65536 := by decide +kernel
theorem ex_head : (machB exM).1.take 4 = [82, 84, 77, 1] := by decide +kernel
theorem ex_ck : csum [1, 2, 3] = 17 ∧ csum [] = 0 := by decide +kernel

attribute [local irreducible] awp2 aops2 ains aloop athen bbind obind gbind acond res1 Go.Abs.Fn PCall Go.Abs.Pure SnapArgs SnapL Yl
theorem awake_c : Pure Try.prog 12 [] (.bool true) := by
  refine Pure.of_c2 follows is12 (Nat.le_of_ble_eq_true rfl) ?_
  simp only [b12, O, G, N, M, D, F, B2, cFal, cTru]
  have hsh := ex_sh
  have c0 := example_c
  have c1 := encode_c exM 0 1 0 1 hsh
  have c2 := length_c exM 0 1 0 hsh
  have c3 := decode_c exM 0 1 0 [0, 1, 0, 0, 0, 6] hsh (by show _ ≤ _; simp)
  have c4 := decode_c exM 0 1 0 [0, 1, 0, 0, 0, 7] hsh (by show _ ≤ _; simp)
  have c5 := decode_c exM 0 0 1 [0, 1, 0, 0, 0, 6] hsh (by show _ ≤ _; simp)
  have c6 := machine_c exM hsh
  have c7 := parse_c (machB exM).1 (by have := ex_len; show _ ≤ _; omega)
  have c8 := same_c exM exM hsh hsh
  have c9 := checksum_c [1, 2, 3] (by show _ ≤ _; simp)
  have c10 := checksum_c [] (by show _ ≤ _; simp)
  rw [ex_encode] at c1
  rw [ex_length] at c2
  rw [ex_decode] at c3
  rw [ex_decode2] at c4
  rw [ex_decode3] at c5
  rw [ex_mach] at c6
  rw [ex_parse] at c7
  rw [ex_ck.1] at c9
  rw [ex_ck.2] at c10
  rw [decide_eq_true rfl] at c8
  have l1 := ex_len
  have l4 : aslstr (encS (machB exM).1) none (some (.int .i64 4)) = some (encS [82, 84, 77, 1]) := by
    have := aslstr_hi (l := (machB exM).1) (k := 4) (by omega)
    rwa [ex_head] at this
  have em := encM_dat exM
  generalize (machB exM).1 = W at *
  generalize (decodeB exM 0 1 0 [0, 1, 0, 0, 0, 7]).1 = w1 at *
  generalize (decodeB exM 0 0 1 [0, 1, 0, 0, 0, 6]).1 = w2 at *
  dsimp only at c1 c2 c3 c4 c5 c6 c7
  unfold encM MachV.cells at c1 c2 c3 c4 c5 c6 c7 c8 em c0
  have s1 : ∀ tb tf : Bool, abin2 .neq tb tf (encS [0, 1, 0, 0, 0, 6]) (AV.str (ByteArray.mk (Array.mk [0, 1, 0, 0, 0, 6]))) = some (.bool false) := fun tb tf => by
    have := str_ne2 (a := [0, 1, 0, 0, 0, 6]) (b := [0, 1, 0, 0, 0, 6]) (tb := tb) (tf := tf)
    rwa [decide_eq_false (fun h => h rfl)] at this
  have s2 : ∀ tb tf : Bool, abin2 .eql tb tf (encS [82, 84, 77, 1]) (AV.str (ByteArray.mk (Array.mk [82, 84, 77, 1]))) = some (.bool true) := fun tb tf => by
    have := str_eq (a := [82, 84, 77, 1]) (b := [82, 84, 77, 1]) (tb := tb) (tf := tf)
    rwa [decide_eq_true rfl] at this
  repeat' (first | apply w_seq | apply w_ops0 | apply w_skip | apply w_ret | apply a_n | apply o_nil | (apply o_val rfl rfl; (focus ((try simp (disch := omega) only [simB0, ZA, reduceEqDiff, ↓reduceIte, reduceAdd, reduceLeDiff, ZV, reduceCtorEq, ME, acells, s1, s2, l4, alenStr_encS]); first | with_reducible rfl | (apply s_ite; (focus omega); with_reducible rfl)))) | (apply o_callD; (iterate 2 (focus ((try simp only [simB0, ZA, reduceEqDiff, ↓reduceIte, reduceAdd, reduceLeDiff, ME, acells, s1, s2, l4, alenStr_encS]); (try with_reducible rfl); done))); (focus (first | (exact c0) | (exact c1) | (exact c2) | (exact c3) | (exact c4) | (exact c5) | (exact c6) | (exact c7) | (exact c8) | (exact c9) | (exact c10))); (focus ((first | refine snap_plain ?_ rfl | apply snap_data); repeat' (first | exact snapL_nil | apply snapL_i | apply snapL_dat | exact em | exact encS_dat _)))) | (apply e_alloc rfl; (focus ((try simp only [simB0, ZA, reduceEqDiff, ↓reduceIte, reduceAdd, reduceLeDiff, ME, acells, s1, s2, l4, alenStr_encS]); (try with_reducible rfl); done)); (focus (simp only [SO, Bool.and_self, one_encV, one_encVV, ME, acells, s1, s2, l4, alenStr_encS]))) | (apply e_st rfl; (iterate 4 (focus ((try simp only [simB0, ZA, reduceEqDiff, ↓reduceIte, reduceAdd, reduceLeDiff, ME, acells, s1, s2, l4, alenStr_encS]); (try with_reducible rfl); done))); (focus (simp only [SO, Bool.and_self, one_encV, one_encVV, ME, acells, s1, s2, l4, alenStr_encS])); (iterate 3 (focus ((try simp only [SL, reduceAdd, Nat.reduceMul, List.length_map]); first | done | omega)))) | (apply o_gT; (focus (simp only [simB0, ZA, reduceEqDiff, ↓reduceIte, reduceAdd, reduceLeDiff, ME, acells, s1, s2, l4, alenStr_encS]; done))) | (apply o_gF; (focus (simp only [simB0, ZA, reduceEqDiff, ↓reduceIte, reduceAdd, reduceLeDiff, or_true, true_or, ME, acells, s1, s2, l4, alenStr_encS]; done))) | ((first | apply o_gB | apply w_cond); (focus ((try simp only [simB0, ZA, reduceEqDiff, ↓reduceIte, reduceAdd, reduceLeDiff, ME, acells, s1, s2, l4, alenStr_encS]); (try with_reducible rfl); done)); all_goals (intro _hg; (try simp only [ZB] at _hg); try first | exact absurd trivial _hg | (exfalso; omega))) | (refine e_ends rfl ?_) | (apply r_1; (focus (simp only [rv, simB0, ZA, reduceEqDiff, ↓reduceIte, reduceAdd, reduceLeDiff, ME, acells, s1, s2, l4, alenStr_encS]; with_reducible rfl))))
  all_goals first
    | exact snap_bool rfl
    | (exfalso; omega)
    | (simp_all; done)
    | trace_state

end Go.Proofs.Ytpbjhjkfobapeaa

/- Q25: contracts of functions and plain laws; for all inputs that the theorems name. -/
namespace Go.Proofs.Ytpbjhjkfobapeaa
open Go Go.Abs
open Nat (reduceEqDiff reduceAdd reduceLeDiff)

attribute [local irreducible] awp2 aops2 ains aloop athen bbind obind gbind acond res1 Go.Abs.Fn PCall Go.Abs.Pure SnapArgs SnapL Yl

end Go.Proofs.Ytpbjhjkfobapeaa

/- Q26: contracts of functions and plain laws; for all inputs that the theorems name. -/
namespace Go.Proofs.Ytpbjhjkfobapeaa
open Go Go.Abs Go.RowKit Go.ChangeShapes Go.WideShapes Go.ChangeAt

theorem post_of_below {H : Type} {enc : TypeId × Value → H} {P : Program} {f : Func} {s : ChangeSpec} {apart fresh handsOn again : Bool} {W W' : World} {args : Array Value} {v : Value} {ds gs : List (DataW H)} {before pa pv : List MemPlace}
    (hW : DataW.Whole enc P f.params.toList s.vars apart W args.toList ds gs before)
    (hres : ∀ (b : Nat) (sp : Nat → Bool) (hd : Bool), DataW.TrodAll enc P W' b sp hd f.resultTypes.toList (v.resultList f.resultTypes.size) (s.fn H (ds ++ gs)).results [])
    (hargs : ∀ sp : Nat → Bool, (∀ p ∈ before, sp p.block = true) → DataW.TrodAll enc P W' 0 sp true f.params.toList args.toList (s.fn H (ds ++ gs)).args pa)
    (hvars : ∀ sp : Nat → Bool, (∀ p ∈ before, sp p.block = true) → DataW.TrodVars enc P W' sp s.vars (s.fn H (ds ++ gs)).vars pv)
    (hps : before = pa ++ pv) (hb : Below W.heap.size W W')
    (hok : ∀ (j : Nat) (t : TypeId) (r : Value), f.resultTypes[j]? = some t → (v.resultList f.resultTypes.size)[j]? = some r → Value.okWide P W' .any 0 t r) :
    s.post enc P f apart fresh handsOn again W args v W' := by
  have hold : ∀ p ∈ before, (fun b => decide (b < W.heap.size)) p.block = true := fun p hp => by simpa using hW.lt p hp
  have hlt := fun p hp => hW.lt p hp
  refine ⟨ds, gs, before, [], pa, pv, hW, hres _ _ _, hargs _ hold, hvars _ hold, World.keptBut_mono (fun p hp => ⟨hp, ?_⟩) (hb.frame _), fun _ => ?_⟩
  · rw [hps, List.mem_append] at hp
    exact Or.inr hp
  · obtain ⟨_, _, _, _, _, hz, hn⟩ := hW
    refine ⟨hok, _, _, ([] ++ pa) ++ pv, ⟨[] ++ pa, pv, trodAll_append (hargs _ (fun _ _ => rfl)) (hres _ _ _), hvars _ (fun _ _ => rfl), rfl, ?_, ?_⟩, ?_⟩
    · intro b off hp
      have hp' : MemPlace.cell b off ∈ before := by rw [hps]; simpa using hp
      rw [hb.frozen (hlt _ hp')]
      exact hz b off hp'
    · intro ha
      have := hn ha
      rw [hps] at this
      simpa using this
    · intro p hp _
      rw [hps]
      simpa using hp

theorem relL_nil {E : Env} {w : World} : RelL E w [] [] := ⟨rfl, fun i x y h => (by cases h)⟩
theorem relL_cons {E : Env} {w : World} {x : AV} {y : Value} {xs : List AV} {ys : List Value} (h : Rel E w x y) (hs : RelL E w xs ys) : RelL E w (x :: xs) (y :: ys) := by
  refine ⟨by simp [hs.1], fun i a b ha hb => ?_⟩
  cases i with
  | zero => simp at ha hb; subst ha hb; exact h
  | succ i => simp at ha hb; exact hs.2 i a b ha hb
theorem own : ownKnob Try.prog.godebug = none := by kernel_rfl

end Go.Proofs.Ytpbjhjkfobapeaa

/- Q27: contracts of functions and plain laws; for all inputs that the theorems name. -/
namespace Go.Proofs.Ytpbjhjkfobapeaa
open Go Go.Abs
open Nat (reduceEqDiff reduceAdd reduceLeDiff)

theorem str_eq2 {a b : List UInt8} {tb tf : Bool} : abin2 .eql tb tf (encS a) (encS b) = some (.bool (decide (a = b))) := str_eq
attribute [local irreducible] awp2 aops2 ains aloop athen bbind obind gbind acond res1 Go.Abs.Fn PCall Go.Abs.Pure SnapArgs SnapL Yl

end Go.Proofs.Ytpbjhjkfobapeaa

/- Q28: contracts of functions and plain laws; for all inputs that the theorems name. -/
namespace Go.Proofs.Ytpbjhjkfobapeaa
open Go Go.Abs
open Nat (reduceEqDiff reduceAdd reduceLeDiff)

def cntR (l : List (List Int)) (a : Int) : Int := l.foldl (fun s x => IntKind.wrap .i64 (s + (x.length : Int))) a
def cntM (l : List (List (List Int))) (a : Int) : Int := l.foldl (fun s r => cntR r s) a
theorem cntR_snoc (l : List (List Int)) (x : List Int) (a : Int) : cntR (l ++ [x]) a = IntKind.wrap .i64 (cntR l a + (x.length : Int)) := by simp [cntR]
theorem cntM_snoc (l : List (List (List Int))) (x : List (List Int)) (a : Int) : cntM (l ++ [x]) a = cntR x (cntM l a) := by simp [cntM]
theorem cntR_eq : ∀ (l : List (List Int)) (a : Nat), a + lens l ≤ 9223372036854775807 → cntR l (a : Int) = ((a + lens l : Nat) : Int)
  | [], a, _ => by simp [cntR, lens]
  | x :: l, a, h => by
    have hl : lens (x :: l) = x.length + lens l := by simp [lens]
    rw [hl] at h ⊢
    have : cntR (x :: l) (a : Int) = cntR l (IntKind.wrap .i64 ((a : Int) + (x.length : Int))) := rfl
    rw [this, wrap64 (by omega) (by omega), show ((a : Int) + (x.length : Int)) = ((a + x.length : Nat) : Int) by omega, cntR_eq l _ (by omega)]
    omega
theorem cntM_eq : ∀ (l : List (List (List Int))) (a : Nat), a + (l.map lens).sum ≤ 9223372036854775807 → cntM l (a : Int) = ((a + (l.map lens).sum : Nat) : Int)
  | [], a, _ => by simp [cntM]
  | x :: l, a, h => by
    simp only [List.map_cons, List.sum_cons] at h ⊢
    have : cntM (x :: l) (a : Int) = cntM l (cntR x (a : Int)) := rfl
    rw [this, cntR_eq x a (by omega), cntM_eq l _ (by omega)]
    omega
def fewR (s : List (List (List Int))) : Bool := decide (s.length ≤ 20) && s.all fun r => decide (r.length ≤ 20)
def fewB (m : MachV) : Bool := decide (m.first.length ≤ 20 ∧ m.out.length ≤ 20 ∧ m.symbols.length ≤ 20 ∧ m.steps.length ≤ 400 ∧ cntM m.out 0 ≤ 400) && m.symbols.all fewR
attribute [local irreducible] awp2 aops2 ains aloop athen bbind obind gbind acond res1 Go.Abs.Fn PCall Go.Abs.Pure SnapArgs SnapL Yl

theorem count_c (m : MachV) (hl : Sh m.out) (h2 : ∀ l ∈ m.out, Sh l) : Pure Try.prog 28 [encM m] (.int .i64 (cntM m.out 0)) := by
  refine Pure.of_c2 follows is28 (Nat.le_of_ble_eq_true rfl) ?_
  simp only [b28, O, G, N, M, D, F, B2, cFal, cTru]
  have hl' : m.out.length ≤ 9223372036854775807 := hl
  unfold encM MachV.cells
  repeat' (first | apply w_seq | apply w_ops0 | apply w_block | apply a_n | apply o_nil | (apply o_val rfl rfl; (focus ((try simp (disch := omega) only [simB0, ZA, reduceEqDiff, ↓reduceIte, reduceAdd, reduceLeDiff, ZV, reduceCtorEq, ME, acells]); first | with_reducible rfl | (apply s_ite; (focus omega); with_reducible rfl)))) | (apply e_box rfl; (iterate 2 (focus ((try simp only [simB0, ZA, reduceEqDiff, ↓reduceIte, reduceAdd, reduceLeDiff, ME, acells]); (try with_reducible rfl); done))); (focus (simp only [SO, Bool.and_self, one_encV, one_encVV, ME, acells]))) | apply w_loop)
  refine loop0 (X := Nat) (fun k => [(1, .ptr 0 8 0), (3, .int .i64 (cntM (m.out.take k) 0)), (4, .int .i64 k)]) (fun k => k ≤ m.out.length) (fun k => m.out.length - k) 0 (Nat.zero_le _) (by simp (disch := omega) only [agr, ZG, reduceEqDiff, ↓reduceIte, show cntM ([] : List (List (List Int))) 0 = 0 from rfl, List.take_zero, List.length_cons, List.length_nil]) ?_
  rintro k h1
  by_cases hk : k < m.out.length
  · have hm := h2 _ (mem_getD hk)
    have ht := take_succ' hk
    generalize hc : m.out.getD k default = c at *
    have hc' : c.length ≤ 9223372036854775807 := hm
    repeat' (first | apply w_seq | apply w_ops0 | apply w_block | apply w_skip | apply a_n | apply o_nil | (apply o_val rfl rfl; (focus ((try simp (disch := omega) only [simB0, ZA, reduceEqDiff, ↓reduceIte, reduceAdd, reduceLeDiff, ZV, reduceCtorEq, ME, hc]); first | with_reducible rfl | (apply s_ite; (focus omega); with_reducible rfl)))) | (apply w_cond; (focus ((try simp only [simB0, ZA, reduceEqDiff, ↓reduceIte, reduceAdd, reduceLeDiff, ME, hc]); (try with_reducible rfl); done)); all_goals (intro _hg; (try simp only [ZB] at _hg); try first | exact absurd trivial _hg | (exfalso; omega))) | apply w_loop)
    refine loop0 (X := Nat) (fun j => [(1, .ptr 0 8 0), (3, .int .i64 (cntR (c.take j) (cntM (m.out.take k) 0))), (4, .int .i64 k), (5, .int .i64 j)]) (fun j => j ≤ c.length) (fun j => c.length - j) 0 (Nat.zero_le _) (by simp (disch := omega) only [agr, ZG, reduceEqDiff, ↓reduceIte, List.take_zero, show ∀ a : Int, cntR ([] : List (List Int)) a = a from fun _ => rfl]) ?_
    rintro j h3
    by_cases hj : j < c.length
    · have ht2 := take_succ' hj
      repeat' (first | apply w_seq | apply w_ops0 | apply w_block | apply w_skip | apply a_n | apply o_nil | (apply o_val rfl rfl; (focus ((try simp (disch := omega) only [simB0, ZA, reduceEqDiff, ↓reduceIte, reduceAdd, reduceLeDiff, ZV, reduceCtorEq, ME, hc]); first | with_reducible rfl | (apply s_ite; (focus omega); with_reducible rfl)))) | (apply w_cond; (focus ((try simp only [simB0, ZA, reduceEqDiff, ↓reduceIte, reduceAdd, reduceLeDiff, ME, hc]); (try with_reducible rfl); done)); all_goals (intro _hg; (try simp only [ZB] at _hg); try first | exact absurd trivial _hg | (exfalso; omega))))
      refine ⟨j + 1, by omega, by omega, ?_, rfl, rfl⟩
      rw [ht2, cntR_snoc]
      simp (disch := omega) only [agr, ZG, reduceEqDiff, ↓reduceIte]
    · repeat' (first | apply w_seq | apply w_ops0 | apply w_exit | apply a_n | apply a_x | apply o_nil | (apply o_val rfl rfl; (focus ((try simp (disch := omega) only [simB0, ZA, reduceEqDiff, ↓reduceIte, reduceAdd, reduceLeDiff, ZV, reduceCtorEq, ME, hc]); first | with_reducible rfl | (apply s_ite; (focus omega); with_reducible rfl)))) | (apply w_cond; (focus ((try simp only [simB0, ZA, reduceEqDiff, ↓reduceIte, reduceAdd, reduceLeDiff, ME, hc]); (try with_reducible rfl); done)); all_goals (intro _hg; (try simp only [ZB] at _hg); try first | exact absurd trivial _hg | (exfalso; omega))))
      refine ⟨k + 1, by omega, by omega, ?_, rfl, rfl⟩
      rw [ht, cntM_snoc, List.take_of_length_le (show c.length ≤ j by omega)]
      simp (disch := omega) only [agr, ZG, reduceEqDiff, ↓reduceIte]
  · repeat' (first | apply w_seq | apply w_ops0 | apply w_exit | apply w_ret | apply a_n | apply a_x | apply o_nil | (apply o_val rfl rfl; (focus ((try simp (disch := omega) only [simB0, ZA, reduceEqDiff, ↓reduceIte, reduceAdd, reduceLeDiff, ZV, reduceCtorEq, ME]); first | with_reducible rfl | (apply s_ite; (focus omega); with_reducible rfl)))) | (apply w_cond; (focus ((try simp only [simB0, ZA, reduceEqDiff, ↓reduceIte, reduceAdd, reduceLeDiff, ME]); (try with_reducible rfl); done)); all_goals (intro _hg; (try simp only [ZB] at _hg); try first | exact absurd trivial _hg | (exfalso; omega))) | (refine e_ends rfl ?_) | (apply r_1; (focus (simp only [rv, simB0, ZA, reduceEqDiff, ↓reduceIte, reduceAdd, reduceLeDiff, ME]; with_reducible rfl))))
    rw [List.take_of_length_le (by omega)]
    exact .int _ _

theorem few_c (m : MachV) (hs : ShM m) : Pure Try.prog 11 [encM m] (.bool (fewB m)) := by
  refine Pure.of_c2 follows is11 (Nat.le_of_ble_eq_true rfl) ?_
  simp only [b11, O, G, N, M, D, F, B2, cFal, cTru]
  have hc := count_c m hs.out hs.out1
  have em := encM_dat m
  unfold encM MachV.cells at *
  by_cases h : m.first.length ≤ 20 ∧ m.out.length ≤ 20 ∧ m.symbols.length ≤ 20 ∧ m.steps.length ≤ 400 ∧ cntM m.out 0 ≤ 400
  rotate_left
  · have e : fewB m = false := by unfold fewB; rw [decide_eq_false h]; rfl
    rw [e]
    repeat' (first | apply w_seq | apply w_ops0 | apply w_ret | apply a_n | apply a_r | apply o_nil | (apply o_val rfl rfl; (focus ((try simp (disch := omega) only [simB0, ZA, reduceEqDiff, ↓reduceIte, reduceAdd, reduceLeDiff, ZV, reduceCtorEq, ME, acells]); first | with_reducible rfl | (apply s_ite; (focus omega); with_reducible rfl)))) | (apply o_callD; (iterate 2 (focus ((try simp only [simB0, ZA, reduceEqDiff, ↓reduceIte, reduceAdd, reduceLeDiff, ME, acells]); (try with_reducible rfl); done))); (focus (first | (exact hc))); (focus ((first | refine snap_plain ?_ rfl | apply snap_data); repeat' (first | exact snapL_nil | apply snapL_i | apply snapL_dat | exact em)))) | (apply e_box rfl; (iterate 2 (focus ((try simp only [simB0, ZA, reduceEqDiff, ↓reduceIte, reduceAdd, reduceLeDiff, ME, acells]); (try with_reducible rfl); done))); (focus (simp only [SO, Bool.and_self, one_encV, one_encVV, ME, acells]))) | (apply o_gT; (focus (simp only [simB0, ZA, reduceEqDiff, ↓reduceIte, reduceAdd, reduceLeDiff, ME, acells]; done))) | (apply o_gF; (focus (simp only [simB0, ZA, reduceEqDiff, ↓reduceIte, reduceAdd, reduceLeDiff, or_true, true_or, ME, acells]; done))) | (apply w_condT; (focus (simp only [simB0, ZA, reduceEqDiff, ↓reduceIte, reduceAdd, reduceLeDiff, ME, acells]; done))) | ((first | apply o_gB | apply w_cond); (focus ((try simp only [simB0, ZA, reduceEqDiff, ↓reduceIte, reduceAdd, reduceLeDiff, ME, acells]); (try with_reducible rfl); done)); all_goals (intro _hg; (try simp only [ZB] at _hg); try first | exact absurd trivial _hg | (exfalso; omega))) | (refine e_ends rfl ?_) | (apply r_1; (focus (simp only [rv, simB0, ZA, reduceEqDiff, ↓reduceIte, reduceAdd, reduceLeDiff, ME, acells]; with_reducible rfl))))
    all_goals first | exact snap_bool rfl | (exfalso; omega) | trace_state
  have e : fewB m = m.symbols.all fewR := by unfold fewB; rw [decide_eq_true h]; rfl
  rw [e]
  obtain ⟨h1, h2, h3, h4, h5⟩ := h
  have d1 : decide ((20 : Int) < (m.first.length : Int)) = false := decide_eq_false (by omega)
  have d2 : decide ((20 : Int) < (m.out.length : Int)) = false := decide_eq_false (by omega)
  have d3 : decide ((20 : Int) < (m.symbols.length : Int)) = false := decide_eq_false (by omega)
  have d4 : decide ((400 : Int) < (m.steps.length : Int)) = false := decide_eq_false (by omega)
  have d5 : decide ((400 : Int) < cntM m.out 0) = false := decide_eq_false (by omega)
  repeat' (first | apply w_seq | apply w_ops0 | apply w_block | apply w_skip | apply a_n | apply o_nil | (apply o_val rfl rfl; (focus ((try simp (disch := omega) only [simB0, ZA, reduceEqDiff, ↓reduceIte, reduceAdd, reduceLeDiff, ZV, reduceCtorEq, ME, acells, d1, d2, d3, d4, d5]); first | with_reducible rfl | (apply s_ite; (focus omega); with_reducible rfl)))) | (apply o_callD; (iterate 2 (focus ((try simp only [simB0, ZA, reduceEqDiff, ↓reduceIte, reduceAdd, reduceLeDiff, ME, acells, d1, d2, d3, d4, d5]); (try with_reducible rfl); done))); (focus (first | (exact hc))); (focus ((first | refine snap_plain ?_ rfl | apply snap_data); repeat' (first | exact snapL_nil | apply snapL_i | apply snapL_dat | exact em)))) | (apply e_box rfl; (iterate 2 (focus ((try simp only [simB0, ZA, reduceEqDiff, ↓reduceIte, reduceAdd, reduceLeDiff, ME, acells, d1, d2, d3, d4, d5]); (try with_reducible rfl); done))); (focus (simp only [SO, Bool.and_self, one_encV, one_encVV, ME, acells, d1, d2, d3, d4, d5]))) | (apply o_gT; (focus (simp only [simB0, ZA, reduceEqDiff, ↓reduceIte, reduceAdd, reduceLeDiff, ME, acells, d1, d2, d3, d4, d5]; done))) | (apply w_condF; (focus (simp only [simB0, ZA, reduceEqDiff, ↓reduceIte, reduceAdd, reduceLeDiff, ME, acells, d1, d2, d3, d4, d5]; done))) | apply w_loop)
  refine loopA (fun k => [(1, .ptr 0 8 0), (3, .int .i64 k)]) m.symbols.length (fun k => fewR (m.symbols.getD k default) = true) (by simp (disch := omega) only [agr, ZG, reduceEqDiff, ↓reduceIte, List.length_cons, List.length_nil]) ?_
  intro k hk hp
  by_cases hk2 : k < m.symbols.length
  rotate_left
  · repeat' (first | apply w_seq | apply w_ops0 | apply w_exit | apply w_ret | apply a_n | apply a_x | apply o_nil | (apply o_val rfl rfl; (focus ((try simp (disch := omega) only [simB0, ZA, reduceEqDiff, ↓reduceIte, reduceAdd, reduceLeDiff, ZV, reduceCtorEq, ME]); first | with_reducible rfl | (apply s_ite; (focus omega); with_reducible rfl)))) | (apply w_cond; (focus ((try simp only [simB0, ZA, reduceEqDiff, ↓reduceIte, reduceAdd, reduceLeDiff, ME]); (try with_reducible rfl); done)); all_goals (intro _hg; (try simp only [ZB] at _hg); try first | exact absurd trivial _hg | (exfalso; omega))) | (refine e_ends rfl ?_) | (apply r_1; (focus (simp only [rv, simB0, ZA, reduceEqDiff, ↓reduceIte, reduceAdd, reduceLeDiff, ME]; with_reducible rfl))))
    exact snap_bool (all_true fun i hi => hp i (by omega)).symm
  have fr : fewR (m.symbols.getD k default) = (decide ((m.symbols.getD k default).length ≤ 20) && (m.symbols.getD k default).all fun r => decide (r.length ≤ 20)) := rfl
  have hfin : fewR (m.symbols.getD k default) = false → (m.symbols.all fewR) = false := fun h => all_false hk2 h
  generalize hc2 : m.symbols.getD k default = c at *
  repeat' (first | apply w_seq | apply w_ops0 | apply w_block | apply w_skip | apply w_ret | apply a_n | apply a_r | apply o_nil | (apply o_val rfl rfl; (focus ((try simp (disch := omega) only [simB0, ZA, reduceEqDiff, ↓reduceIte, reduceAdd, reduceLeDiff, ZV, reduceCtorEq, ME, hc2]); first | with_reducible rfl | (apply s_ite; (focus omega); with_reducible rfl)))) | (apply w_cond; (focus ((try simp only [simB0, ZA, reduceEqDiff, ↓reduceIte, reduceAdd, reduceLeDiff, ME, hc2]); (try with_reducible rfl); done)); all_goals (intro _hg; (try simp only [ZB] at _hg); try first | exact absurd trivial _hg | (exfalso; omega))) | (refine e_ends rfl ?_) | (apply r_1; (focus (simp only [rv, simB0, ZA, reduceEqDiff, ↓reduceIte, reduceAdd, reduceLeDiff, ME, hc2]; with_reducible rfl))) | apply w_loop)
  · refine snap_bool (hfin ?_).symm
    rw [fr, decide_eq_false (by omega)]; rfl
  rw [decide_eq_true (by omega), Bool.true_and] at fr
  refine loopA (fun j => [(1, .ptr 0 8 0), (3, .int .i64 k), (4, .int .i64 j)]) c.length (fun j => (c.getD j default).length ≤ 20) (by simp (disch := omega) only [agr, ZG, reduceEqDiff, ↓reduceIte, List.length_cons, List.length_nil]) ?_
  intro j hj hq
  by_cases hj2 : j < c.length
  rotate_left
  · repeat' (first | apply w_seq | apply w_ops0 | apply w_exit | apply a_n | apply a_x | apply o_nil | (apply o_val rfl rfl; (focus ((try simp (disch := omega) only [simB0, ZA, reduceEqDiff, ↓reduceIte, reduceAdd, reduceLeDiff, ZV, reduceCtorEq, ME, hc2]); first | with_reducible rfl | (apply s_ite; (focus omega); with_reducible rfl)))) | (apply w_cond; (focus ((try simp only [simB0, ZA, reduceEqDiff, ↓reduceIte, reduceAdd, reduceLeDiff, ME, hc2]); (try with_reducible rfl); done)); all_goals (intro _hg; (try simp only [ZB] at _hg); try first | exact absurd trivial _hg | (exfalso; omega))))
    refine ⟨hk2, ?_, by simp (disch := omega) only [agr, ZG, reduceEqDiff, ↓reduceIte], rfl, rfl⟩
    rw [fr]
    exact all_true fun i hi => decide_eq_true (hq i (by omega))
  generalize hc3 : c.getD j default = d at *
  repeat' (first | apply w_seq | apply w_ops0 | apply w_block | apply w_skip | apply w_ret | apply a_n | apply a_r | apply o_nil | (apply o_val rfl rfl; (focus ((try simp (disch := omega) only [simB0, ZA, reduceEqDiff, ↓reduceIte, reduceAdd, reduceLeDiff, ZV, reduceCtorEq, ME, hc2, hc3]); first | with_reducible rfl | (apply s_ite; (focus omega); with_reducible rfl)))) | (apply w_cond; (focus ((try simp only [simB0, ZA, reduceEqDiff, ↓reduceIte, reduceAdd, reduceLeDiff, ME, hc2, hc3]); (try with_reducible rfl); done)); all_goals (intro _hg; (try simp only [ZB] at _hg); try first | exact absurd trivial _hg | (exfalso; omega))) | (refine e_ends rfl ?_) | (apply r_1; (focus (simp only [rv, simB0, ZA, reduceEqDiff, ↓reduceIte, reduceAdd, reduceLeDiff, ME, hc2, hc3]; with_reducible rfl))))
  · refine snap_bool (hfin ?_).symm
    rw [fr]
    exact all_false hj2 (by rw [hc3]; exact decide_eq_false (by omega))
  · refine ⟨hj2, by omega, by simp (disch := omega) only [agr, ZG, reduceEqDiff, ↓reduceIte], rfl, rfl⟩

end Go.Proofs.Ytpbjhjkfobapeaa

/- Q29: contracts of functions and plain laws; for all inputs that the theorems name. -/
namespace Go.Proofs.Ytpbjhjkfobapeaa
open Go Go.Abs

/-! ### what is written is read -/
/-! ### a machine -/
theorem getD_of {α : Type} [Inhabited α] {l : List α} {i : Nat} {a : α} (h : l[i]? = some a) : i < l.length ∧ l.getD i default = a := by
  have h1 := (List.getElem?_eq_some_iff.1 h).1
  exact ⟨h1, by simp [List.getD, h]⟩
end Go.Proofs.Ytpbjhjkfobapeaa

/- Q30: contracts of functions and plain laws; for all inputs that the theorems name. -/
namespace Go.Proofs.Ytpbjhjkfobapeaa
open Go Go.Abs

/-! ### a change of one byte changes the checksum -/
/-! ### bits -/
end Go.Proofs.Ytpbjhjkfobapeaa

/- Q31: contracts of functions and plain laws; for all inputs that the theorems name. -/
namespace Go.Proofs.Ytpbjhjkfobapeaa
open Go Go.Abs
open Nat (reduceEqDiff reduceAdd reduceLeDiff)

attribute [local irreducible] awp2 aops2 ains aloop athen bbind obind gbind acond res1 Go.Abs.Fn PCall Go.Abs.Pure SnapArgs SnapL Yl

end Go.Proofs.Ytpbjhjkfobapeaa

/- Q32: contracts of functions and plain laws; for all inputs that the theorems name. -/
namespace Go.Proofs.Ytpbjhjkfobapeaa
open Go Go.Abs

/-! ### how long the bytes of a small machine are -/
/-! ### damaged bytes -/
end Go.Proofs.Ytpbjhjkfobapeaa

/- Q33: contracts of functions and plain laws; for all inputs that the theorems name. -/
namespace Go.Proofs.Ytpbjhjkfobapeaa
open Go Go.Abs
open Nat (reduceEqDiff reduceAdd reduceLeDiff)

attribute [local irreducible] awp2 aops2 ains aloop athen bbind obind gbind acond res1 Go.Abs.Fn PCall Go.Abs.Pure SnapArgs SnapL Yl

end Go.Proofs.Ytpbjhjkfobapeaa

/- Q34: contracts of functions and plain laws; for all inputs that the theorems name. -/
namespace Go.Proofs.Ytpbjhjkfobapeaa
open Go Go.Abs Go.RowKit

/-! ### the arguments of the laws, opened -/
section
variable {H : Type} {enc : TypeId × Value → H} {W : World}
theorem oi : Opens enc Try.prog W 3 (AV.int .i64) (fun n => (Lit.int .i64 n).wf = true) := opens_int Try.underlying3
theorem oL1 : Opens enc Try.prog W 59 encV (fun l => l.length ≤ 17592186044416) :=
  (opens_slice Try.underlying59 (sz := 1) (by_ := 8) (by kernel_rfl) (by kernel_rfl) Nat.one_pos (fun _ => rfl) oi).mono fun l h => by have := h.2.2; omega
theorem oL2 : Opens enc Try.prog W 22 encVV (fun l => l.length ≤ 17592186044416 ∧ ∀ x ∈ l, x.length ≤ 17592186044416) :=
  (opens_slice Try.underlying22 (sz := 1) (by_ := 24) (by kernel_rfl) (by kernel_rfl) Nat.one_pos (fun _ => rfl) oL1).mono fun l h => ⟨by have := h.2.2; omega, h.1⟩
theorem oL3 : Opens enc Try.prog W 25 encV3 (fun l => l.length ≤ 17592186044416 ∧ ∀ x ∈ l, x.length ≤ 17592186044416 ∧ ∀ y ∈ x, y.length ≤ 17592186044416) :=
  (opens_slice Try.underlying25 (sz := 1) (by_ := 24) (by kernel_rfl) (by kernel_rfl) Nat.one_pos (fun _ => rfl) oL2).mono fun l h => ⟨by have := h.2.2; omega, h.1⟩
theorem oL4 : Opens enc Try.prog W 23 encV4 (fun l => l.length ≤ 17592186044416 ∧ ∀ x ∈ l, x.length ≤ 17592186044416 ∧ ∀ y ∈ x, y.length ≤ 17592186044416 ∧ ∀ z ∈ y, z.length ≤ 17592186044416) :=
  (opens_slice Try.underlying23 (sz := 1) (by_ := 24) (by kernel_rfl) (by kernel_rfl) Nat.one_pos (fun _ => rfl) oL3).mono fun l h => ⟨by have := h.2.2; omega, h.1⟩
theorem oA5 : Opens enc Try.prog W 91 (fun l : List Int => .agg (l.flatMap fun a => (AV.int .i64 a).cells)) (fun l => l.length = 5 ∧ ∀ a ∈ l, (Lit.int .i64 a).wf = true) :=
  opens_arr Try.underlying91 (sz := 1) (by kernel_rfl) (by kernel_rfl) oi
set_option maxRecDepth 100000 in
theorem oStep : Opens enc Try.prog W 93 encStep (fun _ => True) :=
  (opens_struct Try.underlying93 (by kernel_rfl) (opensF_cons (off := 0) (off' := 1) rfl (by kernel_rfl) oi (opensF_cons (off := 1) (off' := 2) rfl (by kernel_rfl) oi (opensF_cons (off := 2) (off' := 7) rfl (by kernel_rfl) oA5 (opensF_cons (off := 7) (off' := 8) rfl (by kernel_rfl) oi opensF_nil))))).map
    (fun a => (⟨a.1, a.2.1, a.2.2.1.getD 0 0, a.2.2.1.getD 1 0, a.2.2.1.getD 2 0, a.2.2.1.getD 3 0, a.2.2.1.getD 4 0, a.2.2.2.1⟩ : StepV)) (fun _ _ => trivial) (by
      rintro ⟨a, b, l, t, u⟩ ⟨_, _, ⟨h, _⟩, _, _⟩
      match l, h with
      | [h0, h1, h2, h3, h4], _ => rfl)
theorem oSteps : Opens enc Try.prog W 24 encSteps (fun l => l.length ≤ 17592186044416) :=
  (opens_slice Try.underlying24 (sz := 8) (by_ := 64) (by kernel_rfl) (by kernel_rfl) (by omega) (fun _ => rfl) oStep).mono fun l h => by have := h.2.2; omega
set_option maxRecDepth 100000 in
theorem oM : Opens enc Try.prog W 27 encM ShM :=
  (opens_struct Try.underlying27 (by kernel_rfl) (opensF_cons (off := 0) (off' := 1) rfl (by kernel_rfl) oi (opensF_cons (off := 1) (off' := 2) rfl (by kernel_rfl) oi (opensF_cons (off := 2) (off' := 3) rfl (by kernel_rfl) oi (opensF_cons (off := 3) (off' := 4) rfl (by kernel_rfl) oi (opensF_cons (off := 4) (off' := 5) rfl (by kernel_rfl) oL2 (opensF_cons (off := 5) (off' := 6) rfl (by kernel_rfl) oL4 (opensF_cons (off := 6) (off' := 7) rfl (by kernel_rfl) oSteps (opensF_cons (off := 7) (off' := 8) rfl (by kernel_rfl) oL3 opensF_nil))))))))).map
    (fun a => (⟨a.1, a.2.1, a.2.2.1, a.2.2.2.1, a.2.2.2.2.1, a.2.2.2.2.2.1, a.2.2.2.2.2.2.1, a.2.2.2.2.2.2.2.1⟩ : MachV)) (by
      rintro ⟨n, r, i, o, F, S, T, O, u⟩ ⟨_, _, _, _, hF, hS, hT, hO, _⟩
      dsimp only at *
      exact ⟨by show F.length ≤ _; omega, fun l hl => by have := hF.2 l hl; show _ ≤ _; omega, by show O.length ≤ _; omega, fun l hl => by have := (hO.2 l hl).1; show _ ≤ _; omega, fun l hl x hx => by have := (hO.2 l hl).2 x hx; show _ ≤ _; omega,
        fun l hl x hx => by have := (hO.2 l hl).2 x hx; omega, by show S.length ≤ _; omega, fun l hl => by have := (hS.2 l hl).1; show _ ≤ _; omega, fun l hl x hx => by have := ((hS.2 l hl).2 x hx).1; show _ ≤ _; omega,
        fun l hl x hx y hy => by have := ((hS.2 l hl).2 x hx).2 y hy; show _ ≤ _; omega, by show T.length ≤ _; omega⟩) (fun _ _ => rfl)
set_option maxRecDepth 100000 in
theorem oPlace : Opens enc Try.prog W 29 (fun l : Int × Int × Int × Int => .agg [.int .i64 l.1, .int .i64 l.2.1, .int .i64 l.2.2.1, .int .i64 l.2.2.2]) (fun l => (Lit.int .i64 l.1).wf = true ∧ (Lit.int .i64 l.2.1).wf = true ∧ (Lit.int .i64 l.2.2.1).wf = true ∧ (Lit.int .i64 l.2.2.2).wf = true) :=
  (opens_struct Try.underlying29 (by kernel_rfl) (opensF_cons (off := 0) (off' := 1) rfl (by kernel_rfl) oi (opensF_cons (off := 1) (off' := 2) rfl (by kernel_rfl) oi (opensF_cons (off := 2) (off' := 3) rfl (by kernel_rfl) oi (opensF_cons (off := 3) (off' := 4) rfl (by kernel_rfl) oi opensF_nil))))).map
    (fun a => (a.1, a.2.1, a.2.2.1, a.2.2.2.1)) (fun a h => ⟨h.1, h.2.1, h.2.2.1, h.2.2.2.1⟩) (fun _ _ => rfl)
end

theorem calls_of_pureO {f : FuncId} {xs : List AV} {vs : List Value} (h : Go.Abs.Pure Try.prog f xs (.bool true)) (w : World) (hv : RelL (E0 (oldB w)) w xs vs) :
    Calls Try.prog f vs.toArray w fun e w' => e = .returned (.bool true) ∧ Below w.heap.size w w' := by
  refine (h.2 (oldB w) w vs (fun _ h => h) hv).mono ?_
  rintro e w' ⟨v, imm', rfl, hb, _, _, _, hr⟩
  cases hr
  exact ⟨rfl, hb⟩
theorem laid : laidOutB Try.prog = true := by kernel_rfl
end Go.Proofs.Ytpbjhjkfobapeaa
