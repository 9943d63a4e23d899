/- Texts of this claim, one after the other: P9, P10, P11, P12, P13, P14, P15, P16, P17, P18, P19, P23, P24, P25, P26, P27, P28, P29, P30, P31, P32, P33, P34, P35. -/
import Derived.Test.YtcbkggfipdldaaaXG4
import Derived.Test.YtcbkggfipdldaaaXG3
import Derived.Test.YtcbkggfipdldaaaRows
import Derived.WalkKit
import Derived.ProofKit
import Derived.OpenShut

set_option linter.unusedSimpArgs false
set_option linter.unusedVariables false

/- P9: contracts of functions and plain laws; for all inputs that the theorems name. -/
namespace Go.Proofs.Ytcbkggfipdldaaa
open Go Go.Abs
open Nat (reduceEqDiff reduceAdd reduceLeDiff)
attribute [local irreducible] awp2 aops2 ains aloop athen bbind obind gbind acond res1 Go.Abs.Fn PCall Go.Abs.Pure SnapArgs SnapL Yl

theorem asls_lo {b n i : Nat} (h : i < n) : asls 1 (.msl b n 1 0 n) (some (.int .i64 i)) none none = some (.msl b n 1 i (n - i)) := by
  simp [asls, abound]; omega
theorem asls_hi {b n i : Nat} (h : i ≤ n) (h0 : 0 < n) : asls 1 (.msl b n 1 0 n) none (some (.int .i64 i)) none = some (.msl b n 1 0 i) := by
  simp [asls, abound]; omega
theorem aclear_int {b n i : Nat} {H : Hp} {c : List Int} (h : i < n) (hb : H b = some (c.map (AV.int .i64))) (hc : c.length = n) :
    aclear 1 (.int .i64 0) (.msl b n 1 i (n - i)) H = some (hupd H b ((c.take i ++ List.replicate (n - i) 0).map (AV.int .i64))) := by
  unfold aclear
  have hz : zcells (.int .i64 0) (n - i) = (List.replicate (n - i) (0 : Int)).map (AV.int .i64) := by rw [← zcells_int]; rfl
  dsimp only
  rw [if_neg (by omega), hb]
  dsimp only
  rw [if_pos ⟨by simpa using hc, rfl, rfl, rfl, by omega⟩, hz]
  congr 2
  unfold lput
  rw [List.length_map, List.length_replicate, List.drop_eq_nil_of_le (by simp; omega), List.append_nil, List.map_append, List.map_take]

theorem snap_pre {H : Hp} {b n m : Nat} {c l : List Int} (hb : H b = some (c.map (AV.int .i64))) (hc : c.length = n) (hm : m ≤ n) (h : c.take m = l) : Snap H (.msl b n 1 0 m) (encV l) := by
  subst h
  refine snap_msl hb (by simp [hc]) (by omega) (by simp; omega) (fun y hy => by obtain ⟨n, _, rfl⟩ := List.mem_map.1 hy; rfl) (fun i a c' ha hc' => ?_)
  rw [Nat.zero_add, List.getElem?_map] at ha
  rw [List.getElem?_map, List.getElem?_take] at hc'
  split at hc'
  · rw [ha] at hc'; cases hc'
    simp only [Option.map_eq_some_iff] at ha
    obtain ⟨q, _, rfl⟩ := ha
    exact .int _ _
  · cases hc'

theorem delete_c (l : List Int) (p : Int → Bool) (g : Nat) (caps : List AV) (hd : ∀ x ∈ caps, Dat x) (hg : ∀ x ∈ l, Pure Try.prog g (.int .i64 x :: caps) (.bool (p x))) (hl : Sh l) (b n : Nat) (hn : l.length = n) (H : Hp) (nx : Nat) (hb : H b = some (l.map (AV.int .i64))) :
    Abs.Fn Try.prog 55 [.msl b n 1 0 n, .func g caps] H nx fun r H' nx' => nx' = nx ∧ (∀ x, x ≠ b → H' x = H x) ∧ ∃ (c : List Int) (m : Nat), r = .msl b n 1 0 m ∧ H' b = some (c.map (AV.int .i64)) ∧ c.length = n ∧ m ≤ n ∧ c.take m = l.filter fun x => !p x := by
  refine Abs.Fn.of_c2 follows is55 (Nat.le_of_ble_eq_true rfl) ?_
  simp only [b55, O, G, N, M, D, F, B2, cFal, cTru]
  refine w_seq ?_
  repeat' (first | apply w_ops0 | apply a_n | apply o_nil | (apply o_val rfl rfl; (focus ((try simp (disch := omega) only [simB0, ZA, reduceEqDiff, ↓reduceIte, reduceAdd, reduceLeDiff, ZV, reduceCtorEq]); first | with_reducible rfl | (apply s_ite; (focus omega); with_reducible rfl)))))
  refine w_seq ?_
  repeat' (first | apply w_ops0 | (apply o_val rfl rfl; (focus ((try simp (disch := omega) only [simB0, ZA, reduceEqDiff, ↓reduceIte, reduceAdd, reduceLeDiff, ZV, reduceCtorEq]); first | with_reducible rfl | (apply s_ite; (focus omega); with_reducible rfl)))))
  refine o_callP (by ((try simp only [simB0, ZA, reduceEqDiff, ↓reduceIte, reduceAdd, reduceLeDiff]); (try with_reducible rfl))) (by ((try simp only [simB0, ZA, reduceEqDiff, ↓reduceIte, reduceAdd, reduceLeDiff]); (try with_reducible rfl))) (indexF_c l p g caps hd hg hl) (snap_plain (snapL_cons (snap_row hb rfl hn) (snapL_cons (Dat.func hd H) snapL_nil)) rfl) ?_
  repeat' (first | apply a_n | apply o_nil | (apply o_val rfl rfl; (focus ((try simp (disch := omega) only [simB0, ZA, reduceEqDiff, ↓reduceIte, reduceAdd, reduceLeDiff, ZV, reduceCtorEq]); first | with_reducible rfl | (apply s_ite; (focus omega); with_reducible rfl)))))
  refine w_seqC (fun T H' nx' => H' = H ∧ nx' = nx ∧ T 0 = .msl b n 1 0 n ∧ T 1 = .func g caps ∧ T 5 = .int .i64 (idxF l p) ∧ idxF l p ≠ -1) ?_ ?_
  · repeat' (first | apply w_seq | apply w_ops0 | apply w_skip | apply w_ret | apply a_n | apply a_r | apply o_nil | (apply o_val rfl rfl; (focus ((try simp (disch := omega) only [simB0, ZA, reduceEqDiff, ↓reduceIte, reduceAdd, reduceLeDiff, ZV, reduceCtorEq, hb]); first | with_reducible rfl | (apply s_ite; (focus omega); with_reducible rfl)))) | (apply w_cond; (focus ((try simp only [simB0, ZA, reduceEqDiff, ↓reduceIte, reduceAdd, reduceLeDiff, hb]); (try with_reducible rfl); done)); all_goals (intro _hg; (try simp only [ZB] at _hg); try first | exact absurd trivial _hg | (exfalso; omega))) | (refine e_ends rfl ?_) | (apply r_1; (focus (simp only [rv, simB0, ZA, reduceEqDiff, ↓reduceIte, reduceAdd, reduceLeDiff, hb]; with_reducible rfl))))
    · refine ⟨rfl, fun _ _ => rfl, l, n, rfl, hb, hn, Nat.le_refl _, ?_⟩
      unfold idxF at _hg
      split at _hg
      · omega
      · rename_i h
        rw [List.take_of_length_le (by omega), List.filter_eq_self.2]
        intro x hx
        simp only [Bool.not_eq_true, List.any_eq_false] at h
        simp [h x hx]
    · exact ⟨rfl, rfl, rfl, rfl, rfl, _hg⟩
  · rintro T H nx ⟨rfl, rfl, t0, t1, t5, hne⟩
    obtain ⟨k, hk, hk1, hk2, hk3⟩ : ∃ k : Nat, idxF l p = k ∧ k < l.length ∧ p (l.getD k default) = true ∧ ∀ i, i < k → p (l.getD i default) = false := by
      unfold idxF at hne ⊢
      split at hne
      · rename_i h
        rw [if_pos h]
        have hlt : l.findIdx p < l.length := List.findIdx_lt_length.2 (by simpa [List.any_eq_true] using h)
        refine ⟨_, rfl, hlt, ?_, fun i hi => ?_⟩
        · have := List.findIdx_getElem (w := hlt)
          simpa [List.getD, hlt] using this
        · have := List.not_of_lt_findIdx hi
          simpa [List.getD, show i < l.length by omega] using this
      · exact absurd rfl hne
    rw [hk] at t5
    refine w_seq (w_seq ?_)
    repeat' (first | apply w_ops0 | apply a_n | apply o_nil | (apply o_val rfl rfl; (focus ((try simp (disch := omega) only [simB0, ZA, reduceEqDiff, ↓reduceIte, reduceAdd, reduceLeDiff, ZV, reduceCtorEq, t0, t1, t5]); first | with_reducible rfl | (apply s_ite; (focus omega); with_reducible rfl)))))
    refine w_block (w_loop ?_)
    refine loopI (X := List Int × Nat × Nat) (fun x => [(0, .msl b n 1 0 n), (1, .func g caps), (5, .int .i64 x.2.1), (6, .int .i64 x.2.2)])
      (fun x H' nx' => nx' = nx ∧ (∀ y, y ≠ b → H' y = H y) ∧ H' b = some (x.1.map (AV.int .i64)) ∧ x.1.length = n ∧ x.2.1 < x.2.2 ∧ x.2.2 ≤ n ∧ x.1.take x.2.1 = (l.take x.2.2).filter (fun x => !p x) ∧ x.1.drop x.2.2 = l.drop x.2.2) (fun x => n - x.2.2) (l, k, k + 1)
      ⟨rfl, fun _ _ => rfl, hb, hn, Nat.lt_succ_self _, by show k + 1 ≤ n; omega, ?_, rfl⟩ (by simp (disch := omega) only [agr, ZG, reduceEqDiff, ↓reduceIte, t0, t1, t5]) ?_
    · rw [take_succ' hk1, List.filter_append, List.filter_cons]
      simp only [hk2, Bool.not_true, Bool.false_eq_true, if_false, List.filter_nil, List.append_nil]
      symm
      rw [List.filter_eq_self]
      intro x hx
      obtain ⟨i, hi, e⟩ := List.getElem_of_mem hx
      rw [List.length_take] at hi
      have := hk3 i (by omega)
      rw [show l.getD i default = x by rw [← e]; simp [List.getD, show i < l.length by omega]] at this
      simp [this]
    · rintro ⟨c, i, j⟩ H' nx' ⟨rfl, e1, e2, e3, e4, e5, e6, e7⟩
      dsimp only at e2 e3 e4 e5 e6 e7 ⊢
      have hgj : j < n → c.getD j default = l.getD j default := fun h => by
        have : (c.drop j).getD 0 default = (l.drop j).getD 0 default := by rw [e7]
        simpa [List.getD] using this
      repeat' (first | apply w_seq | apply w_ops0 | apply w_block | apply w_skip | apply w_exit | apply a_n | apply a_x | apply o_nil | (apply o_val rfl rfl; (focus ((try simp (disch := omega) only [simB0, ZA, reduceEqDiff, ↓reduceIte, reduceAdd, reduceLeDiff, ZV, reduceCtorEq, e2, e3]); first | with_reducible rfl | (apply s_ite; (focus omega); with_reducible rfl)))) | (apply w_cond; (focus ((try simp only [simB0, ZA, reduceEqDiff, ↓reduceIte, reduceAdd, reduceLeDiff, e2, e3]); (try with_reducible rfl); done)); all_goals (intro _hg; (try simp only [ZB] at _hg); try first | exact absurd trivial _hg | (exfalso; omega))))
      · rw [hgj (by omega)]
        refine o_callP (by ((try simp only [simB0, ZA, reduceEqDiff, ↓reduceIte, reduceAdd, reduceLeDiff]); (try with_reducible rfl))) (by ((try simp only [simB0, ZA, reduceEqDiff, ↓reduceIte, reduceAdd, reduceLeDiff]); (try with_reducible rfl))) (hg _ (mem_getD (by omega))) (snap_plain (snapL_cons (.int _ _) (snapL_datL hd)) rfl) ?_
        repeat' (first | apply w_seq | apply w_ops0 | apply w_skip | apply a_n | apply o_nil | (apply o_val rfl rfl; (focus ((try simp (disch := omega) only [simB0, ZA, reduceEqDiff, ↓reduceIte, reduceAdd, reduceLeDiff, ZV, reduceCtorEq, e2, e3]); first | with_reducible rfl | (apply s_ite; (focus omega); with_reducible rfl)))) | (apply e_st rfl; (iterate 4 (focus ((try simp only [simB0, ZA, reduceEqDiff, ↓reduceIte, reduceAdd, reduceLeDiff, e2, e3]); (try with_reducible rfl); done))); (focus (simp only [SO, Bool.and_self, one_encV, one_encVV, e2, e3])); (iterate 3 (focus ((try simp only [SL, reduceAdd, Nat.reduceMul, List.length_map]); first | done | omega)))) | (apply w_cond; (focus ((try simp only [simB0, ZA, reduceEqDiff, ↓reduceIte, reduceAdd, reduceLeDiff, e2, e3]); (try with_reducible rfl); done)); all_goals (intro _hg; (try simp only [ZB] at _hg); try first | exact absurd trivial _hg | (exfalso; omega))))
        · refine ⟨(c.set i (l.getD j default), i + 1, j + 1), by dsimp only; omega, ⟨rfl, fun y hy => by rw [hupd_ne hy, e1 y hy], ?_, by simpa using e3, by dsimp only; omega, by dsimp only; omega, ?_, ?_⟩, by simp (disch := omega) only [agr, ZG, reduceEqDiff, ↓reduceIte]⟩
          · rw [hupd_self', lput_map (by omega)]
          · dsimp only
            rw [take_succ' (l := l) (by omega), List.filter_append, ← e6, List.filter_cons, List.filter_nil, _hg, if_pos (by rfl), take_succ' (by simp; omega)]
            rw [List.take_set_of_le (Nat.le_refl _), List.getD_eq_getElem?_getD, List.getElem?_set_self (by omega)]; rfl
          · dsimp only
            rw [List.drop_set_of_lt (by omega)]
            have : (c.drop j).drop 1 = (l.drop j).drop 1 := by rw [e7]
            simpa using this
        · refine ⟨(c, i, j + 1), by dsimp only; omega, ⟨rfl, e1, e2, e3, by dsimp only; omega, by dsimp only; omega, ?_, ?_⟩, by simp (disch := omega) only [agr, ZG, reduceEqDiff, ↓reduceIte]⟩
          · dsimp only
            rw [take_succ' (l := l) (by omega), List.filter_append, ← e6, List.filter_cons, List.filter_nil, _hg]
            simp
          · dsimp only
            have : (c.drop j).drop 1 = (l.drop j).drop 1 := by rw [e7]
            simpa using this
      · repeat' (first | (apply o_val rfl rfl; (focus ((try simp (disch := omega) only [simB0, ZA, reduceEqDiff, ↓reduceIte, reduceAdd, reduceLeDiff, ZV, reduceCtorEq, e2, e3, asls_lo, asls_hi]); first | with_reducible rfl | (apply s_ite; (focus omega); with_reducible rfl)))))
        refine o_clr (by ((try simp only [simB0, ZA, reduceEqDiff, ↓reduceIte, reduceAdd, reduceLeDiff]); (try with_reducible rfl)); exact aclear_int (by omega) e2 e3) ?_
        repeat' (first | apply w_seq | apply w_ops0 | apply w_ret | apply a_n | apply o_nil | (apply o_val rfl rfl; (focus ((try simp (disch := omega) only [simB0, ZA, reduceEqDiff, ↓reduceIte, reduceAdd, reduceLeDiff, ZV, reduceCtorEq, e2, e3, asls_lo, asls_hi]); first | with_reducible rfl | (apply s_ite; (focus omega); with_reducible rfl)))) | (refine e_ends rfl ?_) | (apply r_1; (focus (simp only [rv, simB0, ZA, reduceEqDiff, ↓reduceIte, reduceAdd, reduceLeDiff, e2, e3, asls_lo, asls_hi]; with_reducible rfl))))
        refine ⟨rfl, fun x hx => by rw [hupd_ne hx, e1 x hx], _, i, rfl, hupd_self', by simp; omega, by omega, ?_⟩
        rw [List.take_of_length_le (i := j) (by omega)] at e6
        rw [← e6, List.take_append_of_le_length (by simp; omega), List.take_take, Nat.min_self]

theorem crusader1_c (v : Int) (l m : List Int) (hm : Sh m) (h0 : m ≠ []) : Pure Try.prog 54 [encV l, encV m, .iptr [.int .i64 v] 0] (.bool (decide ((kinds (m.filter fun x => !decide (x = v))).length ≤ 1))) := by
  refine Pure.of_c2 follows is54 (Nat.le_of_ble_eq_true rfl) ?_
  simp only [b54, O, G, N, M, D, F, B2, cFal, cTru]
  refine w_seq ?_
  repeat' (first | apply w_ops0 | apply a_n | apply o_nil | (apply o_val rfl rfl; (focus ((try simp (disch := omega) only [simB0, ZA, reduceEqDiff, ↓reduceIte, reduceAdd, reduceLeDiff, ZV, reduceCtorEq]); first | with_reducible rfl | (apply s_ite; (focus omega); with_reducible rfl)))))
  refine w_seq ?_
  repeat' (first | apply w_ops0 | (apply o_val rfl rfl; (focus ((try simp (disch := omega) only [simB0, ZA, reduceEqDiff, ↓reduceIte, reduceAdd, reduceLeDiff, ZV, reduceCtorEq]); first | with_reducible rfl | (apply s_ite; (focus omega); with_reducible rfl)))))
  refine o_call (by ((try simp only [simB0, ZA, reduceEqDiff, ↓reduceIte, reduceAdd, reduceLeDiff]); (try with_reducible rfl))) (Abs.Fn.mono (by ((try simp only [simB0, ZA, reduceEqDiff, ↓reduceIte, reduceAdd, reduceLeDiff]); (try with_reducible rfl)); exact cloneM_c m hm h0 _ _) ?_)
  rintro _ _ _ ⟨rfl, rfl, rfl⟩
  repeat' (first | (apply o_val rfl rfl; (focus ((try simp (disch := omega) only [simB0, ZA, reduceEqDiff, ↓reduceIte, reduceAdd, reduceLeDiff, ZV, reduceCtorEq]); first | with_reducible rfl | (apply s_ite; (focus omega); with_reducible rfl)))))
  refine o_call (by ((try simp only [simB0, ZA, reduceEqDiff, ↓reduceIte, reduceAdd, reduceLeDiff]); (try with_reducible rfl))) (Abs.Fn.mono (by ((try simp only [simB0, ZA, reduceEqDiff, ↓reduceIte, reduceAdd, reduceLeDiff]); (try with_reducible rfl)); exact delete_c m (fun x => decide (x = v)) 56 _ (DatL.cons (Dat.iptr (DatL.cons .int DatL.nil)) DatL.nil) (fun x _ => crusader11_c x v) hm 0 m.length rfl _ _ hupd_self') ?_)
  rintro _ H nx ⟨rfl, h1, c, k, rfl, h2, h3, h4, h5⟩
  repeat' (first | apply a_n | apply o_nil | (apply o_val rfl rfl; (focus ((try simp (disch := omega) only [simB0, ZA, reduceEqDiff, ↓reduceIte, reduceAdd, reduceLeDiff, ZV, reduceCtorEq]); first | with_reducible rfl | (apply s_ite; (focus omega); with_reducible rfl)))))
  refine w_seq ?_
  repeat' (first | apply w_ops0 | (apply o_val rfl rfl; (focus ((try simp (disch := omega) only [simB0, ZA, reduceEqDiff, ↓reduceIte, reduceAdd, reduceLeDiff, ZV, reduceCtorEq]); first | with_reducible rfl | (apply s_ite; (focus omega); with_reducible rfl)))))
  have hs : Sh (m.filter fun x => !decide (x = v)) := Nat.le_trans (List.length_filter_le _ _) hm
  refine o_callP (by ((try simp only [simB0, ZA, reduceEqDiff, ↓reduceIte, reduceAdd, reduceLeDiff]); (try with_reducible rfl))) (by ((try simp only [simB0, ZA, reduceEqDiff, ↓reduceIte, reduceAdd, reduceLeDiff]); (try with_reducible rfl))) (different_c _ hs) (snap_plain (snapL_cons (snap_pre h2 (by omega) h4 h5) snapL_nil) rfl) ?_
  repeat' (first | apply w_ret | apply a_n | apply o_nil | (apply o_val rfl rfl; (focus ((try simp (disch := omega) only [simB0, ZA, reduceEqDiff, ↓reduceIte, reduceAdd, reduceLeDiff, ZV, reduceCtorEq]); first | with_reducible rfl | (apply s_ite; (focus omega); with_reducible rfl)))) | (refine e_ends rfl ?_) | (apply r_1; (focus (simp only [rv, simB0, ZA, reduceEqDiff, ↓reduceIte, reduceAdd, reduceLeDiff]; with_reducible rfl))))
  refine snap_bool ?_
  simp only [Int.ofNat_le, show (1 : Int) = ((1 : Nat) : Int) from rfl]

/-! ### the other tasks -/
def kCrus (n v : Int) : KindV := ⟨n.toNat, v.toNat, (moreI v).toNat, false, fun _ => true, fun _ m => decide ((kinds (m.filter fun x => !decide (x = v))).length ≤ 1), fun l m => eqv m (l.getD 0 default)⟩
def crusT (n v : Int) : TaskV × Int := taskI n v (moreI v) (-1) (kCrus n v)
theorem made_crus (n v : Int) : Pure Try.prog 45 [.agg [.int .i64 n, .int .i64 v, .int .i64 (moreI v), .int .i64 (-1), .nilf, .func 54 [.iptr [.int .i64 v] 0], .func 57 []]] (.tup [encT (crusT n v).1, .int .i64 (crusT n v).2]) := by
  refine made_all n v (moreI v) (-1) (kCrus n v) _ _ _ DatF.nil (DatF.fun1 .int) DatF.fun0 (fun h => ?_)
  unfold inR at h
  have h5 : (kCrus n v).n ≤ 5 := by show n.toNat ≤ 5; omega
  have h1 : (kCrus n v).n ≠ 0 := by show n.toNat ≠ 0; omega
  refine ⟨by show (n.toNat : Int) = n; omega, by show (v.toNat : Int) = v; omega, by show ((moreI v).toNat : Int) = moreI v; omega, ⟨.inl ⟨rfl, fun _ => rfl⟩⟩, by simp [kCrus], Cond2.fun1 .int (fun x hx y hy => ?_), .inr (Cond2.fun0 fun x hx y hy => ?_)⟩
  · exact crusader1_c v x y (every_sh h5 hy) (every_ne h1 hy)
  · exact crusader2_c x y (every_ne h1 hx) (every_sh h5 hx) (every_sh h5 hy)

theorem crus_c (n v : Int) : Pure Try.prog 13 [.int .i64 n, .int .i64 v] (.tup [encT (crusT n v).1, .int .i64 (crusT n v).2]) := by
  refine Pure.of_c2 follows is13 (Nat.le_of_ble_eq_true rfl) ?_
  simp only [b13, O, G, N, M, D, F, B2, cFal, cTru]
  have hm := made_crus n v
  unfold moreI at hm
  refine w_seq ?_
  repeat' (first | apply w_ops0 | apply a_n | apply o_nil | (apply o_val rfl rfl; (focus ((try simp (disch := omega) only [simB0, ZA, reduceEqDiff, ↓reduceIte, reduceAdd, reduceLeDiff, ZV, reduceCtorEq]); first | with_reducible rfl | (apply s_ite; (focus omega); with_reducible rfl)))) | (apply e_alloc rfl; (focus ((try simp only [simB0, ZA, reduceEqDiff, ↓reduceIte, reduceAdd, reduceLeDiff]); (try with_reducible rfl); done)); (focus (simp only [SO, Bool.and_self, one_encV, one_encVV]))) | (apply e_box rfl; (iterate 2 (focus ((try simp only [simB0, ZA, reduceEqDiff, ↓reduceIte, reduceAdd, reduceLeDiff]); (try with_reducible rfl); done))); (focus (simp only [SO, Bool.and_self, one_encV, one_encVV]))))
  refine w_seq ?_
  refine w_mixS1F (only 0 [.int .i64 v]) _ [(0, .int .i64 n), (3, .iptr [.int .i64 v] 0), (4, .ptr 1 4 0)] (Fz.one (by ((try simp only [simB0, ZA, reduceEqDiff, ↓reduceIte, reduceAdd, reduceLeDiff]); (try with_reducible rfl)))) ⟨.inl (by ((try simp only [simB0, ZA, reduceEqDiff, ↓reduceIte, reduceAdd, reduceLeDiff]); (try with_reducible rfl))), .inr ?_, .inl (by ((try simp only [simB0, ZA, reduceEqDiff, ↓reduceIte, reduceAdd, reduceLeDiff]); (try with_reducible rfl))), trivial⟩ ?_
  · ((try simp only [simB0, ZA, reduceEqDiff, ↓reduceIte, reduceAdd, reduceLeDiff]); (try with_reducible rfl))
    exact snap_ptr only_at rfl (snapL_cons (.int _ _) snapL_nil)
  repeat' (first | apply w_ret | apply a_n | apply o_nil | (apply o_val rfl rfl; (focus ((try simp (disch := omega) only [simB0, ZA, reduceEqDiff, ↓reduceIte, reduceAdd, reduceLeDiff, ZV, reduceCtorEq, encT_cells, encCs_one, encCs_cells]); first | with_reducible rfl | (apply s_ite; (focus omega); with_reducible rfl)))) | (apply o_callD; (iterate 2 (focus ((try simp only [simB0, ZA, reduceEqDiff, ↓reduceIte, reduceAdd, reduceLeDiff, encT_cells, encCs_one, encCs_cells]); (try with_reducible rfl); done))); (focus (first | (exact more_c _) | (exact hm))); (focus ((first | refine snap_plain ?_ rfl | apply snap_data); repeat' (first | exact snapL_nil | apply snapL_i | apply snapL_dat | exact kind_dat DatF.nil (DatF.fun1 .int) DatF.fun0)))) | (apply e_st rfl; (iterate 4 (focus ((try simp only [simB0, ZA, reduceEqDiff, ↓reduceIte, reduceAdd, reduceLeDiff, encT_cells, encCs_one, encCs_cells]); (try with_reducible rfl); done))); (focus (simp only [SO, Bool.and_self, one_encV, one_encVV, encT_cells, encCs_one, encCs_cells])); (iterate 3 (focus ((try simp only [SL, reduceAdd, Nat.reduceMul, List.length_map]); first | done | omega)))) | (refine e_ends rfl ?_) | (apply r_2; (iterate 2 (focus (simp only [rv, simB0, ZA, reduceEqDiff, ↓reduceIte, reduceAdd, reduceLeDiff, encT_cells, encCs_one, encCs_cells]; with_reducible rfl)))))
  exact encTE_dat _ _ _

def kRen (n i o : Int) : KindV := ⟨n.toNat, i.toNat, o.toNat, true, fun l => decide ((kinds l).length = l.length), fun _ m => decide ((kinds m).length = m.length), fun _ _ => false⟩
def renT (n i o : Int) : TaskV × Int := taskI n i o (-1) (kRen n i o)
theorem made_ren (n i o : Int) : Pure Try.prog 45 [.agg [.int .i64 n, .int .i64 i, .int .i64 o, .int .i64 (-1), .func 76 [], .func 77 [], .nilf]] (.tup [encT (renT n i o).1, .int .i64 (renT n i o).2]) := by
  refine made_all n i o (-1) (kRen n i o) _ _ _ DatF.fun0 DatF.fun0 DatF.nil (fun h => ?_)
  unfold inR at h
  have h5 : (kRen n i o).n ≤ 5 := by show n.toNat ≤ 5; omega
  refine ⟨by show (n.toNat : Int) = n; omega, by show (i.toNat : Int) = i; omega, by show (o.toNat : Int) = o; omega, ⟨.inr ⟨76, [], rfl, DatL.nil, fun x hx => ?_⟩⟩, by simp [kRen], Cond2.fun0 (fun x hx y hy => ?_), .inl ⟨rfl, fun _ _ => rfl⟩⟩
  · exact renaming1_c x (every_sh h5 hx)
  · exact renaming2_c x y (every_sh h5 hy)
theorem ren_c (n i o : Int) : Pure Try.prog 35 [.int .i64 n, .int .i64 i, .int .i64 o] (.tup [encT (renT n i o).1, .int .i64 (renT n i o).2]) := by
  refine Pure.of_c2 follows is35 (Nat.le_of_ble_eq_true rfl) ?_
  simp only [b35, O, G, N, M, D, F, B2, cFal, cTru]
  have hm := made_ren n i o
  repeat' (first | apply w_seq | apply w_ops0 | apply w_ret | apply a_n | apply o_nil | (apply o_val rfl rfl; (focus ((try simp (disch := omega) only [simB0, ZA, reduceEqDiff, ↓reduceIte, reduceAdd, reduceLeDiff, ZV, reduceCtorEq, encT_cells, encCs_one, encCs_cells]); first | with_reducible rfl | (apply s_ite; (focus omega); with_reducible rfl)))) | (apply o_callD; (iterate 2 (focus ((try simp only [simB0, ZA, reduceEqDiff, ↓reduceIte, reduceAdd, reduceLeDiff, encT_cells, encCs_one, encCs_cells]); (try with_reducible rfl); done))); (focus (first | (exact hm))); (focus ((first | refine snap_plain ?_ rfl | apply snap_data); repeat' (first | exact snapL_nil | apply snapL_i | apply snapL_dat | exact kind_dat DatF.fun0 DatF.fun0 DatF.nil)))) | (apply e_alloc rfl; (focus ((try simp only [simB0, ZA, reduceEqDiff, ↓reduceIte, reduceAdd, reduceLeDiff, encT_cells, encCs_one, encCs_cells]); (try with_reducible rfl); done)); (focus (simp only [SO, Bool.and_self, one_encV, one_encVV, encT_cells, encCs_one, encCs_cells]))) | (apply e_st rfl; (iterate 4 (focus ((try simp only [simB0, ZA, reduceEqDiff, ↓reduceIte, reduceAdd, reduceLeDiff, encT_cells, encCs_one, encCs_cells]); (try with_reducible rfl); done))); (focus (simp only [SO, Bool.and_self, one_encV, one_encVV, encT_cells, encCs_one, encCs_cells])); (iterate 3 (focus ((try simp only [SL, reduceAdd, Nat.reduceMul, List.length_map]); first | done | omega)))) | (refine e_ends rfl ?_) | (apply r_2; (iterate 2 (focus (simp only [rv, simB0, ZA, reduceEqDiff, ↓reduceIte, reduceAdd, reduceLeDiff, encT_cells, encCs_one, encCs_cells]; with_reducible rfl)))))
  exact encTE_dat _ _ _

def kCom (n : Int) : KindV := ⟨n.toNat, 2, 2, false, fun _ => true, fun l m => eqv m 0 || eqv m 1 && decide (l.foldl min (l.getD 0 default) = 1), fun l m => eqv m (l.foldl min (l.getD 0 default))⟩
def comT (n : Int) : TaskV × Int := taskI n 2 2 (-1) (kCom n)
theorem made_com (n : Int) : Pure Try.prog 45 [.agg [.int .i64 n, .int .i64 2, .int .i64 2, .int .i64 (-1), .nilf, .func 62 [.iptr [.func 61 []] 0], .func 63 [.iptr [.func 61 []] 0]]] (.tup [encT (comT n).1, .int .i64 (comT n).2]) := by
  have hd : Dat (.func 61 []) := Dat.func DatL.nil
  refine made_all n 2 2 (-1) (kCom n) _ _ _ DatF.nil (DatF.fun1 hd) (DatF.fun1 hd) (fun h => ?_)
  unfold inR at h
  have h5 : (kCom n).n ≤ 5 := by show n.toNat ≤ 5; omega
  have h1 : (kCom n).n ≠ 0 := by show n.toNat ≠ 0; omega
  refine ⟨by show (n.toNat : Int) = n; omega, rfl, rfl, ⟨.inl ⟨rfl, fun _ => rfl⟩⟩, by simp [kCom], Cond2.fun1 hd (fun x hx y hy => ?_), .inr (Cond2.fun1 hd fun x hx y hy => ?_)⟩
  · exact commit2_c x y (every_ne h1 hx) (every_sh h5 hx) (every_sh h5 hy)
  · exact commit3_c x y (every_ne h1 hx) (every_sh h5 hx) (every_sh h5 hy)
theorem com_c (n : Int) : Pure Try.prog 23 [.int .i64 n] (.tup [encT (comT n).1, .int .i64 (comT n).2]) := by
  refine Pure.of_c2 follows is23 (Nat.le_of_ble_eq_true rfl) ?_
  simp only [b23, O, G, N, M, D, F, B2, cFal, cTru]
  have hm := made_com n
  have hd : Dat (.func 61 []) := Dat.func DatL.nil
  refine w_seq ?_
  repeat' (first | apply w_ops0 | apply a_n | apply o_nil | (apply o_val rfl rfl; (focus ((try simp (disch := omega) only [simB0, ZA, reduceEqDiff, ↓reduceIte, reduceAdd, reduceLeDiff, ZV, reduceCtorEq]); first | with_reducible rfl | (apply s_ite; (focus omega); with_reducible rfl)))) | (apply e_alloc rfl; (focus ((try simp only [simB0, ZA, reduceEqDiff, ↓reduceIte, reduceAdd, reduceLeDiff]); (try with_reducible rfl); done)); (focus (simp only [SO, Bool.and_self, one_encV, one_encVV]))))
  refine w_seq ?_
  repeat' (first | apply w_ops0 | apply a_n | apply o_nil | (apply e_alloc rfl; (focus ((try simp only [simB0, ZA, reduceEqDiff, ↓reduceIte, reduceAdd, reduceLeDiff]); (try with_reducible rfl); done)); (focus (simp only [SO, Bool.and_self, one_encV, one_encVV]))) | (apply e_st rfl; (iterate 4 (focus ((try simp only [simB0, ZA, reduceEqDiff, ↓reduceIte, reduceAdd, reduceLeDiff]); (try with_reducible rfl); done))); (focus (simp only [SO, Bool.and_self, one_encV, one_encVV])); (iterate 3 (focus ((try simp only [SL, reduceAdd, Nat.reduceMul, List.length_map]); first | done | omega)))))
  refine w_seq ?_
  refine w_ops0F (only 1 [.func 61 []]) _ [(0, .int .i64 n), (4, .iptr [.func 61 []] 0), (2, .ptr 0 4 0)] (Fz.one (by ((try simp only [simB0, ZA, reduceEqDiff, ↓reduceIte, reduceAdd, reduceLeDiff]); (try with_reducible rfl)))) ⟨.inl (by ((try simp only [simB0, ZA, reduceEqDiff, ↓reduceIte, reduceAdd, reduceLeDiff]); (try with_reducible rfl))), .inr ?_, .inl (by ((try simp only [simB0, ZA, reduceEqDiff, ↓reduceIte, reduceAdd, reduceLeDiff]); (try with_reducible rfl))), trivial⟩ ?_
  · ((try simp only [simB0, ZA, reduceEqDiff, ↓reduceIte, reduceAdd, reduceLeDiff]); (try with_reducible rfl))
    exact snap_ptr only_at rfl (snapL_cons (hd _) snapL_nil)
  repeat' (first | apply w_ret | apply a_n | apply o_nil | (apply o_val rfl rfl; (focus ((try simp (disch := omega) only [simB0, ZA, reduceEqDiff, ↓reduceIte, reduceAdd, reduceLeDiff, ZV, reduceCtorEq, encT_cells, encCs_one, encCs_cells]); first | with_reducible rfl | (apply s_ite; (focus omega); with_reducible rfl)))) | (apply o_callD; (iterate 2 (focus ((try simp only [simB0, ZA, reduceEqDiff, ↓reduceIte, reduceAdd, reduceLeDiff, encT_cells, encCs_one, encCs_cells]); (try with_reducible rfl); done))); (focus (first | (exact hm))); (focus ((first | refine snap_plain ?_ rfl | apply snap_data); repeat' (first | exact snapL_nil | apply snapL_i | apply snapL_dat | exact kind_dat DatF.nil (DatF.fun1 hd) (DatF.fun1 hd))))) | (apply e_st rfl; (iterate 4 (focus ((try simp only [simB0, ZA, reduceEqDiff, ↓reduceIte, reduceAdd, reduceLeDiff, encT_cells, encCs_one, encCs_cells]); (try with_reducible rfl); done))); (focus (simp only [SO, Bool.and_self, one_encV, one_encVV, encT_cells, encCs_one, encCs_cells])); (iterate 3 (focus ((try simp only [SL, reduceAdd, Nat.reduceMul, List.length_map]); first | done | omega)))) | (refine e_ends rfl ?_) | (apply r_2; (iterate 2 (focus (simp only [rv, simB0, ZA, reduceEqDiff, ↓reduceIte, reduceAdd, reduceLeDiff, encT_cells, encCs_one, encCs_cells]; with_reducible rfl)))))
  exact encTE_dat _ _ _

end Go.Proofs.Ytcbkggfipdldaaa

/- P10: contracts of functions and plain laws; for all inputs that the theorems name. -/
namespace Go.Proofs.Ytcbkggfipdldaaa
open Go Go.Abs
open Nat (reduceEqDiff reduceAdd reduceLeDiff)
attribute [local irreducible] awp2 aops2 ains aloop athen bbind obind gbind acond res1 Go.Abs.Fn PCall Go.Abs.Pure SnapArgs SnapL Yl

/-! ### the reference's conditions -/
theorem mem_kinds {l : List Int} {v : Int} : v ∈ kinds l ↔ v ∈ l := by
  suffices h : ∀ (l ks : List Int), v ∈ l.foldl (fun ks v => if v ∈ ks then ks else ks ++ [v]) ks ↔ v ∈ ks ∨ v ∈ l by simpa [kinds] using h l []
  intro l
  induction l with
  | nil => simp
  | cons a l ih =>
    intro ks
    rw [List.foldl_cons, ih]
    split
    · rename_i h
      rw [List.mem_cons]
      constructor
      · rintro (h1 | h1)
        · exact .inl h1
        · exact .inr (.inr h1)
      · rintro (h1 | rfl | h1)
        · exact .inl h1
        · exact .inl h
        · exact .inr h1
    · rw [List.mem_append, List.mem_singleton, List.mem_cons, or_assoc]

def nearB (outs : Int) (l m : List Int) : Bool := if (kinds l).length = 1 then eqv m (IntKind.wrap .i64 (l.getD 0 default * IntKind.wrap .i64 (outs - 1))) else decide (IntKind.wrap .i64 (m.foldl max (m.getD 0 default) - m.foldl min (m.getD 0 default)) ≤ 1)
def honestB (ins : Int) (m : List Int) : Bool := m.all fun x => m.all fun y => !(decide (x < ins) && decide (y < ins) && decide (x ≠ y))
end Go.Proofs.Ytcbkggfipdldaaa

/- P11: contracts of functions and plain laws; for all inputs that the theorems name. -/
namespace Go.Proofs.Ytcbkggfipdldaaa
open Go Go.Abs
open Nat (reduceEqDiff reduceAdd reduceLeDiff)
attribute [local irreducible] awp2 aops2 ains aloop athen bbind obind gbind acond res1 Go.Abs.Fn PCall Go.Abs.Pure SnapArgs SnapL Yl

def allowB (task ins outs k : Int) (l m : List Int) : Bool :=
  if task = 0 then nearB outs l m else if task = 1 then eqv m 0 || (eqv m 1 && !decide (0 ∈ l)) else if task = 2 then decide ((kinds m).length = 1) && m.all (fun v => decide (v ∈ l)) else if task = 3 then honestB ins m else
  if task = 4 then decide (m.sum = 1) else if task = 5 then decide ((kinds m).length = m.length) else decide (((kinds m).length : Int) ≤ k) && m.all (fun v => decide (v ∈ l))
def calmB (task : Int) (l m : List Int) : Bool := if task = 1 then (decide (0 ∈ l) && eqv m 0) || (!decide (0 ∈ l) && eqv m 1) else if task = 3 then eqv m (l.getD 0 default) else false
def caseB (task : Int) (l : List Int) : Bool := decide (task ≠ 5) || decide ((kinds l).length = l.length)
/-! ### all vectors -/
end Go.Proofs.Ytcbkggfipdldaaa

/- P12: contracts of functions and plain laws; for all inputs that the theorems name. -/
namespace Go.Proofs.Ytcbkggfipdldaaa
open Go Go.Abs
open Nat (reduceEqDiff reduceAdd reduceLeDiff)
attribute [local irreducible] awp2 aops2 ains aloop athen bbind obind gbind acond res1 Go.Abs.Fn PCall Go.Abs.Pure SnapArgs SnapL Yl

def powL (base lim : Nat) : Nat → Nat
  | 0 => 1
  | i + 1 => if powL base lim i ≤ lim then powL base lim i * base else powL base lim i
theorem powL_le {base lim : Nat} (hb : base ≤ 8) (h1 : 1 ≤ lim) : ∀ i, powL base lim i ≤ lim * 8
  | 0 => by unfold powL; omega
  | i + 1 => by
    unfold powL
    split
    · exact Nat.mul_le_mul (by assumption) hb
    · exact powL_le hb h1 i
theorem powL_stop {base lim i : Nat} (h : lim < powL base lim i) : ∀ n, i ≤ n → powL base lim n = powL base lim i
  | 0, hn => by rw [show i = 0 by omega]
  | n + 1, hn => by
    by_cases e : i = n + 1
    · rw [e]
    · have := powL_stop h n (by omega)
      show (if powL base lim n ≤ lim then powL base lim n * base else powL base lim n) = _
      rw [this, if_neg (by omega)]
theorem power_r (base n lim : Nat) (hb : base ≤ 8) (hn : n ≤ 5) (h1 : 1 ≤ lim ∧ lim ≤ 2000) : Pure Try.prog 43 [.int .i64 base, .int .i64 n, .int .i64 lim] (.int .i64 (powL base lim n)) := by
  refine Pure.of_c2 follows is43 (Nat.le_of_ble_eq_true rfl) ?_
  simp only [b43, O, G, N, M, D, F, B2, cFal, cTru]
  repeat' (first | apply w_seq | apply w_ops0 | apply w_block | apply a_n | apply o_nil | (apply o_val rfl rfl; (focus ((try simp (disch := omega) only [simB0, ZA, reduceEqDiff, ↓reduceIte, reduceAdd, reduceLeDiff, ZV, reduceCtorEq]); first | with_reducible rfl | (apply s_ite; (focus omega); with_reducible rfl)))) | apply w_loop)
  refine loop0 (X := Nat) (fun k => [(0, .int .i64 base), (1, .int .i64 n), (2, .int .i64 lim), (7, .int .i64 (powL base lim k)), (8, .int .i64 k)]) (fun k => k ≤ n) (fun k => n - k) 0 (Nat.zero_le _) (by simp (disch := omega) only [agr, ZG, reduceEqDiff, ↓reduceIte, powL]) ?_
  rintro k hk
  have hp := powL_le hb h1.1 k
  repeat' (first | apply w_seq | apply w_ops0 | apply w_block | apply w_skip | apply w_exit | apply w_ret | apply a_n | apply a_x | apply o_nil | (apply o_val rfl rfl; (focus ((try simp (disch := omega) only [simB0, ZA, reduceEqDiff, ↓reduceIte, reduceAdd, reduceLeDiff, ZV, reduceCtorEq]); first | with_reducible rfl | (apply s_ite; (focus omega); with_reducible rfl)))) | (apply o_gT; (focus (simp only [simB0, ZA, reduceEqDiff, ↓reduceIte, reduceAdd, reduceLeDiff]; done))) | (apply o_gF; (focus (simp only [simB0, ZA, reduceEqDiff, ↓reduceIte, reduceAdd, reduceLeDiff, or_true, true_or]; done))) | (apply w_condF; (focus (simp only [simB0, ZA, reduceEqDiff, ↓reduceIte, reduceAdd, reduceLeDiff]; done))) | ((first | apply o_gB | apply w_cond); (focus ((try simp only [simB0, ZA, reduceEqDiff, ↓reduceIte, reduceAdd, reduceLeDiff]); (try with_reducible rfl); done)); all_goals (intro _hg; (try simp only [ZB] at _hg); try first | exact absurd trivial _hg | (exfalso; omega))) | (refine e_ends rfl ?_) | (apply r_1; (focus (simp only [rv, simB0, ZA, reduceEqDiff, ↓reduceIte, reduceAdd, reduceLeDiff]; with_reducible rfl))))
  · have hpb : powL base lim k * base ≤ 2000 * 8 := Nat.mul_le_mul (by omega) hb
    refine ⟨k + 1, by omega, by omega, ?_, rfl, rfl⟩
    rw [powL, if_pos (by omega)]
    simp (disch := omega) only [agr, ZG, reduceEqDiff, ↓reduceIte, ← Int.natCast_mul]
  · refine snap_int ?_
    rw [powL_stop (by omega) n hk]
  · refine snap_int ?_
    rw [show k = n by omega]

def fallL (ins : Nat) : Nat → Nat
  | 0 => 1
  | i + 1 => if fallL ins i ≤ 1024 then fallL ins i * (ins - i) else fallL ins i
def casesN (task : Int) (n ins : Nat) : Nat := if task = 5 then fallL ins n else powL ins 1024 n
/-! ### the vectors of a case -/
structure Two (H : Hp) (nx lo : Nat) (so sc : AV) (A C : List AV) : Prop where
  r1 : Row H 1 so A
  r2 : Row H 1 sc C
  b1 : ∀ b, rowB so = some b → lo ≤ b ∧ b < nx
  b2 : ∀ b, rowB sc = some b → lo ≤ b ∧ b < nx
  ne : ∀ b, rowB so = some b → rowB sc ≠ some b
theorem Two.put1 {H E : Hp} {nx e lo : Nat} {so sc s2 : AV} {A C new : List AV} (h : Two H nx lo so sc A C) (hlo : lo ≤ nx) (hrow : Row E 1 s2 (A ++ new)) (hle : nx ≤ e) (hs : ∀ i, i < nx → rowB so ≠ some i → E i = H i)
    (hb : ∀ b, rowB s2 = some b → rowB so = some b ∨ nx ≤ b ∧ b < e) : Two E e lo s2 sc (A ++ new) C := by
  refine ⟨hrow, h.r2.same fun b hb' => hs b (h.b2 b hb').2 (fun h1 => h.ne b h1 hb'), fun b hb' => ?_, fun b hb' => ?_, fun b hb' h2 => ?_⟩
  · rcases hb b hb' with h1 | h1
    · have := h.b1 b h1; omega
    · omega
  · have := h.b2 b hb'; omega
  · rcases hb b hb' with h1 | h1
    · exact h.ne b h1 h2
    · have := h.b2 b h2; omega

end Go.Proofs.Ytcbkggfipdldaaa

/- P13: contracts of functions and plain laws; for all inputs that the theorems name. -/
namespace Go.Proofs.Ytcbkggfipdldaaa
open Go Go.Abs
open Nat (reduceEqDiff reduceAdd reduceLeDiff)
attribute [local irreducible] awp2 aops2 ains aloop athen bbind obind gbind acond res1 Go.Abs.Fn PCall Go.Abs.Pure SnapArgs SnapL Yl

def rcase (task ins outs k : Int) (n o : Nat) (l : List Int) : CaseV := ⟨l, (every n o).filter (allowB task ins outs k l), (every n o).filter fun m => allowB task ins outs k l m && calmB task l m⟩
def rcases (task ins outs k : Int) (n o : Nat) (L : List (List Int)) : List CaseV := (L.filter (caseB task)).map (rcase task ins outs k n o)
def makeT (task n ins outs k : Int) : TaskV × Int :=
  if n < 1 ∨ 5 < n then (T00, 2) else if ins < 1 ∨ 8 < ins ∨ outs < 1 ∨ 8 < outs then (T00, 2) else if task = 6 ∧ (k < 1 ∨ n < k) then (T00, 2) else if task = 5 ∧ (ins < n ∨ outs < n) then (T00, 16) else
  if 1024 < casesN task n.toNat ins.toNat then (T00, 17) else if (rcases task ins outs k n.toNat outs.toNat (every n.toNat ins.toNat)).any (fun c => decide (1024 < c.out.length)) then (T00, 17) else
  (⟨n, ins, outs, rcases task ins outs k n.toNat outs.toNat (every n.toNat ins.toNat)⟩, 0)

end Go.Proofs.Ytcbkggfipdldaaa

/- P14: contracts of functions and plain laws; for all inputs that the theorems name. -/
namespace Go.Proofs.Ytcbkggfipdldaaa
open Go Go.Abs
open Nat (reduceEqDiff reduceAdd reduceLeDiff)
attribute [local irreducible] awp2 aops2 ains aloop athen bbind obind gbind acond res1 Go.Abs.Fn PCall Go.Abs.Pure SnapArgs SnapL Yl

/-! ### the reference's tasks -/
/-! ### equal tasks -/
theorem order_r (a : List Int) (ha : Sh a) : Pure Try.prog 58 [encV a, encV a] (.int .i64 0) := by
  refine Pure.of_c2 follows is58 (Nat.le_of_ble_eq_true rfl) ?_
  simp only [b58, O, G, N, M, D, F, B2, cFal, cTru]
  repeat' (first | apply w_seq | apply w_ops0 | apply w_block | apply a_n | apply o_nil | (apply o_val rfl rfl; (focus ((try simp (disch := omega) only [simB0, ZA, reduceEqDiff, ↓reduceIte, reduceAdd, reduceLeDiff, ZV, reduceCtorEq]); first | with_reducible rfl | (apply s_ite; (focus omega); with_reducible rfl)))) | apply w_loop)
  refine loop0 (X := Nat) (fun k => [(0, encV a), (1, encV a), (5, .int .i64 k)]) (fun k => k ≤ a.length) (fun k => a.length - k) 0 (Nat.zero_le _) (by simp (disch := omega) only [agr, ZG, reduceEqDiff, ↓reduceIte]) ?_
  rintro k h1
  repeat' (first | apply w_seq | apply w_ops0 | apply w_ops1 | apply w_block | apply w_skip | apply w_exit | apply w_ret | apply a_n | apply a_x | apply o_nil | (apply o_val rfl rfl; (focus ((try simp (disch := omega) only [simB0, ZA, reduceEqDiff, ↓reduceIte, reduceAdd, reduceLeDiff, ZV, reduceCtorEq]); first | with_reducible rfl | (apply s_ite; (focus omega); with_reducible rfl)))) | (apply o_gT; (focus (simp only [simB0, ZA, reduceEqDiff, ↓reduceIte, reduceAdd, reduceLeDiff]; done))) | (apply o_gF; (focus (simp only [simB0, ZA, reduceEqDiff, ↓reduceIte, reduceAdd, reduceLeDiff, or_true, true_or]; done))) | (apply w_condF; (focus (simp only [simB0, ZA, reduceEqDiff, ↓reduceIte, reduceAdd, reduceLeDiff]; done))) | ((first | apply o_gB | apply w_cond); (focus ((try simp only [simB0, ZA, reduceEqDiff, ↓reduceIte, reduceAdd, reduceLeDiff]); (try with_reducible rfl); done)); all_goals (intro _hg; (try simp only [ZB] at _hg); try first | exact absurd trivial _hg | (exfalso; omega))) | (refine e_ends rfl ?_) | (apply r_1; (focus (simp only [rv, simB0, ZA, reduceEqDiff, ↓reduceIte, reduceAdd, reduceLeDiff]; with_reducible rfl))))
  · refine ⟨k + 1, by omega, by omega, by simp (disch := omega) only [agr, ZG, reduceEqDiff, ↓reduceIte], rfl, rfl⟩
  · exact .int _ _

theorem sameVs_r (a : List (List Int)) (ha : Sh a) (hs : ∀ x ∈ a, Sh x) : Pure Try.prog 44 [encVV a, encVV a] (.bool true) := by
  refine Pure.of_c2 follows is44 (Nat.le_of_ble_eq_true rfl) ?_
  simp only [b44, O, G, N, M, D, F, B2, cFal, cTru]
  repeat' (first | apply w_seq | apply w_ops0 | apply w_block | apply w_skip | apply a_n | apply o_nil | (apply o_val rfl rfl; (focus ((try simp (disch := omega) only [simB0, ZA, reduceEqDiff, ↓reduceIte, reduceAdd, reduceLeDiff, ZV, reduceCtorEq]); first | with_reducible rfl | (apply s_ite; (focus omega); with_reducible rfl)))) | (apply w_cond; (focus ((try simp only [simB0, ZA, reduceEqDiff, ↓reduceIte, reduceAdd, reduceLeDiff]); (try with_reducible rfl); done)); all_goals (intro _hg; (try simp only [ZB] at _hg); try first | exact absurd trivial _hg | (exfalso; omega))) | apply w_loop)
  refine loop0 (X := Nat) (fun k => [(0, encVV a), (1, encVV a), (5, .int .i64 k)]) (fun k => k ≤ a.length) (fun k => a.length - k) 0 (Nat.zero_le _) (by simp (disch := omega) only [agr, ZG, reduceEqDiff, ↓reduceIte]) ?_
  rintro k h1
  repeat' (first | apply w_seq | apply w_ops0 | apply w_mixS1 | apply w_block | apply w_skip | apply w_exit | apply w_ret | apply a_n | apply a_x | apply o_nil | (apply o_val rfl rfl; (focus ((try simp (disch := omega) only [simB0, ZA, reduceEqDiff, ↓reduceIte, reduceAdd, reduceLeDiff, ZV, reduceCtorEq]); first | with_reducible rfl | (apply s_ite; (focus omega); with_reducible rfl)))) | (apply o_callD; (iterate 2 (focus ((try simp only [simB0, ZA, reduceEqDiff, ↓reduceIte, reduceAdd, reduceLeDiff]); (try with_reducible rfl); done))); (focus (first | (exact order_r _ (hs _ (mem_getD (by omega)))))); (focus ((first | refine snap_plain ?_ rfl | apply snap_data); repeat' (first | exact snapL_nil | apply snapL_i | apply snapL_dat)))) | (apply w_cond; (focus ((try simp only [simB0, ZA, reduceEqDiff, ↓reduceIte, reduceAdd, reduceLeDiff]); (try with_reducible rfl); done)); all_goals (intro _hg; (try simp only [ZB] at _hg); try first | exact absurd trivial _hg | (exfalso; omega))) | (refine e_ends rfl ?_) | (apply r_1; (focus (simp only [rv, simB0, ZA, reduceEqDiff, ↓reduceIte, reduceAdd, reduceLeDiff]; with_reducible rfl))))
  · refine ⟨k + 1, by omega, by omega, by simp (disch := omega) only [agr, ZG, reduceEqDiff, ↓reduceIte], rfl, rfl⟩
  · exact .bool _

theorem alenS_encCs (l : List CaseV) : alenS (encCs l) = some (.int .i64 l.length) := by simp [alenS, encCs]
theorem aixS_encCs {l : List CaseV} {k : Nat} (h : k < l.length) : aixS 3 (encCs l) (.int .i64 k) = some (.iptr [encV (l.getD k default).inp, encVV (l.getD k default).out, encVV (l.getD k default).calm] 0) := by
  simp [aixS, encCs, h, List.getD, encC, AV.cells]
def ShC (c : CaseV) : Prop := Sh c.inp ∧ Sh c.out ∧ (∀ x ∈ c.out, Sh x) ∧ Sh c.calm ∧ ∀ x ∈ c.calm, Sh x
theorem same_r (t : TaskV) (h1 : Sh t.cases) (h2 : ∀ c ∈ t.cases, ShC c) : Pure Try.prog 15 [encT t, encT t] (.bool true) := by
  refine Pure.of_c2 follows is15 (Nat.le_of_ble_eq_true rfl) ?_
  simp only [b15, O, G, N, M, D, F, B2, cFal, cTru]
  repeat' (first | apply w_seq | apply w_ops0 | apply w_block | apply w_skip | apply a_n | apply o_nil | (apply o_val rfl rfl; (focus ((try simp (disch := omega) only [simB0, ZA, reduceEqDiff, ↓reduceIte, reduceAdd, reduceLeDiff, ZV, reduceCtorEq, encT_cells, encCs_one, encCs_cells, alenS_encCs]); first | with_reducible rfl | (apply s_ite; (focus omega); with_reducible rfl)))) | (apply e_box rfl; (iterate 2 (focus ((try simp only [simB0, ZA, reduceEqDiff, ↓reduceIte, reduceAdd, reduceLeDiff, encT_cells, encCs_one, encCs_cells, alenS_encCs]); (try with_reducible rfl); done))); (focus (simp only [SO, Bool.and_self, one_encV, one_encVV, encT_cells, encCs_one, encCs_cells, alenS_encCs]))) | (apply o_gT; (focus (simp only [simB0, ZA, reduceEqDiff, ↓reduceIte, reduceAdd, reduceLeDiff, encT_cells, encCs_one, encCs_cells, alenS_encCs]; done))) | ((first | apply o_gB | apply w_cond); (focus ((try simp only [simB0, ZA, reduceEqDiff, ↓reduceIte, reduceAdd, reduceLeDiff, encT_cells, encCs_one, encCs_cells, alenS_encCs]); (try with_reducible rfl); done)); all_goals (intro _hg; (try simp only [ZB] at _hg); try first | exact absurd trivial _hg | (exfalso; omega))) | apply w_loop)
  refine loopI (X := Nat) (fun k => [(2, .ptr 0 4 0), (3, .ptr 1 4 0), (5, .int .i64 k)]) (fun k H nx => k ≤ t.cases.length ∧ 2 ≤ nx ∧ H 0 = some [.int .i64 t.n, .int .i64 t.ins, .int .i64 t.outs, encCs t.cases] ∧ H 1 = some [.int .i64 t.n, .int .i64 t.ins, .int .i64 t.outs, encCs t.cases]) (fun k => t.cases.length - k) 0 ⟨Nat.zero_le _, Nat.le_refl _, rfl, rfl⟩ (by simp (disch := omega) only [agr, ZG, reduceEqDiff, ↓reduceIte, List.length_cons, List.length_nil, reduceAdd, Nat.zero_add]) ?_
  rintro k H nx ⟨hk, hn, g0, g1⟩
  by_cases hj : k < t.cases.length
  · obtain ⟨s1, s2, s3, s4, s5⟩ := h2 _ (mem_getD hj)
    repeat' (first | apply w_seq | apply w_ops0 | apply w_ops2 | apply w_block | apply w_skip | apply a_n | apply o_nil | (apply o_val rfl; (focus (first | rfl | (simp (disch := omega) only [dm2, oldP, newP, simB0, ZA, reduceEqDiff, ↓reduceIte, reduceAdd, reduceLeDiff, decide_eq_true_eq]; first | done | omega))); (focus ((try simp (disch := omega) only [simB2, ZA, reduceEqDiff, ↓reduceIte, reduceAdd, reduceLeDiff, ZV, reduceCtorEq, g0, g1, encCs_one, encCs_cells, alenS_encCs, aixS_encCs]); first | with_reducible rfl | (apply s_ite; (focus omega); with_reducible rfl)))) | (apply o_callD; (iterate 2 (focus ((try simp (disch := omega) only [simB2, ZA, reduceEqDiff, ↓reduceIte, reduceAdd, reduceLeDiff, g0, g1, encCs_one, encCs_cells, alenS_encCs, aixS_encCs]); (try with_reducible rfl); done))); (focus (first | (exact order_r _ s1) | (exact sameVs_r _ s2 s3) | (exact sameVs_r _ s4 s5))); (focus ((first | refine snap_plain ?_ rfl | apply snap_data); repeat' (first | exact snapL_nil | apply snapL_i | apply snapL_dat)))) | (apply e_alloc rfl; (focus ((try simp (disch := omega) only [simB2, ZA, reduceEqDiff, ↓reduceIte, reduceAdd, reduceLeDiff, g0, g1, encCs_one, encCs_cells, alenS_encCs, aixS_encCs]); (try with_reducible rfl); done)); (focus (simp (disch := omega) only [SO, Bool.and_self, one_encV, one_encVV, g0, g1, encCs_one, encCs_cells, alenS_encCs, aixS_encCs]))) | (apply e_st; (focus (first | rfl | (simp (disch := omega) only [dm2, oldP, newP, simB0, ZA, reduceEqDiff, ↓reduceIte, reduceAdd, reduceLeDiff, decide_eq_true_eq]; first | done | omega))); (iterate 4 (focus ((try simp (disch := omega) only [simB2, ZA, reduceEqDiff, ↓reduceIte, reduceAdd, reduceLeDiff, g0, g1, encCs_one, encCs_cells, alenS_encCs, aixS_encCs]); (try with_reducible rfl); done))); (focus (simp (disch := omega) only [SO, Bool.and_self, one_encV, one_encVV, g0, g1, encCs_one, encCs_cells, alenS_encCs, aixS_encCs])); (iterate 3 (focus ((try simp (disch := omega) only [SL, reduceAdd, Nat.reduceMul, List.length_map]); first | done | omega)))) | (apply o_gT; (focus (simp (disch := omega) only [simB2, ZA, reduceEqDiff, ↓reduceIte, reduceAdd, reduceLeDiff, g0, g1, encCs_one, encCs_cells, alenS_encCs, aixS_encCs]; done))) | (apply w_condF; (focus (simp (disch := omega) only [simB2, ZA, reduceEqDiff, ↓reduceIte, reduceAdd, reduceLeDiff, g0, g1, encCs_one, encCs_cells, alenS_encCs, aixS_encCs]; done))) | ((first | apply o_gB | apply w_cond); (focus ((try simp (disch := omega) only [simB2, ZA, reduceEqDiff, ↓reduceIte, reduceAdd, reduceLeDiff, g0, g1, encCs_one, encCs_cells, alenS_encCs, aixS_encCs]); (try with_reducible rfl); done)); all_goals (intro _hg; (try simp (disch := omega) only [ZB] at _hg); try first | exact absurd trivial _hg | (exfalso; omega))))
    refine ⟨k + 1, by omega, ⟨by omega, by omega, ?_, ?_⟩, by simp (disch := omega) only [agr, ZG, reduceEqDiff, ↓reduceIte]⟩
    · rw [hupd_ne (by omega), hupd_ne (by omega), hupd_ne (by omega), hupd_ne (by omega), g0]
    · rw [hupd_ne (by omega), hupd_ne (by omega), hupd_ne (by omega), hupd_ne (by omega), g1]
  · repeat' (first | apply w_seq | apply w_ops0 | apply w_exit | apply w_ret | apply a_n | apply a_x | apply o_nil | (apply o_val rfl; (focus (first | rfl | (simp (disch := omega) only [dm2, oldP, newP, simB0, ZA, reduceEqDiff, ↓reduceIte, reduceAdd, reduceLeDiff, decide_eq_true_eq]; first | done | omega))); (focus ((try simp (disch := omega) only [simB2, ZA, reduceEqDiff, ↓reduceIte, reduceAdd, reduceLeDiff, ZV, reduceCtorEq, g0, g1, encCs_one, encCs_cells, alenS_encCs, aixS_encCs]); first | with_reducible rfl | (apply s_ite; (focus omega); with_reducible rfl)))) | (apply w_cond; (focus ((try simp (disch := omega) only [simB2, ZA, reduceEqDiff, ↓reduceIte, reduceAdd, reduceLeDiff, g0, g1, encCs_one, encCs_cells, alenS_encCs, aixS_encCs]); (try with_reducible rfl); done)); all_goals (intro _hg; (try simp (disch := omega) only [ZB] at _hg); try first | exact absurd trivial _hg | (exfalso; omega))) | (refine e_ends rfl ?_) | (apply r_1; (focus (simp (disch := omega) only [rv, simB2, ZA, reduceEqDiff, ↓reduceIte, reduceAdd, reduceLeDiff, g0, g1, encCs_one, encCs_cells, alenS_encCs, aixS_encCs]; with_reducible rfl))))
    exact .bool _

def fewB (n ins outs : Int) : Bool := decide (n < 1 ∨ 5 < n ∨ ins < 1 ∨ 8 < ins ∨ outs < 1 ∨ 8 < outs) || decide (powL ins.toNat 1000 n.toNat * powL outs.toNat 1000 n.toNat ≤ 3000)
theorem few_r (n ins outs : Int) : Pure Try.prog 9 [.int .i64 n, .int .i64 ins, .int .i64 outs] (.bool (fewB n ins outs)) := by
  refine Pure.of_c2 follows is9 (Nat.le_of_ble_eq_true rfl) ?_
  simp only [b9, O, G, N, M, D, F, B2, cFal, cTru]
  refine w_seq ?_
  repeat' (first | apply w_ops0 | apply a_n | apply o_nil | (apply o_val rfl rfl; (focus ((try simp (disch := omega) only [simB0, ZA, reduceEqDiff, ↓reduceIte, reduceAdd, reduceLeDiff, ZV, reduceCtorEq]); first | with_reducible rfl | (apply s_ite; (focus omega); with_reducible rfl)))))
  by_cases h : n < 1 ∨ 5 < n ∨ ins < 1 ∨ 8 < ins ∨ outs < 1 ∨ 8 < outs
  · refine w_seqC (fun _ _ _ => False) ?_ (fun _ _ _ h => h.elim)
    repeat' (first | apply w_seq | apply w_ops0 | apply w_ret | apply a_n | apply a_r | apply o_nil | (apply o_val rfl rfl; (focus ((try simp (disch := omega) only [simB0, ZA, reduceEqDiff, ↓reduceIte, reduceAdd, reduceLeDiff, ZV, reduceCtorEq]); first | with_reducible rfl | (apply s_ite; (focus omega); with_reducible rfl)))) | (apply o_gT; (focus (simp only [simB0, ZA, reduceEqDiff, ↓reduceIte, reduceAdd, reduceLeDiff]; done))) | (apply o_gF; (focus (simp only [simB0, ZA, reduceEqDiff, ↓reduceIte, reduceAdd, reduceLeDiff, or_true, true_or]; done))) | (apply w_condT; (focus (simp only [simB0, ZA, reduceEqDiff, ↓reduceIte, reduceAdd, reduceLeDiff]; done))) | ((first | apply o_gB | apply w_cond); (focus ((try simp only [simB0, ZA, reduceEqDiff, ↓reduceIte, reduceAdd, reduceLeDiff]); (try with_reducible rfl); done)); all_goals (intro _hg; (try simp only [ZB] at _hg); try first | exact absurd trivial _hg | (exfalso; omega))) | (refine e_ends rfl ?_) | (apply r_1; (focus (simp only [rv, simB0, ZA, reduceEqDiff, ↓reduceIte, reduceAdd, reduceLeDiff]; with_reducible rfl))))
    all_goals (refine snap_bool ?_; unfold fewB; rw [decide_eq_true h]; rfl)
  · refine w_seqC (fun T H nx => T 0 = .int .i64 n ∧ T 1 = .int .i64 ins ∧ T 2 = .int .i64 outs) ?_ ?_
    · repeat' (first | apply w_seq | apply w_ops0 | apply w_skip | apply a_n | apply o_nil | (apply o_val rfl rfl; (focus ((try simp (disch := omega) only [simB0, ZA, reduceEqDiff, ↓reduceIte, reduceAdd, reduceLeDiff, ZV, reduceCtorEq]); first | with_reducible rfl | (apply s_ite; (focus omega); with_reducible rfl)))) | (apply o_gT; (focus (simp only [simB0, ZA, reduceEqDiff, ↓reduceIte, reduceAdd, reduceLeDiff]; done))) | ((first | apply o_gB | apply w_cond); (focus ((try simp only [simB0, ZA, reduceEqDiff, ↓reduceIte, reduceAdd, reduceLeDiff]); (try with_reducible rfl); done)); all_goals (intro _hg; (try simp only [ZB] at _hg); try first | exact absurd trivial _hg | (exfalso; omega))))
      exact ⟨rfl, rfl, rfl⟩
    · rintro T H nx ⟨t0, t1, t2⟩
      obtain ⟨N, rfl⟩ : ∃ N : Nat, n = N := ⟨n.toNat, by omega⟩
      obtain ⟨V, rfl⟩ : ∃ V : Nat, ins = V := ⟨ins.toNat, by omega⟩
      obtain ⟨O, rfl⟩ : ∃ O : Nat, outs = O := ⟨outs.toNat, by omega⟩
      have q1 := powL_le (base := V) (lim := 1000) (by omega) (by omega) N
      have q2 := powL_le (base := O) (lim := 1000) (by omega) (by omega) N
      have q3 : powL V 1000 N * powL O 1000 N ≤ (1000 * 8) * (1000 * 8) := Nat.mul_le_mul q1 q2
      have p1 := power_r V N 1000 (by omega) (by omega) (by omega)
      have p2 := power_r O N 1000 (by omega) (by omega) (by omega)
      repeat' (first | apply w_seq | apply w_ops0 | apply w_ret | apply a_n | apply o_nil | (apply o_val rfl rfl; (focus ((try simp (disch := omega) only [simB0, ZA, reduceEqDiff, ↓reduceIte, reduceAdd, reduceLeDiff, ZV, reduceCtorEq, t0, t1, t2, ← Int.natCast_mul]); first | with_reducible rfl | (apply s_ite; (focus omega); with_reducible rfl)))) | (apply o_callD; (iterate 2 (focus ((try simp only [simB0, ZA, reduceEqDiff, ↓reduceIte, reduceAdd, reduceLeDiff, t0, t1, t2, ← Int.natCast_mul]); (try with_reducible rfl); done))); (focus (first | (exact p1) | (exact p2))); (focus ((first | refine snap_plain ?_ rfl | apply snap_data); repeat' (first | exact snapL_nil | apply snapL_i | apply snapL_dat)))) | (refine e_ends rfl ?_) | (apply r_1; (focus (simp only [rv, simB0, ZA, reduceEqDiff, ↓reduceIte, reduceAdd, reduceLeDiff, t0, t1, t2, ← Int.natCast_mul]; with_reducible rfl))))
      refine snap_bool ?_
      unfold fewB
      rw [decide_eq_false h, Bool.false_or, Int.toNat_natCast, Int.toNat_natCast, Int.toNat_natCast]
      exact decide_eq_decide.2 (Int.ofNat_le (n := 3000))

end Go.Proofs.Ytcbkggfipdldaaa

/- P15: contracts of functions and plain laws; for all inputs that the theorems name. -/
namespace Go.Proofs.Ytcbkggfipdldaaa
open Go Go.Abs
open Nat (reduceEqDiff reduceAdd reduceLeDiff)
theorem snap_mslL {H : Hp} {b n len : Nat} {cs l : List AV} (hb : H b = some cs) (hn : cs.length = n) (hl : l.length = len) (hs : n = len) (hc : ∀ y ∈ l, y.cells = [y]) (h : SnapL H cs l) : Snap H (.msl b n 1 0 len) (.sl 1 l) := by
  subst hs
  refine snap_msl hb hn (by omega) hl hc (fun i a c ha hc' => ?_)
  rw [Nat.zero_add] at ha
  exact h.2 i a c ha hc'
attribute [local irreducible] awp2 aops2 ains aloop athen bbind obind gbind acond res1 Go.Abs.Fn PCall Go.Abs.Pure SnapArgs SnapL Yl

/-! ### examples -/
theorem ex_cons : (consensusT 2 2).2 = 0 ∧ (consensusT 2 2).1.cases.length = 4 ∧ ((consensusT 2 2).1.cases.getD 1 default).out = [[0, 0], [1, 1]] ∧ ((consensusT 2 2).1.cases.getD 3 default).out.length = 1 ∧ ((consensusT 2 2).1.cases.getD 1 default).calm.length = 0 := by decide
theorem ex_appr : (approxT 2 3).2 = 0 ∧ (approxT 2 3).1.cases.length = 4 ∧ ((approxT 2 3).1.cases.getD 1 default).out.length = 10 ∧ ((approxT 2 3).1.cases.getD 3 default).out.length = 1 := by decide
theorem ex_ren : (renT 2 3 3).2 = 0 ∧ (renT 2 3 3).1.cases.length = 6 ∧ ((renT 2 3 3).1.cases.getD 0 default).out.length = 6 := by decide
theorem ex_ren2 : (renT 3 3 2).2 = 16 ∧ (renT 3 2 3).2 = 16 := by decide
theorem ex_crus : (crusT 2 2).2 = 0 ∧ (crusT 2 2).1.cases.length = 4 ∧ ((crusT 2 2).1.cases.getD 0 default).out.length = 7 ∧ ((crusT 2 2).1.cases.getD 2 default).calm = [[1, 1]] := by decide
theorem ex_com : (comT 2).2 = 0 ∧ (comT 2).1.cases.length = 4 ∧ ((comT 2).1.cases.getD 3 default).calm = [[1, 1]] ∧ ((comT 2).1.cases.getD 3 default).out.length = 2 ∧ ((comT 2).1.cases.getD 1 default).out.length = 1 := by decide

theorem snap_vv {H : Hp} {b n len : Nat} {cs : List AV} {l : List (List Int)} (hb : H b = some cs) (hn : cs.length = n) (hl : l.length = len) (hs : n = len) (h : SnapL H cs (l.map encV)) : Snap H (.msl b n 1 0 len) (encVV l) :=
  snap_mslL hb hn (by simpa using hl) hs (fun y hy => by obtain ⟨x, _, rfl⟩ := List.mem_map.1 hy; rfl) h
theorem awake_c : Pure Try.prog 10 [] (.bool true) := by
  refine Pure.of_c2 follows is10 (Nat.le_of_ble_eq_true rfl) ?_
  simp only [b10, O, G, N, M, D, F, B2, cFal, cTru]
  have c1 := consensus_c 2 2
  have c2 := approx_c 2 3
  have c3 := ren_c 2 3 3
  have c4 := ren_c 3 3 2
  have c5 := ren_c 3 2 3
  have c6 := crus_c 2 2
  have c7 := com_c 2
  obtain ⟨a1, a2, a3, a4, a5⟩ := ex_cons
  obtain ⟨b1, b2, b3, b4⟩ := ex_appr
  obtain ⟨d1, d2, d3⟩ := ex_ren
  obtain ⟨e1, e2⟩ := ex_ren2
  obtain ⟨f1, f2, f3, f4⟩ := ex_crus
  obtain ⟨g1, g2, g3, g4, g5⟩ := ex_com
  generalize consensusT 2 2 = C1 at *
  generalize approxT 2 3 = C2 at *
  generalize renT 2 3 3 = C3 at *
  generalize renT 3 3 2 = C4 at *
  generalize renT 3 2 3 = C5 at *
  generalize crusT 2 2 = C6 at *
  generalize comT 2 = C7 at *
  refine w_seq ?_
  repeat' (first | apply w_ops0 | apply a_n | apply o_nil | (apply o_val rfl rfl; (focus ((try simp (disch := omega) only [simB0, ZA, reduceEqDiff, ↓reduceIte, reduceAdd, reduceLeDiff, ZV, reduceCtorEq]); first | with_reducible rfl | (apply s_ite; (focus omega); with_reducible rfl)))))
  refine w_seq ?_
  repeat' (first | apply w_ops0 | apply a_n | apply o_nil | (apply o_val rfl rfl; (focus ((try simp (disch := omega) only [simB0, ZA, reduceEqDiff, ↓reduceIte, reduceAdd, reduceLeDiff, ZV, reduceCtorEq, encT_cells, encCs_one, encCs_cells, a1]); first | with_reducible rfl | (apply s_ite; (focus omega); with_reducible rfl)))) | (apply o_callD; (iterate 2 (focus ((try simp only [simB0, ZA, reduceEqDiff, ↓reduceIte, reduceAdd, reduceLeDiff, encT_cells, encCs_one, encCs_cells, a1]); (try with_reducible rfl); done))); (focus (first | (exact c1))); (focus ((first | refine snap_plain ?_ rfl | apply snap_data); repeat' (first | exact snapL_nil | apply snapL_i | apply snapL_dat)))) | (apply e_alloc rfl; (focus ((try simp only [simB0, ZA, reduceEqDiff, ↓reduceIte, reduceAdd, reduceLeDiff, encT_cells, encCs_one, encCs_cells, a1]); (try with_reducible rfl); done)); (focus (simp only [SO, Bool.and_self, one_encV, one_encVV, encT_cells, encCs_one, encCs_cells, a1]))) | (apply e_st rfl; (iterate 4 (focus ((try simp only [simB0, ZA, reduceEqDiff, ↓reduceIte, reduceAdd, reduceLeDiff, encT_cells, encCs_one, encCs_cells, a1]); (try with_reducible rfl); done))); (focus (simp only [SO, Bool.and_self, one_encV, one_encVV, encT_cells, encCs_one, encCs_cells, a1])); (iterate 3 (focus ((try simp only [SL, reduceAdd, Nat.reduceMul, List.length_map]); first | done | omega)))))
  refine w_seq ?_
  repeat' (first | apply w_ops0 | apply a_n | apply o_nil | (apply o_val rfl rfl; (focus ((try simp (disch := omega) only [simB0, ZA, reduceEqDiff, ↓reduceIte, reduceAdd, reduceLeDiff, ZV, reduceCtorEq, encT_cells, encCs_one, encCs_cells, b1]); first | with_reducible rfl | (apply s_ite; (focus omega); with_reducible rfl)))) | (apply o_callD; (iterate 2 (focus ((try simp only [simB0, ZA, reduceEqDiff, ↓reduceIte, reduceAdd, reduceLeDiff, encT_cells, encCs_one, encCs_cells, b1]); (try with_reducible rfl); done))); (focus (first | (exact c2))); (focus ((first | refine snap_plain ?_ rfl | apply snap_data); repeat' (first | exact snapL_nil | apply snapL_i | apply snapL_dat)))) | (apply e_alloc rfl; (focus ((try simp only [simB0, ZA, reduceEqDiff, ↓reduceIte, reduceAdd, reduceLeDiff, encT_cells, encCs_one, encCs_cells, b1]); (try with_reducible rfl); done)); (focus (simp only [SO, Bool.and_self, one_encV, one_encVV, encT_cells, encCs_one, encCs_cells, b1]))) | (apply e_st rfl; (iterate 4 (focus ((try simp only [simB0, ZA, reduceEqDiff, ↓reduceIte, reduceAdd, reduceLeDiff, encT_cells, encCs_one, encCs_cells, b1]); (try with_reducible rfl); done))); (focus (simp only [SO, Bool.and_self, one_encV, one_encVV, encT_cells, encCs_one, encCs_cells, b1])); (iterate 3 (focus ((try simp only [SL, reduceAdd, Nat.reduceMul, List.length_map]); first | done | omega)))))
  refine w_seq ?_
  repeat' (first | apply w_ops0 | apply a_n | apply o_nil | (apply o_val rfl rfl; (focus ((try simp (disch := omega) only [simB0, ZA, reduceEqDiff, ↓reduceIte, reduceAdd, reduceLeDiff, ZV, reduceCtorEq, encT_cells, encCs_one, encCs_cells, d1]); first | with_reducible rfl | (apply s_ite; (focus omega); with_reducible rfl)))) | (apply o_callD; (iterate 2 (focus ((try simp only [simB0, ZA, reduceEqDiff, ↓reduceIte, reduceAdd, reduceLeDiff, encT_cells, encCs_one, encCs_cells, d1]); (try with_reducible rfl); done))); (focus (first | (exact c3))); (focus ((first | refine snap_plain ?_ rfl | apply snap_data); repeat' (first | exact snapL_nil | apply snapL_i | apply snapL_dat)))) | (apply e_alloc rfl; (focus ((try simp only [simB0, ZA, reduceEqDiff, ↓reduceIte, reduceAdd, reduceLeDiff, encT_cells, encCs_one, encCs_cells, d1]); (try with_reducible rfl); done)); (focus (simp only [SO, Bool.and_self, one_encV, one_encVV, encT_cells, encCs_one, encCs_cells, d1]))) | (apply e_st rfl; (iterate 4 (focus ((try simp only [simB0, ZA, reduceEqDiff, ↓reduceIte, reduceAdd, reduceLeDiff, encT_cells, encCs_one, encCs_cells, d1]); (try with_reducible rfl); done))); (focus (simp only [SO, Bool.and_self, one_encV, one_encVV, encT_cells, encCs_one, encCs_cells, d1])); (iterate 3 (focus ((try simp only [SL, reduceAdd, Nat.reduceMul, List.length_map]); first | done | omega)))))
  refine w_seq ?_
  repeat' (first | apply w_ops0 | apply a_n | apply o_nil | (apply o_val rfl rfl; (focus ((try simp (disch := omega) only [simB0, ZA, reduceEqDiff, ↓reduceIte, reduceAdd, reduceLeDiff, ZV, reduceCtorEq, encT_cells, encCs_one, encCs_cells, e1]); first | with_reducible rfl | (apply s_ite; (focus omega); with_reducible rfl)))) | (apply o_callD; (iterate 2 (focus ((try simp only [simB0, ZA, reduceEqDiff, ↓reduceIte, reduceAdd, reduceLeDiff, encT_cells, encCs_one, encCs_cells, e1]); (try with_reducible rfl); done))); (focus (first | (exact c4))); (focus ((first | refine snap_plain ?_ rfl | apply snap_data); repeat' (first | exact snapL_nil | apply snapL_i | apply snapL_dat)))) | (apply e_alloc rfl; (focus ((try simp only [simB0, ZA, reduceEqDiff, ↓reduceIte, reduceAdd, reduceLeDiff, encT_cells, encCs_one, encCs_cells, e1]); (try with_reducible rfl); done)); (focus (simp only [SO, Bool.and_self, one_encV, one_encVV, encT_cells, encCs_one, encCs_cells, e1]))) | (apply e_st rfl; (iterate 4 (focus ((try simp only [simB0, ZA, reduceEqDiff, ↓reduceIte, reduceAdd, reduceLeDiff, encT_cells, encCs_one, encCs_cells, e1]); (try with_reducible rfl); done))); (focus (simp only [SO, Bool.and_self, one_encV, one_encVV, encT_cells, encCs_one, encCs_cells, e1])); (iterate 3 (focus ((try simp only [SL, reduceAdd, Nat.reduceMul, List.length_map]); first | done | omega)))))
  refine w_seq ?_
  repeat' (first | apply w_ops0 | apply a_n | apply o_nil | (apply o_val rfl rfl; (focus ((try simp (disch := omega) only [simB0, ZA, reduceEqDiff, ↓reduceIte, reduceAdd, reduceLeDiff, ZV, reduceCtorEq, encT_cells, encCs_one, encCs_cells, e2]); first | with_reducible rfl | (apply s_ite; (focus omega); with_reducible rfl)))) | (apply o_callD; (iterate 2 (focus ((try simp only [simB0, ZA, reduceEqDiff, ↓reduceIte, reduceAdd, reduceLeDiff, encT_cells, encCs_one, encCs_cells, e2]); (try with_reducible rfl); done))); (focus (first | (exact c5))); (focus ((first | refine snap_plain ?_ rfl | apply snap_data); repeat' (first | exact snapL_nil | apply snapL_i | apply snapL_dat)))) | (apply e_alloc rfl; (focus ((try simp only [simB0, ZA, reduceEqDiff, ↓reduceIte, reduceAdd, reduceLeDiff, encT_cells, encCs_one, encCs_cells, e2]); (try with_reducible rfl); done)); (focus (simp only [SO, Bool.and_self, one_encV, one_encVV, encT_cells, encCs_one, encCs_cells, e2]))) | (apply e_st rfl; (iterate 4 (focus ((try simp only [simB0, ZA, reduceEqDiff, ↓reduceIte, reduceAdd, reduceLeDiff, encT_cells, encCs_one, encCs_cells, e2]); (try with_reducible rfl); done))); (focus (simp only [SO, Bool.and_self, one_encV, one_encVV, encT_cells, encCs_one, encCs_cells, e2])); (iterate 3 (focus ((try simp only [SL, reduceAdd, Nat.reduceMul, List.length_map]); first | done | omega)))))
  refine w_seq ?_
  repeat' (first | apply w_ops0 | apply a_n | apply o_nil | (apply o_val rfl rfl; (focus ((try simp (disch := omega) only [simB0, ZA, reduceEqDiff, ↓reduceIte, reduceAdd, reduceLeDiff, ZV, reduceCtorEq, encT_cells, encCs_one, encCs_cells, f1]); first | with_reducible rfl | (apply s_ite; (focus omega); with_reducible rfl)))) | (apply o_callD; (iterate 2 (focus ((try simp only [simB0, ZA, reduceEqDiff, ↓reduceIte, reduceAdd, reduceLeDiff, encT_cells, encCs_one, encCs_cells, f1]); (try with_reducible rfl); done))); (focus (first | (exact c6))); (focus ((first | refine snap_plain ?_ rfl | apply snap_data); repeat' (first | exact snapL_nil | apply snapL_i | apply snapL_dat)))) | (apply e_alloc rfl; (focus ((try simp only [simB0, ZA, reduceEqDiff, ↓reduceIte, reduceAdd, reduceLeDiff, encT_cells, encCs_one, encCs_cells, f1]); (try with_reducible rfl); done)); (focus (simp only [SO, Bool.and_self, one_encV, one_encVV, encT_cells, encCs_one, encCs_cells, f1]))) | (apply e_st rfl; (iterate 4 (focus ((try simp only [simB0, ZA, reduceEqDiff, ↓reduceIte, reduceAdd, reduceLeDiff, encT_cells, encCs_one, encCs_cells, f1]); (try with_reducible rfl); done))); (focus (simp only [SO, Bool.and_self, one_encV, one_encVV, encT_cells, encCs_one, encCs_cells, f1])); (iterate 3 (focus ((try simp only [SL, reduceAdd, Nat.reduceMul, List.length_map]); first | done | omega)))))
  refine w_seq ?_
  repeat' (first | apply w_ops0 | apply a_n | apply o_nil | (apply o_val rfl rfl; (focus ((try simp (disch := omega) only [simB0, ZA, reduceEqDiff, ↓reduceIte, reduceAdd, reduceLeDiff, ZV, reduceCtorEq, encT_cells, encCs_one, encCs_cells, g1]); first | with_reducible rfl | (apply s_ite; (focus omega); with_reducible rfl)))) | (apply o_callD; (iterate 2 (focus ((try simp only [simB0, ZA, reduceEqDiff, ↓reduceIte, reduceAdd, reduceLeDiff, encT_cells, encCs_one, encCs_cells, g1]); (try with_reducible rfl); done))); (focus (first | (exact c7))); (focus ((first | refine snap_plain ?_ rfl | apply snap_data); repeat' (first | exact snapL_nil | apply snapL_i | apply snapL_dat)))) | (apply e_alloc rfl; (focus ((try simp only [simB0, ZA, reduceEqDiff, ↓reduceIte, reduceAdd, reduceLeDiff, encT_cells, encCs_one, encCs_cells, g1]); (try with_reducible rfl); done)); (focus (simp only [SO, Bool.and_self, one_encV, one_encVV, encT_cells, encCs_one, encCs_cells, g1]))) | (apply e_st rfl; (iterate 4 (focus ((try simp only [simB0, ZA, reduceEqDiff, ↓reduceIte, reduceAdd, reduceLeDiff, encT_cells, encCs_one, encCs_cells, g1]); (try with_reducible rfl); done))); (focus (simp only [SO, Bool.and_self, one_encV, one_encVV, encT_cells, encCs_one, encCs_cells, g1])); (iterate 3 (focus ((try simp only [SL, reduceAdd, Nat.reduceMul, List.length_map]); first | done | omega)))))
  refine w_seqC (fun T H nx => nx = 7 ∧ T 1 = .ptr 0 4 0 ∧ T 3 = .ptr 1 4 0 ∧ T 5 = .ptr 2 4 0 ∧ T 11 = .ptr 5 4 0 ∧ T 13 = .ptr 6 4 0 ∧ H 0 = some [.int .i64 C1.1.n, .int .i64 C1.1.ins, .int .i64 C1.1.outs, encCs C1.1.cases] ∧ H 1 = some [.int .i64 C2.1.n, .int .i64 C2.1.ins, .int .i64 C2.1.outs, encCs C2.1.cases]
    ∧ H 2 = some [.int .i64 C3.1.n, .int .i64 C3.1.ins, .int .i64 C3.1.outs, encCs C3.1.cases] ∧ H 5 = some [.int .i64 C6.1.n, .int .i64 C6.1.ins, .int .i64 C6.1.outs, encCs C6.1.cases] ∧ H 6 = some [.int .i64 C7.1.n, .int .i64 C7.1.ins, .int .i64 C7.1.outs, encCs C7.1.cases]) ?_ ?_
  · repeat' (first | apply w_seq | apply w_ops0 | apply w_skip | apply a_n | apply o_nil | (apply o_val rfl rfl; (focus ((try simp (disch := omega) only [simB0, ZA, reduceEqDiff, ↓reduceIte, reduceAdd, reduceLeDiff, ZV, reduceCtorEq, alenS_encCs, a2, b2, d2, f2, g2]); first | with_reducible rfl | (apply s_ite; (focus omega); with_reducible rfl)))) | (apply o_gT; (focus (simp only [simB0, ZA, reduceEqDiff, ↓reduceIte, reduceAdd, reduceLeDiff, alenS_encCs, a2, b2, d2, f2, g2]; done))) | ((first | apply o_gB | apply w_cond); (focus ((try simp only [simB0, ZA, reduceEqDiff, ↓reduceIte, reduceAdd, reduceLeDiff, alenS_encCs, a2, b2, d2, f2, g2]); (try with_reducible rfl); done)); all_goals (intro _hg; (try simp only [ZB] at _hg); try first | exact absurd trivial _hg | (exfalso; omega))))
    exact ⟨rfl, rfl, rfl, rfl, rfl, rfl, rfl, rfl, rfl, rfl, rfl⟩
  · rintro T H nx ⟨rfl, t1, t3, t5, t11, t13, h0, h1, h2, h5, h6⟩
    have i1 : aixS 3 (encCs C1.1.cases) (.int .i64 1) = _ := aixS_encCs (l := C1.1.cases) (k := 1) (by omega)
    have i2 : aixS 3 (encCs C1.1.cases) (.int .i64 3) = _ := aixS_encCs (l := C1.1.cases) (k := 3) (by omega)
    have i3 : aixS 3 (encCs C2.1.cases) (.int .i64 1) = _ := aixS_encCs (l := C2.1.cases) (k := 1) (by omega)
    have i4 : aixS 3 (encCs C2.1.cases) (.int .i64 3) = _ := aixS_encCs (l := C2.1.cases) (k := 3) (by omega)
    have i5 : aixS 3 (encCs C3.1.cases) (.int .i64 0) = _ := aixS_encCs (l := C3.1.cases) (k := 0) (by omega)
    have i6 : aixS 3 (encCs C6.1.cases) (.int .i64 0) = _ := aixS_encCs (l := C6.1.cases) (k := 0) (by omega)
    have i7 : aixS 3 (encCs C6.1.cases) (.int .i64 2) = _ := aixS_encCs (l := C6.1.cases) (k := 2) (by omega)
    have i8 : aixS 3 (encCs C7.1.cases) (.int .i64 3) = _ := aixS_encCs (l := C7.1.cases) (k := 3) (by omega)
    have i9 : aixS 3 (encCs C7.1.cases) (.int .i64 1) = _ := aixS_encCs (l := C7.1.cases) (k := 1) (by omega)
    rw [a3] at i1
    rw [f4] at i7
    rw [g3] at i8
    repeat' (first | apply w_seq | apply w_ops0 | (apply o_val rfl rfl; (focus ((try simp (disch := omega) only [simB0, ZA, reduceEqDiff, ↓reduceIte, reduceAdd, reduceLeDiff, ZV, reduceCtorEq, t1, t3, t5, t11, t13, h0, h1, h2, h5, h6, alenS_encCs, alenS_encVV, i1, i2, i3, i4, i5, i6, i7, i8, i9]); first | with_reducible rfl | (apply s_ite; (focus omega); with_reducible rfl)))) | (apply e_bld rfl; (focus (exact Nat.succ_ne_zero _)); (focus ((try simp only [simB0, ZA, reduceEqDiff, ↓reduceIte, reduceAdd, reduceLeDiff, t1, t3, t5, t11, t13, h0, h1, h2, h5, h6, alenS_encCs, alenS_encVV, i1, i2, i3, i4, i5, i6, i7, i8, i9]); (try with_reducible rfl); done)); (focus ((try simp only [simB0, ZA, reduceEqDiff, ↓reduceIte, reduceAdd, reduceLeDiff, SO, Bool.and_self, one_encV, one_encVV, t1, t3, t5, t11, t13, h0, h1, h2, h5, h6, alenS_encCs, alenS_encVV, i1, i2, i3, i4, i5, i6, i7, i8, i9]); (try with_reducible rfl); done))))
    refine o_callP (by ((try simp only [simB0, ZA, reduceEqDiff, ↓reduceIte, reduceAdd, reduceLeDiff]); (try with_reducible rfl))) (by ((try simp only [simB0, ZA, reduceEqDiff, ↓reduceIte, reduceAdd, reduceLeDiff]); (try with_reducible rfl))) (sameVs_r [[0, 0], [1, 1]] (by simp) (by simp)) (snap_plain (snapL_cons (encVV_dat _ _) (snapL_cons (snap_vv (len := 2) (l := [[0, 0], [1, 1]]) hupd_self' rfl rfl rfl (snapL_cons (snap_row (len := 2) (l := [0, 0]) (by ((try simp only [simB0, ZA, reduceEqDiff, ↓reduceIte, reduceAdd, reduceLeDiff]); (try with_reducible rfl))) rfl rfl) (snapL_cons (snap_row (len := 2) (l := [1, 1]) (by ((try simp only [simB0, ZA, reduceEqDiff, ↓reduceIte, reduceAdd, reduceLeDiff]); (try with_reducible rfl))) rfl rfl) snapL_nil))) snapL_nil)) rfl) ?_
    repeat' (first | (apply o_val rfl rfl; (focus ((try simp (disch := omega) only [simB0, ZA, reduceEqDiff, ↓reduceIte, reduceAdd, reduceLeDiff, ZV, reduceCtorEq, t1, t3, t5, t11, t13, h0, h1, h2, h5, h6, alenS_encCs, alenS_encVV, i1, i2, i3, i4, i5, i6, i7, i8, i9, a4, a5, b3, b4, d3, f3, g4, g5]); first | with_reducible rfl | (apply s_ite; (focus omega); with_reducible rfl)))) | (apply e_bld rfl; (focus (exact Nat.succ_ne_zero _)); (focus ((try simp only [simB0, ZA, reduceEqDiff, ↓reduceIte, reduceAdd, reduceLeDiff, t1, t3, t5, t11, t13, h0, h1, h2, h5, h6, alenS_encCs, alenS_encVV, i1, i2, i3, i4, i5, i6, i7, i8, i9, a4, a5, b3, b4, d3, f3, g4, g5]); (try with_reducible rfl); done)); (focus ((try simp only [simB0, ZA, reduceEqDiff, ↓reduceIte, reduceAdd, reduceLeDiff, SO, Bool.and_self, one_encV, one_encVV, t1, t3, t5, t11, t13, h0, h1, h2, h5, h6, alenS_encCs, alenS_encVV, i1, i2, i3, i4, i5, i6, i7, i8, i9, a4, a5, b3, b4, d3, f3, g4, g5]); (try with_reducible rfl); done))) | (apply o_gT; (focus (simp only [simB0, ZA, reduceEqDiff, ↓reduceIte, reduceAdd, reduceLeDiff, t1, t3, t5, t11, t13, h0, h1, h2, h5, h6, alenS_encCs, alenS_encVV, i1, i2, i3, i4, i5, i6, i7, i8, i9, a4, a5, b3, b4, d3, f3, g4, g5]; done))) | (apply o_gB; (focus ((try simp only [simB0, ZA, reduceEqDiff, ↓reduceIte, reduceAdd, reduceLeDiff, t1, t3, t5, t11, t13, h0, h1, h2, h5, h6, alenS_encCs, alenS_encVV, i1, i2, i3, i4, i5, i6, i7, i8, i9, a4, a5, b3, b4, d3, f3, g4, g5]); (try with_reducible rfl); done)); all_goals (intro _hg; (try simp only [ZB] at _hg); try first | exact absurd trivial _hg | (exfalso; omega))))
    refine o_callP (by ((try simp only [simB0, ZA, reduceEqDiff, ↓reduceIte, reduceAdd, reduceLeDiff]); (try with_reducible rfl))) (by ((try simp only [simB0, ZA, reduceEqDiff, ↓reduceIte, reduceAdd, reduceLeDiff]); (try with_reducible rfl))) (sameVs_r [[1, 1]] (by simp) (by simp)) (snap_plain (snapL_cons (encVV_dat _ _) (snapL_cons (snap_vv (len := 1) (l := [[1, 1]]) hupd_self' rfl rfl rfl (snapL_cons (snap_row (len := 2) (l := [1, 1]) (by ((try simp only [simB0, ZA, reduceEqDiff, ↓reduceIte, reduceAdd, reduceLeDiff]); (try with_reducible rfl))) rfl rfl) snapL_nil)) snapL_nil)) rfl) ?_
    repeat' (first | (apply o_val rfl rfl; (focus ((try simp (disch := omega) only [simB0, ZA, reduceEqDiff, ↓reduceIte, reduceAdd, reduceLeDiff, ZV, reduceCtorEq, t1, t3, t5, t11, t13, h0, h1, h2, h5, h6, alenS_encCs, alenS_encVV, i1, i2, i3, i4, i5, i6, i7, i8, i9, a4, a5, b3, b4, d3, f3, g4, g5]); first | with_reducible rfl | (apply s_ite; (focus omega); with_reducible rfl)))) | (apply e_bld rfl; (focus (exact Nat.succ_ne_zero _)); (focus ((try simp only [simB0, ZA, reduceEqDiff, ↓reduceIte, reduceAdd, reduceLeDiff, t1, t3, t5, t11, t13, h0, h1, h2, h5, h6, alenS_encCs, alenS_encVV, i1, i2, i3, i4, i5, i6, i7, i8, i9, a4, a5, b3, b4, d3, f3, g4, g5]); (try with_reducible rfl); done)); (focus ((try simp only [simB0, ZA, reduceEqDiff, ↓reduceIte, reduceAdd, reduceLeDiff, SO, Bool.and_self, one_encV, one_encVV, t1, t3, t5, t11, t13, h0, h1, h2, h5, h6, alenS_encCs, alenS_encVV, i1, i2, i3, i4, i5, i6, i7, i8, i9, a4, a5, b3, b4, d3, f3, g4, g5]); (try with_reducible rfl); done))) | (apply o_gT; (focus (simp only [simB0, ZA, reduceEqDiff, ↓reduceIte, reduceAdd, reduceLeDiff, t1, t3, t5, t11, t13, h0, h1, h2, h5, h6, alenS_encCs, alenS_encVV, i1, i2, i3, i4, i5, i6, i7, i8, i9, a4, a5, b3, b4, d3, f3, g4, g5]; done))))
    refine o_callP (by ((try simp only [simB0, ZA, reduceEqDiff, ↓reduceIte, reduceAdd, reduceLeDiff]); (try with_reducible rfl))) (by ((try simp only [simB0, ZA, reduceEqDiff, ↓reduceIte, reduceAdd, reduceLeDiff]); (try with_reducible rfl))) (sameVs_r [[1, 1]] (by simp) (by simp)) (snap_plain (snapL_cons (encVV_dat _ _) (snapL_cons (snap_vv (len := 1) (l := [[1, 1]]) hupd_self' rfl rfl rfl (snapL_cons (snap_row (len := 2) (l := [1, 1]) (by ((try simp only [simB0, ZA, reduceEqDiff, ↓reduceIte, reduceAdd, reduceLeDiff]); (try with_reducible rfl))) rfl rfl) snapL_nil)) snapL_nil)) rfl) ?_
    repeat' (first | apply w_ret | apply a_n | apply o_nil | (apply o_val rfl rfl; (focus ((try simp (disch := omega) only [simB0, ZA, reduceEqDiff, ↓reduceIte, reduceAdd, reduceLeDiff, ZV, reduceCtorEq, t1, t3, t5, t11, t13, h0, h1, h2, h5, h6, alenS_encCs, alenS_encVV, i1, i2, i3, i4, i5, i6, i7, i8, i9, a4, a5, b3, b4, d3, f3, g4, g5]); first | with_reducible rfl | (apply s_ite; (focus omega); with_reducible rfl)))) | (apply o_gT; (focus (simp only [simB0, ZA, reduceEqDiff, ↓reduceIte, reduceAdd, reduceLeDiff, t1, t3, t5, t11, t13, h0, h1, h2, h5, h6, alenS_encCs, alenS_encVV, i1, i2, i3, i4, i5, i6, i7, i8, i9, a4, a5, b3, b4, d3, f3, g4, g5]; done))) | (apply o_gB; (focus ((try simp only [simB0, ZA, reduceEqDiff, ↓reduceIte, reduceAdd, reduceLeDiff, t1, t3, t5, t11, t13, h0, h1, h2, h5, h6, alenS_encCs, alenS_encVV, i1, i2, i3, i4, i5, i6, i7, i8, i9, a4, a5, b3, b4, d3, f3, g4, g5]); (try with_reducible rfl); done)); all_goals (intro _hg; (try simp only [ZB] at _hg); try first | exact absurd trivial _hg | (exfalso; omega))) | (refine e_ends rfl ?_) | (apply r_1; (focus (simp only [rv, simB0, ZA, reduceEqDiff, ↓reduceIte, reduceAdd, reduceLeDiff, t1, t3, t5, t11, t13, h0, h1, h2, h5, h6, alenS_encCs, alenS_encVV, i1, i2, i3, i4, i5, i6, i7, i8, i9, a4, a5, b3, b4, d3, f3, g4, g5]; with_reducible rfl))))
    all_goals exact snap_bool (by simp)

end Go.Proofs.Ytcbkggfipdldaaa

/- P16: contracts of functions and plain laws; for all inputs that the theorems name. -/
namespace Go.Proofs.Ytcbkggfipdldaaa
open Go Go.Abs

/-! ### the library's tasks are the reference's -/
theorem powL_pow {b lim : Nat} (hb : 1 ≤ b) (h1 : 1 ≤ lim) : ∀ n, powL b lim n = b ^ n ∨ (lim < powL b lim n ∧ lim < b ^ n)
  | 0 => .inl rfl
  | n + 1 => by
    show (if powL b lim n ≤ lim then powL b lim n * b else powL b lim n) = _ ∨ (lim < (if powL b lim n ≤ lim then powL b lim n * b else powL b lim n) ∧ _)
    have hp : b ^ n ≤ b ^ (n + 1) := Nat.pow_le_pow_right hb (Nat.le_succ n)
    rcases powL_pow hb h1 n with h | ⟨h2, h3⟩
    · split
      · left; rw [h, Nat.pow_succ]
      · right; rw [h] at *; omega
    · rw [if_neg (by omega)]
      right; omega
theorem powL_lim {b lim n : Nat} (hb : 1 ≤ b) (h1 : 1 ≤ lim) : lim < powL b lim n ↔ lim < b ^ n := by
  rcases powL_pow hb h1 n with h | ⟨h2, h3⟩
  · rw [h]
  · omega

theorem agree (k : KindV) (task kk : Int) (hn : 1 ≤ k.n ∧ k.n ≤ 5) (hi : 1 ≤ k.ins ∧ k.ins ≤ 8) (ho : 1 ≤ k.outs ∧ k.outs ≤ 8) (h5 : task ≠ 5) (h6 : task = 6 → 1 ≤ kk ∧ kk ≤ k.n) (hc : k.hasC = false) (hp : ∀ x, k.pc x = true)
    (ha : ∀ x ∈ every k.n k.ins, ∀ y ∈ every k.n k.outs, k.pa x y = allowB task k.ins k.outs kk x y ∧ k.pm x y = calmB task x y) : taskOf k = makeT task k.n k.ins k.outs kk := by
  have hcnt : cnt (every k.n k.ins) k.pc = k.ins ^ k.n := by
    unfold cnt
    rw [List.filter_eq_self.2 (fun x _ => hp x), every_count]
  have hpos : 0 < k.ins ^ k.n := Nat.pow_pos (by omega)
  have hcs : casesOf k (every k.n k.ins) = rcases task k.ins k.outs kk k.n k.outs (every k.n k.ins) := by
    unfold casesOf rcases
    rw [List.filter_eq_self.2 (fun x _ => hp x), List.filter_eq_self.2 (fun x _ => by simp [caseB, h5])]
    refine List.map_congr_left fun x hx => ?_
    unfold caseOf rcase
    have f1 : (every k.n k.outs).filter (k.pa x) = (every k.n k.outs).filter (allowB task k.ins k.outs kk x) := List.filter_congr (fun y hy => (ha x hx y hy).1)
    have f2 : (every k.n k.outs).filter (fun o => k.pa x o && k.pm x o) = (every k.n k.outs).filter (fun o => allowB task k.ins k.outs kk x o && calmB task x o) := List.filter_congr (fun y hy => by rw [(ha x hx y hy).1, (ha x hx y hy).2])
    rw [f1, f2]
  have e1 : taskOf k = if 1024 < cnt (every k.n k.ins) k.pc then (T00, 17) else if (casesOf k (every k.n k.ins)).any (fun c => decide (1024 < c.out.length)) then (T00, 17) else (⟨k.n, k.ins, k.outs, casesOf k (every k.n k.ins)⟩, 0) := by
    unfold taskOf
    rw [if_neg (by omega), if_neg (by simp [hc])]
  have e2 : makeT task k.n k.ins k.outs kk = if 1024 < casesN task k.n k.ins then (T00, 17) else if (rcases task k.ins k.outs kk k.n k.outs (every k.n k.ins)).any (fun c => decide (1024 < c.out.length)) then (T00, 17) else (⟨k.n, k.ins, k.outs, rcases task k.ins k.outs kk k.n k.outs (every k.n k.ins)⟩, 0) := by
    unfold makeT
    rw [if_neg (by omega), if_neg (by omega), if_neg (fun h => by have := h6 h.1; omega), if_neg (by omega)]
    simp only [Int.toNat_natCast]
  have : casesN task k.n k.ins = powL k.ins 1024 k.n := by unfold casesN; rw [if_neg h5]
  rw [e1, e2, hcs, hcnt, this]
  simp only [powL_lim hi.1 (show 1 ≤ 1024 by omega)]

theorem kinds_pos {l : List Int} (h : l ≠ []) : 1 ≤ (kinds l).length := by
  cases l with
  | nil => exact absurd rfl h
  | cons a l =>
    have : a ∈ kinds (a :: l) := mem_kinds.2 (by simp)
    cases hk : kinds (a :: l) with
    | nil => rw [hk] at this; cases this
    | cons _ _ => simp

theorem consensus_eq (n v : Int) : consensusT n v = makeT 2 n v v 0 := by
  unfold consensusT taskI
  split
  · rename_i h
    unfold inR at h
    have h1 : ((kAgree n v 1).n : Int) = n := by show (n.toNat : Int) = n; omega
    have h2 : ((kAgree n v 1).ins : Int) = v := by show (v.toNat : Int) = v; omega
    have h3 : ((kAgree n v 1).outs : Int) = v := by show (v.toNat : Int) = v; omega
    rw [agree (kAgree n v 1) 2 0 (by omega) (by omega) (by omega) (by omega) (by omega) rfl (fun _ => rfl) (fun x hx y hy => ⟨?_, rfl⟩), h1, h2, h3]
    have := kinds_pos (every_ne (by omega) hy)
    show (decide (((kinds y).length : Int) ≤ max 1 1) && y.all fun v => decide (v ∈ x)) = allowB 2 _ _ 0 x y
    unfold allowB
    rw [if_neg (by omega), if_neg (by omega), if_pos rfl]
    congr 1
    exact decide_eq_decide.2 (by omega)
  · rename_i h
    unfold inR at h
    unfold makeT
    by_cases h1 : n < 1 ∨ 5 < n
    · rw [if_pos h1]
    · rw [if_neg h1, if_pos (by omega)]

theorem set_eq (n v k : Int) : setT n v k = makeT 6 n v v k := by
  unfold setT taskI
  split
  · rename_i h
    unfold inR at h
    rw [show max k 0 = k by omega]
    have h1 : ((kAgree n v k).n : Int) = n := by show (n.toNat : Int) = n; omega
    have h2 : ((kAgree n v k).ins : Int) = v := by show (v.toNat : Int) = v; omega
    have h3 : ((kAgree n v k).outs : Int) = v := by show (v.toNat : Int) = v; omega
    rw [agree (kAgree n v k) 6 k (by omega) (by omega) (by omega) (by omega) (by omega) rfl (fun _ => rfl) (fun x hx y hy => ⟨?_, rfl⟩), h1, h2, h3]
    show (decide (((kinds y).length : Int) ≤ max k 1) && y.all fun v => decide (v ∈ x)) = allowB 6 _ _ k x y
    unfold allowB
    rw [if_neg (by omega), if_neg (by omega), if_neg (by omega), if_neg (by omega), if_neg (by omega), if_neg (by omega)]
    congr 1
    exact decide_eq_decide.2 (by omega)
  · rename_i h
    unfold inR at h
    unfold makeT
    by_cases h1 : n < 1 ∨ 5 < n
    · rw [if_pos h1]
    · rw [if_neg h1]
      by_cases h2 : v < 1 ∨ 8 < v ∨ v < 1 ∨ 8 < v
      · rw [if_pos h2]
      · rw [if_neg h2, if_pos (by omega)]

end Go.Proofs.Ytcbkggfipdldaaa

/- P17: contracts of functions and plain laws; for all inputs that the theorems name. -/
namespace Go.Proofs.Ytcbkggfipdldaaa
open Go Go.Abs
open Nat (reduceEqDiff reduceAdd reduceLeDiff)

theorem every_lenB {n v : Nat} (hn : n ≤ 5) (hv : v ≤ 8) : (every n v).length ≤ 32768 := by
  rw [every_count]
  exact Nat.le_trans (Nat.pow_le_pow_left hv n) (show 8 ^ n ≤ 8 ^ 5 from Nat.pow_le_pow_right (by omega) hn)

theorem makeT_sh (task n ins outs k : Int) : Sh (makeT task n ins outs k).1.cases ∧ ∀ c ∈ (makeT task n ins outs k).1.cases, ShC c := by
  have h0 : Sh T00.cases ∧ ∀ c ∈ T00.cases, ShC c := ⟨Nat.zero_le _, fun c hc => (by cases hc)⟩
  unfold makeT
  by_cases c1 : n < 1 ∨ 5 < n
  · rw [if_pos c1]; exact h0
  rw [if_neg c1]
  by_cases c2 : ins < 1 ∨ 8 < ins ∨ outs < 1 ∨ 8 < outs
  · rw [if_pos c2]; exact h0
  rw [if_neg c2]
  split
  · exact h0
  split
  · exact h0
  split
  · exact h0
  split
  · exact h0
  have b1 := every_lenB (n := n.toNat) (v := ins.toNat) (by omega) (by omega)
  have b2 := every_lenB (n := n.toNat) (v := outs.toNat) (by omega) (by omega)
  have hn : n.toNat ≤ 5 := by omega
  dsimp only
  unfold rcases
  refine ⟨?_, fun c hc => ?_⟩
  · show _ ≤ _
    rw [List.length_map]
    have := List.length_filter_le (caseB task) (every n.toNat ins.toNat)
    omega
  · obtain ⟨x, hx, rfl⟩ := List.mem_map.1 hc
    have hx := (List.mem_filter.1 hx).1
    refine ⟨every_sh hn hx, ?_, fun y hy => every_sh hn (List.mem_filter.1 hy).1, ?_, fun y hy => every_sh hn (List.mem_filter.1 hy).1⟩
    · exact Nat.le_trans (List.length_filter_le _ _) (Nat.le_trans b2 (by omega))
    · exact Nat.le_trans (List.length_filter_le _ _) (Nat.le_trans b2 (by omega))

attribute [local irreducible] awp2 aops2 ains aloop athen bbind obind gbind acond res1 Go.Abs.Fn PCall Go.Abs.Pure SnapArgs SnapL Yl

end Go.Proofs.Ytcbkggfipdldaaa

/- P18: contracts of functions and plain laws; for all inputs that the theorems name. -/
namespace Go.Proofs.Ytcbkggfipdldaaa
open Go Go.Abs Go.RowKit Go.ChangeShapes Go.WideShapes Go.ChangeAt

theorem post_of_below {H : Type} {enc : TypeId × Value → H} {P : Program} {f : Func} {s : ChangeSpec} {apart fresh handsOn again : Bool} {W W' : World} {args : Array Value} {v : Value} {ds gs : List (DataW H)} {before pa pv : List MemPlace}
    (hW : DataW.Whole enc P f.params.toList s.vars apart W args.toList ds gs before)
    (hres : ∀ (b : Nat) (sp : Nat → Bool) (hd : Bool), DataW.TrodAll enc P W' b sp hd f.resultTypes.toList (v.resultList f.resultTypes.size) (s.fn H (ds ++ gs)).results [])
    (hargs : ∀ sp : Nat → Bool, (∀ p ∈ before, sp p.block = true) → DataW.TrodAll enc P W' 0 sp true f.params.toList args.toList (s.fn H (ds ++ gs)).args pa)
    (hvars : ∀ sp : Nat → Bool, (∀ p ∈ before, sp p.block = true) → DataW.TrodVars enc P W' sp s.vars (s.fn H (ds ++ gs)).vars pv)
    (hps : before = pa ++ pv) (hb : Below W.heap.size W W')
    (hok : ∀ (j : Nat) (t : TypeId) (r : Value), f.resultTypes[j]? = some t → (v.resultList f.resultTypes.size)[j]? = some r → Value.okWide P W' .any 0 t r) :
    s.post enc P f apart fresh handsOn again W args v W' := by
  have hold : ∀ p ∈ before, (fun b => decide (b < W.heap.size)) p.block = true := fun p hp => by simpa using hW.lt p hp
  have hlt := fun p hp => hW.lt p hp
  refine ⟨ds, gs, before, [], pa, pv, hW, hres _ _ _, hargs _ hold, hvars _ hold, World.keptBut_mono (fun p hp => ⟨hp, ?_⟩) (hb.frame _), fun _ => ?_⟩
  · rw [hps, List.mem_append] at hp
    exact Or.inr hp
  · obtain ⟨_, _, _, _, _, hz, hn⟩ := hW
    refine ⟨hok, _, _, ([] ++ pa) ++ pv, ⟨[] ++ pa, pv, trodAll_append (hargs _ (fun _ _ => rfl)) (hres _ _ _), hvars _ (fun _ _ => rfl), rfl, ?_, ?_⟩, ?_⟩
    · intro b off hp
      have hp' : MemPlace.cell b off ∈ before := by rw [hps]; simpa using hp
      rw [hb.frozen (hlt _ hp')]
      exact hz b off hp'
    · intro ha
      have := hn ha
      rw [hps] at this
      simpa using this
    · intro p hp _
      rw [hps]
      simpa using hp

theorem relL_nil {E : Env} {w : World} : RelL E w [] [] := ⟨rfl, fun i x y h => (by cases h)⟩
theorem relL_cons {E : Env} {w : World} {x : AV} {y : Value} {xs : List AV} {ys : List Value} (h : Rel E w x y) (hs : RelL E w xs ys) : RelL E w (x :: xs) (y :: ys) := by
  refine ⟨by simp [hs.1], fun i a b ha hb => ?_⟩
  cases i with
  | zero => simp at ha hb; subst ha hb; exact h
  | succ i => simp at ha hb; exact hs.2 i a b ha hb
theorem wf64 {a : Int} (h : (Lit.int .i64 a).wf = true) : -9223372036854775808 ≤ a ∧ a ≤ 9223372036854775807 := by
  simp only [Lit.wf, Bool.and_eq_true, decide_eq_true_eq] at h
  have h1 : IntKind.min .i64 = -9223372036854775808 := by decide
  have h2 : IntKind.max .i64 = 9223372036854775807 := by decide
  omega

theorem calls_of_pure {f : FuncId} {xs : List AV} {vs : List Value} (h : Go.Abs.Pure Try.prog f xs (.bool true)) (w : World) (hv : RelL (E0 fun _ => False) w xs vs) :
    Calls Try.prog f vs.toArray w fun e w' => e = .returned (.bool true) ∧ Below w.heap.size w w' := by
  refine (h.2 (fun _ => False) w vs (fun _ h => h.elim) hv).mono ?_
  rintro e w' ⟨v, imm', rfl, hb, _, _, _, hr⟩
  cases hr
  exact ⟨rfl, hb⟩

theorem own : ownKnob Try.prog.godebug = none := by kernel_rfl

end Go.Proofs.Ytcbkggfipdldaaa

/- P19: contracts of functions and plain laws; for all inputs that the theorems name. -/
namespace Go.Proofs.Ytcbkggfipdldaaa
open Go Go.Abs

end Go.Proofs.Ytcbkggfipdldaaa

/- P23: contracts of functions and plain laws; for all inputs that the theorems name. -/
namespace Go.Proofs.Ytcbkggfipdldaaa
open Go Go.Abs
open Nat (reduceEqDiff reduceAdd reduceLeDiff)

/-! ### comparisons of vectors -/
def order : List Int → List Int → Int
  | [], [] => 0
  | [], _ :: _ => -1
  | _ :: _, [] => 1
  | a :: l, b :: m => if a < b then -1 else if a > b then 1 else order l m

attribute [local irreducible] awp2 aops2 ains aloop athen bbind obind gbind acond res1 Go.Abs.Fn PCall Go.Abs.Pure SnapArgs SnapL Yl
theorem equalV_c (l m : List Int) (hl : Sh l) (hm : Sh m) : Pure Try.prog 27 [encV l, encV m] (.bool (decide (l = m))) := by
  refine Pure.of_c2 follows is27 (Nat.le_of_ble_eq_true rfl) ?_
  simp only [b27, O, G, N, M, D, F, B2, cFal, cTru]
  repeat' (first | apply w_seq | apply w_ops0 | apply w_block | apply w_skip | apply w_ret | apply a_n | apply a_r | apply o_nil | (apply o_val rfl rfl; (focus ((try simp (disch := omega) only [simB0, ZA, reduceEqDiff, ↓reduceIte, reduceAdd, reduceLeDiff, ZV, reduceCtorEq]); first | with_reducible rfl | (apply s_ite; (focus omega); with_reducible rfl)))) | (apply w_cond; (focus ((try simp only [simB0, ZA, reduceEqDiff, ↓reduceIte, reduceAdd, reduceLeDiff]); (try with_reducible rfl); done)); all_goals (intro _hg; (try simp only [ZB] at _hg); try first | exact absurd trivial _hg | (exfalso; omega))) | (refine e_ends rfl ?_) | (apply r_1; (focus (simp only [rv, simB0, ZA, reduceEqDiff, ↓reduceIte, reduceAdd, reduceLeDiff]; with_reducible rfl))) | apply w_loop)
  · refine snap_bool ?_
    symm; rw [decide_eq_false_iff_not]; rintro rfl; omega
  refine loop0 (X := Nat) (fun k => [(0, encV l), (1, encV m), (12, .int .i64 l.length), (13, .int .i64 k)]) (fun k => k ≤ l.length ∧ ∀ i, i < k → l.getD i default = m.getD i default) (fun k => l.length - k) 0 ⟨Nat.zero_le _, by simp⟩ (by simp (disch := omega) only [agr, ZG, reduceEqDiff, ↓reduceIte]) ?_
  rintro k ⟨h1, h2⟩
  repeat' (first | apply w_seq | apply w_ops0 | apply w_ops1 | apply w_block | apply w_skip | apply w_exit | apply w_ret | apply a_n | apply a_x | apply a_r | apply o_nil | (apply o_val rfl rfl; (focus ((try simp (disch := omega) only [simB0, ZA, reduceEqDiff, ↓reduceIte, reduceAdd, reduceLeDiff, ZV, reduceCtorEq]); first | with_reducible rfl | (apply s_ite; (focus omega); with_reducible rfl)))) | (apply w_cond; (focus ((try simp only [simB0, ZA, reduceEqDiff, ↓reduceIte, reduceAdd, reduceLeDiff]); (try with_reducible rfl); done)); all_goals (intro _hg; (try simp only [ZB] at _hg); try first | exact absurd trivial _hg | (exfalso; omega))) | (refine e_ends rfl ?_) | (apply r_1; (focus (simp only [rv, simB0, ZA, reduceEqDiff, ↓reduceIte, reduceAdd, reduceLeDiff]; with_reducible rfl))))
  · refine snap_bool ?_
    symm; rw [decide_eq_false_iff_not]; rintro rfl; exact absurd rfl ‹_›
  · refine ⟨k + 1, ⟨by omega, fun i hi => ?_⟩, by omega, by simp (disch := omega) only [agr, ZG, reduceEqDiff, ↓reduceIte], rfl, rfl⟩
    rcases Nat.lt_succ_iff_lt_or_eq.1 hi with h | rfl
    · exact h2 i h
    · omega
  · refine snap_bool ?_
    symm; rw [decide_eq_true_iff]
    refine List.ext_getElem (by omega) (fun i h3 h4 => ?_)
    have := h2 i (by omega)
    simpa [List.getD, h3, h4] using this

theorem isNaN_c (n : Int) : Pure Try.prog 126 [.int .i64 n] (.bool false) := by
  refine Pure.of_c2 follows is126 (Nat.le_of_ble_eq_true rfl) ?_
  simp only [b126, O, G, N, M, D, F, B2, cFal, cTru]
  repeat' (first | apply w_seq | apply w_ops0 | apply w_ret | apply a_n | apply o_nil | (apply o_val rfl rfl; (focus ((try simp (disch := omega) only [simB0, ZA, reduceEqDiff, ↓reduceIte, reduceAdd, reduceLeDiff, ZV, reduceCtorEq]); first | with_reducible rfl | (apply s_ite; (focus omega); with_reducible rfl)))) | (refine e_ends rfl ?_) | (apply r_1; (focus (simp only [rv, simB0, ZA, reduceEqDiff, ↓reduceIte, reduceAdd, reduceLeDiff]; with_reducible rfl))))
  exact snap_bool (by simp)

end Go.Proofs.Ytcbkggfipdldaaa

/- P24: contracts of functions and plain laws; for all inputs that the theorems name. -/
namespace Go.Proofs.Ytcbkggfipdldaaa
open Go Go.Abs
open Nat (reduceEqDiff reduceAdd reduceLeDiff)
attribute [local irreducible] awp2 aops2 ains aloop athen bbind obind gbind acond res1 Go.Abs.Fn PCall Go.Abs.Pure SnapArgs SnapL Yl

/-! ### checks of tasks that are well-formed -/
theorem indexFV_c (l : List (List Int)) (p : List Int → Bool) (g : Nat) (caps : List AV) (hd : ∀ x ∈ caps, Dat x) (hg : ∀ x ∈ l, Pure Try.prog g (encV x :: caps) (.bool (p x))) (hl : Sh l) : Pure Try.prog 73 [encVV l, .func g caps] (.int .i64 (if l.any p then (l.findIdx p : Nat) else -1)) := by
  refine Pure.of_c2 follows is73 (Nat.le_of_ble_eq_true rfl) ?_
  simp only [b73, O, G, N, M, D, F, B2, cFal, cTru]
  repeat' (first | apply w_seq | apply w_ops0 | apply w_block | apply a_n | apply o_nil | (apply o_val rfl rfl; (focus ((try simp (disch := omega) only [simB0, ZA, reduceEqDiff, ↓reduceIte, reduceAdd, reduceLeDiff, ZV, reduceCtorEq]); first | with_reducible rfl | (apply s_ite; (focus omega); with_reducible rfl)))) | apply w_loop)
  refine loop0 (X := Nat) (fun k => [(0, encVV l), (1, .func g caps), (7, .int .i64 l.length), (8, .int .i64 k)]) (fun k => k ≤ l.length ∧ ∀ i, i < k → p (l.getD i default) = false) (fun k => l.length - k) 0 ⟨Nat.zero_le _, by simp⟩ (by simp (disch := omega) only [agr, ZG, reduceEqDiff, ↓reduceIte]) ?_
  rintro k ⟨h1, h2⟩
  repeat' (first | apply w_seq | apply w_ops0 | apply w_block | apply w_skip | apply w_exit | apply w_ret | apply a_n | apply a_x | apply a_r | apply o_nil | (apply o_val rfl rfl; (focus ((try simp (disch := omega) only [simB0, ZA, reduceEqDiff, ↓reduceIte, reduceAdd, reduceLeDiff, ZV, reduceCtorEq]); first | with_reducible rfl | (apply s_ite; (focus omega); with_reducible rfl)))) | (apply o_callD; (iterate 2 (focus ((try simp only [simB0, ZA, reduceEqDiff, ↓reduceIte, reduceAdd, reduceLeDiff]); (try with_reducible rfl); done))); (focus (first | (exact hg _ (mem_getD (by omega))))); (focus ((first | refine snap_plain ?_ rfl | apply snap_data); repeat' (first | exact snapL_nil | apply snapL_i | apply snapL_dat | exact snapL_datL hd)))) | (apply w_cond; (focus ((try simp only [simB0, ZA, reduceEqDiff, ↓reduceIte, reduceAdd, reduceLeDiff]); (try with_reducible rfl); done)); all_goals (intro _hg; (try simp only [ZB] at _hg); try first | exact absurd trivial _hg | (exfalso; omega))) | (refine e_ends rfl ?_) | (apply r_1; (focus (simp only [rv, simB0, ZA, reduceEqDiff, ↓reduceIte, reduceAdd, reduceLeDiff]; with_reducible rfl))))
  · refine snap_int ?_
    have hk : k < l.length := by omega
    have e : l.getD k default = l[k] := by simp [List.getD, hk]
    rw [e] at _hg
    have hm : l.any p = true := List.any_eq_true.2 ⟨l[k], List.getElem_mem hk, _hg⟩
    rw [if_pos hm, (List.findIdx_eq hk).2 ⟨_hg, fun j hj => by have := h2 j hj; rwa [show l.getD j default = l[j] by simp [List.getD, show j < l.length by omega]] at this⟩]
  · refine ⟨k + 1, ⟨by omega, fun i hi => ?_⟩, by omega, by simp (disch := omega) only [agr, ZG, reduceEqDiff, ↓reduceIte], rfl, rfl⟩
    rcases Nat.lt_succ_iff_lt_or_eq.1 hi with h | rfl
    · exact h2 i h
    · exact _hg
  · refine snap_int ?_
    rw [if_neg]
    rw [Bool.not_eq_true, List.any_eq_false]
    intro x hx
    obtain ⟨i, hi, e⟩ := List.getElem_of_mem hx
    have := h2 i (by omega)
    rw [show l.getD i default = x by simp [List.getD, hi, e]] at this
    simp [this]

theorem containsFV_c (l : List (List Int)) (p : List Int → Bool) (g : Nat) (caps : List AV) (hd : ∀ x ∈ caps, Dat x) (hg : ∀ x ∈ l, Pure Try.prog g (encV x :: caps) (.bool (p x))) (hl : Sh l) : Pure Try.prog 29 [encVV l, .func g caps] (.bool (l.any p)) := by
  refine Pure.of_c2 follows is29 (Nat.le_of_ble_eq_true rfl) ?_
  simp only [b29, O, G, N, M, D, F, B2, cFal, cTru]
  repeat' (first | apply w_seq | apply w_ops0 | apply w_ret | apply a_n | apply o_nil | (apply o_val rfl rfl; (focus ((try simp (disch := omega) only [simB0, ZA, reduceEqDiff, ↓reduceIte, reduceAdd, reduceLeDiff, ZV, reduceCtorEq]); first | with_reducible rfl | (apply s_ite; (focus omega); with_reducible rfl)))) | (apply o_callD; (iterate 2 (focus ((try simp only [simB0, ZA, reduceEqDiff, ↓reduceIte, reduceAdd, reduceLeDiff]); (try with_reducible rfl); done))); (focus (first | (exact indexFV_c l p g caps hd hg hl))); (focus ((first | refine snap_plain ?_ rfl | apply snap_data); repeat' (first | exact snapL_nil | apply snapL_i | apply snapL_dat | exact Dat.func hd)))) | (refine e_ends rfl ?_) | (apply r_1; (focus (simp only [rv, simB0, ZA, reduceEqDiff, ↓reduceIte, reduceAdd, reduceLeDiff]; with_reducible rfl))))
  refine snap_bool ?_
  split <;> simp_all

end Go.Proofs.Ytcbkggfipdldaaa

/- P25: contracts of functions and plain laws; for all inputs that the theorems name. -/
namespace Go.Proofs.Ytcbkggfipdldaaa
open Go Go.Abs
open Nat (reduceEqDiff reduceAdd reduceLeDiff)
attribute [local irreducible] awp2 aops2 ains aloop athen bbind obind gbind acond res1 Go.Abs.Fn PCall Go.Abs.Pure SnapArgs SnapL Yl

end Go.Proofs.Ytcbkggfipdldaaa

/- P26: contracts of functions and plain laws; for all inputs that the theorems name. -/
namespace Go.Proofs.Ytcbkggfipdldaaa
open Go Go.Abs
open Nat (reduceEqDiff reduceAdd reduceLeDiff)
attribute [local irreducible] awp2 aops2 ains aloop athen bbind obind gbind acond res1 Go.Abs.Fn PCall Go.Abs.Pure SnapArgs SnapL Yl

end Go.Proofs.Ytcbkggfipdldaaa

/- P27: contracts of functions and plain laws; for all inputs that the theorems name. -/
namespace Go.Proofs.Ytcbkggfipdldaaa
open Go Go.Abs
open Nat (reduceEqDiff reduceAdd reduceLeDiff)
attribute [local irreducible] awp2 aops2 ains aloop athen bbind obind gbind acond res1 Go.Abs.Fn PCall Go.Abs.Pure SnapArgs SnapL Yl

end Go.Proofs.Ytcbkggfipdldaaa

/- P28: contracts of functions and plain laws; for all inputs that the theorems name. -/
namespace Go.Proofs.Ytcbkggfipdldaaa
open Go Go.Abs
open Nat (reduceEqDiff reduceAdd reduceLeDiff)
attribute [local irreducible] awp2 aops2 ains aloop athen bbind obind gbind acond res1 Go.Abs.Fn PCall Go.Abs.Pure SnapArgs SnapL Yl

end Go.Proofs.Ytcbkggfipdldaaa

/- P29: contracts of functions and plain laws; for all inputs that the theorems name. -/
namespace Go.Proofs.Ytcbkggfipdldaaa
open Go Go.Abs
open Nat (reduceEqDiff reduceAdd reduceLeDiff)
attribute [local irreducible] awp2 aops2 ains aloop athen bbind obind gbind acond res1 Go.Abs.Fn PCall Go.Abs.Pure SnapArgs SnapL Yl

end Go.Proofs.Ytcbkggfipdldaaa

/- P30: contracts of functions and plain laws; for all inputs that the theorems name. -/
namespace Go.Proofs.Ytcbkggfipdldaaa
open Go Go.Abs

end Go.Proofs.Ytcbkggfipdldaaa

/- P31: contracts of functions and plain laws; for all inputs that the theorems name. -/
namespace Go.Proofs.Ytcbkggfipdldaaa
open Go Go.Abs
open Nat (reduceEqDiff reduceAdd reduceLeDiff)
attribute [local irreducible] awp2 aops2 ains aloop athen bbind obind gbind acond res1 Go.Abs.Fn PCall Go.Abs.Pure SnapArgs SnapL Yl

/-! ### sorting a short row of numbers, and counting its distinct ones -/
theorem less_c (a b : Int) : Pure Try.prog 105 [.int .i64 a, .int .i64 b] (.bool (decide (a < b))) := by
  refine Pure.of_c2 follows is105 (Nat.le_of_ble_eq_true rfl) ?_
  simp only [b105, O, G, N, M, D, F, B2, cFal, cTru]
  repeat' (first | apply w_seq | apply w_ops0 | apply w_ret | apply a_n | apply o_nil | (apply o_val rfl rfl; (focus ((try simp (disch := omega) only [simB0, ZA, reduceEqDiff, ↓reduceIte, reduceAdd, reduceLeDiff, ZV, reduceCtorEq, Bool.false_eq_true]); first | with_reducible rfl | (apply s_ite; (focus omega); with_reducible rfl)))) | (apply o_callD; (iterate 2 (focus ((try simp only [simB0, ZA, reduceEqDiff, ↓reduceIte, reduceAdd, reduceLeDiff, Bool.false_eq_true]); (try with_reducible rfl); done))); (focus (first | (exact isNaN_c _))); (focus ((first | refine snap_plain ?_ rfl | apply snap_data); repeat' (first | exact snapL_nil | apply snapL_i | apply snapL_dat)))) | (apply o_gT; (focus (simp only [simB0, ZA, reduceEqDiff, ↓reduceIte, reduceAdd, reduceLeDiff, Bool.false_eq_true]; done))) | (apply o_gF; (focus (simp only [simB0, ZA, reduceEqDiff, ↓reduceIte, reduceAdd, reduceLeDiff, or_true, true_or, Bool.false_eq_true]; done))) | (refine e_ends rfl ?_) | (apply r_1; (focus (simp only [rv, simB0, ZA, reduceEqDiff, ↓reduceIte, reduceAdd, reduceLeDiff, Bool.false_eq_true]; with_reducible rfl))))
  exact .bool _

set_option maxRecDepth 20000
theorem len64_c (n : Nat) (h : n ≤ 5) : ∃ r : Int, Pure Try.prog 109 [.int .u64 n] (.int .i64 r) := by
  have hn : n = 0 ∨ n = 1 ∨ n = 2 ∨ n = 3 ∨ n = 4 ∨ n = 5 := by omega
  rcases hn with rfl | rfl | rfl | rfl | rfl | rfl
  · refine ⟨?_, Pure.of_c2 follows is109 (Nat.le_of_ble_eq_true rfl) ?_⟩
    rotate_left
    delta b109 O G N M D F B2 cFal cTru
    repeat' (first | apply w_seq | apply w_ops0 | apply w_skip | apply a_n | apply o_nil | (apply o_val rfl rfl; (focus ((try simp (disch := omega) only [simB0, ZA, reduceEqDiff, ↓reduceIte, reduceAdd, reduceLeDiff, ZV, reduceCtorEq]); first | with_reducible rfl | (apply s_ite; (focus omega); with_reducible rfl)))) | (apply w_cond; (focus ((try simp only [simB0, ZA, reduceEqDiff, ↓reduceIte, reduceAdd, reduceLeDiff]); (try with_reducible rfl); done)); all_goals (intro _hg; (try simp only [ZB] at _hg); try first | exact absurd trivial _hg | (exfalso; omega))))
    refine o_val (r := .int .u8 0) rfl rfl (by kernel_rfl) ?_
    repeat' (first | apply w_ret | apply a_n | apply o_nil | (apply o_val rfl rfl; (focus ((try simp (disch := omega) only [simB0, ZA, reduceEqDiff, ↓reduceIte, reduceAdd, reduceLeDiff, ZV, reduceCtorEq]); first | with_reducible rfl | (apply s_ite; (focus omega); with_reducible rfl)))) | (refine e_ends rfl ?_) | (apply r_1; (focus (simp only [rv, simB0, ZA, reduceEqDiff, ↓reduceIte, reduceAdd, reduceLeDiff]; with_reducible rfl))))
    exact .int _ _
  · refine ⟨?_, Pure.of_c2 follows is109 (Nat.le_of_ble_eq_true rfl) ?_⟩
    rotate_left
    delta b109 O G N M D F B2 cFal cTru
    repeat' (first | apply w_seq | apply w_ops0 | apply w_skip | apply a_n | apply o_nil | (apply o_val rfl rfl; (focus ((try simp (disch := omega) only [simB0, ZA, reduceEqDiff, ↓reduceIte, reduceAdd, reduceLeDiff, ZV, reduceCtorEq]); first | with_reducible rfl | (apply s_ite; (focus omega); with_reducible rfl)))) | (apply w_cond; (focus ((try simp only [simB0, ZA, reduceEqDiff, ↓reduceIte, reduceAdd, reduceLeDiff]); (try with_reducible rfl); done)); all_goals (intro _hg; (try simp only [ZB] at _hg); try first | exact absurd trivial _hg | (exfalso; omega))))
    refine o_val (r := .int .u8 1) rfl rfl (by kernel_rfl) ?_
    repeat' (first | apply w_ret | apply a_n | apply o_nil | (apply o_val rfl rfl; (focus ((try simp (disch := omega) only [simB0, ZA, reduceEqDiff, ↓reduceIte, reduceAdd, reduceLeDiff, ZV, reduceCtorEq]); first | with_reducible rfl | (apply s_ite; (focus omega); with_reducible rfl)))) | (refine e_ends rfl ?_) | (apply r_1; (focus (simp only [rv, simB0, ZA, reduceEqDiff, ↓reduceIte, reduceAdd, reduceLeDiff]; with_reducible rfl))))
    exact .int _ _
  · refine ⟨?_, Pure.of_c2 follows is109 (Nat.le_of_ble_eq_true rfl) ?_⟩
    rotate_left
    delta b109 O G N M D F B2 cFal cTru
    repeat' (first | apply w_seq | apply w_ops0 | apply w_skip | apply a_n | apply o_nil | (apply o_val rfl rfl; (focus ((try simp (disch := omega) only [simB0, ZA, reduceEqDiff, ↓reduceIte, reduceAdd, reduceLeDiff, ZV, reduceCtorEq]); first | with_reducible rfl | (apply s_ite; (focus omega); with_reducible rfl)))) | (apply w_cond; (focus ((try simp only [simB0, ZA, reduceEqDiff, ↓reduceIte, reduceAdd, reduceLeDiff]); (try with_reducible rfl); done)); all_goals (intro _hg; (try simp only [ZB] at _hg); try first | exact absurd trivial _hg | (exfalso; omega))))
    refine o_val (r := .int .u8 2) rfl rfl (by kernel_rfl) ?_
    repeat' (first | apply w_ret | apply a_n | apply o_nil | (apply o_val rfl rfl; (focus ((try simp (disch := omega) only [simB0, ZA, reduceEqDiff, ↓reduceIte, reduceAdd, reduceLeDiff, ZV, reduceCtorEq]); first | with_reducible rfl | (apply s_ite; (focus omega); with_reducible rfl)))) | (refine e_ends rfl ?_) | (apply r_1; (focus (simp only [rv, simB0, ZA, reduceEqDiff, ↓reduceIte, reduceAdd, reduceLeDiff]; with_reducible rfl))))
    exact .int _ _
  · refine ⟨?_, Pure.of_c2 follows is109 (Nat.le_of_ble_eq_true rfl) ?_⟩
    rotate_left
    delta b109 O G N M D F B2 cFal cTru
    repeat' (first | apply w_seq | apply w_ops0 | apply w_skip | apply a_n | apply o_nil | (apply o_val rfl rfl; (focus ((try simp (disch := omega) only [simB0, ZA, reduceEqDiff, ↓reduceIte, reduceAdd, reduceLeDiff, ZV, reduceCtorEq]); first | with_reducible rfl | (apply s_ite; (focus omega); with_reducible rfl)))) | (apply w_cond; (focus ((try simp only [simB0, ZA, reduceEqDiff, ↓reduceIte, reduceAdd, reduceLeDiff]); (try with_reducible rfl); done)); all_goals (intro _hg; (try simp only [ZB] at _hg); try first | exact absurd trivial _hg | (exfalso; omega))))
    refine o_val (r := .int .u8 2) rfl rfl (by kernel_rfl) ?_
    repeat' (first | apply w_ret | apply a_n | apply o_nil | (apply o_val rfl rfl; (focus ((try simp (disch := omega) only [simB0, ZA, reduceEqDiff, ↓reduceIte, reduceAdd, reduceLeDiff, ZV, reduceCtorEq]); first | with_reducible rfl | (apply s_ite; (focus omega); with_reducible rfl)))) | (refine e_ends rfl ?_) | (apply r_1; (focus (simp only [rv, simB0, ZA, reduceEqDiff, ↓reduceIte, reduceAdd, reduceLeDiff]; with_reducible rfl))))
    exact .int _ _
  · refine ⟨?_, Pure.of_c2 follows is109 (Nat.le_of_ble_eq_true rfl) ?_⟩
    rotate_left
    delta b109 O G N M D F B2 cFal cTru
    repeat' (first | apply w_seq | apply w_ops0 | apply w_skip | apply a_n | apply o_nil | (apply o_val rfl rfl; (focus ((try simp (disch := omega) only [simB0, ZA, reduceEqDiff, ↓reduceIte, reduceAdd, reduceLeDiff, ZV, reduceCtorEq]); first | with_reducible rfl | (apply s_ite; (focus omega); with_reducible rfl)))) | (apply w_cond; (focus ((try simp only [simB0, ZA, reduceEqDiff, ↓reduceIte, reduceAdd, reduceLeDiff]); (try with_reducible rfl); done)); all_goals (intro _hg; (try simp only [ZB] at _hg); try first | exact absurd trivial _hg | (exfalso; omega))))
    refine o_val (r := .int .u8 3) rfl rfl (by kernel_rfl) ?_
    repeat' (first | apply w_ret | apply a_n | apply o_nil | (apply o_val rfl rfl; (focus ((try simp (disch := omega) only [simB0, ZA, reduceEqDiff, ↓reduceIte, reduceAdd, reduceLeDiff, ZV, reduceCtorEq]); first | with_reducible rfl | (apply s_ite; (focus omega); with_reducible rfl)))) | (refine e_ends rfl ?_) | (apply r_1; (focus (simp only [rv, simB0, ZA, reduceEqDiff, ↓reduceIte, reduceAdd, reduceLeDiff]; with_reducible rfl))))
    exact .int _ _
  · refine ⟨?_, Pure.of_c2 follows is109 (Nat.le_of_ble_eq_true rfl) ?_⟩
    rotate_left
    delta b109 O G N M D F B2 cFal cTru
    repeat' (first | apply w_seq | apply w_ops0 | apply w_skip | apply a_n | apply o_nil | (apply o_val rfl rfl; (focus ((try simp (disch := omega) only [simB0, ZA, reduceEqDiff, ↓reduceIte, reduceAdd, reduceLeDiff, ZV, reduceCtorEq]); first | with_reducible rfl | (apply s_ite; (focus omega); with_reducible rfl)))) | (apply w_cond; (focus ((try simp only [simB0, ZA, reduceEqDiff, ↓reduceIte, reduceAdd, reduceLeDiff]); (try with_reducible rfl); done)); all_goals (intro _hg; (try simp only [ZB] at _hg); try first | exact absurd trivial _hg | (exfalso; omega))))
    refine o_val (r := .int .u8 3) rfl rfl (by kernel_rfl) ?_
    repeat' (first | apply w_ret | apply a_n | apply o_nil | (apply o_val rfl rfl; (focus ((try simp (disch := omega) only [simB0, ZA, reduceEqDiff, ↓reduceIte, reduceAdd, reduceLeDiff, ZV, reduceCtorEq]); first | with_reducible rfl | (apply s_ite; (focus omega); with_reducible rfl)))) | (refine e_ends rfl ?_) | (apply r_1; (focus (simp only [rv, simB0, ZA, reduceEqDiff, ↓reduceIte, reduceAdd, reduceLeDiff]; with_reducible rfl))))
    exact .int _ _
theorem len_c (n : Nat) (h : n ≤ 5) : ∃ r : Int, Pure Try.prog 75 [.int .u64 n] (.int .i64 r) := by
  obtain ⟨r, hr⟩ := len64_c n h
  refine ⟨r, Pure.of_c2 follows is75 (Nat.le_of_ble_eq_true rfl) ?_⟩
  simp only [b75, O, G, N, M, D, F, B2, cFal, cTru]
  repeat' (first | apply w_seq | apply w_ops0 | apply w_skip | apply w_ret | apply a_n | apply o_nil | (apply o_val rfl rfl; (focus ((try simp (disch := omega) only [simB0, ZA, reduceEqDiff, ↓reduceIte, reduceAdd, reduceLeDiff, ZV, reduceCtorEq]); first | with_reducible rfl | (apply s_ite; (focus omega); with_reducible rfl)))) | (apply o_callD; (iterate 2 (focus ((try simp only [simB0, ZA, reduceEqDiff, ↓reduceIte, reduceAdd, reduceLeDiff]); (try with_reducible rfl); done))); (focus (first | (exact hr))); (focus ((first | refine snap_plain ?_ rfl | apply snap_data); repeat' (first | exact snapL_nil | apply snapL_i | apply snapL_dat)))) | (apply w_condF; (focus (simp only [simB0, ZA, reduceEqDiff, ↓reduceIte, reduceAdd, reduceLeDiff]; done))) | (refine e_ends rfl ?_) | (apply r_1; (focus (simp only [rv, simB0, ZA, reduceEqDiff, ↓reduceIte, reduceAdd, reduceLeDiff]; with_reducible rfl))))
  exact .int _ _

def swp (l : List Int) (j : Nat) : List Int := (l.set (j + 1) (l.getD j default)).set j (l.getD (j + 1) default)
def down : Nat → List Int → List Int
  | 0, l => l
  | j + 1, l => if l.getD (j + 1) default < l.getD j default then down j (swp l j) else l
def downs : Nat → Nat → List Int → List Int
  | 0, _, l => l
  | f + 1, i, l => downs f (i + 1) (down i l)
def sorted (l : List Int) : List Int := downs (l.length - 1) 1 l
theorem swp_len (l : List Int) (j : Nat) : (swp l j).length = l.length := by simp [swp]
theorem down_len (j : Nat) (l : List Int) : (down j l).length = l.length := by
  induction j generalizing l with
  | zero => rfl
  | succ j ih => unfold down; split <;> simp [ih, swp_len]
theorem downs_len (f i : Nat) (l : List Int) : (downs f i l).length = l.length := by
  induction f generalizing i l with
  | zero => rfl
  | succ f ih => unfold downs; rw [ih, down_len]

theorem hupd_two (H : Hp) (b : Nat) (x y : List AV) : hupd (hupd H b x) b y = hupd H b y := by
  funext i
  by_cases e : i = b
  · subst e; rw [hupd_self', hupd_self']
  · rw [hupd_ne e, hupd_ne e, hupd_ne e]

theorem insertion_c (l : List Int) (hl : Sh l) (h0 : l ≠ []) (H : Hp) (B nx : Nat) (hH : H B = some (l.map (AV.int .i64))) (hB : B < nx) :
    Abs.Fn Try.prog 99 [.msl B l.length 1 0 l.length, .int .i64 0, .int .i64 l.length] H nx fun _ H' nx' => H' = hupd H B ((sorted l).map (AV.int .i64)) ∧ nx' = nx := by
  refine Abs.Fn.of_c2 follows is99 (Nat.le_of_ble_eq_true rfl) ?_
  simp only [b99, O, G, N, M, D, F, B2, cFal, cTru]
  have hpos := List.length_pos_iff.2 h0
  repeat' (first | apply w_seq | apply w_ops0 | apply w_block | apply a_n | apply o_nil | (apply o_val rfl rfl; (focus ((try simp (disch := omega) only [simB0, ZA, reduceEqDiff, ↓reduceIte, reduceAdd, reduceLeDiff, ZV, reduceCtorEq]); first | with_reducible rfl | (apply s_ite; (focus omega); with_reducible rfl)))) | apply w_loop)
  refine loopI (X := Nat × List Int) (fun x => [(0, .msl B l.length 1 0 l.length), (1, .int .i64 0), (2, .int .i64 l.length), (6, .int .i64 x.1)]) (fun x H' nx' => x.2.length = l.length ∧ 1 ≤ x.1 ∧ x.1 ≤ l.length ∧ H' = hupd H B (x.2.map (AV.int .i64)) ∧ nx' = nx ∧ downs (l.length - x.1) x.1 x.2 = sorted l) (fun x => l.length - x.1) (1, l) ⟨rfl, Nat.le_refl _, hpos, ?_, rfl, rfl⟩ (by simp (disch := omega) only [agr, ZG, reduceEqDiff, ↓reduceIte, Int.zero_add]) ?_
  · funext b
    by_cases e : b = B
    · subst e; rw [hupd_self']; exact hH
    · rw [hupd_ne e]
  rintro ⟨i, L⟩ H' nx' ⟨e1, e2, e3, rfl, rfl, e4⟩
  dsimp only at e1 e2 e3 e4 ⊢
  by_cases hi : i < l.length
  · repeat' (first | apply w_seq | apply w_ops0 | apply w_block | apply w_skip | apply a_n | apply o_nil | (apply o_val rfl rfl; (focus ((try simp (disch := omega) only [simB0, ZA, reduceEqDiff, ↓reduceIte, reduceAdd, reduceLeDiff, ZV, reduceCtorEq]); first | with_reducible rfl | (apply s_ite; (focus omega); with_reducible rfl)))) | (apply w_cond; (focus ((try simp only [simB0, ZA, reduceEqDiff, ↓reduceIte, reduceAdd, reduceLeDiff]); (try with_reducible rfl); done)); all_goals (intro _hg; (try simp only [ZB] at _hg); try first | exact absurd trivial _hg | (exfalso; omega))) | apply w_loop)
    refine loopI (X := Nat × List Int) (fun x => [(0, .msl B l.length 1 0 l.length), (1, .int .i64 0), (2, .int .i64 l.length), (6, .int .i64 i), (7, .int .i64 x.1)]) (fun x H' nxx => x.2.length = l.length ∧ x.1 ≤ i ∧ H' = hupd H B (x.2.map (AV.int .i64)) ∧ nxx = nx' ∧ down x.1 x.2 = down i L) (fun x => x.1) (i, L) ⟨e1, Nat.le_refl _, rfl, rfl, rfl⟩ (by simp (disch := omega) only [agr, ZG, reduceEqDiff, ↓reduceIte]) ?_
    rintro ⟨j, M⟩ H' nxx ⟨a1, a2, rfl, rfl, a3⟩
    dsimp only at a1 a2 a3 ⊢
    cases j with
    | zero =>
      repeat' (first | apply w_seq | apply w_ops0 | apply w_mixS1 | apply w_exit | apply a_n | apply a_x | apply o_nil | (apply o_val rfl rfl; (focus ((try simp (disch := omega) only [simB0, ZA, reduceEqDiff, ↓reduceIte, reduceAdd, reduceLeDiff, ZV, reduceCtorEq]); first | with_reducible rfl | (apply s_ite; (focus omega); with_reducible rfl)))) | (apply o_gF; (focus (simp only [simB0, ZA, reduceEqDiff, ↓reduceIte, reduceAdd, reduceLeDiff, or_true, true_or]; done))) | (apply o_gB; (focus ((try simp only [simB0, ZA, reduceEqDiff, ↓reduceIte, reduceAdd, reduceLeDiff]); (try with_reducible rfl); done)); all_goals (intro _hg; (try simp only [ZB] at _hg); try first | exact absurd trivial _hg | (exfalso; omega))) | (apply w_condF; (focus (simp only [simB0, ZA, reduceEqDiff, ↓reduceIte, reduceAdd, reduceLeDiff]; done))))
      refine ⟨(i + 1, M), by dsimp only; omega, ⟨a1, by dsimp only; omega, by dsimp only; omega, rfl, rfl, ?_⟩, by simp (disch := omega) only [agr, ZG, reduceEqDiff, ↓reduceIte]⟩
      dsimp only
      rw [show down 0 M = M from rfl] at a3
      rw [a3, ← e4, show l.length - i = (l.length - (i + 1)) + 1 by omega]; rfl
    | succ j =>
      have tj : ((j + 1 : Nat) : Int) - 1 = j := by omega
      have lc := less_c (M.getD (j + 1) default) (M.getD j default)
      by_cases hc : M.getD (j + 1) default < M.getD j default
      · rw [decide_eq_true hc] at lc
        have hM2 : (swp M j).length = l.length := by rw [swp_len, a1]
        obtain ⟨M1, hl1, lm1, lm2⟩ : ∃ M1 : List Int, M1.length = l.length ∧ lput (M.map (AV.int .i64)) (j + 1) [.int .i64 (M.getD j default)] = M1.map (AV.int .i64) ∧ lput (M1.map (AV.int .i64)) j [.int .i64 (M.getD (j + 1) default)] = (swp M j).map (AV.int .i64) :=
          ⟨M.set (j + 1) (M.getD j default), by simp [a1], lput_map (by omega), by rw [lput_map (by simp; omega)]; rfl⟩
        have lm3 := lm2
        simp only [lput, List.length_cons, List.length_nil, Nat.zero_add] at lm1 lm2
        repeat' (first | apply w_seq | apply w_ops0 | apply w_ops1 | apply w_mixS1 | apply w_block | apply w_skip | apply a_n | apply o_nil | (apply o_val rfl rfl; (focus ((try simp (disch := omega) only [simB0, ZA, reduceEqDiff, ↓reduceIte, reduceAdd, reduceLeDiff, ZV, reduceCtorEq, tj, Int.toNat_natCast, lm1, lm2]); first | with_reducible rfl | (apply s_ite; (focus omega); with_reducible rfl)))) | (apply o_callD; (iterate 2 (focus ((try simp only [simB0, ZA, reduceEqDiff, ↓reduceIte, reduceAdd, reduceLeDiff, tj, Int.toNat_natCast, lm1, lm2]); (try with_reducible rfl); done))); (focus (first | (exact lc))); (focus ((first | refine snap_plain ?_ rfl | apply snap_data); repeat' (first | exact snapL_nil | apply snapL_i | apply snapL_dat)))) | (apply e_st rfl; (iterate 4 (focus ((try simp only [simB0, ZA, reduceEqDiff, ↓reduceIte, reduceAdd, reduceLeDiff, tj, Int.toNat_natCast, lm1, lm2]); (try with_reducible rfl); done))); (focus (simp only [SO, Bool.and_self, one_encV, one_encVV, tj, Int.toNat_natCast, lm1, lm2])); (iterate 3 (focus ((try simp only [SL, reduceAdd, Nat.reduceMul, List.length_map]); first | done | omega)))) | (apply o_gT; (focus (simp only [simB0, ZA, reduceEqDiff, ↓reduceIte, reduceAdd, reduceLeDiff, tj, Int.toNat_natCast, lm1, lm2]; done))) | (apply o_gB; (focus ((try simp only [simB0, ZA, reduceEqDiff, ↓reduceIte, reduceAdd, reduceLeDiff, tj, Int.toNat_natCast, lm1, lm2]); (try with_reducible rfl); done)); all_goals (intro _hg; (try simp only [ZB] at _hg); try first | exact absurd trivial _hg | (exfalso; omega))) | (apply w_condT; (focus (simp only [simB0, ZA, reduceEqDiff, ↓reduceIte, reduceAdd, reduceLeDiff, tj, Int.toNat_natCast, lm1, lm2]; done))))
        refine ⟨(j, swp M j), by dsimp only; omega, ⟨hM2, by dsimp only; omega, ?_, rfl, ?_⟩, by simp (disch := omega) only [agr, ZG, reduceEqDiff, ↓reduceIte, tj]⟩
        · dsimp only; rw [hupd_two, hupd_two, lm3]
        · dsimp only; rw [← a3, down, if_pos hc]
      · rw [decide_eq_false hc] at lc
        repeat' (first | apply w_seq | apply w_ops0 | apply w_mixS1 | apply w_exit | apply a_n | apply a_x | apply o_nil | (apply o_val rfl rfl; (focus ((try simp (disch := omega) only [simB0, ZA, reduceEqDiff, ↓reduceIte, reduceAdd, reduceLeDiff, ZV, reduceCtorEq, tj, Int.toNat_natCast]); first | with_reducible rfl | (apply s_ite; (focus omega); with_reducible rfl)))) | (apply o_callD; (iterate 2 (focus ((try simp only [simB0, ZA, reduceEqDiff, ↓reduceIte, reduceAdd, reduceLeDiff, tj, Int.toNat_natCast]); (try with_reducible rfl); done))); (focus (first | (exact lc))); (focus ((first | refine snap_plain ?_ rfl | apply snap_data); repeat' (first | exact snapL_nil | apply snapL_i | apply snapL_dat)))) | (apply o_gT; (focus (simp only [simB0, ZA, reduceEqDiff, ↓reduceIte, reduceAdd, reduceLeDiff, tj, Int.toNat_natCast]; done))) | (apply o_gB; (focus ((try simp only [simB0, ZA, reduceEqDiff, ↓reduceIte, reduceAdd, reduceLeDiff, tj, Int.toNat_natCast]); (try with_reducible rfl); done)); all_goals (intro _hg; (try simp only [ZB] at _hg); try first | exact absurd trivial _hg | (exfalso; omega))) | (apply w_condF; (focus (simp only [simB0, ZA, reduceEqDiff, ↓reduceIte, reduceAdd, reduceLeDiff, tj, Int.toNat_natCast]; done))))
        refine ⟨(i + 1, M), by dsimp only; omega, ⟨a1, by dsimp only; omega, by dsimp only; omega, rfl, rfl, ?_⟩, by simp (disch := omega) only [agr, ZG, reduceEqDiff, ↓reduceIte]⟩
        dsimp only
        rw [down, if_neg hc] at a3
        rw [a3, ← e4, show l.length - i = (l.length - (i + 1)) + 1 by omega]; rfl
  · repeat' (first | apply w_seq | apply w_ops0 | apply w_exit | apply a_n | apply a_x | apply o_nil | (apply o_val rfl rfl; (focus ((try simp (disch := omega) only [simB0, ZA, reduceEqDiff, ↓reduceIte, reduceAdd, reduceLeDiff, ZV, reduceCtorEq]); first | with_reducible rfl | (apply s_ite; (focus omega); with_reducible rfl)))) | (apply w_cond; (focus ((try simp only [simB0, ZA, reduceEqDiff, ↓reduceIte, reduceAdd, reduceLeDiff]); (try with_reducible rfl); done)); all_goals (intro _hg; (try simp only [ZB] at _hg); try first | exact absurd trivial _hg | (exfalso; omega))) | (refine e_ends rfl ?_) | apply r_0)
    refine ⟨?_, rfl⟩
    rw [← e4, show l.length - i = 0 by omega]; rfl

theorem pdq_c (l : List Int) (hl : l.length ≤ 12) (h0 : l ≠ []) (x : Int) (H : Hp) (B nx : Nat) (hH : H B = some (l.map (AV.int .i64))) (hB : B < nx) :
    Abs.Fn Try.prog 74 [.msl B l.length 1 0 l.length, .int .i64 0, .int .i64 l.length, .int .i64 x] H nx fun _ H' nx' => H' = hupd H B ((sorted l).map (AV.int .i64)) ∧ nx' = nx := by
  refine Abs.Fn.of_c2 follows is74 (Nat.le_of_ble_eq_true rfl) ?_
  simp only [b74, O, G, N, M, D, F, B2, cFal, cTru]
  repeat' (first | apply w_seq | apply w_ops0 | apply w_block | apply a_n | apply o_nil | (apply o_val rfl rfl; (focus ((try simp (disch := omega) only [simB0, ZA, reduceEqDiff, ↓reduceIte, reduceAdd, reduceLeDiff, ZV, reduceCtorEq]); first | with_reducible rfl | (apply s_ite; (focus omega); with_reducible rfl)))) | apply w_loop)
  refine loopI (X := Unit) (fun _ => [(0, .msl B l.length 1 0 l.length), (1, .int .i64 0), (2, .int .i64 l.length)]) (fun _ H' nx' => H' = H ∧ nx' = nx) (fun _ => 0) () ⟨rfl, rfl⟩ (by simp (disch := omega) only [agr, ZG, reduceEqDiff, ↓reduceIte]) ?_
  rintro _ H' nx' ⟨rfl, rfl⟩
  refine w_block ?_
  repeat' (first | apply w_seq | apply w_ops0 | apply a_n | apply o_nil | (apply o_val rfl rfl; (focus ((try simp (disch := omega) only [simB0, ZA, reduceEqDiff, ↓reduceIte, reduceAdd, reduceLeDiff, ZV, reduceCtorEq]); first | with_reducible rfl | (apply s_ite; (focus omega); with_reducible rfl)))) | (apply w_cond; (focus ((try simp only [simB0, ZA, reduceEqDiff, ↓reduceIte, reduceAdd, reduceLeDiff]); (try with_reducible rfl); done)); all_goals (intro _hg; (try simp only [ZB] at _hg); try first | exact absurd trivial _hg | (exfalso; omega))))
  refine o_callE (by ((try simp only [simB0, ZA, reduceEqDiff, ↓reduceIte, reduceAdd, reduceLeDiff]); (try with_reducible rfl))) (by ((try simp only [simB0, ZA, reduceEqDiff, ↓reduceIte, reduceAdd, reduceLeDiff]); (try with_reducible rfl))) (insertion_c l (by show _ ≤ _; omega) h0 H' B nx' hH hB) ?_
  rintro _ H2 nx2 ⟨rfl, rfl⟩
  repeat' (first | apply w_ret | apply a_n | apply a_r | apply o_nil | (refine e_ends rfl ?_) | apply r_0)
  exact ⟨rfl, rfl⟩
theorem sort_c (l : List Int) (hl : l.length ≤ 5) (h0 : l ≠ []) (H : Hp) (B nx : Nat) (hH : H B = some (l.map (AV.int .i64))) (hB : B < nx) :
    Abs.Fn Try.prog 33 [.msl B l.length 1 0 l.length] H nx fun _ H' nx' => H' = hupd H B ((sorted l).map (AV.int .i64)) ∧ nx' = nx := by
  refine Abs.Fn.of_c2 follows is33 (Nat.le_of_ble_eq_true rfl) ?_
  simp only [b33, O, G, N, M, D, F, B2, cFal, cTru]
  obtain ⟨r, hr⟩ := len_c l.length hl
  have hw : IntKind.u64.wrap (l.length : Int) = l.length := wrapU64 (by omega) (by omega)
  repeat' (first | apply w_seq | apply w_ops0 | apply a_n | apply o_nil | (apply o_val rfl rfl; (focus ((try simp (disch := omega) only [simB0, ZA, reduceEqDiff, ↓reduceIte, reduceAdd, reduceLeDiff, ZV, reduceCtorEq, hw]); first | with_reducible rfl | (apply s_ite; (focus omega); with_reducible rfl)))) | (apply o_callD; (iterate 2 (focus ((try simp only [simB0, ZA, reduceEqDiff, ↓reduceIte, reduceAdd, reduceLeDiff, hw]); (try with_reducible rfl); done))); (focus (first | (exact hr))); (focus ((first | refine snap_plain ?_ rfl | apply snap_data); repeat' (first | exact snapL_nil | apply snapL_i | apply snapL_dat)))))
  refine o_callE (by ((try simp only [simB0, ZA, reduceEqDiff, ↓reduceIte, reduceAdd, reduceLeDiff]); (try with_reducible rfl))) (by ((try simp only [simB0, ZA, reduceEqDiff, ↓reduceIte, reduceAdd, reduceLeDiff]); (try with_reducible rfl))) (pdq_c l (by omega) h0 r H B nx hH hB) ?_
  rintro _ H2 nx2 ⟨rfl, rfl⟩
  repeat' (first | apply o_nil | (refine e_ends rfl ?_) | apply r_0)
  exact ⟨rfl, rfl⟩
end Go.Proofs.Ytcbkggfipdldaaa

/- P32: contracts of functions and plain laws; for all inputs that the theorems name. -/
namespace Go.Proofs.Ytcbkggfipdldaaa
open Go Go.Abs
open Nat (reduceEqDiff reduceAdd reduceLeDiff)
attribute [local irreducible] awp2 aops2 ains aloop athen bbind obind gbind acond res1 Go.Abs.Fn PCall Go.Abs.Pure SnapArgs SnapL Yl

def heads (l : List Int) : Nat → Nat
  | 0 => 0
  | k + 1 => heads l k + if k = 0 ∨ l.getD k default ≠ l.getD (k - 1) default then 1 else 0
theorem heads_le (l : List Int) (k : Nat) : heads l k ≤ k := by
  induction k with
  | zero => exact Nat.le_refl _
  | succ k ih => unfold heads; split <;> omega
theorem heads_same {l : List Int} {k : Nat} (hk : k ≠ 0) (h : l.getD k default = l.getD (k - 1) default) : heads l (k + 1) = heads l k := by
  rw [heads, if_neg (by rintro (h' | h'); exact hk h'; exact h' h)]; rfl
theorem heads_diff {l : List Int} {k : Nat} (h : l.getD k default ≠ l.getD (k - 1) default) : heads l (k + 1) = heads l k + 1 := by
  rw [heads, if_pos (.inr h)]
theorem asls_rest {B n len k : Nat} (h : k < len) (hn : n ≠ 0) : asls 1 (.msl B n 1 0 len) (some (.int .i64 k)) none none = some (.msl B n 1 k (len - k)) := by
  simp only [asls, abound, Int.natCast_nonneg, if_true, Int.toNat_natCast]
  rw [if_pos ⟨trivial, by omega, Nat.le_refl _, hn⟩, if_pos (.inr h), Nat.zero_add, Nat.mul_one]
theorem asls_part {B n len k : Nat} (h : k ≤ len) (hn : n ≠ 0) : asls 1 (.msl B n 1 0 len) none (some (.int .i64 k)) none = some (.msl B n 1 0 k) := by
  simp only [asls, abound, Int.natCast_nonneg, if_true, Int.toNat_natCast]
  rw [if_pos ⟨trivial, by omega, h, hn⟩, if_pos (.inl trivial), Nat.zero_mul, Nat.sub_zero]

theorem compact_c (l : List Int) (hl : Sh l) (h0 : l ≠ []) (H : Hp) (B nx : Nat) (hH : H B = some (l.map (AV.int .i64))) (hB : B < nx) :
    Abs.Fn Try.prog 34 [.msl B l.length 1 0 l.length] H nx fun r H' nx' => r = .msl B l.length 1 0 (heads l l.length) ∧ (∃ L, H' = hupd H B L) ∧ nx' = nx := by
  refine Abs.Fn.of_c2 follows is34 (Nat.le_of_ble_eq_true rfl) ?_
  simp only [b34, O, G, N, M, D, F, B2, cFal, cTru]
  have hpos := List.length_pos_iff.2 h0
  have hid : H = hupd H B (l.map (AV.int .i64)) := by
    funext b
    by_cases e : b = B
    · subst e; rw [hupd_self']; exact hH
    · rw [hupd_ne e]
  repeat' (first | apply w_seq | apply w_ops0 | apply w_block | apply w_skip | apply w_ret | apply a_n | apply a_r | apply o_nil | (apply o_val rfl rfl; (focus ((try simp (disch := omega) only [simB0, ZA, reduceEqDiff, ↓reduceIte, reduceAdd, reduceLeDiff, ZV, reduceCtorEq]); first | with_reducible rfl | (apply s_ite; (focus omega); with_reducible rfl)))) | (apply w_cond; (focus ((try simp only [simB0, ZA, reduceEqDiff, ↓reduceIte, reduceAdd, reduceLeDiff]); (try with_reducible rfl); done)); all_goals (intro _hg; (try simp only [ZB] at _hg); try first | exact absurd trivial _hg | (exfalso; omega))) | (refine e_ends rfl ?_) | (apply r_1; (focus (simp only [rv, simB0, ZA, reduceEqDiff, ↓reduceIte, reduceAdd, reduceLeDiff]; with_reducible rfl))) | apply w_loop)
  · refine ⟨?_, ⟨_, hid⟩, rfl⟩
    rw [show heads l l.length = l.length by rw [show l.length = 1 by omega]; rfl]
  refine loopI (X := Nat) (fun k => [(0, .msl B l.length 1 0 l.length), (3, .int .i64 k)]) (fun k H' nx' => H' = H ∧ nx' = nx ∧ 1 ≤ k ∧ k ≤ l.length ∧ heads l k = k) (fun k => l.length - k) 1 ⟨rfl, rfl, Nat.le_refl _, hpos, rfl⟩ (by simp (disch := omega) only [agr, ZG, reduceEqDiff, ↓reduceIte]) ?_
  rintro k H' nx' ⟨rfl, rfl, k1, k2, k3⟩
  by_cases hk : k < l.length
  · have tk : (k : Int) - 1 = (k - 1 : Nat) := by omega
    by_cases he : l.getD k default = l.getD (k - 1) default
    · have hs := asls_rest (B := B) hk (Nat.ne_of_gt hpos)
      repeat' (first | apply w_seq | apply w_ops0 | apply w_ops1 | apply w_block | apply w_skip | apply a_n | apply o_nil | (apply o_val rfl rfl; (focus ((try simp (disch := omega) only [simB0, ZA, reduceEqDiff, ↓reduceIte, reduceAdd, reduceLeDiff, ZV, reduceCtorEq, tk, hH, Int.toNat_natCast, he, hs, decide_true]); first | with_reducible rfl | (apply s_ite; (focus omega); with_reducible rfl)))) | (apply w_condT; (focus (simp only [simB0, ZA, reduceEqDiff, ↓reduceIte, reduceAdd, reduceLeDiff, tk, hH, Int.toNat_natCast, he, hs, decide_true]; done))) | (apply w_cond; (focus ((try simp only [simB0, ZA, reduceEqDiff, ↓reduceIte, reduceAdd, reduceLeDiff, tk, hH, Int.toNat_natCast, he, hs, decide_true]); (try with_reducible rfl); done)); all_goals (intro _hg; (try simp only [ZB] at _hg); try first | exact absurd trivial _hg | (exfalso; omega))) | apply w_loop)
      refine loopI (X := Nat × List Int) (fun x => [(0, .msl B l.length 1 0 l.length), (3, .int .i64 (heads l (k + x.1) : Nat)), (4, .msl B l.length 1 k (l.length - k)), (5, .int .i64 x.1)]) (fun x H2 nx2 => x.2.length = l.length ∧ 1 ≤ x.1 ∧ k + x.1 ≤ l.length ∧ heads l (k + x.1) + 1 ≤ k + x.1 ∧ H2 = hupd H' B (x.2.map (AV.int .i64)) ∧ nx2 = nx' ∧ ∀ p, k + x.1 ≤ p + 1 → x.2.getD p default = l.getD p default) (fun x => l.length - x.1) (1, l)
        ⟨rfl, Nat.le_refl _, hk, by dsimp only; rw [heads_same (by omega) he]; omega, hid, rfl, fun _ _ => rfl⟩ (by simp (disch := omega) only [agr, ZG, reduceEqDiff, ↓reduceIte, heads_same (show k ≠ 0 by omega) he, k3]) ?_
      rintro ⟨j, L⟩ H2 nx2 ⟨a1, a2, a3, a4, rfl, rfl, a5⟩
      dsimp only at a1 a2 a3 a4 a5 ⊢
      by_cases hj : k + j < l.length
      · have tj : (j : Int) - 1 = (j - 1 : Nat) := by omega
        have r1 := a5 (k + j) (by omega)
        have r2 := a5 (k + (j - 1)) (by omega)
        by_cases hd : l.getD (k + j) default = l.getD (k + (j - 1)) default
        · have hq : heads l (k + (j + 1)) = heads l (k + j) := heads_same (l := l) (k := k + j) (by omega) (by rw [hd, show k + j - 1 = k + (j - 1) by omega])
          repeat' (first | apply w_seq | apply w_ops0 | apply w_ops1 | apply w_block | apply w_skip | apply a_n | apply o_nil | (apply o_val rfl rfl; (focus ((try simp (disch := omega) only [simB0, ZA, reduceEqDiff, ↓reduceIte, reduceAdd, reduceLeDiff, ZV, reduceCtorEq, tj, Int.toNat_natCast, r1, r2, hd, decide_true, not_true_eq_false, decide_false]); first | with_reducible rfl | (apply s_ite; (focus omega); with_reducible rfl)))) | (apply w_cond; (focus ((try simp only [simB0, ZA, reduceEqDiff, ↓reduceIte, reduceAdd, reduceLeDiff, tj, Int.toNat_natCast, r1, r2, hd, decide_true, not_true_eq_false, decide_false]); (try with_reducible rfl); done)); all_goals (intro _hg; (try simp only [ZB] at _hg); try first | exact absurd trivial _hg | (exfalso; omega))))
          refine ⟨(j + 1, L), by dsimp only; omega, ⟨a1, by dsimp only; omega, by dsimp only; omega, ?_, rfl, rfl, fun p hp => a5 p (by dsimp only at hp; omega)⟩, by simp (disch := omega) only [agr, ZG, reduceEqDiff, ↓reduceIte, hq]⟩
          dsimp only
          rw [hq]
          omega
        · have hq : heads l (k + (j + 1)) = heads l (k + j) + 1 := heads_diff (l := l) (k := k + j) (by rw [show k + j - 1 = k + (j - 1) by omega]; exact hd)
          have hlm := lput_map (f := AV.int .i64) (l := L) (k := heads l (k + j)) (x := l.getD (k + j) default) (by omega)
          repeat' (first | apply w_seq | apply w_ops0 | apply w_ops1 | apply w_block | apply w_skip | apply a_n | apply o_nil | (apply o_val rfl rfl; (focus ((try simp (disch := omega) only [simB0, ZA, reduceEqDiff, ↓reduceIte, reduceAdd, reduceLeDiff, ZV, reduceCtorEq, tj, Int.toNat_natCast, r1, r2]); first | with_reducible rfl | (apply s_ite; (focus omega); with_reducible rfl)))) | (apply e_st rfl; (iterate 4 (focus ((try simp only [simB0, ZA, reduceEqDiff, ↓reduceIte, reduceAdd, reduceLeDiff, tj, Int.toNat_natCast, r1, r2]); (try with_reducible rfl); done))); (focus (simp only [SO, Bool.and_self, one_encV, one_encVV, tj, Int.toNat_natCast, r1, r2])); (iterate 3 (focus ((try simp only [SL, reduceAdd, Nat.reduceMul, List.length_map]); first | done | omega)))) | (apply w_cond; (focus ((try simp only [simB0, ZA, reduceEqDiff, ↓reduceIte, reduceAdd, reduceLeDiff, tj, Int.toNat_natCast, r1, r2]); (try with_reducible rfl); done)); all_goals (intro _hg; (try simp only [ZB] at _hg); try first | exact absurd trivial _hg | (exfalso; omega))))
          refine ⟨(j + 1, L.set (heads l (k + j)) (l.getD (k + j) default)), by dsimp only; omega, ⟨by simp [a1], by dsimp only; omega, by dsimp only; omega, ?_, ?_, rfl, fun p hp => ?_⟩, by simp (disch := omega) only [agr, ZG, reduceEqDiff, ↓reduceIte, hq]⟩
          · dsimp only
            rw [hq]
            omega
          · dsimp only
            rw [hupd_two, hlm]
          · dsimp only at hp ⊢
            rw [List.getD_eq_getElem?_getD, List.getElem?_set_ne (by omega), ← List.getD_eq_getElem?_getD]
            exact a5 p (by omega)
      · have hn : k + j = l.length := by omega
        have hl1 := asls_rest (B := B) (n := l.length) (show heads l (k + j) < l.length by omega) (Nat.ne_of_gt hpos)
        have hl2 := asls_part (B := B) (n := l.length) (show heads l (k + j) ≤ l.length by omega) (Nat.ne_of_gt hpos)
        repeat' (first | apply w_seq | apply w_ops0 | apply w_exit | apply a_n | apply a_x | apply o_nil | (apply o_val rfl rfl; (focus ((try simp (disch := omega) only [simB0, ZA, reduceEqDiff, ↓reduceIte, reduceAdd, reduceLeDiff, ZV, reduceCtorEq, hl1, hl2]); first | with_reducible rfl | (apply s_ite; (focus omega); with_reducible rfl)))) | (apply w_cond; (focus ((try simp only [simB0, ZA, reduceEqDiff, ↓reduceIte, reduceAdd, reduceLeDiff, hl1, hl2]); (try with_reducible rfl); done)); all_goals (intro _hg; (try simp only [ZB] at _hg); try first | exact absurd trivial _hg | (exfalso; omega))))
        refine o_clr (H' := hupd (hupd H' B (L.map (AV.int .i64))) B (lput (L.map (AV.int .i64)) (heads l (k + j)) (zcells (.int .i64 0) (l.length - heads l (k + j))))) ?_ ?_
        · ((try simp only [simB0, ZA, reduceEqDiff, ↓reduceIte, reduceAdd, reduceLeDiff]); (try with_reducible rfl))
          simp only [aclear]
          rw [if_neg (by omega), hupd_self']
          dsimp only
          rw [if_pos ⟨by simp [a1], trivial, rfl, rfl, by omega⟩]
          rfl
        · repeat' (first | apply w_seq | apply w_ops0 | apply w_ret | apply a_n | apply a_r | apply o_nil | (apply o_val rfl rfl; (focus ((try simp (disch := omega) only [simB0, ZA, reduceEqDiff, ↓reduceIte, reduceAdd, reduceLeDiff, ZV, reduceCtorEq, hl2]); first | with_reducible rfl | (apply s_ite; (focus omega); with_reducible rfl)))) | (refine e_ends rfl ?_) | (apply r_1; (focus (simp only [rv, simB0, ZA, reduceEqDiff, ↓reduceIte, reduceAdd, reduceLeDiff, hl2]; with_reducible rfl))))
          exact ⟨by rw [hn], ⟨_, hupd_two _ _ _ _⟩, rfl⟩
    · repeat' (first | apply w_seq | apply w_ops0 | apply w_ops1 | apply w_block | apply w_skip | apply a_n | apply o_nil | (apply o_val rfl rfl; (focus ((try simp (disch := omega) only [simB0, ZA, reduceEqDiff, ↓reduceIte, reduceAdd, reduceLeDiff, ZV, reduceCtorEq, tk, hH, Int.toNat_natCast]); first | with_reducible rfl | (apply s_ite; (focus omega); with_reducible rfl)))) | (apply w_cond; (focus ((try simp only [simB0, ZA, reduceEqDiff, ↓reduceIte, reduceAdd, reduceLeDiff, tk, hH, Int.toNat_natCast]); (try with_reducible rfl); done)); all_goals (intro _hg; (try simp only [ZB] at _hg); try first | exact absurd trivial _hg | (exfalso; omega))))
      exact ⟨k + 1, by omega, ⟨rfl, rfl, by omega, by omega, by rw [heads_diff he, k3]⟩, by simp (disch := omega) only [agr, ZG, reduceEqDiff, ↓reduceIte]⟩
  · repeat' (first | apply w_seq | apply w_ops0 | apply w_exit | apply w_ret | apply a_n | apply a_x | apply o_nil | (apply o_val rfl rfl; (focus ((try simp (disch := omega) only [simB0, ZA, reduceEqDiff, ↓reduceIte, reduceAdd, reduceLeDiff, ZV, reduceCtorEq]); first | with_reducible rfl | (apply s_ite; (focus omega); with_reducible rfl)))) | (apply w_cond; (focus ((try simp only [simB0, ZA, reduceEqDiff, ↓reduceIte, reduceAdd, reduceLeDiff]); (try with_reducible rfl); done)); all_goals (intro _hg; (try simp only [ZB] at _hg); try first | exact absurd trivial _hg | (exfalso; omega))) | (refine e_ends rfl ?_) | (apply r_1; (focus (simp only [rv, simB0, ZA, reduceEqDiff, ↓reduceIte, reduceAdd, reduceLeDiff]; with_reducible rfl))))
    refine ⟨?_, ⟨_, hid⟩, rfl⟩
    rw [show l.length = k by omega, k3]
end Go.Proofs.Ytcbkggfipdldaaa

/- P33: contracts of functions and plain laws; for all inputs that the theorems name. -/
namespace Go.Proofs.Ytcbkggfipdldaaa
open Go Go.Abs
open Nat (reduceEqDiff reduceAdd reduceLeDiff)
attribute [local irreducible] awp2 aops2 ains aloop athen bbind obind gbind acond res1 Go.Abs.Fn PCall Go.Abs.Pure SnapArgs SnapL Yl

theorem weak2_c (v w : List Int) (hv : Sh v) (hw : Sh w) : Pure Try.prog 31 [encV w, .iptr [encV v] 0] (.bool (decide (v = w))) := by
  refine Pure.of_c2 follows is31 (Nat.le_of_ble_eq_true rfl) ?_
  simp only [b31, O, G, N, M, D, F, B2, cFal, cTru]
  repeat' (first | apply w_seq | apply w_ops0 | apply w_ret | apply a_n | apply o_nil | (apply o_val rfl rfl; (focus ((try simp (disch := omega) only [simB0, ZA, reduceEqDiff, ↓reduceIte, reduceAdd, reduceLeDiff, ZV, reduceCtorEq]); first | with_reducible rfl | (apply s_ite; (focus omega); with_reducible rfl)))) | (apply o_callD; (iterate 2 (focus ((try simp only [simB0, ZA, reduceEqDiff, ↓reduceIte, reduceAdd, reduceLeDiff]); (try with_reducible rfl); done))); (focus (first | (exact equalV_c _ _ hv hw))); (focus ((first | refine snap_plain ?_ rfl | apply snap_data); repeat' (first | exact snapL_nil | apply snapL_i | apply snapL_dat)))) | (refine e_ends rfl ?_) | (apply r_1; (focus (simp only [rv, simB0, ZA, reduceEqDiff, ↓reduceIte, reduceAdd, reduceLeDiff]; with_reducible rfl))))
  exact .bool _

theorem weak1_c (v : List Int) (d : CaseV) (hv : Sh v) (hd : ShC d) : Pure Try.prog 30 [encV v, .iptr [encV d.inp, encVV d.out, encVV d.calm] 0] (.bool (!(d.out.any fun w => decide (v = w)))) := by
  refine Pure.of_c2 follows is30 (Nat.le_of_ble_eq_true rfl) ?_
  simp only [b30, O, G, N, M, D, F, B2, cFal, cTru]
  repeat' (first | apply w_seq | apply w_ops0 | apply a_n | apply o_nil | (apply o_val rfl rfl; (focus ((try simp (disch := omega) only [simB0, ZA, reduceEqDiff, ↓reduceIte, reduceAdd, reduceLeDiff, ZV, reduceCtorEq]); first | with_reducible rfl | (apply s_ite; (focus omega); with_reducible rfl)))) | (apply e_box rfl; (iterate 2 (focus ((try simp only [simB0, ZA, reduceEqDiff, ↓reduceIte, reduceAdd, reduceLeDiff]); (try with_reducible rfl); done))); (focus (simp only [SO, Bool.and_self, one_encV, one_encVV]))))
  refine o_callP (by ((try simp only [simB0, ZA, reduceEqDiff, ↓reduceIte, reduceAdd, reduceLeDiff]); (try with_reducible rfl))) (by ((try simp only [simB0, ZA, reduceEqDiff, ↓reduceIte, reduceAdd, reduceLeDiff]); (try with_reducible rfl))) (containsFV_c d.out (fun w => decide (v = w)) 31 [.iptr [encV v] 0] (DatL.cons (Dat.iptr (DatL.cons (encV_dat _) DatL.nil)) DatL.nil) (fun x hx => weak2_c v x hv (hd.2.2.1 x hx)) hd.2.1) (snap_plain (by (repeat' (first | exact snapL_nil | exact Dat.snap Dat.int | exact Dat.snap Dat.bool | exact Dat.snap Dat.str | exact Dat.snap Dat.esl | exact Dat.snap Dat.nilf | exact Dat.snap (encV_dat _) | exact Dat.snap (encVV_dat _) | apply snapL_cons | apply snap_func | apply snap_iptr | (apply snap_ptr; (focus ((try simp only [simB0, ZA, reduceEqDiff, ↓reduceIte, reduceAdd, reduceLeDiff]); with_reducible rfl)); (focus rfl))))) rfl) ?_
  repeat' (first | apply w_ret | apply a_n | apply o_nil | (apply o_val rfl rfl; (focus ((try simp (disch := omega) only [simB0, ZA, reduceEqDiff, ↓reduceIte, reduceAdd, reduceLeDiff, ZV, reduceCtorEq]); first | with_reducible rfl | (apply s_ite; (focus omega); with_reducible rfl)))) | (refine e_ends rfl ?_) | (apply r_1; (focus (simp only [rv, simB0, ZA, reduceEqDiff, ↓reduceIte, reduceAdd, reduceLeDiff]; with_reducible rfl))))
  exact .bool _

theorem cloneR_c (l : List Int) (hl : Sh l) (h0 : l ≠ []) (H : Hp) (B nx : Nat) (hH : H B = some (l.map (AV.int .i64))) (hB : B < nx) : Abs.Fn Try.prog 32 [.msl B l.length 1 0 l.length] H nx fun r H' nx' => r = .msl nx l.length 1 0 l.length ∧ H' = hupd H nx (l.map (AV.int .i64)) ∧ nx' = nx + 1 := by
  refine Abs.Fn.of_c2 follows is32 (Nat.le_of_ble_eq_true rfl) ?_
  simp only [b32, O, G, N, M, D, F, B2, cFal, cTru]
  have hpos := List.length_pos_iff.2 h0
  repeat' (first | apply w_seq | apply w_ops0 | apply a_n | apply o_nil | (apply o_val rfl rfl; (focus ((try simp (disch := omega) only [simB0, ZA, reduceEqDiff, ↓reduceIte, reduceAdd, reduceLeDiff, ZV, reduceCtorEq]); first | with_reducible rfl | (apply s_ite; (focus omega); with_reducible rfl)))))
  refine o_snil (k := l.length) (by ((try simp only [simB0, ZA, reduceEqDiff, ↓reduceIte, reduceAdd, reduceLeDiff]); (try with_reducible rfl)); rfl) (fun h => ?_) (fun h => by omega) (fun h => by omega)
  have src : asrc 1 H (.msl B l.length 1 0 l.length) = some (l.length, l.map (AV.int .i64)) := by
    rw [asrc_msl hH (by simp) (by omega), List.drop_zero, Nat.mul_one, List.take_of_length_le (by simp)]
  repeat' (first | apply w_seq | apply w_ops0 | apply w_skip | apply a_n | apply o_nil | (apply o_val rfl rfl; (focus ((try simp (disch := omega) only [simB0, ZA, reduceEqDiff, ↓reduceIte, reduceAdd, reduceLeDiff, ZV, reduceCtorEq, hH]); first | with_reducible rfl | (apply s_ite; (focus omega); with_reducible rfl)))) | refine e_bld0 rfl ?_ | (apply w_condF; (focus (simp only [simB0, ZA, reduceEqDiff, ↓reduceIte, reduceAdd, reduceLeDiff, hH]; done))))
  refine e_app0 rfl (by ((try simp only [simB0, ZA, reduceEqDiff, ↓reduceIte, reduceAdd, reduceLeDiff]); (try with_reducible rfl))) (by ((try simp only [simB0, ZA, reduceEqDiff, ↓reduceIte, reduceAdd, reduceLeDiff]); (try with_reducible rfl))) src ones_int (by omega) (by omega) ?_
  repeat' (first | apply w_ret | apply a_n | apply o_nil | (apply o_val rfl rfl; (focus ((try simp (disch := omega) only [simB0, ZA, reduceEqDiff, ↓reduceIte, reduceAdd, reduceLeDiff, ZV, reduceCtorEq]); first | with_reducible rfl | (apply s_ite; (focus omega); with_reducible rfl)))) | (refine e_ends rfl ?_) | (apply r_1; (focus (simp only [rv, simB0, ZA, reduceEqDiff, ↓reduceIte, reduceAdd, reduceLeDiff]; with_reducible rfl))))
  exact ⟨rfl, rfl, rfl⟩

theorem law7_out (n v k w : Int) (A W X : TaskV) (f1 f2 f3 : Int) (hw : IntKind.i64.wrap (k + 1) = w) (hf : f2 ≠ 0 ∨ f3 ≠ 0)
    (c1 : Pure Try.prog 18 [.int .i64 n, .int .i64 v, .int .i64 1] (.tup [encT A, .int .i64 f1])) (c2 : Pure Try.prog 16 [.int .i64 n, .int .i64 v] (.tup [encT A, .int .i64 f1]))
    (c3 : Pure Try.prog 18 [.int .i64 n, .int .i64 v, .int .i64 k] (.tup [encT W, .int .i64 f2])) (c4 : Pure Try.prog 18 [.int .i64 n, .int .i64 v, .int .i64 w] (.tup [encT X, .int .i64 f3]))
    (lA : Sh A.cases) (sA : ∀ c ∈ A.cases, ShC c) : Pure Try.prog 7 [.int .i64 n, .int .i64 v, .int .i64 k] (.bool true) := by
  refine Pure.of_c2 follows is7 (Nat.le_of_ble_eq_true rfl) ?_
  simp only [b7, O, G, N, M, D, F, B2, cFal, cTru]
  have g1 := few_r n v v
  generalize fewB n v v = g at *
  refine w_seq ?_
  repeat' (first | apply w_ops0 | apply a_n | apply o_nil | (apply o_val rfl rfl; (focus ((try simp (disch := omega) only [simB0, ZA, reduceEqDiff, ↓reduceIte, reduceAdd, reduceLeDiff, ZV, reduceCtorEq]); first | with_reducible rfl | (apply s_ite; (focus omega); with_reducible rfl)))))
  refine w_seqC (fun T H nx => H = noBoxes ∧ nx = 0 ∧ T 0 = .int .i64 n ∧ T 1 = .int .i64 v ∧ T 2 = .int .i64 k) ?_ ?_
  · repeat' (first | apply w_seq | apply w_ops0 | apply w_skip | apply w_ret | apply a_n | apply a_r | apply o_nil | (apply o_val rfl rfl; (focus ((try simp (disch := omega) only [simB0, ZA, reduceEqDiff, ↓reduceIte, reduceAdd, reduceLeDiff, ZV, reduceCtorEq]); first | with_reducible rfl | (apply s_ite; (focus omega); with_reducible rfl)))) | (apply o_callD; (iterate 2 (focus ((try simp only [simB0, ZA, reduceEqDiff, ↓reduceIte, reduceAdd, reduceLeDiff]); (try with_reducible rfl); done))); (focus (first | (exact g1) | (exact awake_c))); (focus ((first | refine snap_plain ?_ rfl | apply snap_data); repeat' (first | exact snapL_nil | apply snapL_i | apply snapL_dat)))) | (apply w_cond; (focus ((try simp only [simB0, ZA, reduceEqDiff, ↓reduceIte, reduceAdd, reduceLeDiff]); (try with_reducible rfl); done)); all_goals (intro _hg; (try simp only [ZB] at _hg); try first | exact absurd trivial _hg | (exfalso; omega))) | (refine e_ends rfl ?_) | (apply r_1; (focus (simp only [rv, simB0, ZA, reduceEqDiff, ↓reduceIte, reduceAdd, reduceLeDiff]; with_reducible rfl))))
    all_goals first | exact .bool _ | exact ⟨rfl, rfl, rfl, rfl, rfl⟩
  rintro T H nx ⟨rfl, rfl, t0, t1, t2⟩
  have q1 := same_r _ lA sA
  have d1 := encT_dat A
  have d2 := encT_dat W
  have d3 := encT_dat X
  unfold encT at q1 d1 d2 d3 c1 c2 c3 c4
  repeat' (first | apply w_seq | apply w_ops0 | apply w_skip | apply w_ret | apply a_n | apply a_r | apply o_nil | (apply o_val rfl rfl; (focus ((try simp (disch := omega) only [simB0, ZA, reduceEqDiff, ↓reduceIte, reduceAdd, reduceLeDiff, ZV, reduceCtorEq, t0, t1, t2, hw, encCs_one, encCs_cells]); first | with_reducible rfl | (apply s_ite; (focus omega); with_reducible rfl)))) | (apply o_callD; (iterate 2 (focus ((try simp only [simB0, ZA, reduceEqDiff, ↓reduceIte, reduceAdd, reduceLeDiff, t0, t1, t2, hw, encCs_one, encCs_cells]); (try with_reducible rfl); done))); (focus (first | (exact c1) | (exact c2) | (exact c3) | (exact c4) | (exact q1) | (exact awake_c))); (focus ((first | refine snap_plain ?_ rfl | apply snap_data); repeat' (first | exact snapL_nil | apply snapL_i | apply snapL_dat | exact d1 | exact d2 | exact d3)))) | (apply e_alloc rfl; (focus ((try simp only [simB0, ZA, reduceEqDiff, ↓reduceIte, reduceAdd, reduceLeDiff, t0, t1, t2, hw, encCs_one, encCs_cells]); (try with_reducible rfl); done)); (focus (simp only [SO, Bool.and_self, one_encV, one_encVV, t0, t1, t2, hw, encCs_one, encCs_cells]))) | (apply e_st rfl; (iterate 4 (focus ((try simp only [simB0, ZA, reduceEqDiff, ↓reduceIte, reduceAdd, reduceLeDiff, t0, t1, t2, hw, encCs_one, encCs_cells]); (try with_reducible rfl); done))); (focus (simp only [SO, Bool.and_self, one_encV, one_encVV, t0, t1, t2, hw, encCs_one, encCs_cells])); (iterate 3 (focus ((try simp only [SL, reduceAdd, Nat.reduceMul, List.length_map]); first | done | omega)))) | (apply o_gT; (focus (simp only [simB0, ZA, reduceEqDiff, ↓reduceIte, reduceAdd, reduceLeDiff, t0, t1, t2, hw, encCs_one, encCs_cells]; done))) | (apply o_gF; (focus (simp only [simB0, ZA, reduceEqDiff, ↓reduceIte, reduceAdd, reduceLeDiff, or_true, true_or, t0, t1, t2, hw, encCs_one, encCs_cells]; done))) | (apply w_condT; (focus (simp only [simB0, ZA, reduceEqDiff, ↓reduceIte, reduceAdd, reduceLeDiff, t0, t1, t2, hw, encCs_one, encCs_cells]; done))) | (apply w_condF; (focus (simp only [simB0, ZA, reduceEqDiff, ↓reduceIte, reduceAdd, reduceLeDiff, t0, t1, t2, hw, encCs_one, encCs_cells]; done))) | ((first | apply o_gB | apply w_cond); (focus ((try simp only [simB0, ZA, reduceEqDiff, ↓reduceIte, reduceAdd, reduceLeDiff, t0, t1, t2, hw, encCs_one, encCs_cells]); (try with_reducible rfl); done)); all_goals (intro _hg; (try simp only [ZB] at _hg); try first | exact absurd trivial _hg | (exfalso; omega))) | (refine e_ends rfl ?_) | (apply r_1; (focus (simp only [rv, simB0, ZA, reduceEqDiff, ↓reduceIte, reduceAdd, reduceLeDiff, t0, t1, t2, hw, encCs_one, encCs_cells]; with_reducible rfl))))
  all_goals first | exact .bool _ | (exfalso; simp_all; done)

def pw (h : Nat) : Nat → Nat
  | 0 => 1
  | q + 1 => pw h q * h
theorem pw_le {h : Nat} (hh : h ≤ 5) (q : Nat) (hq : q ≤ 5) : pw h q ≤ 3125 := by
  have : ∀ h, h ≤ 5 → ∀ q, q ≤ 5 → pw h q ≤ 3125 := by decide
  exact this h hh q hq

theorem law7_in (n v k : Nat) (A W X : TaskV) (f1 : Int) (hn : 1 ≤ n ∧ n ≤ 5) (hk : k ≤ 5)
    (c1 : Pure Try.prog 18 [.int .i64 n, .int .i64 v, .int .i64 1] (.tup [encT A, .int .i64 f1])) (c2 : Pure Try.prog 16 [.int .i64 n, .int .i64 v] (.tup [encT A, .int .i64 f1]))
    (c3 : Pure Try.prog 18 [.int .i64 n, .int .i64 v, .int .i64 k] (.tup [encT W, .int .i64 0])) (c4 : Pure Try.prog 18 [.int .i64 n, .int .i64 v, .int .i64 (k + 1)] (.tup [encT X, .int .i64 0]))
    (lA : Sh A.cases) (sA : ∀ c ∈ A.cases, ShC c) (lW : Sh W.cases) (sW : ∀ c ∈ W.cases, ShC c) (lX : Sh X.cases) (sX : ∀ c ∈ X.cases, ShC c) (hlen : X.cases.length = W.cases.length)
    (hf : ∀ i, i < W.cases.length → (X.cases.getD i default).inp = (W.cases.getD i default).inp ∧ ((W.cases.getD i default).out.any fun w => !((X.cases.getD i default).out.any fun z => decide (w = z))) = false ∧ (X.cases.getD i default).inp.length = n ∧ (k + 1 = n → (X.cases.getD i default).out.length = pw (heads (sorted (X.cases.getD i default).inp) n) n)) :
    Pure Try.prog 7 [.int .i64 n, .int .i64 v, .int .i64 k] (.bool true) := by
  refine Pure.of_c2 follows is7 (Nat.le_of_ble_eq_true rfl) ?_
  simp only [b7, O, G, N, M, D, F, B2, cFal, cTru]
  have g1 := few_r n v v
  generalize fewB n v v = g at *
  refine w_seq ?_
  repeat' (first | apply w_ops0 | apply a_n | apply o_nil | (apply o_val rfl rfl; (focus ((try simp (disch := omega) only [simB0, ZA, reduceEqDiff, ↓reduceIte, reduceAdd, reduceLeDiff, ZV, reduceCtorEq]); first | with_reducible rfl | (apply s_ite; (focus omega); with_reducible rfl)))))
  refine w_seqC (fun T H nx => H = noBoxes ∧ nx = 0 ∧ T 0 = .int .i64 n ∧ T 1 = .int .i64 v ∧ T 2 = .int .i64 k) ?_ ?_
  · repeat' (first | apply w_seq | apply w_ops0 | apply w_skip | apply w_ret | apply a_n | apply a_r | apply o_nil | (apply o_val rfl rfl; (focus ((try simp (disch := omega) only [simB0, ZA, reduceEqDiff, ↓reduceIte, reduceAdd, reduceLeDiff, ZV, reduceCtorEq]); first | with_reducible rfl | (apply s_ite; (focus omega); with_reducible rfl)))) | (apply o_callD; (iterate 2 (focus ((try simp only [simB0, ZA, reduceEqDiff, ↓reduceIte, reduceAdd, reduceLeDiff]); (try with_reducible rfl); done))); (focus (first | (exact g1) | (exact awake_c))); (focus ((first | refine snap_plain ?_ rfl | apply snap_data); repeat' (first | exact snapL_nil | apply snapL_i | apply snapL_dat)))) | (apply w_cond; (focus ((try simp only [simB0, ZA, reduceEqDiff, ↓reduceIte, reduceAdd, reduceLeDiff]); (try with_reducible rfl); done)); all_goals (intro _hg; (try simp only [ZB] at _hg); try first | exact absurd trivial _hg | (exfalso; omega))) | (refine e_ends rfl ?_) | (apply r_1; (focus (simp only [rv, simB0, ZA, reduceEqDiff, ↓reduceIte, reduceAdd, reduceLeDiff]; with_reducible rfl))))
    all_goals first | exact .bool _ | exact ⟨rfl, rfl, rfl, rfl, rfl⟩
  rintro T H nx ⟨rfl, rfl, t0, t1, t2⟩
  have q1 := same_r _ lA sA
  have d1 := encT_dat A
  have d2 := encT_dat W
  have d3 := encT_dat X
  unfold encT at q1 d1 d2 d3 c1 c2 c3 c4
  repeat' (first | apply w_seq | apply w_ops0 | apply w_block | apply w_skip | apply a_n | apply o_nil | (apply o_val rfl rfl; (focus ((try simp (disch := omega) only [simB0, ZA, reduceEqDiff, ↓reduceIte, reduceAdd, reduceLeDiff, ZV, reduceCtorEq, t0, t1, t2, encCs_one, encCs_cells, alenS_encCs, hlen]); first | with_reducible rfl | (apply s_ite; (focus omega); with_reducible rfl)))) | (apply o_callD; (iterate 2 (focus ((try simp only [simB0, ZA, reduceEqDiff, ↓reduceIte, reduceAdd, reduceLeDiff, t0, t1, t2, encCs_one, encCs_cells, alenS_encCs, hlen]); (try with_reducible rfl); done))); (focus (first | (exact c1) | (exact c2) | (exact c3) | (exact c4) | (exact q1))); (focus ((first | refine snap_plain ?_ rfl | apply snap_data); repeat' (first | exact snapL_nil | apply snapL_i | apply snapL_dat | exact d1 | exact d2 | exact d3)))) | (apply e_alloc rfl; (focus ((try simp only [simB0, ZA, reduceEqDiff, ↓reduceIte, reduceAdd, reduceLeDiff, t0, t1, t2, encCs_one, encCs_cells, alenS_encCs, hlen]); (try with_reducible rfl); done)); (focus (simp only [SO, Bool.and_self, one_encV, one_encVV, t0, t1, t2, encCs_one, encCs_cells, alenS_encCs, hlen]))) | (apply e_st rfl; (iterate 4 (focus ((try simp only [simB0, ZA, reduceEqDiff, ↓reduceIte, reduceAdd, reduceLeDiff, t0, t1, t2, encCs_one, encCs_cells, alenS_encCs, hlen]); (try with_reducible rfl); done))); (focus (simp only [SO, Bool.and_self, one_encV, one_encVV, t0, t1, t2, encCs_one, encCs_cells, alenS_encCs, hlen])); (iterate 3 (focus ((try simp only [SL, reduceAdd, Nat.reduceMul, List.length_map]); first | done | omega)))) | (apply o_gT; (focus (simp only [simB0, ZA, reduceEqDiff, ↓reduceIte, reduceAdd, reduceLeDiff, t0, t1, t2, encCs_one, encCs_cells, alenS_encCs, hlen]; done))) | (apply w_condF; (focus (simp only [simB0, ZA, reduceEqDiff, ↓reduceIte, reduceAdd, reduceLeDiff, t0, t1, t2, encCs_one, encCs_cells, alenS_encCs, hlen]; done))) | ((first | apply o_gB | apply w_cond); (focus ((try simp only [simB0, ZA, reduceEqDiff, ↓reduceIte, reduceAdd, reduceLeDiff, t0, t1, t2, encCs_one, encCs_cells, alenS_encCs, hlen]); (try with_reducible rfl); done)); all_goals (intro _hg; (try simp only [ZB] at _hg); try first | exact absurd trivial _hg | (exfalso; omega))) | apply w_loop)
  refine loopI (X := Nat) (fun i => [(0, .int .i64 n), (2, .int .i64 k), (11, .ptr 2 4 0), (13, .ptr 3 4 0), (77, encCs W.cases), (78, .int .i64 W.cases.length), (79, .int .i64 i)])
    (fun i H nx => i ≤ W.cases.length ∧ 4 ≤ nx ∧ H 2 = some [.int .i64 W.n, .int .i64 W.ins, .int .i64 W.outs, encCs W.cases] ∧ H 3 = some [.int .i64 X.n, .int .i64 X.ins, .int .i64 X.outs, encCs X.cases]) (fun i => W.cases.length - i) 0 ⟨Nat.zero_le _, Nat.le_refl _, rfl, rfl⟩ (by simp (disch := omega) only [agr, ZG, reduceEqDiff, ↓reduceIte, t0, t1, t2, alenS_encCs, List.length_cons, List.length_nil, reduceAdd, Nat.zero_add]) ?_
  rintro i H nx ⟨h1, h2, g2, g3⟩
  by_cases hi : i < W.cases.length
  · have ix := aixS_encCs hi
    have hiX : i < X.cases.length := by omega
    have ixX := aixS_encCs hiX
    have hsW := sW _ (mem_getD hi)
    have hsX := sX _ (mem_getD hiX)
    obtain ⟨e1, e2, e3, e4⟩ := hf i hi
    generalize hc : W.cases.getD i default = c at *
    generalize hd : X.cases.getD i default = d at *
    have eq1 := equalV_c c.inp d.inp hsW.1 hsX.1
    rw [decide_eq_true e1.symm] at eq1
    have h0 : d.inp ≠ [] := by intro h; rw [h] at e3; simp at e3; omega
    repeat' (first | apply w_seq | apply w_ops0 | apply w_block | apply w_skip | apply a_n | apply o_nil | (apply o_val rfl; (focus (first | rfl | (simp (disch := omega) only [dm2, oldP, newP, simB0, ZA, reduceEqDiff, ↓reduceIte, reduceAdd, reduceLeDiff, decide_eq_true_eq]; first | done | omega))); (focus ((try simp (disch := omega) only [simB2, ZA, reduceEqDiff, ↓reduceIte, reduceAdd, reduceLeDiff, ZV, reduceCtorEq, t0, t1, t2, g2, g3, encCs_one, encCs_cells, alenS_encCs, ix, ixX, hc, hd, Bool.false_eq_true]); first | with_reducible rfl | (apply s_ite; (focus omega); with_reducible rfl)))) | (apply o_callD; (iterate 2 (focus ((try simp (disch := omega) only [simB2, ZA, reduceEqDiff, ↓reduceIte, reduceAdd, reduceLeDiff, t0, t1, t2, g2, g3, encCs_one, encCs_cells, alenS_encCs, ix, ixX, hc, hd, Bool.false_eq_true]); (try with_reducible rfl); done))); (focus (first | (exact eq1))); (focus ((first | refine snap_plain ?_ rfl | apply snap_data); repeat' (first | exact snapL_nil | apply snapL_i | apply snapL_dat | exact d1)))) | (apply e_alloc rfl; (focus ((try simp (disch := omega) only [simB2, ZA, reduceEqDiff, ↓reduceIte, reduceAdd, reduceLeDiff, t0, t1, t2, g2, g3, encCs_one, encCs_cells, alenS_encCs, ix, ixX, hc, hd, Bool.false_eq_true]); (try with_reducible rfl); done)); (focus (simp (disch := omega) only [SO, Bool.and_self, one_encV, one_encVV, t0, t1, t2, g2, g3, encCs_one, encCs_cells, alenS_encCs, ix, ixX, hc, hd, Bool.false_eq_true]))) | (apply e_st; (focus (first | rfl | (simp (disch := omega) only [dm2, oldP, newP, simB0, ZA, reduceEqDiff, ↓reduceIte, reduceAdd, reduceLeDiff, decide_eq_true_eq]; first | done | omega))); (iterate 4 (focus ((try simp (disch := omega) only [simB2, ZA, reduceEqDiff, ↓reduceIte, reduceAdd, reduceLeDiff, t0, t1, t2, g2, g3, encCs_one, encCs_cells, alenS_encCs, ix, ixX, hc, hd, Bool.false_eq_true]); (try with_reducible rfl); done))); (focus (simp (disch := omega) only [SO, Bool.and_self, one_encV, one_encVV, t0, t1, t2, g2, g3, encCs_one, encCs_cells, alenS_encCs, ix, ixX, hc, hd, Bool.false_eq_true])); (iterate 3 (focus ((try simp (disch := omega) only [SL, reduceAdd, Nat.reduceMul, List.length_map]); first | done | omega)))) | (apply o_gT; (focus (simp (disch := omega) only [simB2, ZA, reduceEqDiff, ↓reduceIte, reduceAdd, reduceLeDiff, t0, t1, t2, g2, g3, encCs_one, encCs_cells, alenS_encCs, ix, ixX, hc, hd, Bool.false_eq_true]; done))) | (apply w_cond; (focus ((try simp (disch := omega) only [simB2, ZA, reduceEqDiff, ↓reduceIte, reduceAdd, reduceLeDiff, t0, t1, t2, g2, g3, encCs_one, encCs_cells, alenS_encCs, ix, ixX, hc, hd, Bool.false_eq_true]); (try with_reducible rfl); done)); all_goals (intro _hg; (try simp (disch := omega) only [ZB] at _hg); try first | exact absurd trivial _hg | (exfalso; omega))))
    refine o_callP (by ((try simp only [simB0, ZA, reduceEqDiff, ↓reduceIte, reduceAdd, reduceLeDiff]); (try with_reducible rfl))) (by ((try simp only [simB0, ZA, reduceEqDiff, ↓reduceIte, reduceAdd, reduceLeDiff]); (try with_reducible rfl))) (containsFV_c c.out (fun w => !(d.out.any fun z => decide (w = z))) 30 [.iptr [encV d.inp, encVV d.out, encVV d.calm] 0] (DatL.cons (Dat.iptr (DatL.cons (encV_dat _) (DatL.cons (encVV_dat _) (DatL.cons (encVV_dat _) DatL.nil)))) DatL.nil) (fun x hx => weak1_c x d (hsW.2.2.1 x hx) hsX) hsW.2.1) (snap_plain (snapL_cons (encVV_dat _ _) (snapL_cons (snap_func (snapL_cons (snap_ptr hupd_self' rfl (snapL_cons (encV_dat _ _) (snapL_cons (encVV_dat _ _) (snapL_cons (encVV_dat _ _) snapL_nil)))) snapL_nil)) snapL_nil)) rfl) ?_
    rw [e2]
    repeat' (first | apply w_seq | apply w_ops0 | apply w_skip | apply a_n | apply o_nil | (apply o_val rfl; (focus (first | rfl | (simp (disch := omega) only [dm2, oldP, newP, simB0, ZA, reduceEqDiff, ↓reduceIte, reduceAdd, reduceLeDiff, decide_eq_true_eq]; first | done | omega))); (focus ((try simp (disch := omega) only [simB2, ZA, reduceEqDiff, ↓reduceIte, reduceAdd, reduceLeDiff, ZV, reduceCtorEq, t0, t1, t2, g2, g3, encCs_one, encCs_cells, alenS_encCs, ix, ixX, hc, hd, Bool.false_eq_true]); first | with_reducible rfl | (apply s_ite; (focus omega); with_reducible rfl)))) | (apply w_condF; (focus (simp (disch := omega) only [simB2, ZA, reduceEqDiff, ↓reduceIte, reduceAdd, reduceLeDiff, t0, t1, t2, g2, g3, encCs_one, encCs_cells, alenS_encCs, ix, ixX, hc, hd, Bool.false_eq_true]; done))))
    refine o_callE (by ((try simp only [simB0, ZA, reduceEqDiff, ↓reduceIte, reduceAdd, reduceLeDiff]); (try with_reducible rfl))) (by ((try simp only [simB0, ZA, reduceEqDiff, ↓reduceIte, reduceAdd, reduceLeDiff]); (try with_reducible rfl))) (cloneM_c d.inp hsX.1 h0 _ _) ?_
    rintro _ H1 nx1 ⟨rfl, hH1, rfl⟩
    repeat' (first | apply w_seq | apply w_ops0 | apply a_n | apply o_nil | (apply o_val rfl; (focus (first | rfl | (simp (disch := omega) only [dm2, oldP, newP, simB0, ZA, reduceEqDiff, ↓reduceIte, reduceAdd, reduceLeDiff, decide_eq_true_eq]; first | done | omega))); (focus ((try simp (disch := omega) only [simB2, ZA, reduceEqDiff, ↓reduceIte, reduceAdd, reduceLeDiff, ZV, reduceCtorEq, t0, t1, t2]); first | with_reducible rfl | (apply s_ite; (focus omega); with_reducible rfl)))))
    refine o_callE (by ((try simp only [simB0, ZA, reduceEqDiff, ↓reduceIte, reduceAdd, reduceLeDiff]); (try with_reducible rfl))) (by ((try simp only [simB0, ZA, reduceEqDiff, ↓reduceIte, reduceAdd, reduceLeDiff]); (try with_reducible rfl))) (sort_c d.inp (by omega) h0 H1 _ _ (by rw [hH1]; exact hupd_self') (by omega)) ?_
    rintro _ H2 nx2 ⟨hH2, rfl⟩
    have j2 : H2 2 = some [.int .i64 W.n, .int .i64 W.ins, .int .i64 W.outs, encCs W.cases] := by rw [hH2, hH1]; simp (disch := omega) only [hupd_ne, g2]
    have j3 : H2 3 = some [.int .i64 X.n, .int .i64 X.ins, .int .i64 X.outs, encCs X.cases] := by rw [hH2, hH1]; simp (disch := omega) only [hupd_ne, g3]
    have j4 : H2 (nx + 1) = some [encV d.inp, encVV d.out, encVV d.calm] := by rw [hH2, hH1]; simp (disch := omega) only [hupd_ne, hupd_self']; rfl
    have j5 : H2 (nx + 2) = some ((sorted d.inp).map (AV.int .i64)) := by rw [hH2]; exact hupd_self'
    clear hH1 hH2 H1
    have hso : (sorted d.inp).length = n := by unfold sorted; rw [downs_len, e3]
    have hs0 : sorted d.inp ≠ [] := by intro h; rw [h] at hso; simp at hso; omega
    have hsh : Sh (sorted d.inp) := by show _ ≤ _; omega
    have hh5 : heads (sorted d.inp) n ≤ 5 := Nat.le_trans (heads_le _ _) hn.2
    generalize hS : sorted d.inp = S at *
    repeat' (first | apply w_seq | apply w_ops0 | apply w_block | apply a_n | apply o_nil | (apply o_val rfl; (focus (first | rfl | (simp (disch := omega) only [dm2, oldP, newP, simB0, ZA, reduceEqDiff, ↓reduceIte, reduceAdd, reduceLeDiff, decide_eq_true_eq]; first | done | omega))); (focus ((try simp (disch := omega) only [simB2, ZA, reduceEqDiff, ↓reduceIte, reduceAdd, reduceLeDiff, ZV, reduceCtorEq, t0, t1, t2]); first | with_reducible rfl | (apply s_ite; (focus omega); with_reducible rfl)))) | apply w_loop)
    refine loopI (X := Nat) (fun q => [(0, .int .i64 n), (2, .int .i64 k), (11, .ptr 2 4 0), (13, .ptr 3 4 0), (77, encCs W.cases), (78, .int .i64 W.cases.length), (79, .int .i64 i), (17, .ptr (nx + 1) 3 0), (18, .msl (nx + 2) S.length 1 0 S.length), (19, .int .i64 (pw (heads S n) q)), (106, .int .i64 n), (107, .int .i64 q)])
      (fun q H nx' => q ≤ n ∧ nx + 3 ≤ nx' ∧ H 2 = some [.int .i64 W.n, .int .i64 W.ins, .int .i64 W.outs, encCs W.cases] ∧ H 3 = some [.int .i64 X.n, .int .i64 X.ins, .int .i64 X.outs, encCs X.cases] ∧ H (nx + 1) = some [encV d.inp, encVV d.out, encVV d.calm] ∧ H (nx + 2) = some (S.map (AV.int .i64))) (fun q => n - q) 0 ⟨Nat.zero_le _, by omega, j2, j3, j4, j5⟩ (by simp (disch := omega) only [agr, ZG, reduceEqDiff, ↓reduceIte, hso, e3, pw, Int.natCast_one, List.length_cons, List.length_nil, reduceAdd, Nat.zero_add]) ?_
    clear j2 j3 j4 j5 H2
    rintro q H2 nx2 ⟨b1, b2, j2, j3, j4, j5⟩
    by_cases hq : q < n
    · repeat' (first | apply w_seq | apply w_ops0 | apply w_block | apply w_skip | apply a_n | apply o_nil | (apply o_val rfl; (focus (first | rfl | (simp (disch := omega) only [dm2, oldP, newP, simB0, ZA, reduceEqDiff, ↓reduceIte, reduceAdd, reduceLeDiff, decide_eq_true_eq]; first | done | omega))); (focus ((try simp (disch := omega) only [simB2, ZA, reduceEqDiff, ↓reduceIte, reduceAdd, reduceLeDiff, ZV, reduceCtorEq, t0, t1, t2]); first | with_reducible rfl | (apply s_ite; (focus omega); with_reducible rfl)))) | (apply w_cond; (focus ((try simp (disch := omega) only [simB2, ZA, reduceEqDiff, ↓reduceIte, reduceAdd, reduceLeDiff, t0, t1, t2]); (try with_reducible rfl); done)); all_goals (intro _hg; (try simp (disch := omega) only [ZB] at _hg); try first | exact absurd trivial _hg | (exfalso; omega))))
      refine o_callE (by ((try simp only [simB0, ZA, reduceEqDiff, ↓reduceIte, reduceAdd, reduceLeDiff]); (try with_reducible rfl))) (by ((try simp only [simB0, ZA, reduceEqDiff, ↓reduceIte, reduceAdd, reduceLeDiff]); (try with_reducible rfl))) (cloneR_c S hsh hs0 H2 (nx + 2) nx2 j5 (by omega)) ?_
      rintro _ H3 nx3 ⟨rfl, hH3, rfl⟩
      refine o_callE (by ((try simp only [simB0, ZA, reduceEqDiff, ↓reduceIte, reduceAdd, reduceLeDiff]); (try with_reducible rfl))) (by ((try simp only [simB0, ZA, reduceEqDiff, ↓reduceIte, reduceAdd, reduceLeDiff]); (try with_reducible rfl))) (compact_c S hsh hs0 H3 nx2 (nx2 + 1) (by rw [hH3]; exact hupd_self') (by omega)) ?_
      rintro _ H4 nx4 ⟨rfl, ⟨L, hH4⟩, rfl⟩
      have m1 : ((pw (heads S n) q : Nat) : Int) * (heads S S.length : Nat) = (pw (heads S n) (q + 1) : Nat) := by rw [hso, pw, Int.natCast_mul]
      have m2 := pw_le hh5 (q + 1) (by omega)
      repeat' (first | apply w_ops0 | apply a_n | apply o_nil | (apply o_val rfl; (focus (first | rfl | (simp (disch := omega) only [dm2, oldP, newP, simB0, ZA, reduceEqDiff, ↓reduceIte, reduceAdd, reduceLeDiff, decide_eq_true_eq]; first | done | omega))); (focus ((try simp (disch := omega) only [simB2, ZA, reduceEqDiff, ↓reduceIte, reduceAdd, reduceLeDiff, ZV, reduceCtorEq, t0, t1, t2, m1]); first | with_reducible rfl | (apply s_ite; (focus omega); with_reducible rfl)))))
      have z2 : ∀ b, b < nx2 → H4 b = H2 b := fun b hb => by rw [hH4, hH3, hupd_ne (by omega), hupd_ne (by omega)]
      exact ⟨q + 1, by omega, ⟨by omega, by omega, by rw [z2 _ (by omega), j2], by rw [z2 _ (by omega), j3], by rw [z2 _ (by omega), j4], by rw [z2 _ (by omega), j5]⟩, by simp (disch := omega) only [agr, ZG, reduceEqDiff, ↓reduceIte]⟩
    · obtain rfl : q = n := by omega
      repeat' (first | apply w_seq | apply w_ops0 | apply w_skip | apply w_exit | apply a_n | apply a_x | apply o_nil | (apply o_val rfl; (focus (first | rfl | (simp (disch := omega) only [dm2, oldP, newP, simB0, ZA, reduceEqDiff, ↓reduceIte, reduceAdd, reduceLeDiff, decide_eq_true_eq]; first | done | omega))); (focus ((try simp (disch := omega) only [simB2, ZA, reduceEqDiff, ↓reduceIte, reduceAdd, reduceLeDiff, ZV, reduceCtorEq, t0, t1, t2, j4]); first | with_reducible rfl | (apply s_ite; (focus omega); with_reducible rfl)))) | (apply o_gT; (focus (simp (disch := omega) only [simB2, ZA, reduceEqDiff, ↓reduceIte, reduceAdd, reduceLeDiff, t0, t1, t2, j4]; done))) | (apply o_gF; (focus (simp (disch := omega) only [simB2, ZA, reduceEqDiff, ↓reduceIte, reduceAdd, reduceLeDiff, or_true, true_or, t0, t1, t2, j4]; done))) | (apply w_condF; (focus (simp (disch := omega) only [simB2, ZA, reduceEqDiff, ↓reduceIte, reduceAdd, reduceLeDiff, t0, t1, t2, j4]; done))) | ((first | apply o_gB | apply w_cond); (focus ((try simp (disch := omega) only [simB2, ZA, reduceEqDiff, ↓reduceIte, reduceAdd, reduceLeDiff, t0, t1, t2, j4]); (try with_reducible rfl); done)); all_goals (intro _hg; (try simp (disch := omega) only [ZB] at _hg); try first | exact absurd trivial _hg | (exfalso; omega))))
      all_goals first | exact ⟨i + 1, by omega, ⟨by omega, by omega, j2, j3⟩, by simp (disch := omega) only [agr, ZG, reduceEqDiff, ↓reduceIte]⟩ | (exfalso; have := e4 (by omega); omega)
  · repeat' (first | apply w_seq | apply w_ops0 | apply w_exit | apply w_ret | apply a_n | apply a_x | apply o_nil | (apply o_val rfl; (focus (first | rfl | (simp (disch := omega) only [dm2, oldP, newP, simB0, ZA, reduceEqDiff, ↓reduceIte, reduceAdd, reduceLeDiff, decide_eq_true_eq]; first | done | omega))); (focus ((try simp (disch := omega) only [simB2, ZA, reduceEqDiff, ↓reduceIte, reduceAdd, reduceLeDiff, ZV, reduceCtorEq, t0, t1, g2, g3, encCs_one, encCs_cells, alenS_encCs]); first | with_reducible rfl | (apply s_ite; (focus omega); with_reducible rfl)))) | (apply o_callD; (iterate 2 (focus ((try simp (disch := omega) only [simB2, ZA, reduceEqDiff, ↓reduceIte, reduceAdd, reduceLeDiff, t0, t1, g2, g3, encCs_one, encCs_cells, alenS_encCs]); (try with_reducible rfl); done))); (focus (first | (exact awake_c))); (focus ((first | refine snap_plain ?_ rfl | apply snap_data); repeat' (first | exact snapL_nil | apply snapL_i | apply snapL_dat)))) | (apply w_cond; (focus ((try simp (disch := omega) only [simB2, ZA, reduceEqDiff, ↓reduceIte, reduceAdd, reduceLeDiff, t0, t1, g2, g3, encCs_one, encCs_cells, alenS_encCs]); (try with_reducible rfl); done)); all_goals (intro _hg; (try simp (disch := omega) only [ZB] at _hg); try first | exact absurd trivial _hg | (exfalso; omega))) | (refine e_ends rfl ?_) | (apply r_1; (focus (simp (disch := omega) only [rv, simB2, ZA, reduceEqDiff, ↓reduceIte, reduceAdd, reduceLeDiff, t0, t1, g2, g3, encCs_one, encCs_cells, alenS_encCs]; with_reducible rfl))))
    exact .bool _
end Go.Proofs.Ytcbkggfipdldaaa

/- P34: contracts of functions and plain laws; for all inputs that the theorems name. -/
namespace Go.Proofs.Ytcbkggfipdldaaa
open Go Go.Abs

def pairB (N K : Nat) (c d : CaseV) : Bool :=
  decide (d.inp = c.inp) && !(c.out.any fun w => !(d.out.any fun z => decide (w = z))) && decide (d.inp.length = N) && (decide (K + 1 ≠ N) || decide (d.out.length = pw (heads (sorted d.inp) N) N))
def pairsB (N K : Nat) : List CaseV → List CaseV → Bool
  | [], [] => true
  | c :: l, d :: m => pairB N K c d && pairsB N K l m
  | _, _ => false
theorem pairsB_get {N K : Nat} {l m : List CaseV} (h : pairsB N K l m = true) : m.length = l.length ∧ ∀ i, i < l.length → pairB N K (l.getD i default) (m.getD i default) = true := by
  induction l generalizing m with
  | nil => cases m with
    | nil => exact ⟨rfl, fun i hi => absurd hi (Nat.not_lt_zero _)⟩
    | cons d m => simp [pairsB] at h
  | cons c l ih => cases m with
    | nil => simp [pairsB] at h
    | cons d m =>
      simp only [pairsB, Bool.and_eq_true] at h
      obtain ⟨e, f⟩ := ih h.2
      refine ⟨by simp [e], fun i hi => ?_⟩
      cases i with
      | zero => exact h.1
      | succ i => exact f i (by simpa using hi)
def weakB (N V K : Nat) : Bool := pairsB N K (makeT 6 N V V K).1.cases (makeT 6 N V V (K + 1)).1.cases
theorem weak21 : (List.range 8).all (weakB 2 · 1) = true := by decide +kernel
theorem weak31 : (List.range 4).all (weakB 3 · 1) = true := by decide +kernel
theorem weak32 : (List.range 4).all (weakB 3 · 2) = true := by decide +kernel
theorem weak41 : (List.range 3).all (weakB 4 · 1) = true := by decide +kernel
theorem weak42 : (List.range 3).all (weakB 4 · 2) = true := by decide +kernel
theorem weak43 : (List.range 3).all (weakB 4 · 3) = true := by decide +kernel
theorem weak51 : (List.range 3).all (weakB 5 · 1) = true := by decide +kernel
theorem weak52 : (List.range 3).all (weakB 5 · 2) = true := by decide +kernel
theorem weak53 : (List.range 3).all (weakB 5 · 3) = true := by decide +kernel
theorem weak54 : (List.range 3).all (weakB 5 · 4) = true := by decide +kernel
def oneB (N V : Nat) : Bool := decide (makeT 6 N V V 1 = makeT 2 N V V 0)
theorem one1 : (List.range 9).all (oneB 1 ·) = true := by decide +kernel
theorem one2 : (List.range 8).all (oneB 2 ·) = true := by decide +kernel
theorem one3 : (List.range 4).all (oneB 3 ·) = true := by decide +kernel
theorem one4 : (List.range 3).all (oneB 4 ·) = true := by decide +kernel
theorem one5 : (List.range 3).all (oneB 5 ·) = true := by decide +kernel
theorem few2 : (List.range 9).all (fun V => !fewB 2 V V || decide (V < 8)) = true := by decide +kernel
theorem few3 : (List.range 9).all (fun V => !fewB 3 V V || decide (V < 4)) = true := by decide +kernel
theorem few4 : (List.range 9).all (fun V => !fewB 4 V V || decide (V < 3)) = true := by decide +kernel
theorem few5 : (List.range 9).all (fun V => !fewB 5 V V || decide (V < 3)) = true := by decide +kernel
end Go.Proofs.Ytcbkggfipdldaaa

/- P35: contracts of functions and plain laws; for all inputs that the theorems name. -/
namespace Go.Proofs.Ytcbkggfipdldaaa
open Go Go.Abs
open Nat (reduceEqDiff reduceAdd reduceLeDiff)

theorem all_range {m : Nat} {f : Nat → Bool} (h : (List.range m).all f = true) {v : Nat} (hv : v < m) : f v = true := List.all_eq_true.1 h v (List.mem_range.2 hv)

theorem few_size {N V : Nat} (hN : 1 ≤ N ∧ N ≤ 5) (hV : V ≤ 8) (h : fewB N V V = true) : (N = 1 ∧ V < 9) ∨ (N = 2 ∧ V < 8) ∨ (N = 3 ∧ V < 4) ∨ (N = 4 ∧ V < 3) ∨ (N = 5 ∧ V < 3) := by
  have hN' : N = 1 ∨ N = 2 ∨ N = 3 ∨ N = 4 ∨ N = 5 := by omega
  rcases hN' with rfl | rfl | rfl | rfl | rfl
  · exact .inl ⟨rfl, by omega⟩
  · have := all_range few2 (v := V) (by omega)
    rw [show fewB (2 : Int) V V = true from h] at this
    exact .inr (.inl ⟨rfl, by simpa using this⟩)
  · have := all_range few3 (v := V) (by omega)
    rw [show fewB (3 : Int) V V = true from h] at this
    exact .inr (.inr (.inl ⟨rfl, by simpa using this⟩))
  · have := all_range few4 (v := V) (by omega)
    rw [show fewB (4 : Int) V V = true from h] at this
    exact .inr (.inr (.inr (.inl ⟨rfl, by simpa using this⟩)))
  · have := all_range few5 (v := V) (by omega)
    rw [show fewB (5 : Int) V V = true from h] at this
    exact .inr (.inr (.inr (.inr ⟨rfl, by simpa using this⟩)))

theorem oneSet_eq (n v : Int) (h : fewB n v v = true) : makeT 6 n v v 1 = makeT 2 n v v 0 := by
  by_cases c1 : n < 1 ∨ 5 < n
  · unfold makeT; rw [if_pos c1, if_pos c1]
  by_cases c2 : v < 1 ∨ 8 < v ∨ v < 1 ∨ 8 < v
  · unfold makeT; rw [if_neg c1, if_neg c1, if_pos c2, if_pos c2]
  obtain ⟨N, rfl⟩ : ∃ N : Nat, n = N := ⟨n.toNat, by omega⟩
  obtain ⟨V, rfl⟩ : ∃ V : Nat, v = V := ⟨v.toNat, by omega⟩
  have key : oneB N V = true := by
    rcases few_size (by omega) (by omega) h with ⟨rfl, hv⟩ | ⟨rfl, hv⟩ | ⟨rfl, hv⟩ | ⟨rfl, hv⟩ | ⟨rfl, hv⟩
    · exact all_range one1 hv
    · exact all_range one2 hv
    · exact all_range one3 hv
    · exact all_range one4 hv
    · exact all_range one5 hv
  exact of_decide_eq_true key

theorem fault_in {n v k : Int} (h : (makeT 6 n v v k).2 = 0) : (1 ≤ n ∧ n ≤ 5) ∧ (1 ≤ v ∧ v ≤ 8) ∧ 1 ≤ k ∧ k ≤ n := by
  unfold makeT at h
  split at h
  · exact absurd h (by decide)
  split at h
  · exact absurd h (by decide)
  split at h
  · exact absurd h (by decide)
  rename_i c1 c2 c3
  have : ¬ (k < 1 ∨ n < k) := fun x => c3 ⟨rfl, x⟩
  omega

theorem weak_all {N V K : Nat} (hN : 1 ≤ N ∧ N ≤ 5) (hV : V ≤ 8) (h : fewB N V V = true) (hK : 1 ≤ K ∧ K + 1 ≤ N) : weakB N V K = true := by
  rcases few_size hN hV h with ⟨rfl, hv⟩ | ⟨rfl, hv⟩ | ⟨rfl, hv⟩ | ⟨rfl, hv⟩ | ⟨rfl, hv⟩
  · omega
  · obtain rfl : K = 1 := by omega
    exact all_range weak21 hv
  · have : K = 1 ∨ K = 2 := by omega
    rcases this with rfl | rfl
    · exact all_range weak31 hv
    · exact all_range weak32 hv
  · have : K = 1 ∨ K = 2 ∨ K = 3 := by omega
    rcases this with rfl | rfl | rfl
    · exact all_range weak41 hv
    · exact all_range weak42 hv
    · exact all_range weak43 hv
  · have : K = 1 ∨ K = 2 ∨ K = 3 ∨ K = 4 := by omega
    rcases this with rfl | rfl | rfl | rfl
    · exact all_range weak51 hv
    · exact all_range weak52 hv
    · exact all_range weak53 hv
    · exact all_range weak54 hv

attribute [local irreducible] awp2 aops2 ains aloop athen bbind obind gbind acond res1 Go.Abs.Fn PCall Go.Abs.Pure SnapArgs SnapL Yl
theorem law7_not (n v k : Int) (hf : fewB n v v = false) : Pure Try.prog 7 [.int .i64 n, .int .i64 v, .int .i64 k] (.bool true) := by
  refine Pure.of_c2 follows is7 (Nat.le_of_ble_eq_true rfl) ?_
  simp only [b7, O, G, N, M, D, F, B2, cFal, cTru]
  have g1 := few_r n v v
  rw [hf] at g1
  refine w_seq ?_
  repeat' (first | apply w_ops0 | apply a_n | apply o_nil | (apply o_val rfl rfl; (focus ((try simp (disch := omega) only [simB0, ZA, reduceEqDiff, ↓reduceIte, reduceAdd, reduceLeDiff, ZV, reduceCtorEq]); first | with_reducible rfl | (apply s_ite; (focus omega); with_reducible rfl)))))
  refine w_seqC (fun T H nx => False) ?_ (fun _ _ _ h => h.elim)
  repeat' (first | apply w_seq | apply w_ops0 | apply w_ret | apply a_n | apply a_r | apply o_nil | (apply o_val rfl rfl; (focus ((try simp (disch := omega) only [simB0, ZA, reduceEqDiff, ↓reduceIte, reduceAdd, reduceLeDiff, ZV, reduceCtorEq]); first | with_reducible rfl | (apply s_ite; (focus omega); with_reducible rfl)))) | (apply o_callD; (iterate 2 (focus ((try simp only [simB0, ZA, reduceEqDiff, ↓reduceIte, reduceAdd, reduceLeDiff]); (try with_reducible rfl); done))); (focus (first | (exact g1) | (exact awake_c))); (focus ((first | refine snap_plain ?_ rfl | apply snap_data); repeat' (first | exact snapL_nil | apply snapL_i | apply snapL_dat)))) | (apply w_condT; (focus (simp only [simB0, ZA, reduceEqDiff, ↓reduceIte, reduceAdd, reduceLeDiff]; done))) | (refine e_ends rfl ?_) | (apply r_1; (focus (simp only [rv, simB0, ZA, reduceEqDiff, ↓reduceIte, reduceAdd, reduceLeDiff]; with_reducible rfl))))
  all_goals exact .bool _

theorem law7_c (n v k : Int) (hk : -9223372036854775808 ≤ k ∧ k ≤ 9223372036854775807) : Pure Try.prog 7 [.int .i64 n, .int .i64 v, .int .i64 k] (.bool true) := by
  cases hf : fewB n v v with
  | false => exact law7_not n v k hf
  | true =>
    obtain ⟨w, hw⟩ : ∃ w, IntKind.i64.wrap (k + 1) = w := ⟨_, rfl⟩
    have c1 := set_c n v 1
    have c2 := consensus_c n v
    have c3 := set_c n v k
    have c4 := set_c n v w
    rw [set_eq n v 1, oneSet_eq n v hf] at c1
    rw [consensus_eq n v] at c2
    rw [set_eq n v k] at c3
    rw [set_eq n v w] at c4
    obtain ⟨s1, s2⟩ := makeT_sh 2 n v v 0
    obtain ⟨s3, s4⟩ := makeT_sh 6 n v v k
    obtain ⟨s5, s6⟩ := makeT_sh 6 n v v w
    by_cases hb : (makeT 6 n v v k).2 ≠ 0 ∨ (makeT 6 n v v w).2 ≠ 0
    · exact law7_out n v k w _ _ _ _ _ _ hw hb c1 c2 c3 c4 s1 s2
    obtain ⟨b1, b2, b3, b4⟩ := fault_in (n := n) (v := v) (k := k) (Decidable.byContradiction fun x => hb (.inl x))
    obtain ⟨_, _, b5, b6⟩ := fault_in (n := n) (v := v) (k := w) (Decidable.byContradiction fun x => hb (.inr x))
    have e1 : (makeT 6 n v v k).2 = 0 := Decidable.byContradiction fun x => hb (.inl x)
    have e2 : (makeT 6 n v v w).2 = 0 := Decidable.byContradiction fun x => hb (.inr x)
    rw [wrap64 (by omega) (by omega)] at hw
    subst hw
    obtain ⟨N, rfl⟩ : ∃ N : Nat, n = N := ⟨n.toNat, by omega⟩
    obtain ⟨V, rfl⟩ : ∃ V : Nat, v = V := ⟨v.toNat, by omega⟩
    obtain ⟨K, rfl⟩ : ∃ K : Nat, k = K := ⟨k.toNat, by omega⟩
    rw [e1] at c3
    rw [e2] at c4
    have hall := weak_all (N := N) (V := V) (K := K) (by omega) (by omega) hf (by omega)
    obtain ⟨g1, g2⟩ := pairsB_get hall
    refine law7_in N V K _ _ _ _ (by omega) (by omega) c1 c2 c3 c4 s1 s2 s3 s4 s5 s6 g1 (fun i hi => ?_)
    have := g2 i hi
    unfold pairB at this
    simp only [Bool.and_eq_true, Bool.or_eq_true, decide_eq_true_iff, Bool.not_eq_true'] at this
    obtain ⟨⟨⟨p1, p2⟩, p3⟩, p4⟩ := this
    exact ⟨p1, p2, p3, fun h => p4.resolve_left (fun x => x h)⟩
end Go.Proofs.Ytcbkggfipdldaaa
