/- Texts of this claim, one after the other: P8, P9, P10, P11, P12, P13, P14, P15, P16, P17, P18, P19, P20, P23, P24, P25, P26, P27, P28, P29, P30, P31, P32, P33, P34, P35. -/
import Derived.Test.YtcbkggfipdldaaaXG4
import Derived.Test.YtcbkggfipdldaaaXG3
import Derived.Test.YtcbkggfipdldaaaRows
import Derived.WalkKit
import Derived.ProofKit
import Derived.OpenShut

set_option linter.unusedSimpArgs false
set_option linter.unusedVariables false

/- P8: contracts of functions and plain laws; for all inputs that the theorems name. -/
namespace Go.Proofs.Ytcbkggfipdldaaa
open Go Go.Abs
open Nat (reduceEqDiff reduceAdd reduceLeDiff)
attribute [local irreducible] awp2 aops2 ains aloop athen bbind obind gbind acond res1 Go.Abs.Fn PCall Go.Abs.Pure SnapArgs SnapL Yl

/-! ### made, for all numbers -/
def inR (n ins outs kk : Int) : Prop := (1 ≤ n ∧ n ≤ 5) ∧ (1 ≤ ins ∧ ins ≤ 8) ∧ (1 ≤ outs ∧ outs ≤ 8) ∧ (kk = -1 ∨ 1 ≤ kk ∧ kk ≤ n)
instance (n ins outs kk : Int) : Decidable (inR n ins outs kk) := by unfold inR; infer_instance

structure DatF (f : AV) : Prop where
  dat : Dat f
  cells : f.cells = [f]
  one : f.one = true
theorem DatF.nil : DatF .nilf := ⟨.nilf, rfl, rfl⟩
theorem DatF.func {g : FuncId} {caps : List AV} (h : ∀ c ∈ caps, Dat c) : DatF (.func g caps) := ⟨.func h, rfl, rfl⟩

theorem made_err (n ins outs kk : Int) (fc fa fm : AV) (h1 : DatF fc) (h2 : DatF fa) (h3 : DatF fm) (h : ¬ inR n ins outs kk) :
    Pure Try.prog 45 [.agg [.int .i64 n, .int .i64 ins, .int .i64 outs, .int .i64 kk, fc, fa, fm]] (.tup [encT T00, .int .i64 2]) := by
  refine Pure.of_c2 follows is45 (Nat.le_of_ble_eq_true rfl) ?_
  simp only [b45, O, G, N, M, D, F, B2, cFal, cTru]
  obtain ⟨hd1, hc1, ho1⟩ := h1
  obtain ⟨hd2, hc2, ho2⟩ := h2
  obtain ⟨hd3, hc3, ho3⟩ := h3
  unfold inR at h
  refine w_seq ?_
  repeat' (first | apply w_ops0 | apply a_n | apply o_nil | (apply e_alloc rfl; (focus ((try simp only [simB0, ZA, reduceEqDiff, ↓reduceIte, reduceAdd, reduceLeDiff, ho1, ho2, ho3]); (try with_reducible rfl); done)); (focus (simp only [SO, Bool.and_self, one_encV, one_encVV, ho1, ho2, ho3]))) | (apply e_box rfl; (iterate 2 (focus ((try simp only [simB0, ZA, reduceEqDiff, ↓reduceIte, reduceAdd, reduceLeDiff, ho1, ho2, ho3]); (try with_reducible rfl); done))); (focus (simp only [SO, Bool.and_self, one_encV, one_encVV, ho1, ho2, ho3]))))
  refine w_seqC (fun T H nx => False) ?_ (fun _ _ _ h => h.elim)
  repeat' (first | apply w_seq | apply w_ops0 | apply w_block | apply w_ret | apply a_n | apply a_r | apply o_nil | (apply o_val rfl rfl; (focus ((try simp (disch := omega) only [simB0, ZA, reduceEqDiff, ↓reduceIte, reduceAdd, reduceLeDiff, ZV, reduceCtorEq, ho1, ho2, ho3]); first | with_reducible rfl | (apply s_ite; (focus omega); with_reducible rfl)))) | (apply o_callD; (iterate 2 (focus ((try simp only [simB0, ZA, reduceEqDiff, ↓reduceIte, reduceAdd, reduceLeDiff, ho1, ho2, ho3]); (try with_reducible rfl); done))); (focus (first | (exact between_c _ _ _))); (focus ((first | refine snap_plain ?_ rfl | apply snap_data); repeat' (first | exact snapL_nil | apply snapL_i | apply snapL_dat)))) | (apply e_st rfl; (iterate 4 (focus ((try simp only [simB0, ZA, reduceEqDiff, ↓reduceIte, reduceAdd, reduceLeDiff, ho1, ho2, ho3]); (try with_reducible rfl); done))); (focus (simp only [SO, Bool.and_self, one_encV, one_encVV, ho1, ho2, ho3])); (iterate 3 (focus ((try simp only [SL, reduceAdd, Nat.reduceMul, List.length_map]); first | done | omega)))) | (apply o_gT; (focus (simp only [simB0, ZA, reduceEqDiff, ↓reduceIte, reduceAdd, reduceLeDiff, ho1, ho2, ho3]; done))) | (apply o_gF; (focus (simp only [simB0, ZA, reduceEqDiff, ↓reduceIte, reduceAdd, reduceLeDiff, or_true, true_or, ho1, ho2, ho3]; done))) | (apply w_condT; (focus (simp only [simB0, ZA, reduceEqDiff, ↓reduceIte, reduceAdd, reduceLeDiff, ho1, ho2, ho3]; done))) | ((first | apply o_gB | apply w_cond); (focus ((try simp only [simB0, ZA, reduceEqDiff, ↓reduceIte, reduceAdd, reduceLeDiff, ho1, ho2, ho3]); (try with_reducible rfl); done)); all_goals (intro _hg; (try simp only [ZB] at _hg); try first | exact absurd trivial _hg | (exfalso; omega))) | (refine e_ends rfl ?_) | (apply r_2; (iterate 2 (focus (simp only [rv, simB0, ZA, reduceEqDiff, ↓reduceIte, reduceAdd, reduceLeDiff, ho1, ho2, ho3]; with_reducible rfl)))))
  all_goals exact snapErr 2

def taskI (n ins outs kk : Int) (k : KindV) : TaskV × Int := if inR n ins outs kk then taskOf k else (T00, 2)

theorem made_all (n ins outs kk : Int) (k : KindV) (fc fa fm : AV) (h1 : DatF fc) (h2 : DatF fa) (h3 : DatF fm)
    (h : inR n ins outs kk → k.n = n ∧ k.ins = ins ∧ k.outs = outs ∧ Cond fc (every k.n k.ins) k.pc ∧ (k.hasC = true ↔ fc ≠ .nilf) ∧ Cond2 fa (every k.n k.ins) (every k.n k.outs) k.pa ∧ ((fm = .nilf ∧ ∀ x y, k.pm x y = false) ∨ Cond2 fm (every k.n k.ins) (every k.n k.outs) k.pm)) :
    Pure Try.prog 45 [.agg [.int .i64 n, .int .i64 ins, .int .i64 outs, .int .i64 kk, fc, fa, fm]] (.tup [encT (taskI n ins outs kk k).1, .int .i64 (taskI n ins outs kk k).2]) := by
  unfold taskI
  by_cases hr : inR n ins outs kk
  · rw [if_pos hr]
    obtain ⟨e1, e2, e3, e4, e5, e6, e7⟩ := h hr
    unfold inR at hr
    rw [← e1, ← e2, ← e3]
    exact made_c k (by omega) (by omega) (by omega) kk (by omega) fc fa fm e4 e5 e6 e7
  · rw [if_neg hr]
    exact made_err n ins outs kk fc fa fm h1 h2 h3 hr

theorem encCs_dat (l : List CaseV) : Dat (encCs l) := Dat.sl (fun x hx c hc => by
  simp at hx; obtain ⟨q, _, rfl⟩ := hx
  simp only [encC, AV.cells, List.mem_cons, List.not_mem_nil, or_false] at hc
  rcases hc with rfl | rfl | rfl
  · exact encV_dat _
  · exact encVV_dat _
  · exact encVV_dat _)
theorem encT_dat (t : TaskV) : Dat (encT t) := by
  refine Dat.agg fun x hx => ?_
  simp only [List.mem_cons, List.not_mem_nil, or_false] at hx
  rcases hx with rfl | rfl | rfl | rfl
  · exact .int
  · exact .int
  · exact .int
  · exact encCs_dat _
theorem encTE_dat (t : TaskV) (e : Int) : Dat (.tup [encT t, .int .i64 e]) := Dat.tup (DatL.cons (encT_dat t) (DatL.cons .int DatL.nil))
theorem encT_cells (t : TaskV) : (encT t).cells = [.int .i64 t.n, .int .i64 t.ins, .int .i64 t.outs, encCs t.cases] := rfl
theorem encCs_one (l : List CaseV) : (encCs l).one = true := rfl
theorem encCs_cells (l : List CaseV) : (encCs l).cells = [encCs l] := rfl
theorem kind_dat {n i o k : Int} {fc fa fm : AV} (h1 : DatF fc) (h2 : DatF fa) (h3 : DatF fm) : Dat (.agg [.int .i64 n, .int .i64 i, .int .i64 o, .int .i64 k, fc, fa, fm]) := by
  refine Dat.agg fun x hx => ?_
  simp only [List.mem_cons, List.not_mem_nil, or_false] at hx
  rcases hx with rfl | rfl | rfl | rfl | rfl | rfl | rfl
  · exact .int
  · exact .int
  · exact .int
  · exact .int
  · exact h1.dat
  · exact h2.dat
  · exact h3.dat
theorem DatF.fun1 {g : FuncId} {x : AV} (h : Dat x) : DatF (.func g [.iptr [x] 0]) := DatF.func (DatL.cons (Dat.iptr (DatL.cons h DatL.nil)) DatL.nil)
theorem DatF.fun0 {g : FuncId} : DatF (.func g []) := DatF.func DatL.nil
theorem Cond2.fun1 {g : FuncId} {c : AV} {L M : List (List Int)} {p : List Int → List Int → Bool} (hd : Dat c) (h : ∀ x ∈ L, ∀ y ∈ M, Pure Try.prog g [encV x, encV y, .iptr [c] 0] (.bool (p x y))) : Cond2 (.func g [.iptr [c] 0]) L M p :=
  ⟨g, _, rfl, DatL.cons (Dat.iptr (DatL.cons hd DatL.nil)) DatL.nil, h⟩
theorem Cond2.fun0 {g : FuncId} {L M : List (List Int)} {p : List Int → List Int → Bool} (h : ∀ x ∈ L, ∀ y ∈ M, Pure Try.prog g [encV x, encV y] (.bool (p x y))) : Cond2 (.func g []) L M p :=
  ⟨g, _, rfl, DatL.nil, h⟩

theorem every_sh {n v : Nat} (hn : n ≤ 5) {x : List Int} (h : x ∈ every n v) : Sh x := by
  have := every_len n v x h
  show _ ≤ _; omega

theorem every_ne {n v : Nat} (hn : n ≠ 0) {x : List Int} (h : x ∈ every n v) : x ≠ [] := by
  have := every_len n v x h
  intro e; subst e; exact hn this.symm

/-! ### the tasks -/
theorem agreement_c (n v k : Int) : Pure Try.prog 59 [.int .i64 n, .int .i64 v, .int .i64 k] (.agg [.int .i64 n, .int .i64 v, .int .i64 v, .int .i64 k, .nilf, .func 89 [.iptr [.int .i64 k] 0], .nilf]) := by
  refine Pure.of_c2 follows is59 (Nat.le_of_ble_eq_true rfl) ?_
  simp only [b59, O, G, N, M, D, F, B2, cFal, cTru]
  repeat' (first | apply w_seq | apply w_ops0 | apply w_ret | apply a_n | apply o_nil | (apply o_val rfl rfl; (focus ((try simp (disch := omega) only [simB0, ZA, reduceEqDiff, ↓reduceIte, reduceAdd, reduceLeDiff, ZV, reduceCtorEq]); first | with_reducible rfl | (apply s_ite; (focus omega); with_reducible rfl)))) | (apply e_alloc rfl; (focus ((try simp only [simB0, ZA, reduceEqDiff, ↓reduceIte, reduceAdd, reduceLeDiff]); (try with_reducible rfl); done)); (focus (simp only [SO, Bool.and_self, one_encV, one_encVV]))) | (apply e_box rfl; (iterate 2 (focus ((try simp only [simB0, ZA, reduceEqDiff, ↓reduceIte, reduceAdd, reduceLeDiff]); (try with_reducible rfl); done))); (focus (simp only [SO, Bool.and_self, one_encV, one_encVV]))) | (apply e_st rfl; (iterate 4 (focus ((try simp only [simB0, ZA, reduceEqDiff, ↓reduceIte, reduceAdd, reduceLeDiff]); (try with_reducible rfl); done))); (focus (simp only [SO, Bool.and_self, one_encV, one_encVV])); (iterate 3 (focus ((try simp only [SL, reduceAdd, Nat.reduceMul, List.length_map]); first | done | omega)))) | (refine e_ends rfl ?_) | (apply r_1; (focus (simp only [rv, simB0, ZA, reduceEqDiff, ↓reduceIte, reduceAdd, reduceLeDiff]; with_reducible rfl))))
  refine snap_agg ?_
  (repeat' (first | exact snapL_nil | exact Dat.snap Dat.int | exact Dat.snap Dat.bool | exact Dat.snap Dat.str | exact Dat.snap Dat.esl | exact Dat.snap Dat.nilf | exact Dat.snap (encV_dat _) | exact Dat.snap (encVV_dat _) | apply snapL_cons | apply snap_func | apply snap_iptr | (apply snap_ptr; (focus ((try simp only [simB0, ZA, reduceEqDiff, ↓reduceIte, reduceAdd, reduceLeDiff]); with_reducible rfl)); (focus rfl))))

def kAgree (n v k : Int) : KindV := ⟨n.toNat, v.toNat, v.toNat, false, fun _ => true, fun i o => decide ((kinds o).length ≤ max k 1) && o.all fun v => decide (v ∈ i), fun _ _ => false⟩
theorem made_agree (n v kk k : Int) : Pure Try.prog 45 [.agg [.int .i64 n, .int .i64 v, .int .i64 v, .int .i64 kk, .nilf, .func 89 [.iptr [.int .i64 k] 0], .nilf]] (.tup [encT (taskI n v v kk (kAgree n v k)).1, .int .i64 (taskI n v v kk (kAgree n v k)).2]) := by
  refine made_all n v v kk (kAgree n v k) _ _ _ DatF.nil (DatF.fun1 .int) DatF.nil (fun h => ?_)
  unfold inR at h
  have : (kAgree n v k).n ≤ 5 := by show n.toNat ≤ 5; omega
  refine ⟨by show (n.toNat : Int) = n; omega, by show (v.toNat : Int) = v; omega, by show (v.toNat : Int) = v; omega, ⟨.inl ⟨rfl, fun _ => rfl⟩⟩, by simp [kAgree], Cond2.fun1 .int (fun x hx y hy => ?_), .inl ⟨rfl, fun _ _ => rfl⟩⟩
  exact agreement1_c k x y (every_sh this hx) (every_sh this hy)

def consensusT (n v : Int) : TaskV × Int := taskI n v v (-1) (kAgree n v 1)
theorem consensus_c (n v : Int) : Pure Try.prog 16 [.int .i64 n, .int .i64 v] (.tup [encT (consensusT n v).1, .int .i64 (consensusT n v).2]) := by
  refine Pure.of_c2 follows is16 (Nat.le_of_ble_eq_true rfl) ?_
  simp only [b16, O, G, N, M, D, F, B2, cFal, cTru]
  have hm := made_agree n v (-1) 1
  have hdd : ∀ k : Int, Dat (.agg [.int .i64 n, .int .i64 v, .int .i64 v, .int .i64 k, .nilf, .func 89 [.iptr [.int .i64 1] 0], .nilf]) := fun k => kind_dat DatF.nil (DatF.fun1 .int) DatF.nil
  repeat' (first | apply w_seq | apply w_ops0 | apply w_ret | apply a_n | apply o_nil | (apply o_val rfl rfl; (focus ((try simp (disch := omega) only [simB0, ZA, reduceEqDiff, ↓reduceIte, reduceAdd, reduceLeDiff, ZV, reduceCtorEq, encT_cells, encCs_one, encCs_cells]); first | with_reducible rfl | (apply s_ite; (focus omega); with_reducible rfl)))) | (apply o_callD; (iterate 2 (focus ((try simp only [simB0, ZA, reduceEqDiff, ↓reduceIte, reduceAdd, reduceLeDiff, encT_cells, encCs_one, encCs_cells]); (try with_reducible rfl); done))); (focus (first | (exact agreement_c _ _ _) | (exact hm))); (focus ((first | refine snap_plain ?_ rfl | apply snap_data); repeat' (first | exact snapL_nil | apply snapL_i | apply snapL_dat | exact hdd _)))) | (apply e_alloc rfl; (focus ((try simp only [simB0, ZA, reduceEqDiff, ↓reduceIte, reduceAdd, reduceLeDiff, encT_cells, encCs_one, encCs_cells]); (try with_reducible rfl); done)); (focus (simp only [SO, Bool.and_self, one_encV, one_encVV, encT_cells, encCs_one, encCs_cells]))) | (apply e_st rfl; (iterate 4 (focus ((try simp only [simB0, ZA, reduceEqDiff, ↓reduceIte, reduceAdd, reduceLeDiff, encT_cells, encCs_one, encCs_cells]); (try with_reducible rfl); done))); (focus (simp only [SO, Bool.and_self, one_encV, one_encVV, encT_cells, encCs_one, encCs_cells])); (iterate 3 (focus ((try simp only [SL, reduceAdd, Nat.reduceMul, List.length_map]); first | done | omega)))) | (refine e_ends rfl ?_) | (apply r_2; (iterate 2 (focus (simp only [rv, simB0, ZA, reduceEqDiff, ↓reduceIte, reduceAdd, reduceLeDiff, encT_cells, encCs_one, encCs_cells]; with_reducible rfl)))))
  exact encTE_dat _ _ _

def moreI (n : Int) : Int := if 0 ≤ n ∧ n ≤ 8 then n + 1 else 9
def kApprox (n s : Int) : KindV := ⟨n.toNat, 2, (moreI s).toNat, false, fun _ => true, fun l m => if (kinds l).length = 1 then eqv m (IntKind.wrap .i64 (l.getD 0 default * s)) else decide (IntKind.wrap .i64 (m.foldl max (m.getD 0 default) - m.foldl min (m.getD 0 default)) ≤ 1), fun _ _ => false⟩
def approxT (n s : Int) : TaskV × Int := taskI n 2 (moreI s) (-1) (kApprox n s)
theorem made_approx (n s : Int) : Pure Try.prog 45 [.agg [.int .i64 n, .int .i64 2, .int .i64 (moreI s), .int .i64 (-1), .nilf, .func 47 [.iptr [.int .i64 s] 0], .nilf]] (.tup [encT (approxT n s).1, .int .i64 (approxT n s).2]) := by
  refine made_all n 2 (moreI s) (-1) (kApprox n s) _ _ _ DatF.nil (DatF.fun1 .int) DatF.nil (fun h => ?_)
  unfold inR at h
  have h5 : (kApprox n s).n ≤ 5 := by show n.toNat ≤ 5; omega
  have h1 : (kApprox n s).n ≠ 0 := by show n.toNat ≠ 0; omega
  refine ⟨by show (n.toNat : Int) = n; omega, rfl, by show ((moreI s).toNat : Int) = moreI s; omega, ⟨.inl ⟨rfl, fun _ => rfl⟩⟩, by simp [kApprox], Cond2.fun1 .int (fun x hx y hy => ?_), .inl ⟨rfl, fun _ _ => rfl⟩⟩
  exact approx1_c s x y (every_sh h5 hx) (every_sh h5 hy) (every_ne h1 hx) (every_ne h1 hy)

theorem approx_c (n s : Int) : Pure Try.prog 11 [.int .i64 n, .int .i64 s] (.tup [encT (approxT n s).1, .int .i64 (approxT n s).2]) := by
  refine Pure.of_c2 follows is11 (Nat.le_of_ble_eq_true rfl) ?_
  simp only [b11, O, G, N, M, D, F, B2, cFal, cTru]
  have hm := made_approx n s
  unfold moreI at hm
  refine w_seq ?_
  repeat' (first | apply w_ops0 | apply a_n | apply o_nil | (apply o_val rfl rfl; (focus ((try simp (disch := omega) only [simB0, ZA, reduceEqDiff, ↓reduceIte, reduceAdd, reduceLeDiff, ZV, reduceCtorEq]); first | with_reducible rfl | (apply s_ite; (focus omega); with_reducible rfl)))) | (apply e_alloc rfl; (focus ((try simp only [simB0, ZA, reduceEqDiff, ↓reduceIte, reduceAdd, reduceLeDiff]); (try with_reducible rfl); done)); (focus (simp only [SO, Bool.and_self, one_encV, one_encVV]))) | (apply e_box rfl; (iterate 2 (focus ((try simp only [simB0, ZA, reduceEqDiff, ↓reduceIte, reduceAdd, reduceLeDiff]); (try with_reducible rfl); done))); (focus (simp only [SO, Bool.and_self, one_encV, one_encVV]))))
  refine w_seq ?_
  refine w_ops0F (only 0 [.int .i64 s]) _ [(0, .int .i64 n), (3, .iptr [.int .i64 s] 0), (4, .ptr 1 4 0)] (Fz.one (by ((try simp only [simB0, ZA, reduceEqDiff, ↓reduceIte, reduceAdd, reduceLeDiff]); (try with_reducible rfl)))) ⟨.inl (by ((try simp only [simB0, ZA, reduceEqDiff, ↓reduceIte, reduceAdd, reduceLeDiff]); (try with_reducible rfl))), .inr ?_, .inl (by ((try simp only [simB0, ZA, reduceEqDiff, ↓reduceIte, reduceAdd, reduceLeDiff]); (try with_reducible rfl))), trivial⟩ ?_
  · ((try simp only [simB0, ZA, reduceEqDiff, ↓reduceIte, reduceAdd, reduceLeDiff]); (try with_reducible rfl))
    exact snap_ptr only_at rfl (snapL_cons (.int _ _) snapL_nil)
  repeat' (first | apply w_ret | apply a_n | apply o_nil | (apply o_val rfl rfl; (focus ((try simp (disch := omega) only [simB0, ZA, reduceEqDiff, ↓reduceIte, reduceAdd, reduceLeDiff, ZV, reduceCtorEq, encT_cells, encCs_one, encCs_cells]); first | with_reducible rfl | (apply s_ite; (focus omega); with_reducible rfl)))) | (apply o_callD; (iterate 2 (focus ((try simp only [simB0, ZA, reduceEqDiff, ↓reduceIte, reduceAdd, reduceLeDiff, encT_cells, encCs_one, encCs_cells]); (try with_reducible rfl); done))); (focus (first | (exact more_c _) | (exact hm))); (focus ((first | refine snap_plain ?_ rfl | apply snap_data); repeat' (first | exact snapL_nil | apply snapL_i | apply snapL_dat | exact kind_dat DatF.nil (DatF.fun1 .int) DatF.nil)))) | (apply e_st rfl; (iterate 4 (focus ((try simp only [simB0, ZA, reduceEqDiff, ↓reduceIte, reduceAdd, reduceLeDiff, encT_cells, encCs_one, encCs_cells]); (try with_reducible rfl); done))); (focus (simp only [SO, Bool.and_self, one_encV, one_encVV, encT_cells, encCs_one, encCs_cells])); (iterate 3 (focus ((try simp only [SL, reduceAdd, Nat.reduceMul, List.length_map]); first | done | omega)))) | (refine e_ends rfl ?_) | (apply r_2; (iterate 2 (focus (simp only [rv, simB0, ZA, reduceEqDiff, ↓reduceIte, reduceAdd, reduceLeDiff, encT_cells, encCs_one, encCs_cells]; with_reducible rfl)))))
  exact encTE_dat _ _ _

end Go.Proofs.Ytcbkggfipdldaaa

/- P9: contracts of functions and plain laws; for all inputs that the theorems name. -/
namespace Go.Proofs.Ytcbkggfipdldaaa
open Go Go.Abs
open Nat (reduceEqDiff reduceAdd reduceLeDiff)
attribute [local irreducible] awp2 aops2 ains aloop athen bbind obind gbind acond res1 Go.Abs.Fn PCall Go.Abs.Pure SnapArgs SnapL Yl

theorem asls_lo {b n i : Nat} (h : i < n) : asls 1 (.msl b n 1 0 n) (some (.int .i64 i)) none none = some (.msl b n 1 i (n - i)) := by
  simp [asls, abound]; omega
theorem asls_hi {b n i : Nat} (h : i ≤ n) (h0 : 0 < n) : asls 1 (.msl b n 1 0 n) none (some (.int .i64 i)) none = some (.msl b n 1 0 i) := by
  simp [asls, abound]; omega
theorem aclear_int {b n i : Nat} {H : Hp} {c : List Int} (h : i < n) (hb : H b = some (c.map (AV.int .i64))) (hc : c.length = n) :
    aclear 1 (.int .i64 0) (.msl b n 1 i (n - i)) H = some (hupd H b ((c.take i ++ List.replicate (n - i) 0).map (AV.int .i64))) := by
  unfold aclear
  have hz : zcells (.int .i64 0) (n - i) = (List.replicate (n - i) (0 : Int)).map (AV.int .i64) := by rw [← zcells_int]; rfl
  dsimp only
  rw [if_neg (by omega), hb]
  dsimp only
  rw [if_pos ⟨by simpa using hc, rfl, rfl, rfl, by omega⟩, hz]
  congr 2
  unfold lput
  rw [List.length_map, List.length_replicate, List.drop_eq_nil_of_le (by simp; omega), List.append_nil, List.map_append, List.map_take]

theorem snap_pre {H : Hp} {b n m : Nat} {c l : List Int} (hb : H b = some (c.map (AV.int .i64))) (hc : c.length = n) (hm : m ≤ n) (h : c.take m = l) : Snap H (.msl b n 1 0 m) (encV l) := by
  subst h
  refine snap_msl hb (by simp [hc]) (by omega) (by simp; omega) (fun y hy => by obtain ⟨n, _, rfl⟩ := List.mem_map.1 hy; rfl) (fun i a c' ha hc' => ?_)
  rw [Nat.zero_add, List.getElem?_map] at ha
  rw [List.getElem?_map, List.getElem?_take] at hc'
  split at hc'
  · rw [ha] at hc'; cases hc'
    simp only [Option.map_eq_some_iff] at ha
    obtain ⟨q, _, rfl⟩ := ha
    exact .int _ _
  · cases hc'

theorem delete_c (l : List Int) (p : Int → Bool) (g : Nat) (caps : List AV) (hd : ∀ x ∈ caps, Dat x) (hg : ∀ x ∈ l, Pure Try.prog g (.int .i64 x :: caps) (.bool (p x))) (hl : Sh l) (b n : Nat) (hn : l.length = n) (H : Hp) (nx : Nat) (hb : H b = some (l.map (AV.int .i64))) :
    Abs.Fn Try.prog 55 [.msl b n 1 0 n, .func g caps] H nx fun r H' nx' => nx' = nx ∧ (∀ x, x ≠ b → H' x = H x) ∧ ∃ (c : List Int) (m : Nat), r = .msl b n 1 0 m ∧ H' b = some (c.map (AV.int .i64)) ∧ c.length = n ∧ m ≤ n ∧ c.take m = l.filter fun x => !p x := by
  refine Abs.Fn.of_c2 follows is55 (Nat.le_of_ble_eq_true rfl) ?_
  simp only [b55, O, G, N, M, D, F, B2, cFal, cTru]
  refine w_seq ?_
  repeat' (first | apply w_ops0 | apply a_n | apply o_nil | (apply o_val rfl rfl; (focus ((try simp (disch := omega) only [simB0, ZA, reduceEqDiff, ↓reduceIte, reduceAdd, reduceLeDiff, ZV, reduceCtorEq]); first | with_reducible rfl | (apply s_ite; (focus omega); with_reducible rfl)))))
  refine w_seq ?_
  repeat' (first | apply w_ops0 | (apply o_val rfl rfl; (focus ((try simp (disch := omega) only [simB0, ZA, reduceEqDiff, ↓reduceIte, reduceAdd, reduceLeDiff, ZV, reduceCtorEq]); first | with_reducible rfl | (apply s_ite; (focus omega); with_reducible rfl)))))
  refine o_callP (by ((try simp only [simB0, ZA, reduceEqDiff, ↓reduceIte, reduceAdd, reduceLeDiff]); (try with_reducible rfl))) (by ((try simp only [simB0, ZA, reduceEqDiff, ↓reduceIte, reduceAdd, reduceLeDiff]); (try with_reducible rfl))) (indexF_c l p g caps hd hg hl) (snap_plain (snapL_cons (snap_row hb rfl hn) (snapL_cons (Dat.func hd H) snapL_nil)) rfl) ?_
  repeat' (first | apply a_n | apply o_nil | (apply o_val rfl rfl; (focus ((try simp (disch := omega) only [simB0, ZA, reduceEqDiff, ↓reduceIte, reduceAdd, reduceLeDiff, ZV, reduceCtorEq]); first | with_reducible rfl | (apply s_ite; (focus omega); with_reducible rfl)))))
  refine w_seqC (fun T H' nx' => H' = H ∧ nx' = nx ∧ T 0 = .msl b n 1 0 n ∧ T 1 = .func g caps ∧ T 5 = .int .i64 (idxF l p) ∧ idxF l p ≠ -1) ?_ ?_
  · repeat' (first | apply w_seq | apply w_ops0 | apply w_skip | apply w_ret | apply a_n | apply a_r | apply o_nil | (apply o_val rfl rfl; (focus ((try simp (disch := omega) only [simB0, ZA, reduceEqDiff, ↓reduceIte, reduceAdd, reduceLeDiff, ZV, reduceCtorEq, hb]); first | with_reducible rfl | (apply s_ite; (focus omega); with_reducible rfl)))) | (apply w_cond; (focus ((try simp only [simB0, ZA, reduceEqDiff, ↓reduceIte, reduceAdd, reduceLeDiff, hb]); (try with_reducible rfl); done)); all_goals (intro _hg; (try simp only [ZB] at _hg); try first | exact absurd trivial _hg | (exfalso; omega))) | (refine e_ends rfl ?_) | (apply r_1; (focus (simp only [rv, simB0, ZA, reduceEqDiff, ↓reduceIte, reduceAdd, reduceLeDiff, hb]; with_reducible rfl))))
    · refine ⟨rfl, fun _ _ => rfl, l, n, rfl, hb, hn, Nat.le_refl _, ?_⟩
      unfold idxF at _hg
      split at _hg
      · omega
      · rename_i h
        rw [List.take_of_length_le (by omega), List.filter_eq_self.2]
        intro x hx
        simp only [Bool.not_eq_true, List.any_eq_false] at h
        simp [h x hx]
    · exact ⟨rfl, rfl, rfl, rfl, rfl, _hg⟩
  · rintro T H nx ⟨rfl, rfl, t0, t1, t5, hne⟩
    obtain ⟨k, hk, hk1, hk2, hk3⟩ : ∃ k : Nat, idxF l p = k ∧ k < l.length ∧ p (l.getD k default) = true ∧ ∀ i, i < k → p (l.getD i default) = false := by
      unfold idxF at hne ⊢
      split at hne
      · rename_i h
        rw [if_pos h]
        have hlt : l.findIdx p < l.length := List.findIdx_lt_length.2 (by simpa [List.any_eq_true] using h)
        refine ⟨_, rfl, hlt, ?_, fun i hi => ?_⟩
        · have := List.findIdx_getElem (w := hlt)
          simpa [List.getD, hlt] using this
        · have := List.not_of_lt_findIdx hi
          simpa [List.getD, show i < l.length by omega] using this
      · exact absurd rfl hne
    rw [hk] at t5
    refine w_seq (w_seq ?_)
    repeat' (first | apply w_ops0 | apply a_n | apply o_nil | (apply o_val rfl rfl; (focus ((try simp (disch := omega) only [simB0, ZA, reduceEqDiff, ↓reduceIte, reduceAdd, reduceLeDiff, ZV, reduceCtorEq, t0, t1, t5]); first | with_reducible rfl | (apply s_ite; (focus omega); with_reducible rfl)))))
    refine w_block (w_loop ?_)
    refine loopI (X := List Int × Nat × Nat) (fun x => [(0, .msl b n 1 0 n), (1, .func g caps), (5, .int .i64 x.2.1), (6, .int .i64 x.2.2)])
      (fun x H' nx' => nx' = nx ∧ (∀ y, y ≠ b → H' y = H y) ∧ H' b = some (x.1.map (AV.int .i64)) ∧ x.1.length = n ∧ x.2.1 < x.2.2 ∧ x.2.2 ≤ n ∧ x.1.take x.2.1 = (l.take x.2.2).filter (fun x => !p x) ∧ x.1.drop x.2.2 = l.drop x.2.2) (fun x => n - x.2.2) (l, k, k + 1)
      ⟨rfl, fun _ _ => rfl, hb, hn, Nat.lt_succ_self _, by show k + 1 ≤ n; omega, ?_, rfl⟩ (by simp (disch := omega) only [agr, ZG, reduceEqDiff, ↓reduceIte, t0, t1, t5]) ?_
    · rw [take_succ' hk1, List.filter_append, List.filter_cons]
      simp only [hk2, Bool.not_true, Bool.false_eq_true, if_false, List.filter_nil, List.append_nil]
      symm
      rw [List.filter_eq_self]
      intro x hx
      obtain ⟨i, hi, e⟩ := List.getElem_of_mem hx
      rw [List.length_take] at hi
      have := hk3 i (by omega)
      rw [show l.getD i default = x by rw [← e]; simp [List.getD, show i < l.length by omega]] at this
      simp [this]
    · rintro ⟨c, i, j⟩ H' nx' ⟨rfl, e1, e2, e3, e4, e5, e6, e7⟩
      dsimp only at e2 e3 e4 e5 e6 e7 ⊢
      have hgj : j < n → c.getD j default = l.getD j default := fun h => by
        have : (c.drop j).getD 0 default = (l.drop j).getD 0 default := by rw [e7]
        simpa [List.getD] using this
      repeat' (first | apply w_seq | apply w_ops0 | apply w_block | apply w_skip | apply w_exit | apply a_n | apply a_x | apply o_nil | (apply o_val rfl rfl; (focus ((try simp (disch := omega) only [simB0, ZA, reduceEqDiff, ↓reduceIte, reduceAdd, reduceLeDiff, ZV, reduceCtorEq, e2, e3]); first | with_reducible rfl | (apply s_ite; (focus omega); with_reducible rfl)))) | (apply w_cond; (focus ((try simp only [simB0, ZA, reduceEqDiff, ↓reduceIte, reduceAdd, reduceLeDiff, e2, e3]); (try with_reducible rfl); done)); all_goals (intro _hg; (try simp only [ZB] at _hg); try first | exact absurd trivial _hg | (exfalso; omega))))
      · rw [hgj (by omega)]
        refine o_callP (by ((try simp only [simB0, ZA, reduceEqDiff, ↓reduceIte, reduceAdd, reduceLeDiff]); (try with_reducible rfl))) (by ((try simp only [simB0, ZA, reduceEqDiff, ↓reduceIte, reduceAdd, reduceLeDiff]); (try with_reducible rfl))) (hg _ (mem_getD (by omega))) (snap_plain (snapL_cons (.int _ _) (snapL_datL hd)) rfl) ?_
        repeat' (first | apply w_seq | apply w_ops0 | apply w_skip | apply a_n | apply o_nil | (apply o_val rfl rfl; (focus ((try simp (disch := omega) only [simB0, ZA, reduceEqDiff, ↓reduceIte, reduceAdd, reduceLeDiff, ZV, reduceCtorEq, e2, e3]); first | with_reducible rfl | (apply s_ite; (focus omega); with_reducible rfl)))) | (apply e_st rfl; (iterate 4 (focus ((try simp only [simB0, ZA, reduceEqDiff, ↓reduceIte, reduceAdd, reduceLeDiff, e2, e3]); (try with_reducible rfl); done))); (focus (simp only [SO, Bool.and_self, one_encV, one_encVV, e2, e3])); (iterate 3 (focus ((try simp only [SL, reduceAdd, Nat.reduceMul, List.length_map]); first | done | omega)))) | (apply w_cond; (focus ((try simp only [simB0, ZA, reduceEqDiff, ↓reduceIte, reduceAdd, reduceLeDiff, e2, e3]); (try with_reducible rfl); done)); all_goals (intro _hg; (try simp only [ZB] at _hg); try first | exact absurd trivial _hg | (exfalso; omega))))
        · refine ⟨(c.set i (l.getD j default), i + 1, j + 1), by dsimp only; omega, ⟨rfl, fun y hy => by rw [hupd_ne hy, e1 y hy], ?_, by simpa using e3, by dsimp only; omega, by dsimp only; omega, ?_, ?_⟩, by simp (disch := omega) only [agr, ZG, reduceEqDiff, ↓reduceIte]⟩
          · rw [hupd_self', lput_map (by omega)]
          · dsimp only
            rw [take_succ' (l := l) (by omega), List.filter_append, ← e6, List.filter_cons, List.filter_nil, _hg, if_pos (by rfl), take_succ' (by simp; omega)]
            rw [List.take_set_of_le (Nat.le_refl _), List.getD_eq_getElem?_getD, List.getElem?_set_self (by omega)]; rfl
          · dsimp only
            rw [List.drop_set_of_lt (by omega)]
            have : (c.drop j).drop 1 = (l.drop j).drop 1 := by rw [e7]
            simpa using this
        · refine ⟨(c, i, j + 1), by dsimp only; omega, ⟨rfl, e1, e2, e3, by dsimp only; omega, by dsimp only; omega, ?_, ?_⟩, by simp (disch := omega) only [agr, ZG, reduceEqDiff, ↓reduceIte]⟩
          · dsimp only
            rw [take_succ' (l := l) (by omega), List.filter_append, ← e6, List.filter_cons, List.filter_nil, _hg]
            simp
          · dsimp only
            have : (c.drop j).drop 1 = (l.drop j).drop 1 := by rw [e7]
            simpa using this
      · repeat' (first | (apply o_val rfl rfl; (focus ((try simp (disch := omega) only [simB0, ZA, reduceEqDiff, ↓reduceIte, reduceAdd, reduceLeDiff, ZV, reduceCtorEq, e2, e3, asls_lo, asls_hi]); first | with_reducible rfl | (apply s_ite; (focus omega); with_reducible rfl)))))
        refine o_clr (by ((try simp only [simB0, ZA, reduceEqDiff, ↓reduceIte, reduceAdd, reduceLeDiff]); (try with_reducible rfl)); exact aclear_int (by omega) e2 e3) ?_
        repeat' (first | apply w_seq | apply w_ops0 | apply w_ret | apply a_n | apply o_nil | (apply o_val rfl rfl; (focus ((try simp (disch := omega) only [simB0, ZA, reduceEqDiff, ↓reduceIte, reduceAdd, reduceLeDiff, ZV, reduceCtorEq, e2, e3, asls_lo, asls_hi]); first | with_reducible rfl | (apply s_ite; (focus omega); with_reducible rfl)))) | (refine e_ends rfl ?_) | (apply r_1; (focus (simp only [rv, simB0, ZA, reduceEqDiff, ↓reduceIte, reduceAdd, reduceLeDiff, e2, e3, asls_lo, asls_hi]; with_reducible rfl))))
        refine ⟨rfl, fun x hx => by rw [hupd_ne hx, e1 x hx], _, i, rfl, hupd_self', by simp; omega, by omega, ?_⟩
        rw [List.take_of_length_le (i := j) (by omega)] at e6
        rw [← e6, List.take_append_of_le_length (by simp; omega), List.take_take, Nat.min_self]

theorem crusader1_c (v : Int) (l m : List Int) (hm : Sh m) (h0 : m ≠ []) : Pure Try.prog 54 [encV l, encV m, .iptr [.int .i64 v] 0] (.bool (decide ((kinds (m.filter fun x => !decide (x = v))).length ≤ 1))) := by
  refine Pure.of_c2 follows is54 (Nat.le_of_ble_eq_true rfl) ?_
  simp only [b54, O, G, N, M, D, F, B2, cFal, cTru]
  refine w_seq ?_
  repeat' (first | apply w_ops0 | apply a_n | apply o_nil | (apply o_val rfl rfl; (focus ((try simp (disch := omega) only [simB0, ZA, reduceEqDiff, ↓reduceIte, reduceAdd, reduceLeDiff, ZV, reduceCtorEq]); first | with_reducible rfl | (apply s_ite; (focus omega); with_reducible rfl)))))
  refine w_seq ?_
  repeat' (first | apply w_ops0 | (apply o_val rfl rfl; (focus ((try simp (disch := omega) only [simB0, ZA, reduceEqDiff, ↓reduceIte, reduceAdd, reduceLeDiff, ZV, reduceCtorEq]); first | with_reducible rfl | (apply s_ite; (focus omega); with_reducible rfl)))))
  refine o_call (by ((try simp only [simB0, ZA, reduceEqDiff, ↓reduceIte, reduceAdd, reduceLeDiff]); (try with_reducible rfl))) (Abs.Fn.mono (by ((try simp only [simB0, ZA, reduceEqDiff, ↓reduceIte, reduceAdd, reduceLeDiff]); (try with_reducible rfl)); exact cloneM_c m hm h0 _ _) ?_)
  rintro _ _ _ ⟨rfl, rfl, rfl⟩
  repeat' (first | (apply o_val rfl rfl; (focus ((try simp (disch := omega) only [simB0, ZA, reduceEqDiff, ↓reduceIte, reduceAdd, reduceLeDiff, ZV, reduceCtorEq]); first | with_reducible rfl | (apply s_ite; (focus omega); with_reducible rfl)))))
  refine o_call (by ((try simp only [simB0, ZA, reduceEqDiff, ↓reduceIte, reduceAdd, reduceLeDiff]); (try with_reducible rfl))) (Abs.Fn.mono (by ((try simp only [simB0, ZA, reduceEqDiff, ↓reduceIte, reduceAdd, reduceLeDiff]); (try with_reducible rfl)); exact delete_c m (fun x => decide (x = v)) 56 _ (DatL.cons (Dat.iptr (DatL.cons .int DatL.nil)) DatL.nil) (fun x _ => crusader11_c x v) hm 0 m.length rfl _ _ hupd_self') ?_)
  rintro _ H nx ⟨rfl, h1, c, k, rfl, h2, h3, h4, h5⟩
  repeat' (first | apply a_n | apply o_nil | (apply o_val rfl rfl; (focus ((try simp (disch := omega) only [simB0, ZA, reduceEqDiff, ↓reduceIte, reduceAdd, reduceLeDiff, ZV, reduceCtorEq]); first | with_reducible rfl | (apply s_ite; (focus omega); with_reducible rfl)))))
  refine w_seq ?_
  repeat' (first | apply w_ops0 | (apply o_val rfl rfl; (focus ((try simp (disch := omega) only [simB0, ZA, reduceEqDiff, ↓reduceIte, reduceAdd, reduceLeDiff, ZV, reduceCtorEq]); first | with_reducible rfl | (apply s_ite; (focus omega); with_reducible rfl)))))
  have hs : Sh (m.filter fun x => !decide (x = v)) := Nat.le_trans (List.length_filter_le _ _) hm
  refine o_callP (by ((try simp only [simB0, ZA, reduceEqDiff, ↓reduceIte, reduceAdd, reduceLeDiff]); (try with_reducible rfl))) (by ((try simp only [simB0, ZA, reduceEqDiff, ↓reduceIte, reduceAdd, reduceLeDiff]); (try with_reducible rfl))) (different_c _ hs) (snap_plain (snapL_cons (snap_pre h2 (by omega) h4 h5) snapL_nil) rfl) ?_
  repeat' (first | apply w_ret | apply a_n | apply o_nil | (apply o_val rfl rfl; (focus ((try simp (disch := omega) only [simB0, ZA, reduceEqDiff, ↓reduceIte, reduceAdd, reduceLeDiff, ZV, reduceCtorEq]); first | with_reducible rfl | (apply s_ite; (focus omega); with_reducible rfl)))) | (refine e_ends rfl ?_) | (apply r_1; (focus (simp only [rv, simB0, ZA, reduceEqDiff, ↓reduceIte, reduceAdd, reduceLeDiff]; with_reducible rfl))))
  refine snap_bool ?_
  simp only [Int.ofNat_le, show (1 : Int) = ((1 : Nat) : Int) from rfl]

/-! ### the other tasks -/
def kCrus (n v : Int) : KindV := ⟨n.toNat, v.toNat, (moreI v).toNat, false, fun _ => true, fun _ m => decide ((kinds (m.filter fun x => !decide (x = v))).length ≤ 1), fun l m => eqv m (l.getD 0 default)⟩
def crusT (n v : Int) : TaskV × Int := taskI n v (moreI v) (-1) (kCrus n v)
theorem made_crus (n v : Int) : Pure Try.prog 45 [.agg [.int .i64 n, .int .i64 v, .int .i64 (moreI v), .int .i64 (-1), .nilf, .func 54 [.iptr [.int .i64 v] 0], .func 57 []]] (.tup [encT (crusT n v).1, .int .i64 (crusT n v).2]) := by
  refine made_all n v (moreI v) (-1) (kCrus n v) _ _ _ DatF.nil (DatF.fun1 .int) DatF.fun0 (fun h => ?_)
  unfold inR at h
  have h5 : (kCrus n v).n ≤ 5 := by show n.toNat ≤ 5; omega
  have h1 : (kCrus n v).n ≠ 0 := by show n.toNat ≠ 0; omega
  refine ⟨by show (n.toNat : Int) = n; omega, by show (v.toNat : Int) = v; omega, by show ((moreI v).toNat : Int) = moreI v; omega, ⟨.inl ⟨rfl, fun _ => rfl⟩⟩, by simp [kCrus], Cond2.fun1 .int (fun x hx y hy => ?_), .inr (Cond2.fun0 fun x hx y hy => ?_)⟩
  · exact crusader1_c v x y (every_sh h5 hy) (every_ne h1 hy)
  · exact crusader2_c x y (every_ne h1 hx) (every_sh h5 hx) (every_sh h5 hy)

theorem crus_c (n v : Int) : Pure Try.prog 13 [.int .i64 n, .int .i64 v] (.tup [encT (crusT n v).1, .int .i64 (crusT n v).2]) := by
  refine Pure.of_c2 follows is13 (Nat.le_of_ble_eq_true rfl) ?_
  simp only [b13, O, G, N, M, D, F, B2, cFal, cTru]
  have hm := made_crus n v
  unfold moreI at hm
  refine w_seq ?_
  repeat' (first | apply w_ops0 | apply a_n | apply o_nil | (apply o_val rfl rfl; (focus ((try simp (disch := omega) only [simB0, ZA, reduceEqDiff, ↓reduceIte, reduceAdd, reduceLeDiff, ZV, reduceCtorEq]); first | with_reducible rfl | (apply s_ite; (focus omega); with_reducible rfl)))) | (apply e_alloc rfl; (focus ((try simp only [simB0, ZA, reduceEqDiff, ↓reduceIte, reduceAdd, reduceLeDiff]); (try with_reducible rfl); done)); (focus (simp only [SO, Bool.and_self, one_encV, one_encVV]))) | (apply e_box rfl; (iterate 2 (focus ((try simp only [simB0, ZA, reduceEqDiff, ↓reduceIte, reduceAdd, reduceLeDiff]); (try with_reducible rfl); done))); (focus (simp only [SO, Bool.and_self, one_encV, one_encVV]))))
  refine w_seq ?_
  refine w_mixS1F (only 0 [.int .i64 v]) _ [(0, .int .i64 n), (3, .iptr [.int .i64 v] 0), (4, .ptr 1 4 0)] (Fz.one (by ((try simp only [simB0, ZA, reduceEqDiff, ↓reduceIte, reduceAdd, reduceLeDiff]); (try with_reducible rfl)))) ⟨.inl (by ((try simp only [simB0, ZA, reduceEqDiff, ↓reduceIte, reduceAdd, reduceLeDiff]); (try with_reducible rfl))), .inr ?_, .inl (by ((try simp only [simB0, ZA, reduceEqDiff, ↓reduceIte, reduceAdd, reduceLeDiff]); (try with_reducible rfl))), trivial⟩ ?_
  · ((try simp only [simB0, ZA, reduceEqDiff, ↓reduceIte, reduceAdd, reduceLeDiff]); (try with_reducible rfl))
    exact snap_ptr only_at rfl (snapL_cons (.int _ _) snapL_nil)
  repeat' (first | apply w_ret | apply a_n | apply o_nil | (apply o_val rfl rfl; (focus ((try simp (disch := omega) only [simB0, ZA, reduceEqDiff, ↓reduceIte, reduceAdd, reduceLeDiff, ZV, reduceCtorEq, encT_cells, encCs_one, encCs_cells]); first | with_reducible rfl | (apply s_ite; (focus omega); with_reducible rfl)))) | (apply o_callD; (iterate 2 (focus ((try simp only [simB0, ZA, reduceEqDiff, ↓reduceIte, reduceAdd, reduceLeDiff, encT_cells, encCs_one, encCs_cells]); (try with_reducible rfl); done))); (focus (first | (exact more_c _) | (exact hm))); (focus ((first | refine snap_plain ?_ rfl | apply snap_data); repeat' (first | exact snapL_nil | apply snapL_i | apply snapL_dat | exact kind_dat DatF.nil (DatF.fun1 .int) DatF.fun0)))) | (apply e_st rfl; (iterate 4 (focus ((try simp only [simB0, ZA, reduceEqDiff, ↓reduceIte, reduceAdd, reduceLeDiff, encT_cells, encCs_one, encCs_cells]); (try with_reducible rfl); done))); (focus (simp only [SO, Bool.and_self, one_encV, one_encVV, encT_cells, encCs_one, encCs_cells])); (iterate 3 (focus ((try simp only [SL, reduceAdd, Nat.reduceMul, List.length_map]); first | done | omega)))) | (refine e_ends rfl ?_) | (apply r_2; (iterate 2 (focus (simp only [rv, simB0, ZA, reduceEqDiff, ↓reduceIte, reduceAdd, reduceLeDiff, encT_cells, encCs_one, encCs_cells]; with_reducible rfl)))))
  exact encTE_dat _ _ _

def kRen (n i o : Int) : KindV := ⟨n.toNat, i.toNat, o.toNat, true, fun l => decide ((kinds l).length = l.length), fun _ m => decide ((kinds m).length = m.length), fun _ _ => false⟩
def renT (n i o : Int) : TaskV × Int := taskI n i o (-1) (kRen n i o)
theorem made_ren (n i o : Int) : Pure Try.prog 45 [.agg [.int .i64 n, .int .i64 i, .int .i64 o, .int .i64 (-1), .func 76 [], .func 77 [], .nilf]] (.tup [encT (renT n i o).1, .int .i64 (renT n i o).2]) := by
  refine made_all n i o (-1) (kRen n i o) _ _ _ DatF.fun0 DatF.fun0 DatF.nil (fun h => ?_)
  unfold inR at h
  have h5 : (kRen n i o).n ≤ 5 := by show n.toNat ≤ 5; omega
  refine ⟨by show (n.toNat : Int) = n; omega, by show (i.toNat : Int) = i; omega, by show (o.toNat : Int) = o; omega, ⟨.inr ⟨76, [], rfl, DatL.nil, fun x hx => ?_⟩⟩, by simp [kRen], Cond2.fun0 (fun x hx y hy => ?_), .inl ⟨rfl, fun _ _ => rfl⟩⟩
  · exact renaming1_c x (every_sh h5 hx)
  · exact renaming2_c x y (every_sh h5 hy)
theorem ren_c (n i o : Int) : Pure Try.prog 35 [.int .i64 n, .int .i64 i, .int .i64 o] (.tup [encT (renT n i o).1, .int .i64 (renT n i o).2]) := by
  refine Pure.of_c2 follows is35 (Nat.le_of_ble_eq_true rfl) ?_
  simp only [b35, O, G, N, M, D, F, B2, cFal, cTru]
  have hm := made_ren n i o
  repeat' (first | apply w_seq | apply w_ops0 | apply w_ret | apply a_n | apply o_nil | (apply o_val rfl rfl; (focus ((try simp (disch := omega) only [simB0, ZA, reduceEqDiff, ↓reduceIte, reduceAdd, reduceLeDiff, ZV, reduceCtorEq, encT_cells, encCs_one, encCs_cells]); first | with_reducible rfl | (apply s_ite; (focus omega); with_reducible rfl)))) | (apply o_callD; (iterate 2 (focus ((try simp only [simB0, ZA, reduceEqDiff, ↓reduceIte, reduceAdd, reduceLeDiff, encT_cells, encCs_one, encCs_cells]); (try with_reducible rfl); done))); (focus (first | (exact hm))); (focus ((first | refine snap_plain ?_ rfl | apply snap_data); repeat' (first | exact snapL_nil | apply snapL_i | apply snapL_dat | exact kind_dat DatF.fun0 DatF.fun0 DatF.nil)))) | (apply e_alloc rfl; (focus ((try simp only [simB0, ZA, reduceEqDiff, ↓reduceIte, reduceAdd, reduceLeDiff, encT_cells, encCs_one, encCs_cells]); (try with_reducible rfl); done)); (focus (simp only [SO, Bool.and_self, one_encV, one_encVV, encT_cells, encCs_one, encCs_cells]))) | (apply e_st rfl; (iterate 4 (focus ((try simp only [simB0, ZA, reduceEqDiff, ↓reduceIte, reduceAdd, reduceLeDiff, encT_cells, encCs_one, encCs_cells]); (try with_reducible rfl); done))); (focus (simp only [SO, Bool.and_self, one_encV, one_encVV, encT_cells, encCs_one, encCs_cells])); (iterate 3 (focus ((try simp only [SL, reduceAdd, Nat.reduceMul, List.length_map]); first | done | omega)))) | (refine e_ends rfl ?_) | (apply r_2; (iterate 2 (focus (simp only [rv, simB0, ZA, reduceEqDiff, ↓reduceIte, reduceAdd, reduceLeDiff, encT_cells, encCs_one, encCs_cells]; with_reducible rfl)))))
  exact encTE_dat _ _ _

def kLead (n : Int) : KindV := ⟨n.toNat, 1, 2, false, fun _ => true, fun _ m => decide (m.sum = 1), fun _ _ => false⟩
def leadT (n : Int) : TaskV × Int := taskI n 1 2 (-1) (kLead n)
theorem made_lead (n : Int) : Pure Try.prog 45 [.agg [.int .i64 n, .int .i64 1, .int .i64 2, .int .i64 (-1), .nilf, .func 78 [], .nilf]] (.tup [encT (leadT n).1, .int .i64 (leadT n).2]) := by
  refine made_all n 1 2 (-1) (kLead n) _ _ _ DatF.nil DatF.fun0 DatF.nil (fun h => ?_)
  unfold inR at h
  have h5 : (kLead n).n ≤ 5 := by show n.toNat ≤ 5; omega
  refine ⟨by show (n.toNat : Int) = n; omega, rfl, rfl, ⟨.inl ⟨rfl, fun _ => rfl⟩⟩, by simp [kLead], Cond2.fun0 (fun x hx y hy => ?_), .inl ⟨rfl, fun _ _ => rfl⟩⟩
  exact leader1_c x y (every_sh h5 hy) (fun a ha => by have := every_mem _ _ y hy a ha; have : (kLead n).outs = 2 := rfl; omega)
theorem lead_c (n : Int) : Pure Try.prog 38 [.int .i64 n] (.tup [encT (leadT n).1, .int .i64 (leadT n).2]) := by
  refine Pure.of_c2 follows is38 (Nat.le_of_ble_eq_true rfl) ?_
  simp only [b38, O, G, N, M, D, F, B2, cFal, cTru]
  have hm := made_lead n
  repeat' (first | apply w_seq | apply w_ops0 | apply w_ret | apply a_n | apply o_nil | (apply o_val rfl rfl; (focus ((try simp (disch := omega) only [simB0, ZA, reduceEqDiff, ↓reduceIte, reduceAdd, reduceLeDiff, ZV, reduceCtorEq, encT_cells, encCs_one, encCs_cells]); first | with_reducible rfl | (apply s_ite; (focus omega); with_reducible rfl)))) | (apply o_callD; (iterate 2 (focus ((try simp only [simB0, ZA, reduceEqDiff, ↓reduceIte, reduceAdd, reduceLeDiff, encT_cells, encCs_one, encCs_cells]); (try with_reducible rfl); done))); (focus (first | (exact hm))); (focus ((first | refine snap_plain ?_ rfl | apply snap_data); repeat' (first | exact snapL_nil | apply snapL_i | apply snapL_dat | exact kind_dat DatF.nil DatF.fun0 DatF.nil)))) | (apply e_alloc rfl; (focus ((try simp only [simB0, ZA, reduceEqDiff, ↓reduceIte, reduceAdd, reduceLeDiff, encT_cells, encCs_one, encCs_cells]); (try with_reducible rfl); done)); (focus (simp only [SO, Bool.and_self, one_encV, one_encVV, encT_cells, encCs_one, encCs_cells]))) | (apply e_st rfl; (iterate 4 (focus ((try simp only [simB0, ZA, reduceEqDiff, ↓reduceIte, reduceAdd, reduceLeDiff, encT_cells, encCs_one, encCs_cells]); (try with_reducible rfl); done))); (focus (simp only [SO, Bool.and_self, one_encV, one_encVV, encT_cells, encCs_one, encCs_cells])); (iterate 3 (focus ((try simp only [SL, reduceAdd, Nat.reduceMul, List.length_map]); first | done | omega)))) | (refine e_ends rfl ?_) | (apply r_2; (iterate 2 (focus (simp only [rv, simB0, ZA, reduceEqDiff, ↓reduceIte, reduceAdd, reduceLeDiff, encT_cells, encCs_one, encCs_cells]; with_reducible rfl)))))
  exact encTE_dat _ _ _

def kCom (n : Int) : KindV := ⟨n.toNat, 2, 2, false, fun _ => true, fun l m => eqv m 0 || eqv m 1 && decide (l.foldl min (l.getD 0 default) = 1), fun l m => eqv m (l.foldl min (l.getD 0 default))⟩
def comT (n : Int) : TaskV × Int := taskI n 2 2 (-1) (kCom n)
theorem made_com (n : Int) : Pure Try.prog 45 [.agg [.int .i64 n, .int .i64 2, .int .i64 2, .int .i64 (-1), .nilf, .func 62 [.iptr [.func 61 []] 0], .func 63 [.iptr [.func 61 []] 0]]] (.tup [encT (comT n).1, .int .i64 (comT n).2]) := by
  have hd : Dat (.func 61 []) := Dat.func DatL.nil
  refine made_all n 2 2 (-1) (kCom n) _ _ _ DatF.nil (DatF.fun1 hd) (DatF.fun1 hd) (fun h => ?_)
  unfold inR at h
  have h5 : (kCom n).n ≤ 5 := by show n.toNat ≤ 5; omega
  have h1 : (kCom n).n ≠ 0 := by show n.toNat ≠ 0; omega
  refine ⟨by show (n.toNat : Int) = n; omega, rfl, rfl, ⟨.inl ⟨rfl, fun _ => rfl⟩⟩, by simp [kCom], Cond2.fun1 hd (fun x hx y hy => ?_), .inr (Cond2.fun1 hd fun x hx y hy => ?_)⟩
  · exact commit2_c x y (every_ne h1 hx) (every_sh h5 hx) (every_sh h5 hy)
  · exact commit3_c x y (every_ne h1 hx) (every_sh h5 hx) (every_sh h5 hy)
theorem com_c (n : Int) : Pure Try.prog 23 [.int .i64 n] (.tup [encT (comT n).1, .int .i64 (comT n).2]) := by
  refine Pure.of_c2 follows is23 (Nat.le_of_ble_eq_true rfl) ?_
  simp only [b23, O, G, N, M, D, F, B2, cFal, cTru]
  have hm := made_com n
  have hd : Dat (.func 61 []) := Dat.func DatL.nil
  refine w_seq ?_
  repeat' (first | apply w_ops0 | apply a_n | apply o_nil | (apply o_val rfl rfl; (focus ((try simp (disch := omega) only [simB0, ZA, reduceEqDiff, ↓reduceIte, reduceAdd, reduceLeDiff, ZV, reduceCtorEq]); first | with_reducible rfl | (apply s_ite; (focus omega); with_reducible rfl)))) | (apply e_alloc rfl; (focus ((try simp only [simB0, ZA, reduceEqDiff, ↓reduceIte, reduceAdd, reduceLeDiff]); (try with_reducible rfl); done)); (focus (simp only [SO, Bool.and_self, one_encV, one_encVV]))))
  refine w_seq ?_
  repeat' (first | apply w_ops0 | apply a_n | apply o_nil | (apply e_alloc rfl; (focus ((try simp only [simB0, ZA, reduceEqDiff, ↓reduceIte, reduceAdd, reduceLeDiff]); (try with_reducible rfl); done)); (focus (simp only [SO, Bool.and_self, one_encV, one_encVV]))) | (apply e_st rfl; (iterate 4 (focus ((try simp only [simB0, ZA, reduceEqDiff, ↓reduceIte, reduceAdd, reduceLeDiff]); (try with_reducible rfl); done))); (focus (simp only [SO, Bool.and_self, one_encV, one_encVV])); (iterate 3 (focus ((try simp only [SL, reduceAdd, Nat.reduceMul, List.length_map]); first | done | omega)))))
  refine w_seq ?_
  refine w_ops0F (only 1 [.func 61 []]) _ [(0, .int .i64 n), (4, .iptr [.func 61 []] 0), (2, .ptr 0 4 0)] (Fz.one (by ((try simp only [simB0, ZA, reduceEqDiff, ↓reduceIte, reduceAdd, reduceLeDiff]); (try with_reducible rfl)))) ⟨.inl (by ((try simp only [simB0, ZA, reduceEqDiff, ↓reduceIte, reduceAdd, reduceLeDiff]); (try with_reducible rfl))), .inr ?_, .inl (by ((try simp only [simB0, ZA, reduceEqDiff, ↓reduceIte, reduceAdd, reduceLeDiff]); (try with_reducible rfl))), trivial⟩ ?_
  · ((try simp only [simB0, ZA, reduceEqDiff, ↓reduceIte, reduceAdd, reduceLeDiff]); (try with_reducible rfl))
    exact snap_ptr only_at rfl (snapL_cons (hd _) snapL_nil)
  repeat' (first | apply w_ret | apply a_n | apply o_nil | (apply o_val rfl rfl; (focus ((try simp (disch := omega) only [simB0, ZA, reduceEqDiff, ↓reduceIte, reduceAdd, reduceLeDiff, ZV, reduceCtorEq, encT_cells, encCs_one, encCs_cells]); first | with_reducible rfl | (apply s_ite; (focus omega); with_reducible rfl)))) | (apply o_callD; (iterate 2 (focus ((try simp only [simB0, ZA, reduceEqDiff, ↓reduceIte, reduceAdd, reduceLeDiff, encT_cells, encCs_one, encCs_cells]); (try with_reducible rfl); done))); (focus (first | (exact hm))); (focus ((first | refine snap_plain ?_ rfl | apply snap_data); repeat' (first | exact snapL_nil | apply snapL_i | apply snapL_dat | exact kind_dat DatF.nil (DatF.fun1 hd) (DatF.fun1 hd))))) | (apply e_st rfl; (iterate 4 (focus ((try simp only [simB0, ZA, reduceEqDiff, ↓reduceIte, reduceAdd, reduceLeDiff, encT_cells, encCs_one, encCs_cells]); (try with_reducible rfl); done))); (focus (simp only [SO, Bool.and_self, one_encV, one_encVV, encT_cells, encCs_one, encCs_cells])); (iterate 3 (focus ((try simp only [SL, reduceAdd, Nat.reduceMul, List.length_map]); first | done | omega)))) | (refine e_ends rfl ?_) | (apply r_2; (iterate 2 (focus (simp only [rv, simB0, ZA, reduceEqDiff, ↓reduceIte, reduceAdd, reduceLeDiff, encT_cells, encCs_one, encCs_cells]; with_reducible rfl)))))
  exact encTE_dat _ _ _

end Go.Proofs.Ytcbkggfipdldaaa

/- P10: contracts of functions and plain laws; for all inputs that the theorems name. -/
namespace Go.Proofs.Ytcbkggfipdldaaa
open Go Go.Abs
open Nat (reduceEqDiff reduceAdd reduceLeDiff)
attribute [local irreducible] awp2 aops2 ains aloop athen bbind obind gbind acond res1 Go.Abs.Fn PCall Go.Abs.Pure SnapArgs SnapL Yl

/-! ### the reference's conditions -/
theorem occurs_c (l : List Int) (v : Int) (hl : Sh l) : Pure Try.prog 129 [encV l, .int .i64 v] (.bool (decide (v ∈ l))) := by
  refine Pure.of_c2 follows is129 (Nat.le_of_ble_eq_true rfl) ?_
  simp only [b129, O, G, N, M, D, F, B2, cFal, cTru]
  repeat' (first | apply w_seq | apply w_ops0 | apply w_block | apply a_n | apply o_nil | (apply o_val rfl rfl; (focus ((try simp (disch := omega) only [simB0, ZA, reduceEqDiff, ↓reduceIte, reduceAdd, reduceLeDiff, ZV, reduceCtorEq]); first | with_reducible rfl | (apply s_ite; (focus omega); with_reducible rfl)))) | apply w_loop)
  refine loop0 (X := Nat) (fun k => [(0, encV l), (1, .int .i64 v), (5, .int .i64 k)]) (fun k => k ≤ l.length ∧ ∀ i, i < k → l.getD i default ≠ v) (fun k => l.length - k) 0 ⟨Nat.zero_le _, by simp⟩ (by simp (disch := omega) only [agr, ZG, reduceEqDiff, ↓reduceIte]) ?_
  rintro k ⟨h1, h2⟩
  repeat' (first | apply w_seq | apply w_ops0 | apply w_block | apply w_skip | apply w_exit | apply w_ret | apply a_n | apply a_x | apply a_r | apply o_nil | (apply o_val rfl rfl; (focus ((try simp (disch := omega) only [simB0, ZA, reduceEqDiff, ↓reduceIte, reduceAdd, reduceLeDiff, ZV, reduceCtorEq]); first | with_reducible rfl | (apply s_ite; (focus omega); with_reducible rfl)))) | (apply w_cond; (focus ((try simp only [simB0, ZA, reduceEqDiff, ↓reduceIte, reduceAdd, reduceLeDiff]); (try with_reducible rfl); done)); all_goals (intro _hg; (try simp only [ZB] at _hg); try first | exact absurd trivial _hg | (exfalso; omega))) | (refine e_ends rfl ?_) | (apply r_1; (focus (simp only [rv, simB0, ZA, reduceEqDiff, ↓reduceIte, reduceAdd, reduceLeDiff]; with_reducible rfl))))
  · refine snap_bool ?_
    symm
    rw [decide_eq_true_iff, ← _hg]
    exact mem_getD (by omega)
  · refine ⟨k + 1, ⟨by omega, fun i hi => ?_⟩, by omega, by simp (disch := omega) only [agr, ZG, reduceEqDiff, ↓reduceIte], rfl, rfl⟩
    rcases Nat.lt_succ_iff_lt_or_eq.1 hi with h | rfl
    · exact h2 i h
    · exact _hg
  · refine snap_bool ?_
    symm
    rw [decide_eq_false_iff_not]
    intro hm
    obtain ⟨i, hi, e⟩ := List.getElem_of_mem hm
    exact h2 i (by omega) (by simp [List.getD, hi, e])

theorem mem_kinds {l : List Int} {v : Int} : v ∈ kinds l ↔ v ∈ l := by
  suffices h : ∀ (l ks : List Int), v ∈ l.foldl (fun ks v => if v ∈ ks then ks else ks ++ [v]) ks ↔ v ∈ ks ∨ v ∈ l by simpa [kinds] using h l []
  intro l
  induction l with
  | nil => simp
  | cons a l ih =>
    intro ks
    rw [List.foldl_cons, ih]
    split
    · rename_i h
      rw [List.mem_cons]
      constructor
      · rintro (h1 | h1)
        · exact .inl h1
        · exact .inr (.inr h1)
      · rintro (h1 | rfl | h1)
        · exact .inl h1
        · exact .inl h
        · exact .inr h1
    · rw [List.mem_append, List.mem_singleton, List.mem_cons, or_assoc]

theorem asls_encV_hi {l : List Int} {k : Nat} (h : k ≤ l.length) : asls 1 (encV l) none (some (.int .i64 k)) none = some (encV (l.take k)) := by
  simp [asls, abound, encV, h]
theorem different_r (l : List Int) (hl : Sh l) : Pure Try.prog 114 [encV l] (.int .i64 (kinds l).length) := by
  refine Pure.of_c2 follows is114 (Nat.le_of_ble_eq_true rfl) ?_
  simp only [b114, O, G, N, M, D, F, B2, cFal, cTru]
  repeat' (first | apply w_seq | apply w_ops0 | apply w_block | apply a_n | apply o_nil | (apply o_val rfl rfl; (focus ((try simp (disch := omega) only [simB0, ZA, reduceEqDiff, ↓reduceIte, reduceAdd, reduceLeDiff, ZV, reduceCtorEq]); first | with_reducible rfl | (apply s_ite; (focus omega); with_reducible rfl)))) | apply w_loop)
  refine loop0 (X := Nat) (fun k => [(0, encV l), (3, .int .i64 (kinds (l.take k)).length), (4, .int .i64 k)]) (fun k => k ≤ l.length) (fun k => l.length - k) 0 (Nat.zero_le _) (by simp (disch := omega) only [agr, ZG, reduceEqDiff, ↓reduceIte, List.take_zero, show (kinds []).length = 0 from rfl]) ?_
  rintro k hk
  have := kinds_len (l.take k)
  rw [List.length_take] at this
  have hl' : l.length ≤ 1000000000 := hl
  repeat' (first | apply w_seq | apply w_ops0 | apply w_mix1 | apply w_block | apply w_skip | apply w_exit | apply w_ret | apply a_n | apply a_x | apply o_nil | (apply o_val rfl rfl; (focus ((try simp (disch := omega) only [simB0, ZA, reduceEqDiff, ↓reduceIte, reduceAdd, reduceLeDiff, ZV, reduceCtorEq, asls_encV_hi]); first | with_reducible rfl | (apply s_ite; (focus omega); with_reducible rfl)))) | (apply o_callD; (iterate 2 (focus ((try simp only [simB0, ZA, reduceEqDiff, ↓reduceIte, reduceAdd, reduceLeDiff, asls_encV_hi]); (try with_reducible rfl); done))); (focus (first | (exact occurs_c _ _ (Nat.le_trans (by rw [List.length_take]; omega) hl)))); (focus ((first | refine snap_plain ?_ rfl | apply snap_data); repeat' (first | exact snapL_nil | apply snapL_i | apply snapL_dat)))) | (apply w_cond; (focus ((try simp only [simB0, ZA, reduceEqDiff, ↓reduceIte, reduceAdd, reduceLeDiff, asls_encV_hi]); (try with_reducible rfl); done)); all_goals (intro _hg; (try simp only [ZB] at _hg); try first | exact absurd trivial _hg | (exfalso; omega))) | (refine e_ends rfl ?_) | (apply r_1; (focus (simp only [rv, simB0, ZA, reduceEqDiff, ↓reduceIte, reduceAdd, reduceLeDiff, asls_encV_hi]; with_reducible rfl))))
  · refine ⟨k + 1, by omega, by omega, ?_, rfl, rfl⟩
    rw [take_succ' (by omega), kinds_snoc, if_neg (by rwa [mem_kinds])]
    simp (disch := omega) only [agr, ZG, reduceEqDiff, ↓reduceIte, List.length_append, List.length_singleton]
  · refine ⟨k + 1, by omega, by omega, ?_, rfl, rfl⟩
    rw [take_succ' (by omega), kinds_snoc, if_pos (by rwa [mem_kinds])]
    simp (disch := omega) only [agr, ZG, reduceEqDiff, ↓reduceIte]
  · rw [List.take_of_length_le (by omega)]; exact .int _ _

theorem chosen_r (l m : List Int) (hl : Sh l) (hm : Sh m) : Pure Try.prog 132 [encV l, encV m] (.bool (m.all fun v => decide (v ∈ l))) := by
  refine Pure.of_c2 follows is132 (Nat.le_of_ble_eq_true rfl) ?_
  simp only [b132, O, G, N, M, D, F, B2, cFal, cTru]
  repeat' (first | apply w_seq | apply w_ops0 | apply w_block | apply a_n | apply o_nil | (apply o_val rfl rfl; (focus ((try simp (disch := omega) only [simB0, ZA, reduceEqDiff, ↓reduceIte, reduceAdd, reduceLeDiff, ZV, reduceCtorEq]); first | with_reducible rfl | (apply s_ite; (focus omega); with_reducible rfl)))) | apply w_loop)
  refine loop0 (X := Nat) (fun k => [(0, encV l), (1, encV m), (5, .int .i64 k)]) (fun k => k ≤ m.length ∧ ∀ i, i < k → m.getD i default ∈ l) (fun k => m.length - k) 0 ⟨Nat.zero_le _, by simp⟩ (by simp (disch := omega) only [agr, ZG, reduceEqDiff, ↓reduceIte]) ?_
  rintro k ⟨h1, h2⟩
  repeat' (first | apply w_seq | apply w_ops0 | apply w_block | apply w_skip | apply w_exit | apply w_ret | apply a_n | apply a_x | apply a_r | apply o_nil | (apply o_val rfl rfl; (focus ((try simp (disch := omega) only [simB0, ZA, reduceEqDiff, ↓reduceIte, reduceAdd, reduceLeDiff, ZV, reduceCtorEq]); first | with_reducible rfl | (apply s_ite; (focus omega); with_reducible rfl)))) | (apply o_callD; (iterate 2 (focus ((try simp only [simB0, ZA, reduceEqDiff, ↓reduceIte, reduceAdd, reduceLeDiff]); (try with_reducible rfl); done))); (focus (first | (exact occurs_c _ _ hl))); (focus ((first | refine snap_plain ?_ rfl | apply snap_data); repeat' (first | exact snapL_nil | apply snapL_i | apply snapL_dat)))) | (apply w_cond; (focus ((try simp only [simB0, ZA, reduceEqDiff, ↓reduceIte, reduceAdd, reduceLeDiff]); (try with_reducible rfl); done)); all_goals (intro _hg; (try simp only [ZB] at _hg); try first | exact absurd trivial _hg | (exfalso; omega))) | (refine e_ends rfl ?_) | (apply r_1; (focus (simp only [rv, simB0, ZA, reduceEqDiff, ↓reduceIte, reduceAdd, reduceLeDiff]; with_reducible rfl))))
  · refine snap_bool ?_
    symm
    rw [Bool.eq_false_iff, ne_eq, List.all_eq_true]
    intro h
    exact _hg (by simpa using h _ (mem_getD (l := m) (k := k) (by omega)))
  · refine ⟨k + 1, ⟨by omega, fun i hi => ?_⟩, by omega, by simp (disch := omega) only [agr, ZG, reduceEqDiff, ↓reduceIte], rfl, rfl⟩
    rcases Nat.lt_succ_iff_lt_or_eq.1 hi with h | rfl
    · exact h2 i h
    · exact _hg
  · refine snap_bool ?_
    symm
    rw [List.all_eq_true]
    intro v hv
    obtain ⟨i, hi, e⟩ := List.getElem_of_mem hv
    have := h2 i (by omega)
    rw [show m.getD i default = v by simp [List.getD, hi, e]] at this
    simpa using this

theorem spread_r (l : List Int) (hl : Sh l) (h0 : l ≠ []) : Pure Try.prog 148 [encV l] (.int .i64 (IntKind.wrap .i64 (l.foldl max (l.getD 0 default) - l.foldl min (l.getD 0 default)))) := by
  refine Pure.of_c2 follows is148 (Nat.le_of_ble_eq_true rfl) ?_
  simp only [b148, O, G, N, M, D, F, B2, cFal, cTru]
  have hpos := List.length_pos_iff.2 h0
  repeat' (first | apply w_seq | apply w_ops0 | apply w_ops1 | apply w_block | apply a_n | apply o_nil | (apply o_val rfl rfl; (focus ((try simp (disch := omega) only [simB0, ZA, reduceEqDiff, ↓reduceIte, reduceAdd, reduceLeDiff, ZV, reduceCtorEq]); first | with_reducible rfl | (apply s_ite; (focus omega); with_reducible rfl)))) | apply w_loop)
  refine loop0 (X := Nat) (fun k => [(0, encV l), (3, .int .i64 ((l.take k).foldl min (l.getD 0 default))), (4, .int .i64 ((l.take k).foldl max (l.getD 0 default))), (5, .int .i64 k)]) (fun k => k ≤ l.length) (fun k => l.length - k) 0 (Nat.zero_le _) (by simp (disch := omega) only [agr, ZG, reduceEqDiff, ↓reduceIte, List.take_zero, List.foldl_nil, Int.toNat_zero]) ?_
  rintro k hk
  repeat' (first | apply w_seq | apply w_ops0 | apply w_ops1 | apply w_block | apply w_skip | apply w_exit | apply w_ret | apply a_n | apply a_x | apply o_nil | (apply o_val rfl rfl; (focus ((try simp (disch := omega) only [simB0, ZA, reduceEqDiff, ↓reduceIte, reduceAdd, reduceLeDiff, ZV, reduceCtorEq]); first | with_reducible rfl | (apply s_ite; (focus omega); with_reducible rfl)))) | (apply w_cond; (focus ((try simp only [simB0, ZA, reduceEqDiff, ↓reduceIte, reduceAdd, reduceLeDiff]); (try with_reducible rfl); done)); all_goals (intro _hg; (try simp only [ZB] at _hg); try first | exact absurd trivial _hg | (exfalso; omega))) | (refine e_ends rfl ?_) | (apply r_1; (focus (simp only [rv, simB0, ZA, reduceEqDiff, ↓reduceIte, reduceAdd, reduceLeDiff]; with_reducible rfl))))
  · refine ⟨k + 1, by omega, by omega, ?_, rfl, rfl⟩
    rw [take_succ' (by omega), List.foldl_append, List.foldl_append]
    simp (disch := omega) only [agr, ZG, reduceEqDiff, ↓reduceIte, List.foldl_cons, List.foldl_nil]
  · rw [List.take_of_length_le (by omega)]; exact .int _ _

theorem all_r (l : List Int) (v : Int) (hl : Sh l) : Pure Try.prog 131 [encV l, .int .i64 v] (.bool (eqv l v)) := by
  refine Pure.of_c2 follows is131 (Nat.le_of_ble_eq_true rfl) ?_
  simp only [b131, O, G, N, M, D, F, B2, cFal, cTru]
  have := kinds_len l
  repeat' (first | apply w_seq | apply w_ops0 | apply w_ret | apply a_n | apply o_nil | (apply o_val rfl rfl; (focus ((try simp (disch := omega) only [simB0, ZA, reduceEqDiff, ↓reduceIte, reduceAdd, reduceLeDiff, ZV, reduceCtorEq]); first | with_reducible rfl | (apply s_ite; (focus omega); with_reducible rfl)))) | (apply o_callD; (iterate 2 (focus ((try simp only [simB0, ZA, reduceEqDiff, ↓reduceIte, reduceAdd, reduceLeDiff]); (try with_reducible rfl); done))); (focus (first | (exact different_r _ hl))); (focus ((first | refine snap_plain ?_ rfl | apply snap_data); repeat' (first | exact snapL_nil | apply snapL_i | apply snapL_dat)))) | (apply o_gT; (focus (simp only [simB0, ZA, reduceEqDiff, ↓reduceIte, reduceAdd, reduceLeDiff]; done))) | (apply o_gF; (focus (simp only [simB0, ZA, reduceEqDiff, ↓reduceIte, reduceAdd, reduceLeDiff, or_true, true_or]; done))) | (apply o_gB; (focus ((try simp only [simB0, ZA, reduceEqDiff, ↓reduceIte, reduceAdd, reduceLeDiff]); (try with_reducible rfl); done)); all_goals (intro _hg; (try simp only [ZB] at _hg); try first | exact absurd trivial _hg | (exfalso; omega))) | (refine e_ends rfl ?_) | (apply r_1; (focus (simp only [rv, simB0, ZA, reduceEqDiff, ↓reduceIte, reduceAdd, reduceLeDiff]; with_reducible rfl))))
  all_goals refine snap_bool ?_
  · unfold eqv; simp; omega
  · unfold eqv; simp; omega

def encK (task n ins outs k : Int) : AV := .agg [.int .i64 task, .int .i64 n, .int .i64 ins, .int .i64 outs, .int .i64 k]
def nearB (outs : Int) (l m : List Int) : Bool := if (kinds l).length = 1 then eqv m (IntKind.wrap .i64 (l.getD 0 default * IntKind.wrap .i64 (outs - 1))) else decide (IntKind.wrap .i64 (m.foldl max (m.getD 0 default) - m.foldl min (m.getD 0 default)) ≤ 1)
theorem near_r (a b c d e : Int) (l m : List Int) (hl : Sh l) (hm : Sh m) (h0 : l ≠ []) (h1 : m ≠ []) : Pure Try.prog 130 [encK a b c d e, encV l, encV m] (.bool (nearB d l m)) := by
  refine Pure.of_c2 follows is130 (Nat.le_of_ble_eq_true rfl) ?_
  simp only [b130, O, G, N, M, D, F, B2, cFal, cTru]
  have := List.length_pos_iff.2 h0
  unfold encK
  repeat' (first | apply w_seq | apply w_ops0 | apply w_mixS1 | apply w_skip | apply w_ret | apply a_n | apply a_r | apply o_nil | (apply o_val rfl rfl; (focus ((try simp (disch := omega) only [simB0, ZA, reduceEqDiff, ↓reduceIte, reduceAdd, reduceLeDiff, ZV, reduceCtorEq]); first | with_reducible rfl | (apply s_ite; (focus omega); with_reducible rfl)))) | (apply o_callD; (iterate 2 (focus ((try simp only [simB0, ZA, reduceEqDiff, ↓reduceIte, reduceAdd, reduceLeDiff]); (try with_reducible rfl); done))); (focus (first | (exact different_r _ hl) | (exact all_r _ _ hm) | (exact spread_r _ hm h1))); (focus ((first | refine snap_plain ?_ rfl | apply snap_data); repeat' (first | exact snapL_nil | apply snapL_i | apply snapL_dat)))) | (apply e_box rfl; (iterate 2 (focus ((try simp only [simB0, ZA, reduceEqDiff, ↓reduceIte, reduceAdd, reduceLeDiff]); (try with_reducible rfl); done))); (focus (simp only [SO, Bool.and_self, one_encV, one_encVV]))) | (apply w_cond; (focus ((try simp only [simB0, ZA, reduceEqDiff, ↓reduceIte, reduceAdd, reduceLeDiff]); (try with_reducible rfl); done)); all_goals (intro _hg; (try simp only [ZB] at _hg); try first | exact absurd trivial _hg | (exfalso; omega))) | (refine e_ends rfl ?_) | (apply r_1; (focus (simp only [rv, simB0, ZA, reduceEqDiff, ↓reduceIte, reduceAdd, reduceLeDiff]; with_reducible rfl))))
  all_goals (refine snap_bool ?_; unfold nearB)
  · rw [if_pos (by omega), Int.toNat_zero]
  · rw [if_neg (by omega)]

def honestB (ins : Int) (m : List Int) : Bool := m.all fun x => m.all fun y => !(decide (x < ins) && decide (y < ins) && decide (x ≠ y))
theorem honest_r (a b c d e : Int) (m : List Int) (hm : Sh m) : Pure Try.prog 133 [encK a b c d e, encV m] (.bool (honestB c m)) := by
  refine Pure.of_c2 follows is133 (Nat.le_of_ble_eq_true rfl) ?_
  simp only [b133, O, G, N, M, D, F, B2, cFal, cTru]
  unfold encK
  repeat' (first | apply w_seq | apply w_ops0 | apply w_block | apply a_n | apply o_nil | (apply o_val rfl rfl; (focus ((try simp (disch := omega) only [simB0, ZA, reduceEqDiff, ↓reduceIte, reduceAdd, reduceLeDiff, ZV, reduceCtorEq]); first | with_reducible rfl | (apply s_ite; (focus omega); with_reducible rfl)))) | (apply e_box rfl; (iterate 2 (focus ((try simp only [simB0, ZA, reduceEqDiff, ↓reduceIte, reduceAdd, reduceLeDiff]); (try with_reducible rfl); done))); (focus (simp only [SO, Bool.and_self, one_encV, one_encVV]))) | apply w_loop)
  refine loop0 (X := Nat) (fun k => [(1, encV m), (2, .ptr 0 5 0), (5, .int .i64 k)]) (fun k => k ≤ m.length ∧ ∀ i j, j < i → i < k → m.getD i default < c → m.getD j default < c → m.getD i default = m.getD j default) (fun k => m.length - k) 0 ⟨Nat.zero_le _, by simp⟩ (by simp (disch := omega) only [agr, ZG, reduceEqDiff, ↓reduceIte, List.length_cons, List.length_nil, reduceAdd]) ?_
  rintro k ⟨h1, h2⟩
  repeat' (first | apply w_seq | apply w_ops0 | apply w_block | apply w_skip | apply w_exit | apply w_ret | apply a_n | apply a_x | apply o_nil | (apply o_val rfl rfl; (focus ((try simp (disch := omega) only [simB0, ZA, reduceEqDiff, ↓reduceIte, reduceAdd, reduceLeDiff, ZV, reduceCtorEq]); first | with_reducible rfl | (apply s_ite; (focus omega); with_reducible rfl)))) | (apply w_cond; (focus ((try simp only [simB0, ZA, reduceEqDiff, ↓reduceIte, reduceAdd, reduceLeDiff]); (try with_reducible rfl); done)); all_goals (intro _hg; (try simp only [ZB] at _hg); try first | exact absurd trivial _hg | (exfalso; omega))) | (refine e_ends rfl ?_) | (apply r_1; (focus (simp only [rv, simB0, ZA, reduceEqDiff, ↓reduceIte, reduceAdd, reduceLeDiff]; with_reducible rfl))) | apply w_loop)
  · refine loop0 (X := Nat) (fun q => [(1, encV m), (2, .ptr 0 5 0), (5, .int .i64 k), (6, .int .i64 q)]) (fun q => q ≤ k ∧ ∀ j, j < q → m.getD k default < c → m.getD j default < c → m.getD k default = m.getD j default) (fun q => k - q) 0 ⟨Nat.zero_le _, by simp⟩ (by simp (disch := omega) only [agr, ZG, reduceEqDiff, ↓reduceIte]) ?_
    rintro q ⟨h3, h4⟩
    repeat' (first | apply w_seq | apply w_ops0 | apply w_ops1 | apply w_block | apply w_skip | apply w_exit | apply w_ret | apply a_n | apply a_x | apply a_r | apply o_nil | (apply o_val rfl rfl; (focus ((try simp (disch := omega) only [simB0, ZA, reduceEqDiff, ↓reduceIte, reduceAdd, reduceLeDiff, ZV, reduceCtorEq]); first | with_reducible rfl | (apply s_ite; (focus omega); with_reducible rfl)))) | (apply o_gT; (focus (simp only [simB0, ZA, reduceEqDiff, ↓reduceIte, reduceAdd, reduceLeDiff]; done))) | (apply o_gF; (focus (simp only [simB0, ZA, reduceEqDiff, ↓reduceIte, reduceAdd, reduceLeDiff, or_true, true_or]; done))) | (apply w_condF; (focus (simp only [simB0, ZA, reduceEqDiff, ↓reduceIte, reduceAdd, reduceLeDiff]; done))) | ((first | apply o_gB | apply w_cond); (focus ((try simp only [simB0, ZA, reduceEqDiff, ↓reduceIte, reduceAdd, reduceLeDiff]); (try with_reducible rfl); done)); all_goals (intro _hg; (try simp only [ZB] at _hg); try first | exact absurd trivial _hg | (exfalso; omega))) | (refine e_ends rfl ?_) | (apply r_1; (focus (simp only [rv, simB0, ZA, reduceEqDiff, ↓reduceIte, reduceAdd, reduceLeDiff]; with_reducible rfl))))
    · refine snap_bool ?_
      symm
      unfold honestB
      rw [Bool.eq_false_iff, ne_eq, List.all_eq_true]
      intro h
      have := h _ (mem_getD (l := m) (k := k) (by omega))
      rw [List.all_eq_true] at this
      have := this _ (mem_getD (l := m) (k := q) (by omega))
      generalize m.getD k default = x at *
      generalize m.getD q default = y at *
      simp at this
      omega
    all_goals first | (refine ⟨q + 1, ⟨by omega, fun j hj => ?_⟩, by omega, by simp (disch := omega) only [agr, ZG, reduceEqDiff, ↓reduceIte], rfl, rfl⟩; rcases Nat.lt_succ_iff_lt_or_eq.1 hj with h | rfl; exact h4 j h; intro q1 q2; omega) | skip
    refine ⟨k + 1, ⟨by omega, fun i j hij hi => ?_⟩, by omega, by simp (disch := omega) only [agr, ZG, reduceEqDiff, ↓reduceIte], rfl, rfl⟩
    rcases Nat.lt_succ_iff_lt_or_eq.1 hi with h | rfl
    · exact h2 i j hij h
    · exact h4 j (by omega)
  · refine snap_bool ?_
    symm
    unfold honestB
    simp only [List.all_eq_true]
    intro x hx y hy
    obtain ⟨i, hi, rfl⟩ := List.getElem_of_mem hx
    obtain ⟨j, hj, rfl⟩ := List.getElem_of_mem hy
    have e1 : m.getD i default = m[i] := by simp [List.getD, hi]
    have e2 : m.getD j default = m[j] := by simp [List.getD, hj]
    rw [← e1, ← e2]
    rcases Nat.lt_trichotomy j i with h | rfl | h
    · have := h2 i j h (by omega)
      generalize m.getD i default = x at *
      generalize m.getD j default = y at *
      simp; omega
    · simp
    · have := h2 j i h (by omega)
      generalize m.getD i default = x at *
      generalize m.getD j default = y at *
      simp; omega

end Go.Proofs.Ytcbkggfipdldaaa

/- P11: contracts of functions and plain laws; for all inputs that the theorems name. -/
namespace Go.Proofs.Ytcbkggfipdldaaa
open Go Go.Abs
open Nat (reduceEqDiff reduceAdd reduceLeDiff)
attribute [local irreducible] awp2 aops2 ains aloop athen bbind obind gbind acond res1 Go.Abs.Fn PCall Go.Abs.Pure SnapArgs SnapL Yl

theorem encK_dat (a b c d e : Int) : Dat (.agg [.int .i64 a, .int .i64 b, .int .i64 c, .int .i64 d, .int .i64 e]) := Dat.agg (DatL.cons .int (DatL.cons .int (DatL.cons .int (DatL.cons .int (DatL.cons .int DatL.nil)))))

def allowB (task ins outs k : Int) (l m : List Int) : Bool :=
  if task = 0 then nearB outs l m else if task = 1 then eqv m 0 || (eqv m 1 && !decide (0 ∈ l)) else if task = 2 then decide ((kinds m).length = 1) && m.all (fun v => decide (v ∈ l)) else if task = 3 then honestB ins m else
  if task = 4 then decide (m.sum = 1) else if task = 5 then decide ((kinds m).length = m.length) else decide (((kinds m).length : Int) ≤ k) && m.all (fun v => decide (v ∈ l))
theorem allowed_r (task n ins outs k : Int) (l m : List Int) (hl : Sh l) (hm : Sh m) (h0 : l ≠ []) (h1 : m ≠ []) (hb : ∀ x ∈ m, 0 ≤ x ∧ x ≤ 1000) :
    Pure Try.prog 115 [encK task n ins outs k, encV l, encV m] (.bool (allowB task ins outs k l m)) := by
  refine Pure.of_c2 follows is115 (Nat.le_of_ble_eq_true rfl) ?_
  simp only [b115, O, G, N, M, D, F, B2, cFal, cTru]
  have hnear := near_r task n ins outs k l m hl hm h0 h1
  have hhon := honest_r task n ins outs k m hm
  have hlm : m.length ≤ 1000000000 := hm
  unfold encK at *
  refine w_seq ?_
  repeat' (first | apply w_ops0 | apply a_n | apply o_nil | (apply o_val rfl rfl; (focus ((try simp (disch := omega) only [simB0, ZA, reduceEqDiff, ↓reduceIte, reduceAdd, reduceLeDiff, ZV, reduceCtorEq]); first | with_reducible rfl | (apply s_ite; (focus omega); with_reducible rfl)))) | (apply e_box rfl; (iterate 2 (focus ((try simp only [simB0, ZA, reduceEqDiff, ↓reduceIte, reduceAdd, reduceLeDiff]); (try with_reducible rfl); done))); (focus (simp only [SO, Bool.and_self, one_encV, one_encVV]))))
  refine w_seqC (fun T H nx => T 1 = encV l ∧ T 2 = encV m ∧ T 3 = .ptr 0 5 0 ∧ H 0 = some [.int .i64 task, .int .i64 n, .int .i64 ins, .int .i64 outs, .int .i64 k] ∧ task ≠ 0 ∧ task ≠ 1 ∧ task ≠ 2 ∧ task ≠ 3 ∧ task ≠ 4 ∧ task ≠ 5) ?_ ?_
  · repeat' (first | apply w_seq | apply w_ops0 | apply w_block | apply w_skip | apply w_ret | apply a_n | apply a_r | apply o_nil | (apply o_val rfl rfl; (focus ((try simp (disch := omega) only [simB0, ZA, reduceEqDiff, ↓reduceIte, reduceAdd, reduceLeDiff, ZV, reduceCtorEq]); first | with_reducible rfl | (apply s_ite; (focus omega); with_reducible rfl)))) | (apply o_callD; (iterate 2 (focus ((try simp only [simB0, ZA, reduceEqDiff, ↓reduceIte, reduceAdd, reduceLeDiff]); (try with_reducible rfl); done))); (focus (first | (exact different_r _ hm) | (exact all_r _ _ hm) | (exact occurs_c _ _ hl) | (exact chosen_r _ _ hl hm) | (exact hnear) | (exact hhon))); (focus ((first | refine snap_plain ?_ rfl | apply snap_data); repeat' (first | exact snapL_nil | apply snapL_i | apply snapL_dat | exact encK_dat _ _ _ _ _)))) | (apply o_gT; (focus (simp only [simB0, ZA, reduceEqDiff, ↓reduceIte, reduceAdd, reduceLeDiff]; done))) | (apply o_gF; (focus (simp only [simB0, ZA, reduceEqDiff, ↓reduceIte, reduceAdd, reduceLeDiff, or_true, true_or]; done))) | ((first | apply o_gB | apply w_cond); (focus ((try simp only [simB0, ZA, reduceEqDiff, ↓reduceIte, reduceAdd, reduceLeDiff]); (try with_reducible rfl); done)); all_goals (intro _hg; (try simp only [ZB] at _hg); try first | exact absurd trivial _hg | (exfalso; omega))) | (refine e_ends rfl ?_) | (apply r_1; (focus (simp only [rv, simB0, ZA, reduceEqDiff, ↓reduceIte, reduceAdd, reduceLeDiff]; with_reducible rfl))) | apply w_loop)
    · refine snap_bool ?_; unfold allowB; simp [*]
    · refine snap_bool ?_; unfold allowB; simp [*]
    · refine snap_bool ?_; unfold allowB; simp [*]
    · refine snap_bool ?_; unfold allowB; simp [*]
    · refine snap_bool ?_; unfold allowB; rw [if_neg (by omega), if_neg (by omega), if_pos (by omega), decide_eq_true (by omega), Bool.true_and]
    · refine snap_bool ?_; unfold allowB; rw [if_neg (by omega), if_neg (by omega), if_pos (by omega), decide_eq_false (by omega), Bool.false_and]
    · refine snap_bool ?_; unfold allowB; simp [*]
    · refine loop0 (X := Nat) (fun q => [(2, encV m), (7, .int .i64 (m.take q).sum), (8, .int .i64 q)]) (fun q => q ≤ m.length ∧ 0 ≤ (m.take q).sum ∧ (m.take q).sum ≤ q * 1000) (fun q => m.length - q) 0 ⟨Nat.zero_le _, by simp⟩ (by simp (disch := omega) only [agr, ZG, reduceEqDiff, ↓reduceIte, List.take_zero, List.sum_nil]) ?_
      rintro q ⟨h2, h3, h4⟩
      repeat' (first | apply w_seq | apply w_ops0 | apply w_block | apply w_skip | apply w_exit | apply w_ret | apply a_n | apply a_x | apply a_r | apply o_nil | (apply o_val rfl rfl; (focus ((try simp (disch := omega) only [simB0, ZA, reduceEqDiff, ↓reduceIte, reduceAdd, reduceLeDiff, ZV, reduceCtorEq]); first | with_reducible rfl | (apply s_ite; (focus omega); with_reducible rfl)))) | (apply w_cond; (focus ((try simp only [simB0, ZA, reduceEqDiff, ↓reduceIte, reduceAdd, reduceLeDiff]); (try with_reducible rfl); done)); all_goals (intro _hg; (try simp only [ZB] at _hg); try first | exact absurd trivial _hg | (exfalso; omega))) | (refine e_ends rfl ?_) | (apply r_1; (focus (simp only [rv, simB0, ZA, reduceEqDiff, ↓reduceIte, reduceAdd, reduceLeDiff]; with_reducible rfl))))
      · have hx := hb _ (mem_getD (show q < m.length by omega))
        have e : (m.take (q + 1)).sum = (m.take q).sum + m.getD q default := by rw [take_succ' (by omega), List.sum_append]; simp
        refine ⟨q + 1, ⟨by omega, by omega, by omega⟩, by omega, ?_, rfl, rfl⟩
        rw [e]
        simp (disch := omega) only [agr, ZG, reduceEqDiff, ↓reduceIte]
      · refine snap_bool ?_
        rw [List.take_of_length_le (by omega)]
        unfold allowB; simp [*]
    · refine snap_bool ?_; unfold allowB; simp only [Int.ofNat_inj]; simp [*]
    · exact ⟨rfl, rfl, rfl, rfl, by omega, by omega, by omega, by omega, by omega, by omega⟩
  · rintro T H nx ⟨t1, t2, t3, h0, g0, g1, g2, g3, g4, g5⟩
    repeat' (first | apply w_seq | apply w_mixS1 | apply w_ret | apply a_n | apply o_nil | (apply o_val rfl rfl; (focus ((try simp (disch := omega) only [simB0, ZA, reduceEqDiff, ↓reduceIte, reduceAdd, reduceLeDiff, ZV, reduceCtorEq, t1, t2, t3, h0]); first | with_reducible rfl | (apply s_ite; (focus omega); with_reducible rfl)))) | (apply o_callD; (iterate 2 (focus ((try simp only [simB0, ZA, reduceEqDiff, ↓reduceIte, reduceAdd, reduceLeDiff, t1, t2, t3, h0]); (try with_reducible rfl); done))); (focus (first | (exact different_r _ hm) | (exact chosen_r _ _ hl hm))); (focus ((first | refine snap_plain ?_ rfl | apply snap_data); repeat' (first | exact snapL_nil | apply snapL_i | apply snapL_dat)))) | (apply o_gT; (focus (simp only [simB0, ZA, reduceEqDiff, ↓reduceIte, reduceAdd, reduceLeDiff, t1, t2, t3, h0]; done))) | (apply o_gF; (focus (simp only [simB0, ZA, reduceEqDiff, ↓reduceIte, reduceAdd, reduceLeDiff, or_true, true_or, t1, t2, t3, h0]; done))) | (apply o_gB; (focus ((try simp only [simB0, ZA, reduceEqDiff, ↓reduceIte, reduceAdd, reduceLeDiff, t1, t2, t3, h0]); (try with_reducible rfl); done)); all_goals (intro _hg; (try simp only [ZB] at _hg); try first | exact absurd trivial _hg | (exfalso; omega))) | (refine e_ends rfl ?_) | (apply r_1; (focus (simp only [rv, simB0, ZA, reduceEqDiff, ↓reduceIte, reduceAdd, reduceLeDiff, t1, t2, t3, h0]; with_reducible rfl))))
    all_goals (refine snap_bool ?_; unfold allowB; rw [if_neg g0, if_neg g1, if_neg g2, if_neg g3, if_neg g4, if_neg g5])
    · simp [_hg]
    · simp; omega

def calmB (task : Int) (l m : List Int) : Bool := if task = 1 then (decide (0 ∈ l) && eqv m 0) || (!decide (0 ∈ l) && eqv m 1) else if task = 3 then eqv m (l.getD 0 default) else false
theorem calm_r (task n ins outs k : Int) (l m : List Int) (hl : Sh l) (hm : Sh m) (h0 : l ≠ []) : Pure Try.prog 116 [encK task n ins outs k, encV l, encV m] (.bool (calmB task l m)) := by
  refine Pure.of_c2 follows is116 (Nat.le_of_ble_eq_true rfl) ?_
  simp only [b116, O, G, N, M, D, F, B2, cFal, cTru]
  have := List.length_pos_iff.2 h0
  unfold encK
  repeat' (first | apply w_seq | apply w_ops0 | apply w_block | apply w_skip | apply w_ret | apply a_n | apply a_r | apply o_nil | (apply o_val rfl rfl; (focus ((try simp (disch := omega) only [simB0, ZA, reduceEqDiff, ↓reduceIte, reduceAdd, reduceLeDiff, ZV, reduceCtorEq]); first | with_reducible rfl | (apply s_ite; (focus omega); with_reducible rfl)))) | (apply o_callD; (iterate 2 (focus ((try simp only [simB0, ZA, reduceEqDiff, ↓reduceIte, reduceAdd, reduceLeDiff]); (try with_reducible rfl); done))); (focus (first | (exact all_r _ _ hm) | (exact occurs_c _ _ hl))); (focus ((first | refine snap_plain ?_ rfl | apply snap_data); repeat' (first | exact snapL_nil | apply snapL_i | apply snapL_dat)))) | (apply e_box rfl; (iterate 2 (focus ((try simp only [simB0, ZA, reduceEqDiff, ↓reduceIte, reduceAdd, reduceLeDiff]); (try with_reducible rfl); done))); (focus (simp only [SO, Bool.and_self, one_encV, one_encVV]))) | (apply o_gT; (focus (simp only [simB0, ZA, reduceEqDiff, ↓reduceIte, reduceAdd, reduceLeDiff]; done))) | (apply o_gF; (focus (simp only [simB0, ZA, reduceEqDiff, ↓reduceIte, reduceAdd, reduceLeDiff, or_true, true_or]; done))) | ((first | apply o_gB | apply w_cond); (focus ((try simp only [simB0, ZA, reduceEqDiff, ↓reduceIte, reduceAdd, reduceLeDiff]); (try with_reducible rfl); done)); all_goals (intro _hg; (try simp only [ZB] at _hg); try first | exact absurd trivial _hg | (exfalso; omega))) | (refine e_ends rfl ?_) | (apply r_1; (focus (simp only [rv, simB0, ZA, reduceEqDiff, ↓reduceIte, reduceAdd, reduceLeDiff]; with_reducible rfl))))
  all_goals (refine snap_bool ?_; unfold calmB; first | contradiction | simp [*])

def caseB (task : Int) (l : List Int) : Bool := decide (task ≠ 5) || decide ((kinds l).length = l.length)
theorem case_r (task n ins outs k : Int) (l : List Int) (hl : Sh l) : Pure Try.prog 86 [encK task n ins outs k, encV l] (.bool (caseB task l)) := by
  refine Pure.of_c2 follows is86 (Nat.le_of_ble_eq_true rfl) ?_
  simp only [b86, O, G, N, M, D, F, B2, cFal, cTru]
  unfold encK
  repeat' (first | apply w_seq | apply w_ops0 | apply w_ret | apply a_n | apply o_nil | (apply o_val rfl rfl; (focus ((try simp (disch := omega) only [simB0, ZA, reduceEqDiff, ↓reduceIte, reduceAdd, reduceLeDiff, ZV, reduceCtorEq]); first | with_reducible rfl | (apply s_ite; (focus omega); with_reducible rfl)))) | (apply o_callD; (iterate 2 (focus ((try simp only [simB0, ZA, reduceEqDiff, ↓reduceIte, reduceAdd, reduceLeDiff]); (try with_reducible rfl); done))); (focus (first | (exact different_r _ hl))); (focus ((first | refine snap_plain ?_ rfl | apply snap_data); repeat' (first | exact snapL_nil | apply snapL_i | apply snapL_dat)))) | (apply e_box rfl; (iterate 2 (focus ((try simp only [simB0, ZA, reduceEqDiff, ↓reduceIte, reduceAdd, reduceLeDiff]); (try with_reducible rfl); done))); (focus (simp only [SO, Bool.and_self, one_encV, one_encVV]))) | (apply o_gT; (focus (simp only [simB0, ZA, reduceEqDiff, ↓reduceIte, reduceAdd, reduceLeDiff]; done))) | (apply o_gF; (focus (simp only [simB0, ZA, reduceEqDiff, ↓reduceIte, reduceAdd, reduceLeDiff, or_true, true_or]; done))) | (apply o_gB; (focus ((try simp only [simB0, ZA, reduceEqDiff, ↓reduceIte, reduceAdd, reduceLeDiff]); (try with_reducible rfl); done)); all_goals (intro _hg; (try simp only [ZB] at _hg); try first | exact absurd trivial _hg | (exfalso; omega))) | (refine e_ends rfl ?_) | (apply r_1; (focus (simp only [rv, simB0, ZA, reduceEqDiff, ↓reduceIte, reduceAdd, reduceLeDiff]; with_reducible rfl))))
  all_goals (refine snap_bool ?_; unfold caseB; (try simp only [Int.ofNat_inj]); simp [*])

/-! ### all vectors -/
theorem Row_last {H : Hp} {s x x' : AV} {cs content : List AV} {bx : Nat} (hrow : Row H 1 s (cs ++ [x])) (hbx : H bx = some content) (hne : rowB s ≠ some bx) (hs : ∀ Hf : Hp, Hf bx = some content → Snap Hf x x') :
    ∃ Hf H'', Fz Hf H H'' ∧ Row H'' 1 s (cs ++ [x']) ∧ (∀ i, i ≠ bx → rowB s ≠ some i → H'' i = H i) := by
  generalize hc : cs ++ [x] = cs1 at hrow
  cases hrow with
  | nil => simp at hc
  | box b len cs1 hb hl =>
    subst hc
    have hnb : b ≠ bx := fun e => hne (by rw [e]; rfl)
    have hk : hkeep (fun y => decide (y = bx)) H bx = some content := by simp [hkeep, hbx]
    refine ⟨_, _, Fz.put (B := fun y => decide (y = bx)) (x := b) (cs' := cs ++ [x']) (by simpa using hnb) hb (CellsTo.snoc (hs _ hk)), ?_, fun i h1 h2 => ?_⟩
    · have hl' : (cs ++ [x']).length = len * 1 := by rw [← hl]; simp
      have := Row.box (H := hupd (hdrop (fun y => decide (y = bx)) H) b (cs ++ [x'])) (sz := 1) b len (cs ++ [x']) hupd_self' hl'
      exact this
    · rw [hupd_ne (fun e => h2 (by rw [e]; rfl)), hdrop_at (by simpa using h1)]

theorem every_r (v : Nat) (hv : v ≤ 8) : ∀ n : Nat, n ≤ 5 → Pure Try.prog 85 [.int .i64 n, .int .i64 v] (encVV (every n v)) := by
  intro n
  induction n with
  | zero =>
    intro _
    refine Pure.of_c2 follows is85 (Nat.le_of_ble_eq_true rfl) ?_
    simp only [b85, O, G, N, M, D, F, B2, cFal, cTru]
    repeat' (first | apply w_seq | apply w_ops0 | apply w_ret | apply a_n | apply a_r | apply o_nil | (apply o_val rfl rfl; (focus ((try simp (disch := omega) only [simB0, ZA, reduceEqDiff, ↓reduceIte, reduceAdd, reduceLeDiff, ZV, reduceCtorEq, show ((0 : Nat) : Int) = 0 from rfl, decide_true]); first | with_reducible rfl | (apply s_ite; (focus omega); with_reducible rfl)))) | (apply e_bld rfl; (focus (exact Nat.succ_ne_zero _)); (focus ((try simp only [simB0, ZA, reduceEqDiff, ↓reduceIte, reduceAdd, reduceLeDiff, show ((0 : Nat) : Int) = 0 from rfl, decide_true]); (try with_reducible rfl); done)); (focus ((try simp only [simB0, ZA, reduceEqDiff, ↓reduceIte, reduceAdd, reduceLeDiff, SO, Bool.and_self, one_encV, one_encVV, show ((0 : Nat) : Int) = 0 from rfl, decide_true]); (try with_reducible rfl); done))) | (apply w_condT; (focus (simp only [simB0, ZA, reduceEqDiff, ↓reduceIte, reduceAdd, reduceLeDiff, show ((0 : Nat) : Int) = 0 from rfl, decide_true]; done))) | (refine e_ends rfl ?_) | (apply r_1; (focus (simp only [rv, simB0, ZA, reduceEqDiff, ↓reduceIte, reduceAdd, reduceLeDiff, show ((0 : Nat) : Int) = 0 from rfl, decide_true]; with_reducible rfl))))
    refine snap_msl (l := [encV []]) hupd_self' rfl (by omega) rfl (fun y hy => by simp at hy; subst hy; rfl) (fun i a c ha hc => ?_)
    match i, ha, hc with
    | 0, ha, hc => cases ha; cases hc; exact .eslsl 1
  | succ n ih =>
    intro hn
    have ih := ih (by omega)
    refine Pure.of_c2 follows is85 (Nat.le_of_ble_eq_true rfl) ?_
    simp only [b85, O, G, N, M, D, F, B2, cFal, cTru]
    have hlen : (every n v).length ≤ 8 ^ 5 := by
      rw [every_count]
      exact Nat.le_trans (Nat.pow_le_pow_left hv n) (Nat.pow_le_pow_right (by omega) (by omega))
    have hvl := every_len n v
    have e1 : IntKind.wrap .i64 (((n + 1 : Nat) : Int) - 1) = (n : Nat) := by
      rw [show ((n + 1 : Nat) : Int) - 1 = n by omega, wrap64 (by omega) (by omega)]
    generalize hR : every n v = R at *
    have hdn : ∀ x : Nat, (List.range (x + 1)).flatMap (fun (x : Nat) => R.map fun r => (x : Int) :: r) = (List.range x).flatMap (fun (x : Nat) => R.map fun r => (x : Int) :: r) ++ R.map fun r => (x : Int) :: r := fun x => by
      rw [List.range_succ, List.flatMap_append]; simp
    have hdl : ∀ x : Nat, ((List.range x).flatMap (fun (x : Nat) => R.map fun r => (x : Int) :: r)).length = x * R.length := fun x => by
      simp [List.length_flatMap, List.sum_replicate_nat, List.map_const']
    have hE : every (n + 1) v = (List.range v).flatMap (fun (x : Nat) => R.map fun r => (x : Int) :: r) := by rw [← hR]; rfl
    rw [hE]
    generalize hDone : (fun x => (List.range x).flatMap (fun (x : Nat) => R.map fun r => (x : Int) :: r)) = Done at *
    have hD0 : Done 0 = [] := by rw [← hDone]; rfl
    have hdn : ∀ x, Done (x + 1) = Done x ++ R.map fun r => (x : Int) :: r := fun x => by rw [← hDone]; exact hdn x
    have hdl : ∀ x, (Done x).length = x * R.length := fun x => by rw [← hDone]; exact hdl x
    have hDv : (List.range v).flatMap (fun (x : Nat) => R.map fun r => (x : Int) :: r) = Done v := by rw [← hDone]
    rw [hDv]
    clear hDone hE hDv
    repeat' (first | apply w_seq | apply w_ops0 | apply w_block | apply w_skip | apply a_n | apply o_nil | (apply o_val rfl rfl; (focus ((try simp (disch := omega) only [simB0, ZA, reduceEqDiff, ↓reduceIte, reduceAdd, reduceLeDiff, ZV, reduceCtorEq, e1]); first | with_reducible rfl | (apply s_ite; (focus omega); with_reducible rfl)))) | (apply o_callD; (iterate 2 (focus ((try simp only [simB0, ZA, reduceEqDiff, ↓reduceIte, reduceAdd, reduceLeDiff, e1]); (try with_reducible rfl); done))); (focus (first | (exact ih))); (focus ((first | refine snap_plain ?_ rfl | apply snap_data); repeat' (first | exact snapL_nil | apply snapL_i | apply snapL_dat)))) | (apply w_cond; (focus ((try simp only [simB0, ZA, reduceEqDiff, ↓reduceIte, reduceAdd, reduceLeDiff, e1]); (try with_reducible rfl); done)); all_goals (intro _hg; (try simp only [ZB] at _hg); try first | exact absurd trivial _hg | (exfalso; omega))) | apply w_loop)
    refine loopI (X := AV × Nat) (fun x => [(1, .int .i64 v), (5, x.1), (6, encVV R), (7, .int .i64 x.2)]) (fun x H nx => x.2 ≤ v ∧ Row H 1 x.1 ((Done x.2).map encV) ∧ ∀ b, rowB x.1 = some b → b < nx) (fun x => v - x.2) (.esl, 0) ⟨Nat.zero_le _, by rw [hD0]; exact Row.nil, fun b hb => (by cases hb)⟩ (by simp (disch := omega) only [agr, ZG, reduceEqDiff, ↓reduceIte]) ?_
    rintro ⟨s, q⟩ H nx ⟨h1, h2, h3⟩
    dsimp only at h1 h2 h3 ⊢
    repeat' (first | apply w_seq | apply w_ops0 | apply w_block | apply w_skip | apply w_exit | apply w_ret | apply a_n | apply a_x | apply o_nil | (apply o_val rfl rfl; (focus ((try simp (disch := omega) only [simB0, ZA, reduceEqDiff, ↓reduceIte, reduceAdd, reduceLeDiff, ZV, reduceCtorEq]); first | with_reducible rfl | (apply s_ite; (focus omega); with_reducible rfl)))) | (apply w_cond; (focus ((try simp only [simB0, ZA, reduceEqDiff, ↓reduceIte, reduceAdd, reduceLeDiff]); (try with_reducible rfl); done)); all_goals (intro _hg; (try simp only [ZB] at _hg); try first | exact absurd trivial _hg | (exfalso; omega))) | (refine e_ends rfl ?_) | (apply r_1; (focus (simp only [rv, simB0, ZA, reduceEqDiff, ↓reduceIte, reduceAdd, reduceLeDiff]; with_reducible rfl))) | apply w_loop)
    rotate_left
    · rw [show q = v by omega] at h2
      exact Row.snapV h2
    have hqR : q * R.length ≤ 8 * 32768 := Nat.mul_le_mul (by omega) hlen
    obtain ⟨s1, s2⟩ := h2.one
    refine loopF (X := AV × Nat) (fun x => [(1, .int .i64 v), (5, x.1), (6, encVV R), (7, .int .i64 q), (8, .int .i64 x.2)])
      (fun x H nx => x.2 ≤ R.length ∧ Row H 1 x.1 ((Done q ++ (R.take x.2).map fun r => (q : Int) :: r).map encV) ∧ ∀ b, rowB x.1 = some b → b < nx) (fun x => R.length - x.2) (s, 0)
      ⟨noBoxes, H, Fz.none, ⟨Nat.zero_le _, by simpa using h2, h3⟩, agrF_of (by simp (disch := omega) only [agr, ZG, reduceEqDiff, ↓reduceIte])⟩ ?_
    rintro ⟨s, j⟩ H nx ⟨h4, h5, h6⟩
    dsimp only at h4 h5 h6 ⊢
    clear h2 h3 s1 s2
    obtain ⟨s1, s2⟩ := h5.one
    repeat' (first | apply w_seq | apply w_ops0 | apply w_block | apply w_skip | apply w_exit | apply a_n | apply a_x | apply o_nil | (apply o_val rfl; (focus (first | rfl | (simp (disch := omega) only [dm2, oldP, newP, simB0, ZA, reduceEqDiff, ↓reduceIte, reduceAdd, reduceLeDiff, decide_eq_true_eq]; first | done | omega))); (focus ((try simp (disch := omega) only [simB2, ZA, reduceEqDiff, ↓reduceIte, reduceAdd, reduceLeDiff, ZV, reduceCtorEq, s1]); first | with_reducible rfl | (apply s_ite; (focus omega); with_reducible rfl)))) | (apply e_bld rfl; (focus (exact Nat.succ_ne_zero _)); (focus ((try simp (disch := omega) only [simB2, ZA, reduceEqDiff, ↓reduceIte, reduceAdd, reduceLeDiff, s1]); (try with_reducible rfl); done)); (focus ((try simp (disch := omega) only [simB2, ZA, reduceEqDiff, ↓reduceIte, reduceAdd, reduceLeDiff, SO, Bool.and_self, one_encV, one_encVV, s1]); (try with_reducible rfl); done))) | (apply w_cond; (focus ((try simp (disch := omega) only [simB2, ZA, reduceEqDiff, ↓reduceIte, reduceAdd, reduceLeDiff, s1]); (try with_reducible rfl); done)); all_goals (intro _hg; (try simp (disch := omega) only [ZB] at _hg); try first | exact absurd trivial _hg | (exfalso; omega))))
    · refine e_app0 rfl (by ((try simp only [simB0, ZA, reduceEqDiff, ↓reduceIte, reduceAdd, reduceLeDiff]); (try with_reducible rfl))) (by ((try simp only [simB0, ZA, reduceEqDiff, ↓reduceIte, reduceAdd, reduceLeDiff]); (try with_reducible rfl))) asrc_one rfl (by omega) (by omega) ?_
      repeat' (first | apply w_ops0 | apply a_n | apply o_nil | (apply o_val rfl; (focus (first | rfl | (simp (disch := omega) only [dm2, oldP, newP, simB0, ZA, reduceEqDiff, ↓reduceIte, reduceAdd, reduceLeDiff, decide_eq_true_eq]; first | done | omega))); (focus ((try simp (disch := omega) only [simB2, ZA, reduceEqDiff, ↓reduceIte, reduceAdd, reduceLeDiff, ZV, reduceCtorEq, s1]); first | with_reducible rfl | (apply s_ite; (focus omega); with_reducible rfl)))))
      have hw := mem_getD (l := R) (k := j) (by omega)
      have hwl := hvl _ hw
      generalize hwe : R.getD j default = w at *
      refine e_app (b := nx + 1) (m := 1) (len := 1) (cs := [.int .i64 q]) (n := w.length) (new := w.map (AV.int .i64)) rfl (by ((try simp only [simB0, ZA, reduceEqDiff, ↓reduceIte, reduceAdd, reduceLeDiff]); (try with_reducible rfl))) hupd_self' (by ((try simp only [simB0, ZA, reduceEqDiff, ↓reduceIte, reduceAdd, reduceLeDiff]); (try with_reducible rfl))) asrc_encV ones_int rfl rfl (by omega) (by omega) ?_
      repeat' (first | (apply e_bld rfl; (focus (exact Nat.succ_ne_zero _)); (focus ((try simp (disch := omega) only [simB2, ZA, reduceEqDiff, ↓reduceIte, reduceAdd, reduceLeDiff, s1]); (try with_reducible rfl); done)); (focus ((try simp (disch := omega) only [simB2, ZA, reduceEqDiff, ↓reduceIte, reduceAdd, reduceLeDiff, SO, Bool.and_self, one_encV, one_encVV, s1]); (try with_reducible rfl); done))))
      have hln : ((Done q ++ (R.take j).map fun r => (q : Int) :: r).map encV).length ≤ 1000000 := by simp [hdl]; omega
      refine e_row rfl (by ((try simp only [simB0, ZA, reduceEqDiff, ↓reduceIte, reduceAdd, reduceLeDiff]); (try with_reducible rfl))) (h5.same fun b hb => ?_) (by ((try simp only [simB0, ZA, reduceEqDiff, ↓reduceIte, reduceAdd, reduceLeDiff]); (try with_reducible rfl))) asrc_one rfl rfl Nat.one_pos (by omega) (by omega) ?_
      · have := h6 b hb
        rw [hupd_ne (by omega), hupd_ne (by omega), hupd_ne (by omega), hupd_ne (by omega)]
      rintro s3 E e hrow hle1 hle2 hsame hb2
      have hbx : E (nx + 1) = some (((q : Int) :: w).map (AV.int .i64)) := by
        rw [hsame (nx + 1) (by omega) (fun h => by have := h6 _ h; omega), hupd_ne (by omega), hupd_self']; rfl
      obtain ⟨Hf, H2, hfz, hrow2, hsame2⟩ := Row_last (x' := encV ((q : Int) :: w)) hrow hbx (fun h => by
        rcases hb2 _ h with h | h
        · have := h6 _ h; omega
        · omega) (fun Hf h => snap_row h (by omega) (by simp; omega))
      repeat' (first | apply w_ops0 | apply a_n | apply o_nil | (apply o_val rfl rfl; (focus ((try simp (disch := omega) only [simB0, ZA, reduceEqDiff, ↓reduceIte, reduceAdd, reduceLeDiff, ZV, reduceCtorEq]); first | with_reducible rfl | (apply s_ite; (focus omega); with_reducible rfl)))))
      refine ⟨(s3, j + 1), by dsimp only; omega, Hf, H2, hfz, ⟨by dsimp only; omega, ?_, fun b hb => ?_⟩, agrF_of (by simp (disch := omega) only [agr, ZG, reduceEqDiff, ↓reduceIte])⟩
      · dsimp only
        have hmap : ((Done q ++ (R.take j ++ [w]).map fun r => (q : Int) :: r).map encV) = (Done q ++ (R.take j).map fun r => (q : Int) :: r).map encV ++ [encV ((q : Int) :: w)] := by simp
        rw [take_succ' (by omega), hwe, hmap]
        exact hrow2
      · rcases hb2 _ hb with h | h
        · have := h6 _ h; omega
        · omega
    · refine ⟨(s, q + 1), by dsimp only; omega, ⟨by dsimp only; omega, ?_, h6⟩, by simp (disch := omega) only [agr, ZG, reduceEqDiff, ↓reduceIte]⟩
      dsimp only
      rw [hdn]
      rwa [List.take_of_length_le (by omega)] at h5

end Go.Proofs.Ytcbkggfipdldaaa

/- P12: contracts of functions and plain laws; for all inputs that the theorems name. -/
namespace Go.Proofs.Ytcbkggfipdldaaa
open Go Go.Abs
open Nat (reduceEqDiff reduceAdd reduceLeDiff)
attribute [local irreducible] awp2 aops2 ains aloop athen bbind obind gbind acond res1 Go.Abs.Fn PCall Go.Abs.Pure SnapArgs SnapL Yl

def powL (base lim : Nat) : Nat → Nat
  | 0 => 1
  | i + 1 => if powL base lim i ≤ lim then powL base lim i * base else powL base lim i
theorem powL_le {base lim : Nat} (hb : base ≤ 8) (h1 : 1 ≤ lim) : ∀ i, powL base lim i ≤ lim * 8
  | 0 => by unfold powL; omega
  | i + 1 => by
    unfold powL
    split
    · exact Nat.mul_le_mul (by assumption) hb
    · exact powL_le hb h1 i
theorem powL_stop {base lim i : Nat} (h : lim < powL base lim i) : ∀ n, i ≤ n → powL base lim n = powL base lim i
  | 0, hn => by rw [show i = 0 by omega]
  | n + 1, hn => by
    by_cases e : i = n + 1
    · rw [e]
    · have := powL_stop h n (by omega)
      show (if powL base lim n ≤ lim then powL base lim n * base else powL base lim n) = _
      rw [this, if_neg (by omega)]
theorem power_r (base n lim : Nat) (hb : base ≤ 8) (hn : n ≤ 5) (h1 : 1 ≤ lim ∧ lim ≤ 2000) : Pure Try.prog 43 [.int .i64 base, .int .i64 n, .int .i64 lim] (.int .i64 (powL base lim n)) := by
  refine Pure.of_c2 follows is43 (Nat.le_of_ble_eq_true rfl) ?_
  simp only [b43, O, G, N, M, D, F, B2, cFal, cTru]
  repeat' (first | apply w_seq | apply w_ops0 | apply w_block | apply a_n | apply o_nil | (apply o_val rfl rfl; (focus ((try simp (disch := omega) only [simB0, ZA, reduceEqDiff, ↓reduceIte, reduceAdd, reduceLeDiff, ZV, reduceCtorEq]); first | with_reducible rfl | (apply s_ite; (focus omega); with_reducible rfl)))) | apply w_loop)
  refine loop0 (X := Nat) (fun k => [(0, .int .i64 base), (1, .int .i64 n), (2, .int .i64 lim), (7, .int .i64 (powL base lim k)), (8, .int .i64 k)]) (fun k => k ≤ n) (fun k => n - k) 0 (Nat.zero_le _) (by simp (disch := omega) only [agr, ZG, reduceEqDiff, ↓reduceIte, powL]) ?_
  rintro k hk
  have hp := powL_le hb h1.1 k
  repeat' (first | apply w_seq | apply w_ops0 | apply w_block | apply w_skip | apply w_exit | apply w_ret | apply a_n | apply a_x | apply o_nil | (apply o_val rfl rfl; (focus ((try simp (disch := omega) only [simB0, ZA, reduceEqDiff, ↓reduceIte, reduceAdd, reduceLeDiff, ZV, reduceCtorEq]); first | with_reducible rfl | (apply s_ite; (focus omega); with_reducible rfl)))) | (apply o_gT; (focus (simp only [simB0, ZA, reduceEqDiff, ↓reduceIte, reduceAdd, reduceLeDiff]; done))) | (apply o_gF; (focus (simp only [simB0, ZA, reduceEqDiff, ↓reduceIte, reduceAdd, reduceLeDiff, or_true, true_or]; done))) | (apply w_condF; (focus (simp only [simB0, ZA, reduceEqDiff, ↓reduceIte, reduceAdd, reduceLeDiff]; done))) | ((first | apply o_gB | apply w_cond); (focus ((try simp only [simB0, ZA, reduceEqDiff, ↓reduceIte, reduceAdd, reduceLeDiff]); (try with_reducible rfl); done)); all_goals (intro _hg; (try simp only [ZB] at _hg); try first | exact absurd trivial _hg | (exfalso; omega))) | (refine e_ends rfl ?_) | (apply r_1; (focus (simp only [rv, simB0, ZA, reduceEqDiff, ↓reduceIte, reduceAdd, reduceLeDiff]; with_reducible rfl))))
  · have hpb : powL base lim k * base ≤ 2000 * 8 := Nat.mul_le_mul (by omega) hb
    refine ⟨k + 1, by omega, by omega, ?_, rfl, rfl⟩
    rw [powL, if_pos (by omega)]
    simp (disch := omega) only [agr, ZG, reduceEqDiff, ↓reduceIte, ← Int.natCast_mul]
  · refine snap_int ?_
    rw [powL_stop (by omega) n hk]
  · refine snap_int ?_
    rw [show k = n by omega]

def fallL (ins : Nat) : Nat → Nat
  | 0 => 1
  | i + 1 => if fallL ins i ≤ 1024 then fallL ins i * (ins - i) else fallL ins i
theorem fallL_le {ins : Nat} (hb : ins ≤ 8) : ∀ i, fallL ins i ≤ 1024 * 8
  | 0 => by unfold fallL; omega
  | i + 1 => by
    show (if fallL ins i ≤ 1024 then fallL ins i * (ins - i) else fallL ins i) ≤ _
    split
    · exact Nat.mul_le_mul (by assumption) (by omega)
    · exact fallL_le hb i
theorem fallL_stop {ins i : Nat} (h : 1024 < fallL ins i) : ∀ n, i ≤ n → fallL ins n = fallL ins i
  | 0, hn => by rw [show i = 0 by omega]
  | n + 1, hn => by
    by_cases e : i = n + 1
    · rw [e]
    · have := fallL_stop h n (by omega)
      show (if fallL ins n ≤ 1024 then fallL ins n * (ins - n) else fallL ins n) = _
      rw [this, if_neg (by omega)]
def casesN (task : Int) (n ins : Nat) : Nat := if task = 5 then fallL ins n else powL ins 1024 n
theorem cases_r (task k outs : Int) (n ins : Nat) (hb : ins ≤ 8) (hn : n ≤ 5) : Pure Try.prog 84 [encK task n ins outs k] (.int .i64 (casesN task n ins)) := by
  refine Pure.of_c2 follows is84 (Nat.le_of_ble_eq_true rfl) ?_
  simp only [b84, O, G, N, M, D, F, B2, cFal, cTru]
  unfold encK
  repeat' (first | apply w_seq | apply w_ops0 | apply w_block | apply w_skip | apply w_ret | apply a_n | apply a_r | apply o_nil | (apply o_val rfl rfl; (focus ((try simp (disch := omega) only [simB0, ZA, reduceEqDiff, ↓reduceIte, reduceAdd, reduceLeDiff, ZV, reduceCtorEq]); first | with_reducible rfl | (apply s_ite; (focus omega); with_reducible rfl)))) | (apply o_callD; (iterate 2 (focus ((try simp only [simB0, ZA, reduceEqDiff, ↓reduceIte, reduceAdd, reduceLeDiff]); (try with_reducible rfl); done))); (focus (first | (exact power_r ins n 1024 hb hn (by omega)))); (focus ((first | refine snap_plain ?_ rfl | apply snap_data); repeat' (first | exact snapL_nil | apply snapL_i | apply snapL_dat)))) | (apply e_box rfl; (iterate 2 (focus ((try simp only [simB0, ZA, reduceEqDiff, ↓reduceIte, reduceAdd, reduceLeDiff]); (try with_reducible rfl); done))); (focus (simp only [SO, Bool.and_self, one_encV, one_encVV]))) | (apply w_cond; (focus ((try simp only [simB0, ZA, reduceEqDiff, ↓reduceIte, reduceAdd, reduceLeDiff]); (try with_reducible rfl); done)); all_goals (intro _hg; (try simp only [ZB] at _hg); try first | exact absurd trivial _hg | (exfalso; omega))) | (refine e_ends rfl ?_) | (apply r_1; (focus (simp only [rv, simB0, ZA, reduceEqDiff, ↓reduceIte, reduceAdd, reduceLeDiff]; with_reducible rfl))) | apply w_loop)
  · refine snap_int ?_
    unfold casesN; rw [if_neg (by omega)]
  · refine loop0 (X := Nat) (fun k => [(1, .ptr 0 5 0), (3, .int .i64 (fallL ins k)), (4, .int .i64 k)]) (fun k => k ≤ n) (fun k => n - k) 0 (Nat.zero_le _) (by simp (disch := omega) only [agr, ZG, reduceEqDiff, ↓reduceIte, fallL, List.length_cons, List.length_nil, reduceAdd]) ?_
    rintro q hq
    have hp := fallL_le hb q
    repeat' (first | apply w_seq | apply w_ops0 | apply w_block | apply w_skip | apply w_exit | apply w_ret | apply a_n | apply a_x | apply o_nil | (apply o_val rfl rfl; (focus ((try simp (disch := omega) only [simB0, ZA, reduceEqDiff, ↓reduceIte, reduceAdd, reduceLeDiff, ZV, reduceCtorEq]); first | with_reducible rfl | (apply s_ite; (focus omega); with_reducible rfl)))) | (apply o_gT; (focus (simp only [simB0, ZA, reduceEqDiff, ↓reduceIte, reduceAdd, reduceLeDiff]; done))) | (apply o_gF; (focus (simp only [simB0, ZA, reduceEqDiff, ↓reduceIte, reduceAdd, reduceLeDiff, or_true, true_or]; done))) | (apply w_condF; (focus (simp only [simB0, ZA, reduceEqDiff, ↓reduceIte, reduceAdd, reduceLeDiff]; done))) | ((first | apply o_gB | apply w_cond); (focus ((try simp only [simB0, ZA, reduceEqDiff, ↓reduceIte, reduceAdd, reduceLeDiff]); (try with_reducible rfl); done)); all_goals (intro _hg; (try simp only [ZB] at _hg); try first | exact absurd trivial _hg | (exfalso; omega))) | (refine e_ends rfl ?_) | (apply r_1; (focus (simp only [rv, simB0, ZA, reduceEqDiff, ↓reduceIte, reduceAdd, reduceLeDiff]; with_reducible rfl))))
    · have hpb : fallL ins q * (ins - q) ≤ 1024 * 8 := Nat.mul_le_mul (by omega) (by omega)
      refine ⟨q + 1, by omega, by omega, ?_, rfl, rfl⟩
      rw [fallL, if_pos (by omega)]
      have e1 : max (0 : Int) ((ins : Int) - q) = ((ins - q : Nat) : Int) := by omega
      simp (disch := omega) only [agr, ZG, reduceEqDiff, ↓reduceIte, e1, ← Int.natCast_mul]
    · refine snap_int ?_
      unfold casesN
      rw [if_pos (by omega), fallL_stop (by omega) n hq]
    · refine snap_int ?_
      unfold casesN
      rw [if_pos (by omega), show q = n by omega]

/-! ### the vectors of a case -/
structure Two (H : Hp) (nx lo : Nat) (so sc : AV) (A C : List AV) : Prop where
  r1 : Row H 1 so A
  r2 : Row H 1 sc C
  b1 : ∀ b, rowB so = some b → lo ≤ b ∧ b < nx
  b2 : ∀ b, rowB sc = some b → lo ≤ b ∧ b < nx
  ne : ∀ b, rowB so = some b → rowB sc ≠ some b
theorem Two.swap {H : Hp} {nx lo : Nat} {so sc : AV} {A C : List AV} (h : Two H nx lo so sc A C) : Two H nx lo sc so C A := ⟨h.r2, h.r1, h.b2, h.b1, fun b h1 h2 => h.ne b h2 h1⟩
theorem Two.put1 {H E : Hp} {nx e lo : Nat} {so sc s2 : AV} {A C new : List AV} (h : Two H nx lo so sc A C) (hlo : lo ≤ nx) (hrow : Row E 1 s2 (A ++ new)) (hle : nx ≤ e) (hs : ∀ i, i < nx → rowB so ≠ some i → E i = H i)
    (hb : ∀ b, rowB s2 = some b → rowB so = some b ∨ nx ≤ b ∧ b < e) : Two E e lo s2 sc (A ++ new) C := by
  refine ⟨hrow, h.r2.same fun b hb' => hs b (h.b2 b hb').2 (fun h1 => h.ne b h1 hb'), fun b hb' => ?_, fun b hb' => ?_, fun b hb' h2 => ?_⟩
  · rcases hb b hb' with h1 | h1
    · have := h.b1 b h1; omega
    · omega
  · have := h.b2 b hb'; omega
  · rcases hb b hb' with h1 | h1
    · exact h.ne b h1 h2
    · have := h.b2 b h2; omega

theorem filter_snoc {α : Type} [Inhabited α] {l : List α} {p : α → Bool} {k : Nat} (h : k < l.length) : (l.take (k + 1)).filter p = (l.take k).filter p ++ (if p (l.getD k default) = true then [l.getD k default] else []) := by
  rw [take_succ' h, List.filter_append, List.filter_cons, List.filter_nil]
theorem filter_le {α : Type} {l : List α} {p : α → Bool} {k : Nat} : ((l.take k).filter p).length ≤ l.length := Nat.le_trans (List.length_filter_le _ _) (by rw [List.length_take]; omega)

theorem vectors_r (task k ins : Int) (n outs : Nat) (hn : 1 ≤ n ∧ n ≤ 5) (ho : outs ≤ 8) (l : List Int) (hl : Sh l) (h0 : l ≠ []) :
    Pure Try.prog 87 [encK task n ins outs k, encV l] (.tup [encVV ((every n outs).filter (allowB task ins outs k l)), encVV ((every n outs).filter fun o => allowB task ins outs k l o && calmB task l o)]) := by
  refine Pure.of_c2 follows is87 (Nat.le_of_ble_eq_true rfl) ?_
  simp only [b87, O, G, N, M, D, F, B2, cFal, cTru]
  have hlen : (every n outs).length ≤ 32768 := by
    rw [every_count]
    exact Nat.le_trans (Nat.pow_le_pow_left ho n) (Nat.pow_le_pow_right (by omega) hn.2)
  have hA : ∀ m ∈ every n outs, Pure Try.prog 115 [encK task n ins outs k, encV l, encV m] (.bool (allowB task ins outs k l m)) := fun m hm =>
    allowed_r task n ins outs k l m hl (every_sh hn.2 hm) h0 (every_ne (by omega) hm) (fun x hx => by have := every_mem n outs m hm x hx; omega)
  have hC : ∀ m ∈ every n outs, Pure Try.prog 116 [encK task n ins outs k, encV l, encV m] (.bool (calmB task l m)) := fun m hm =>
    calm_r task n ins outs k l m hl (every_sh hn.2 hm) h0
  have hev := every_r outs ho n hn.2
  unfold encK at *
  repeat' (first | apply w_seq | apply w_ops0 | apply w_block | apply a_n | apply o_nil | (apply o_val rfl rfl; (focus ((try simp (disch := omega) only [simB0, ZA, reduceEqDiff, ↓reduceIte, reduceAdd, reduceLeDiff, ZV, reduceCtorEq]); first | with_reducible rfl | (apply s_ite; (focus omega); with_reducible rfl)))) | (apply o_callD; (iterate 2 (focus ((try simp only [simB0, ZA, reduceEqDiff, ↓reduceIte, reduceAdd, reduceLeDiff]); (try with_reducible rfl); done))); (focus (first | (exact hev))); (focus ((first | refine snap_plain ?_ rfl | apply snap_data); repeat' (first | exact snapL_nil | apply snapL_i | apply snapL_dat)))) | (apply e_box rfl; (iterate 2 (focus ((try simp only [simB0, ZA, reduceEqDiff, ↓reduceIte, reduceAdd, reduceLeDiff]); (try with_reducible rfl); done))); (focus (simp only [SO, Bool.and_self, one_encV, one_encVV]))) | apply w_loop)
  generalize every n outs = L at *
  refine loopI (X := AV × AV × Nat) (fun x => [(1, encV l), (2, .ptr 0 5 0), (6, x.1), (7, x.2.1), (8, encVV L), (9, .int .i64 x.2.2)])
    (fun x H nx => x.2.2 ≤ L.length ∧ 1 ≤ nx ∧ H 0 = some [.int .i64 task, .int .i64 n, .int .i64 ins, .int .i64 outs, .int .i64 k] ∧ Two H nx 1 x.1 x.2.1 (((L.take x.2.2).filter (allowB task ins outs k l)).map encV) (((L.take x.2.2).filter fun o => allowB task ins outs k l o && calmB task l o).map encV)) (fun x => L.length - x.2.2) (.esl, .esl, 0)
    ⟨Nat.zero_le _, Nat.le_refl _, rfl, Row.nil, Row.nil, fun b hb => (by cases hb), fun b hb => (by cases hb), fun b hb => (by cases hb)⟩ (by simp (disch := omega) only [agr, ZG, reduceEqDiff, ↓reduceIte, List.length_cons, List.length_nil, reduceAdd]) ?_
  rintro ⟨so, sc, j⟩ H nx ⟨h1, h2, h3, h4⟩
  dsimp only at h1 h2 h3 h4 ⊢
  by_cases hj : j < L.length
  · have hw := mem_getD (l := L) (k := j) hj
    have hA := hA _ hw
    have hC := hC _ hw
    have f1 := filter_snoc (p := allowB task ins outs k l) hj
    have f2 := filter_snoc (p := fun o => allowB task ins outs k l o && calmB task l o) hj
    have g1 := filter_le (l := L) (p := allowB task ins outs k l) (k := j)
    have g2 := filter_le (l := L) (p := fun o => allowB task ins outs k l o && calmB task l o) (k := j)
    generalize hwe : L.getD j default = w at *
    generalize (L.take j).filter (allowB task ins outs k l) = A at *
    generalize (L.take j).filter (fun o => allowB task ins outs k l o && calmB task l o) = C at *
    repeat' (first | apply w_seq | apply w_ops0 | apply w_mixS1 | apply w_block | apply w_skip | apply a_n | apply o_nil | (apply o_val rfl; (focus (first | rfl | (simp (disch := omega) only [dm2, oldP, newP, simB0, ZA, reduceEqDiff, ↓reduceIte, reduceAdd, reduceLeDiff, decide_eq_true_eq]; first | done | omega))); (focus ((try simp (disch := omega) only [simB2, ZA, reduceEqDiff, ↓reduceIte, reduceAdd, reduceLeDiff, ZV, reduceCtorEq, h3, hwe]); first | with_reducible rfl | (apply s_ite; (focus omega); with_reducible rfl)))) | (apply o_callD; (iterate 2 (focus ((try simp (disch := omega) only [simB2, ZA, reduceEqDiff, ↓reduceIte, reduceAdd, reduceLeDiff, h3, hwe]); (try with_reducible rfl); done))); (focus (first | (exact hA) | (exact hC))); (focus ((first | refine snap_plain ?_ rfl | apply snap_data); repeat' (first | exact snapL_nil | apply snapL_i | apply snapL_dat | exact encK_dat _ _ _ _ _)))) | (apply e_bld rfl; (focus (exact Nat.succ_ne_zero _)); (focus ((try simp (disch := omega) only [simB2, ZA, reduceEqDiff, ↓reduceIte, reduceAdd, reduceLeDiff, h3, hwe]); (try with_reducible rfl); done)); (focus ((try simp (disch := omega) only [simB2, ZA, reduceEqDiff, ↓reduceIte, reduceAdd, reduceLeDiff, SO, Bool.and_self, one_encV, one_encVV, h3, hwe]); (try with_reducible rfl); done))) | (apply w_cond; (focus ((try simp (disch := omega) only [simB2, ZA, reduceEqDiff, ↓reduceIte, reduceAdd, reduceLeDiff, h3, hwe]); (try with_reducible rfl); done)); all_goals (intro _hg; (try simp (disch := omega) only [ZB] at _hg); try first | exact absurd trivial _hg | (exfalso; omega))))
    · refine e_row rfl (by ((try simp only [simB0, ZA, reduceEqDiff, ↓reduceIte, reduceAdd, reduceLeDiff]); (try with_reducible rfl))) (h4.r1.same fun b hb => ?_) (by ((try simp only [simB0, ZA, reduceEqDiff, ↓reduceIte, reduceAdd, reduceLeDiff]); (try with_reducible rfl))) asrc_one rfl rfl Nat.one_pos (by simp; omega) (by simp; omega) ?_
      · have := h4.b1 b hb
        rw [hupd_ne (by omega)]
      rintro s2 E e hrow hle1 hle2 hsame hb2
      have h5 := h4.put1 (e := e) h2 hrow (by omega) (fun i h1 h2 => by rw [hsame i (by omega) h2, hupd_ne (by omega)]) (fun b hb => (hb2 b hb).imp id (fun h => by omega))
      have e0 : E 0 = some [.int .i64 task, .int .i64 n, .int .i64 ins, .int .i64 outs, .int .i64 k] := by
        rw [hsame 0 (by omega) (fun h => by have := h4.b1 _ h; omega), hupd_ne (by omega), h3]
      repeat' (first | apply w_seq | apply w_ops0 | apply w_mixS1 | apply w_skip | apply a_n | apply o_nil | (apply o_val rfl; (focus (first | rfl | (simp (disch := omega) only [dm2, oldP, newP, simB0, ZA, reduceEqDiff, ↓reduceIte, reduceAdd, reduceLeDiff, decide_eq_true_eq]; first | done | omega))); (focus ((try simp (disch := omega) only [simB2, ZA, reduceEqDiff, ↓reduceIte, reduceAdd, reduceLeDiff, ZV, reduceCtorEq, e0, hwe]); first | with_reducible rfl | (apply s_ite; (focus omega); with_reducible rfl)))) | (apply o_callD; (iterate 2 (focus ((try simp (disch := omega) only [simB2, ZA, reduceEqDiff, ↓reduceIte, reduceAdd, reduceLeDiff, e0, hwe]); (try with_reducible rfl); done))); (focus (first | (exact hA) | (exact hC))); (focus ((first | refine snap_plain ?_ rfl | apply snap_data); repeat' (first | exact snapL_nil | apply snapL_i | apply snapL_dat | exact encK_dat _ _ _ _ _)))) | (apply e_bld rfl; (focus (exact Nat.succ_ne_zero _)); (focus ((try simp (disch := omega) only [simB2, ZA, reduceEqDiff, ↓reduceIte, reduceAdd, reduceLeDiff, e0, hwe]); (try with_reducible rfl); done)); (focus ((try simp (disch := omega) only [simB2, ZA, reduceEqDiff, ↓reduceIte, reduceAdd, reduceLeDiff, SO, Bool.and_self, one_encV, one_encVV, e0, hwe]); (try with_reducible rfl); done))) | (apply w_cond; (focus ((try simp (disch := omega) only [simB2, ZA, reduceEqDiff, ↓reduceIte, reduceAdd, reduceLeDiff, e0, hwe]); (try with_reducible rfl); done)); all_goals (intro _hg; (try simp (disch := omega) only [ZB] at _hg); try first | exact absurd trivial _hg | (exfalso; omega))))
      · refine e_row rfl (by ((try simp only [simB0, ZA, reduceEqDiff, ↓reduceIte, reduceAdd, reduceLeDiff]); (try with_reducible rfl))) (h5.r2.same fun b hb => ?_) (by ((try simp only [simB0, ZA, reduceEqDiff, ↓reduceIte, reduceAdd, reduceLeDiff]); (try with_reducible rfl))) asrc_one rfl rfl Nat.one_pos (by simp; omega) (by simp; omega) ?_
        · have := h5.b2 b hb
          rw [hupd_ne (by omega)]
        rintro s3 F f hrow3 hle3 hle4 hsame3 hb3
        have h6 := (h5.swap.put1 (e := f) (by omega) hrow3 (by omega) (fun i h1 h2 => by rw [hsame3 i (by omega) h2, hupd_ne (by omega)]) (fun b hb => (hb3 b hb).imp id (fun h => by omega))).swap
        have f0 : F 0 = some [.int .i64 task, .int .i64 n, .int .i64 ins, .int .i64 outs, .int .i64 k] := by
          rw [hsame3 0 (by omega) (fun h => by have := h5.b2 _ h; omega), hupd_ne (by omega), e0]
        repeat' (first | apply w_ops0 | apply a_n | apply o_nil | (apply o_val rfl rfl; (focus ((try simp (disch := omega) only [simB0, ZA, reduceEqDiff, ↓reduceIte, reduceAdd, reduceLeDiff, ZV, reduceCtorEq]); first | with_reducible rfl | (apply s_ite; (focus omega); with_reducible rfl)))))
        refine ⟨(s2, s3, j + 1), by dsimp only; omega, ⟨by dsimp only; omega, by omega, f0, ?_⟩, by simp (disch := omega) only [agr, ZG, reduceEqDiff, ↓reduceIte]⟩
        dsimp only
        rw [f1, f2]
        simp only [*, Bool.and_self, if_true, List.map_append]
        exact h6
      · refine ⟨(s2, sc, j + 1), by dsimp only; omega, ⟨by dsimp only; omega, by omega, e0, ?_⟩, by simp (disch := omega) only [agr, ZG, reduceEqDiff, ↓reduceIte]⟩
        dsimp only
        rw [f1, f2]
        simp only [*, Bool.and_false, Bool.false_eq_true, if_true, if_false, List.map_append, List.append_nil]
        exact h5
    · refine ⟨(so, sc, j + 1), by dsimp only; omega, ⟨by dsimp only; omega, by omega, h3, ?_⟩, by simp (disch := omega) only [agr, ZG, reduceEqDiff, ↓reduceIte]⟩
      dsimp only
      rw [f1, f2]
      simp only [*, Bool.false_and, Bool.false_eq_true, if_false, List.append_nil]
  · repeat' (first | apply w_seq | apply w_ops0 | apply w_exit | apply w_ret | apply a_n | apply a_x | apply o_nil | (apply o_val rfl; (focus (first | rfl | (simp (disch := omega) only [dm2, oldP, newP, simB0, ZA, reduceEqDiff, ↓reduceIte, reduceAdd, reduceLeDiff, decide_eq_true_eq]; first | done | omega))); (focus ((try simp (disch := omega) only [simB2, ZA, reduceEqDiff, ↓reduceIte, reduceAdd, reduceLeDiff, ZV, reduceCtorEq, h3]); first | with_reducible rfl | (apply s_ite; (focus omega); with_reducible rfl)))) | (apply w_cond; (focus ((try simp (disch := omega) only [simB2, ZA, reduceEqDiff, ↓reduceIte, reduceAdd, reduceLeDiff, h3]); (try with_reducible rfl); done)); all_goals (intro _hg; (try simp (disch := omega) only [ZB] at _hg); try first | exact absurd trivial _hg | (exfalso; omega))) | (refine e_ends rfl ?_) | (apply r_2; (iterate 2 (focus (simp (disch := omega) only [rv, simB2, ZA, reduceEqDiff, ↓reduceIte, reduceAdd, reduceLeDiff, h3]; with_reducible rfl)))))
    rw [List.take_of_length_le (by omega)] at h4
    exact snap_tup (snapL_cons (Row.snapV h4.r1) (snapL_cons (Row.snapV h4.r2) snapL_nil))

end Go.Proofs.Ytcbkggfipdldaaa

/- P13: contracts of functions and plain laws; for all inputs that the theorems name. -/
namespace Go.Proofs.Ytcbkggfipdldaaa
open Go Go.Abs
open Nat (reduceEqDiff reduceAdd reduceLeDiff)
attribute [local irreducible] awp2 aops2 ains aloop athen bbind obind gbind acond res1 Go.Abs.Fn PCall Go.Abs.Pure SnapArgs SnapL Yl

def rcase (task ins outs k : Int) (n o : Nat) (l : List Int) : CaseV := ⟨l, (every n o).filter (allowB task ins outs k l), (every n o).filter fun m => allowB task ins outs k l m && calmB task l m⟩
def rcases (task ins outs k : Int) (n o : Nat) (L : List (List Int)) : List CaseV := (L.filter (caseB task)).map (rcase task ins outs k n o)
def makeT (task n ins outs k : Int) : TaskV × Int :=
  if n < 1 ∨ 5 < n then (T00, 2) else if ins < 1 ∨ 8 < ins ∨ outs < 1 ∨ 8 < outs then (T00, 2) else if task = 6 ∧ (k < 1 ∨ n < k) then (T00, 2) else if task = 5 ∧ (ins < n ∨ outs < n) then (T00, 16) else
  if 1024 < casesN task n.toNat ins.toNat then (T00, 17) else if (rcases task ins outs k n.toNat outs.toNat (every n.toNat ins.toNat)).any (fun c => decide (1024 < c.out.length)) then (T00, 17) else
  (⟨n, ins, outs, rcases task ins outs k n.toNat outs.toNat (every n.toNat ins.toNat)⟩, 0)

theorem make_r (task n ins outs k : Int) : Pure Try.prog 52 [encK task n ins outs k] (.tup [encT (makeT task n ins outs k).1, .int .i64 (makeT task n ins outs k).2]) := by
  refine Pure.of_c2 follows is52 (Nat.le_of_ble_eq_true rfl) ?_
  simp only [b52, O, G, N, M, D, F, B2, cFal, cTru]
  unfold encK
  have hH0 : ∃ H0 : Hp, H0 = hupd (hupd noBoxes 0 [.int .i64 task, .int .i64 n, .int .i64 ins, .int .i64 outs, .int .i64 k]) 1 [.int .i64 0, .int .i64 0, .int .i64 0, .esl] := ⟨_, rfl⟩
  obtain ⟨H0, hH0⟩ := hH0
  have g0 : H0 0 = some [.int .i64 task, .int .i64 n, .int .i64 ins, .int .i64 outs, .int .i64 k] := by rw [hH0]; rfl
  have g1 : H0 1 = some [.int .i64 0, .int .i64 0, .int .i64 0, .esl] := by rw [hH0]; rfl
  refine w_seq ?_
  repeat' (first | apply w_ops0 | apply a_n | apply o_nil | (apply o_val rfl rfl; (focus ((try simp (disch := omega) only [simB0, ZA, reduceEqDiff, ↓reduceIte, reduceAdd, reduceLeDiff, ZV, reduceCtorEq]); first | with_reducible rfl | (apply s_ite; (focus omega); with_reducible rfl)))) | (apply e_alloc rfl; (focus ((try simp only [simB0, ZA, reduceEqDiff, ↓reduceIte, reduceAdd, reduceLeDiff]); (try with_reducible rfl); done)); (focus (simp only [SO, Bool.and_self, one_encV, one_encVV]))) | (apply e_box rfl; (iterate 2 (focus ((try simp only [simB0, ZA, reduceEqDiff, ↓reduceIte, reduceAdd, reduceLeDiff]); (try with_reducible rfl); done))); (focus (simp only [SO, Bool.and_self, one_encV, one_encVV]))))
  rw [← hH0]
  refine w_seqC (fun T H nx => H = H0 ∧ nx = 2 ∧ T 1 = .ptr 0 5 0 ∧ T 2 = .ptr 1 4 0 ∧ ¬ (n < 1 ∨ 5 < n)) ?_ ?_
  · repeat' (first | apply w_seq | apply w_ops0 | apply w_skip | apply w_ret | apply a_n | apply a_r | apply o_nil | (apply o_val rfl rfl; (focus ((try simp (disch := omega) only [simB0, ZA, reduceEqDiff, ↓reduceIte, reduceAdd, reduceLeDiff, ZV, reduceCtorEq, g0, g1]); first | with_reducible rfl | (apply s_ite; (focus omega); with_reducible rfl)))) | (apply e_st rfl; (iterate 4 (focus ((try simp only [simB0, ZA, reduceEqDiff, ↓reduceIte, reduceAdd, reduceLeDiff, g0, g1]); (try with_reducible rfl); done))); (focus (simp only [SO, Bool.and_self, one_encV, one_encVV, g0, g1])); (iterate 3 (focus ((try simp only [SL, reduceAdd, Nat.reduceMul, List.length_map]); first | done | omega)))) | (apply o_gT; (focus (simp only [simB0, ZA, reduceEqDiff, ↓reduceIte, reduceAdd, reduceLeDiff, g0, g1]; done))) | (apply o_gF; (focus (simp only [simB0, ZA, reduceEqDiff, ↓reduceIte, reduceAdd, reduceLeDiff, or_true, true_or, g0, g1]; done))) | (apply w_condT; (focus (simp only [simB0, ZA, reduceEqDiff, ↓reduceIte, reduceAdd, reduceLeDiff, g0, g1]; done))) | ((first | apply o_gB | apply w_cond); (focus ((try simp only [simB0, ZA, reduceEqDiff, ↓reduceIte, reduceAdd, reduceLeDiff, g0, g1]); (try with_reducible rfl); done)); all_goals (intro _hg; (try simp only [ZB] at _hg); try first | exact absurd trivial _hg | (exfalso; omega))) | (refine e_ends rfl ?_) | (apply r_2; (iterate 2 (focus (simp only [rv, simB0, ZA, reduceEqDiff, ↓reduceIte, reduceAdd, reduceLeDiff, g0, g1]; with_reducible rfl)))))
    · have e : makeT task n ins outs k = (T00, 2) := by unfold makeT; rw [if_pos (by omega)]
      rw [e]; exact snapErr 2
    · exact ⟨rfl, rfl, rfl, rfl, by omega⟩
    · have e : makeT task n ins outs k = (T00, 2) := by unfold makeT; rw [if_pos (by omega)]
      rw [e]; exact snapErr 2
  rintro T H nx ⟨rfl, rfl, t1, t2, c1⟩
  refine w_seqC (fun T H' nx => H' = H ∧ nx = 2 ∧ T 1 = .ptr 0 5 0 ∧ T 2 = .ptr 1 4 0 ∧ ¬ (ins < 1 ∨ 8 < ins ∨ outs < 1 ∨ 8 < outs)) ?_ ?_
  · repeat' (first | apply w_seq | apply w_ops0 | apply w_skip | apply w_ret | apply a_n | apply a_r | apply o_nil | (apply o_val rfl rfl; (focus ((try simp (disch := omega) only [simB0, ZA, reduceEqDiff, ↓reduceIte, reduceAdd, reduceLeDiff, ZV, reduceCtorEq, g0, g1, t1, t2]); first | with_reducible rfl | (apply s_ite; (focus omega); with_reducible rfl)))) | (apply e_st rfl; (iterate 4 (focus ((try simp only [simB0, ZA, reduceEqDiff, ↓reduceIte, reduceAdd, reduceLeDiff, g0, g1, t1, t2]); (try with_reducible rfl); done))); (focus (simp only [SO, Bool.and_self, one_encV, one_encVV, g0, g1, t1, t2])); (iterate 3 (focus ((try simp only [SL, reduceAdd, Nat.reduceMul, List.length_map]); first | done | omega)))) | (apply o_gT; (focus (simp only [simB0, ZA, reduceEqDiff, ↓reduceIte, reduceAdd, reduceLeDiff, g0, g1, t1, t2]; done))) | (apply o_gF; (focus (simp only [simB0, ZA, reduceEqDiff, ↓reduceIte, reduceAdd, reduceLeDiff, or_true, true_or, g0, g1, t1, t2]; done))) | (apply w_condT; (focus (simp only [simB0, ZA, reduceEqDiff, ↓reduceIte, reduceAdd, reduceLeDiff, g0, g1, t1, t2]; done))) | ((first | apply o_gB | apply w_cond); (focus ((try simp only [simB0, ZA, reduceEqDiff, ↓reduceIte, reduceAdd, reduceLeDiff, g0, g1, t1, t2]); (try with_reducible rfl); done)); all_goals (intro _hg; (try simp only [ZB] at _hg); try first | exact absurd trivial _hg | (exfalso; omega))) | (refine e_ends rfl ?_) | (apply r_2; (iterate 2 (focus (simp only [rv, simB0, ZA, reduceEqDiff, ↓reduceIte, reduceAdd, reduceLeDiff, g0, g1, t1, t2]; with_reducible rfl)))))
    all_goals first
      | exact ⟨rfl, rfl, t1, t2, by omega⟩
      | (have e : makeT task n ins outs k = (T00, 2) := by (unfold makeT; rw [if_neg c1, if_pos (by omega)])
         rw [e]; exact snapErr 2)
  clear t1 t2
  rintro T H' nx ⟨rfl, rfl, t1, t2, c2⟩
  refine w_seqC (fun T H nx => H = H' ∧ nx = 2 ∧ T 1 = .ptr 0 5 0 ∧ T 2 = .ptr 1 4 0 ∧ ¬ (task = 6 ∧ (k < 1 ∨ n < k))) ?_ ?_
  · repeat' (first | apply w_seq | apply w_ops0 | apply w_skip | apply w_ret | apply a_n | apply a_r | apply o_nil | (apply o_val rfl rfl; (focus ((try simp (disch := omega) only [simB0, ZA, reduceEqDiff, ↓reduceIte, reduceAdd, reduceLeDiff, ZV, reduceCtorEq, g0, g1, t1, t2]); first | with_reducible rfl | (apply s_ite; (focus omega); with_reducible rfl)))) | (apply e_st rfl; (iterate 4 (focus ((try simp only [simB0, ZA, reduceEqDiff, ↓reduceIte, reduceAdd, reduceLeDiff, g0, g1, t1, t2]); (try with_reducible rfl); done))); (focus (simp only [SO, Bool.and_self, one_encV, one_encVV, g0, g1, t1, t2])); (iterate 3 (focus ((try simp only [SL, reduceAdd, Nat.reduceMul, List.length_map]); first | done | omega)))) | (apply o_gT; (focus (simp only [simB0, ZA, reduceEqDiff, ↓reduceIte, reduceAdd, reduceLeDiff, g0, g1, t1, t2]; done))) | (apply o_gF; (focus (simp only [simB0, ZA, reduceEqDiff, ↓reduceIte, reduceAdd, reduceLeDiff, or_true, true_or, g0, g1, t1, t2]; done))) | (apply w_condT; (focus (simp only [simB0, ZA, reduceEqDiff, ↓reduceIte, reduceAdd, reduceLeDiff, g0, g1, t1, t2]; done))) | (apply w_condF; (focus (simp only [simB0, ZA, reduceEqDiff, ↓reduceIte, reduceAdd, reduceLeDiff, g0, g1, t1, t2]; done))) | ((first | apply o_gB | apply w_cond); (focus ((try simp only [simB0, ZA, reduceEqDiff, ↓reduceIte, reduceAdd, reduceLeDiff, g0, g1, t1, t2]); (try with_reducible rfl); done)); all_goals (intro _hg; (try simp only [ZB] at _hg); try first | exact absurd trivial _hg | (exfalso; omega))) | (refine e_ends rfl ?_) | (apply r_2; (iterate 2 (focus (simp only [rv, simB0, ZA, reduceEqDiff, ↓reduceIte, reduceAdd, reduceLeDiff, g0, g1, t1, t2]; with_reducible rfl)))))
    all_goals first
      | exact ⟨rfl, rfl, t1, t2, by omega⟩
      | (have e : makeT task n ins outs k = (T00, 2) := by (unfold makeT; rw [if_neg c1, if_neg c2, if_pos (by omega)])
         rw [e]; exact snapErr 2)
  clear t1 t2
  rintro T H nx ⟨rfl, rfl, t1, t2, c3⟩
  refine w_seqC (fun T H' nx => H' = H ∧ nx = 2 ∧ T 1 = .ptr 0 5 0 ∧ T 2 = .ptr 1 4 0 ∧ ¬ (task = 5 ∧ (ins < n ∨ outs < n))) ?_ ?_
  · repeat' (first | apply w_seq | apply w_ops0 | apply w_skip | apply w_ret | apply a_n | apply a_r | apply o_nil | (apply o_val rfl rfl; (focus ((try simp (disch := omega) only [simB0, ZA, reduceEqDiff, ↓reduceIte, reduceAdd, reduceLeDiff, ZV, reduceCtorEq, g0, g1, t1, t2]); first | with_reducible rfl | (apply s_ite; (focus omega); with_reducible rfl)))) | (apply e_st rfl; (iterate 4 (focus ((try simp only [simB0, ZA, reduceEqDiff, ↓reduceIte, reduceAdd, reduceLeDiff, g0, g1, t1, t2]); (try with_reducible rfl); done))); (focus (simp only [SO, Bool.and_self, one_encV, one_encVV, g0, g1, t1, t2])); (iterate 3 (focus ((try simp only [SL, reduceAdd, Nat.reduceMul, List.length_map]); first | done | omega)))) | (apply o_gT; (focus (simp only [simB0, ZA, reduceEqDiff, ↓reduceIte, reduceAdd, reduceLeDiff, g0, g1, t1, t2]; done))) | (apply o_gF; (focus (simp only [simB0, ZA, reduceEqDiff, ↓reduceIte, reduceAdd, reduceLeDiff, or_true, true_or, g0, g1, t1, t2]; done))) | (apply w_condT; (focus (simp only [simB0, ZA, reduceEqDiff, ↓reduceIte, reduceAdd, reduceLeDiff, g0, g1, t1, t2]; done))) | (apply w_condF; (focus (simp only [simB0, ZA, reduceEqDiff, ↓reduceIte, reduceAdd, reduceLeDiff, g0, g1, t1, t2]; done))) | ((first | apply o_gB | apply w_cond); (focus ((try simp only [simB0, ZA, reduceEqDiff, ↓reduceIte, reduceAdd, reduceLeDiff, g0, g1, t1, t2]); (try with_reducible rfl); done)); all_goals (intro _hg; (try simp only [ZB] at _hg); try first | exact absurd trivial _hg | (exfalso; omega))) | (refine e_ends rfl ?_) | (apply r_2; (iterate 2 (focus (simp only [rv, simB0, ZA, reduceEqDiff, ↓reduceIte, reduceAdd, reduceLeDiff, g0, g1, t1, t2]; with_reducible rfl)))))
    all_goals first
      | exact ⟨rfl, rfl, t1, t2, by omega⟩
      | (have e : makeT task n ins outs k = (T00, 16) := by (unfold makeT; rw [if_neg c1, if_neg c2, if_neg c3, if_pos (by omega)])
         rw [e]; exact snapErr 16)
  clear t1 t2
  rintro T H' nx ⟨rfl, rfl, t1, t2, c4⟩
  obtain ⟨N, rfl⟩ : ∃ N : Nat, n = N := ⟨n.toNat, by omega⟩
  obtain ⟨V, rfl⟩ : ∃ V : Nat, ins = V := ⟨ins.toNat, by omega⟩
  obtain ⟨O, rfl⟩ : ∃ O : Nat, outs = O := ⟨outs.toNat, by omega⟩
  have hcN := cases_r task k O N V (by omega) (by omega)
  unfold encK at hcN
  refine w_seqC (fun T H nx => H = H' ∧ nx = 2 ∧ T 1 = .ptr 0 5 0 ∧ T 2 = .ptr 1 4 0 ∧ ¬ (1024 < casesN task N V)) ?_ ?_
  · repeat' (first | apply w_seq | apply w_ops0 | apply w_skip | apply w_ret | apply a_n | apply a_r | apply o_nil | (apply o_val rfl rfl; (focus ((try simp (disch := omega) only [simB0, ZA, reduceEqDiff, ↓reduceIte, reduceAdd, reduceLeDiff, ZV, reduceCtorEq, g0, g1, t1, t2]); first | with_reducible rfl | (apply s_ite; (focus omega); with_reducible rfl)))) | (apply o_callD; (iterate 2 (focus ((try simp only [simB0, ZA, reduceEqDiff, ↓reduceIte, reduceAdd, reduceLeDiff, g0, g1, t1, t2]); (try with_reducible rfl); done))); (focus (first | (exact hcN))); (focus ((first | refine snap_plain ?_ rfl | apply snap_data); repeat' (first | exact snapL_nil | apply snapL_i | apply snapL_dat | exact encK_dat _ _ _ _ _)))) | (apply e_st rfl; (iterate 4 (focus ((try simp only [simB0, ZA, reduceEqDiff, ↓reduceIte, reduceAdd, reduceLeDiff, g0, g1, t1, t2]); (try with_reducible rfl); done))); (focus (simp only [SO, Bool.and_self, one_encV, one_encVV, g0, g1, t1, t2])); (iterate 3 (focus ((try simp only [SL, reduceAdd, Nat.reduceMul, List.length_map]); first | done | omega)))) | (apply w_cond; (focus ((try simp only [simB0, ZA, reduceEqDiff, ↓reduceIte, reduceAdd, reduceLeDiff, g0, g1, t1, t2]); (try with_reducible rfl); done)); all_goals (intro _hg; (try simp only [ZB] at _hg); try first | exact absurd trivial _hg | (exfalso; omega))) | (refine e_ends rfl ?_) | (apply r_2; (iterate 2 (focus (simp only [rv, simB0, ZA, reduceEqDiff, ↓reduceIte, reduceAdd, reduceLeDiff, g0, g1, t1, t2]; with_reducible rfl)))))
    all_goals first
      | exact ⟨rfl, rfl, t1, t2, by omega⟩
      | (have e : makeT task N V O k = (T00, 17) := by (unfold makeT; rw [if_neg c1, if_neg c2, if_neg c3, if_neg c4, Int.toNat_natCast, Int.toNat_natCast, if_pos (by omega)])
         rw [e]; exact snapErr 17)
  clear t1 t2
  rintro T H nx ⟨rfl, rfl, t1, t2, c5⟩
  clear hH0 hcN
  have hcs := fun l hl => case_r task N V O k l hl
  have hev := every_r V (by omega) N (by omega)
  have hvec : ∀ x ∈ every N V, Pure Try.prog 87 [encK task N V O k, encV x] (.tup [encVV (rcase task V O k N O x).out, encVV (rcase task V O k N O x).calm]) := fun x hx =>
    vectors_r task k V N O (by omega) (by omega) x (every_sh (by omega) hx) (every_ne (by omega) hx)
  have hsh : ∀ x ∈ every N V, Sh x := fun x hx => every_sh (by omega) hx
  have hlen : (every N V).length ≤ 32768 := by
    rw [every_count]
    exact Nat.le_trans (Nat.pow_le_pow_left (show V ≤ 8 by omega) N) (show 8 ^ N ≤ 8 ^ 5 from Nat.pow_le_pow_right (by omega) (by omega))
  unfold encK at hcs hvec
  have hT : ∀ q, ((rcases task V O k N O (every N V)).any fun c => decide (1024 < c.out.length)) = q → makeT task N V O k = if q = true then (T00, 17) else (⟨N, V, O, rcases task V O k N O (every N V)⟩, 0) := fun q hq => by
    unfold makeT
    rw [if_neg c1, if_neg c2, if_neg c3, if_neg c4, Int.toNat_natCast, Int.toNat_natCast, Int.toNat_natCast, if_neg c5, hq]
  generalize hL : every N V = L at *
  generalize makeT task N V O k = MT at hT ⊢
  have hfs : ∀ j, j < L.length → rcases task V O k N O (L.take (j + 1)) = rcases task V O k N O (L.take j) ++ (if caseB task (L.getD j default) = true then [rcase task V O k N O (L.getD j default)] else []) := fun j hj => by
    unfold rcases
    rw [filter_snoc hj, List.map_append]
    congr 1
    split <;> rfl
  have hcl : ∀ j, (rcases task V O k N O (L.take j)).length ≤ 32768 := fun j => by
    unfold rcases
    rw [List.length_map]
    exact Nat.le_trans filter_le hlen
  refine w_seq ?_
  repeat' (first | apply w_ops0 | apply a_n | apply o_nil | (apply o_val rfl rfl; (focus ((try simp (disch := omega) only [simB0, ZA, reduceEqDiff, ↓reduceIte, reduceAdd, reduceLeDiff, ZV, reduceCtorEq, t1, t2, g0, g1]); first | with_reducible rfl | (apply s_ite; (focus omega); with_reducible rfl)))) | (apply e_alloc rfl; (focus ((try simp only [simB0, ZA, reduceEqDiff, ↓reduceIte, reduceAdd, reduceLeDiff, t1, t2, g0, g1]); (try with_reducible rfl); done)); (focus (simp only [SO, Bool.and_self, one_encV, one_encVV, t1, t2, g0, g1]))) | (apply e_st rfl; (iterate 4 (focus ((try simp only [simB0, ZA, reduceEqDiff, ↓reduceIte, reduceAdd, reduceLeDiff, t1, t2, g0, g1]); (try with_reducible rfl); done))); (focus (simp only [SO, Bool.and_self, one_encV, one_encVV, t1, t2, g0, g1])); (iterate 3 (focus ((try simp only [SL, reduceAdd, Nat.reduceMul, List.length_map]); first | done | omega)))))
  refine w_seq ?_
  repeat' (first | apply w_ops0 | apply a_n | apply o_nil | (apply o_val rfl rfl; (focus ((try simp (disch := omega) only [simB0, ZA, reduceEqDiff, ↓reduceIte, reduceAdd, reduceLeDiff, ZV, reduceCtorEq, t1, t2, g0, g1]); first | with_reducible rfl | (apply s_ite; (focus omega); with_reducible rfl)))) | (apply o_callD; (iterate 2 (focus ((try simp only [simB0, ZA, reduceEqDiff, ↓reduceIte, reduceAdd, reduceLeDiff, t1, t2, g0, g1]); (try with_reducible rfl); done))); (focus (first | (exact hev))); (focus ((first | refine snap_plain ?_ rfl | apply snap_data); repeat' (first | exact snapL_nil | apply snapL_i | apply snapL_dat)))))
  refine w_seq (w_seq ?_)
  repeat' (first | apply w_ops0 | apply a_n | apply o_nil | (apply o_val rfl rfl; (focus ((try simp (disch := omega) only [simB0, ZA, reduceEqDiff, ↓reduceIte, reduceAdd, reduceLeDiff, ZV, reduceCtorEq, t1, t2, g0, g1]); first | with_reducible rfl | (apply s_ite; (focus omega); with_reducible rfl)))))
  refine w_block (w_loop ?_)
  refine loopI (X := AV × Nat) (fun x => [(1, .ptr 0 5 0), (2, .ptr 1 4 0), (4, .ptr 2 4 0), (5, encVV L), (6, .int .i64 x.2)])
    (fun x H nx => x.2 ≤ L.length ∧ 3 ≤ nx ∧ H 0 = some [.int .i64 task, .int .i64 N, .int .i64 V, .int .i64 O, .int .i64 k] ∧ H 1 = some [.int .i64 0, .int .i64 0, .int .i64 0, .esl] ∧ H 2 = some [.int .i64 N, .int .i64 V, .int .i64 O, x.1] ∧
      Row H 3 x.1 (((rcases task V O k N O (L.take x.2)).map encC).flatMap AV.cells) ∧ (∀ b, rowB x.1 = some b → 3 ≤ b ∧ b < nx) ∧ ∀ c ∈ rcases task V O k N O (L.take x.2), c.out.length ≤ 1024) (fun x => L.length - x.2) (.esl, 0)
    ⟨Nat.zero_le _, Nat.le_refl _, ?_, ?_, ?_, Row.nil, fun b hb => (by cases hb), fun c hc => (by cases hc)⟩ ?_ ?_
  · rw [hupd_ne (by omega), hupd_ne (by omega), g0]
  · rw [hupd_ne (by omega), hupd_ne (by omega), g1]
  · rw [hupd_self']; rfl
  · simp (disch := omega) only [agr, ZG, reduceEqDiff, ↓reduceIte, t1, t2, List.length_cons, List.length_nil, reduceAdd]
  clear t1 t2 g0 g1
  rintro ⟨s, j⟩ H1 nx ⟨h1, h2, g0, g1, g2, h3, h4, h5⟩
  dsimp only at h1 h2 h3 h4 h5 g2 ⊢
  obtain ⟨s1, s2⟩ := h3.one
  by_cases hj : j < L.length
  · have hw := mem_getD (l := L) (k := j) hj
    have hcs := hcs _ (hsh _ hw)
    have hvec := hvec _ hw
    have hfs := hfs j hj
    have hmem : caseB task (L.getD j default) = true → rcase task V O k N O (L.getD j default) ∈ rcases task V O k N O L := fun h => List.mem_map.2 ⟨_, List.mem_filter.2 ⟨hw, h⟩, rfl⟩
    generalize hwe : L.getD j default = w at *
    repeat' (first | apply w_seq | apply w_ops0 | apply w_ops1 | apply w_mixS1 | apply w_block | apply w_skip | apply w_exit | apply w_ret | apply a_n | apply a_x | apply a_r | apply o_nil | (apply o_val rfl; (focus (first | rfl | (simp (disch := omega) only [dm2, oldP, newP, simB0, ZA, reduceEqDiff, ↓reduceIte, reduceAdd, reduceLeDiff, decide_eq_true_eq]; first | done | omega))); (focus ((try simp (disch := omega) only [simB2, ZA, reduceEqDiff, ↓reduceIte, reduceAdd, reduceLeDiff, ZV, reduceCtorEq, g0, g1, g2, hwe]); first | with_reducible rfl | (apply s_ite; (focus omega); with_reducible rfl)))) | (apply o_callD; (iterate 2 (focus ((try simp (disch := omega) only [simB2, ZA, reduceEqDiff, ↓reduceIte, reduceAdd, reduceLeDiff, g0, g1, g2, hwe]); (try with_reducible rfl); done))); (focus (first | (exact hcs) | (exact hvec))); (focus ((first | refine snap_plain ?_ rfl | apply snap_data); repeat' (first | exact snapL_nil | apply snapL_i | apply snapL_dat | exact encK_dat _ _ _ _ _)))) | (apply e_st; (focus (first | rfl | (simp (disch := omega) only [dm2, oldP, newP, simB0, ZA, reduceEqDiff, ↓reduceIte, reduceAdd, reduceLeDiff, decide_eq_true_eq]; first | done | omega))); (iterate 4 (focus ((try simp (disch := omega) only [simB2, ZA, reduceEqDiff, ↓reduceIte, reduceAdd, reduceLeDiff, g0, g1, g2, hwe]); (try with_reducible rfl); done))); (focus (simp (disch := omega) only [SO, Bool.and_self, one_encV, one_encVV, g0, g1, g2, hwe])); (iterate 3 (focus ((try simp (disch := omega) only [SL, reduceAdd, Nat.reduceMul, List.length_map]); first | done | omega)))) | (apply e_bld rfl; (focus (exact Nat.succ_ne_zero _)); (focus ((try simp (disch := omega) only [simB2, ZA, reduceEqDiff, ↓reduceIte, reduceAdd, reduceLeDiff, g0, g1, g2, hwe]); (try with_reducible rfl); done)); (focus ((try simp (disch := omega) only [simB2, ZA, reduceEqDiff, ↓reduceIte, reduceAdd, reduceLeDiff, SO, Bool.and_self, one_encV, one_encVV, g0, g1, g2, hwe]); (try with_reducible rfl); done))) | (apply w_cond; (focus ((try simp (disch := omega) only [simB2, ZA, reduceEqDiff, ↓reduceIte, reduceAdd, reduceLeDiff, g0, g1, g2, hwe]); (try with_reducible rfl); done)); all_goals (intro _hg; (try simp (disch := omega) only [ZB] at _hg); try first | exact absurd trivial _hg | (exfalso; omega))) | (refine e_ends rfl ?_) | (apply r_2; (iterate 2 (focus (simp (disch := omega) only [rv, simB2, ZA, reduceEqDiff, ↓reduceIte, reduceAdd, reduceLeDiff, g0, g1, g2, hwe]; with_reducible rfl)))))
    · refine ⟨(s, j + 1), by dsimp only; omega, ⟨by dsimp only; omega, h2, g0, g1, g2, ?_, h4, ?_⟩, by simp (disch := omega) only [agr, ZG, reduceEqDiff, ↓reduceIte]⟩
      · dsimp only
        rw [hfs, if_neg (by simpa using ‹_›), List.append_nil]; exact h3
      · dsimp only
        rw [hfs, if_neg (by simpa using ‹_›), List.append_nil]; exact h5
    · rw [hT true (List.any_eq_true.2 ⟨_, hmem ‹_›, by simp; omega⟩), if_pos rfl]
      exact snapErr 17
    · have hcl := hcl j
      have hlc : ∀ l : List CaseV, (∀ y ∈ l.map encC, y.cells.length = 3) := by
        intro l y hy; simp at hy; obtain ⟨c, _, rfl⟩ := hy; rfl
      have hfl := (flatMap_cells_get ((rcases task V O k N O (L.take j)).map encC) (hlc _)).1
      rw [List.length_map] at hfl
      refine e_row rfl (by ((try simp (disch := omega) only [simB2, ZA, reduceEqDiff, ↓reduceIte, reduceAdd, reduceLeDiff, g2]); (try with_reducible rfl))) (h3.same fun b hb => ?_) (by ((try simp only [simB0, ZA, reduceEqDiff, ↓reduceIte, reduceAdd, reduceLeDiff]); (try with_reducible rfl))) asrc_three rfl rfl (by omega) (by rw [hfl]; omega) (by rw [hfl]; omega) ?_
      · have := h4 b hb
        rw [hupd_ne (by omega)]
      rintro s3 F f hrow hle1 hle2 hsame hb2
      obtain ⟨s31, s32⟩ := hrow.one
      have hF : ∀ i, i < 3 → F i = H1 i := fun i h => by rw [hsame i (by omega) (fun h => by have := h4 i h; omega), hupd_ne (by omega)]
      have f0 := (hF 0 (by omega)).trans g0
      have f1 := (hF 1 (by omega)).trans g1
      have f2 := (hF 2 (by omega)).trans g2
      repeat' (first | apply w_ops0 | apply a_n | apply o_nil | (apply o_val rfl; (focus (first | rfl | (simp (disch := omega) only [dm2, oldP, newP, simB0, ZA, reduceEqDiff, ↓reduceIte, reduceAdd, reduceLeDiff, decide_eq_true_eq]; first | done | omega))); (focus ((try simp (disch := omega) only [simB2, ZA, reduceEqDiff, ↓reduceIte, reduceAdd, reduceLeDiff, ZV, reduceCtorEq, f2, s31, s32]); first | with_reducible rfl | (apply s_ite; (focus omega); with_reducible rfl)))) | (apply e_st; (focus (first | rfl | (simp (disch := omega) only [dm2, oldP, newP, simB0, ZA, reduceEqDiff, ↓reduceIte, reduceAdd, reduceLeDiff, decide_eq_true_eq]; first | done | omega))); (iterate 4 (focus ((try simp (disch := omega) only [simB2, ZA, reduceEqDiff, ↓reduceIte, reduceAdd, reduceLeDiff, f2, s31, s32]); (try with_reducible rfl); done))); (focus (simp (disch := omega) only [SO, Bool.and_self, one_encV, one_encVV, f2, s31, s32])); (iterate 3 (focus ((try simp (disch := omega) only [SL, reduceAdd, Nat.reduceMul, List.length_map]); first | done | omega)))))
      have hrb : ∀ b, rowB s3 = some b → 3 ≤ b ∧ b < f := fun b hb => by
        rcases hb2 b hb with h | h
        · have := h4 b h; omega
        · omega
      refine ⟨(s3, j + 1), by dsimp only; omega, ⟨by dsimp only; omega, by omega, ?_, ?_, ?_, ?_, hrb, ?_⟩, by simp (disch := omega) only [agr, ZG, reduceEqDiff, ↓reduceIte]⟩
      · rw [hupd_ne (by omega), f0]
      · rw [hupd_ne (by omega), f1]
      · rw [hupd_self']; rfl
      · dsimp only
        rw [hfs, if_pos ‹_›, List.map_append, List.flatMap_append]
        refine hrow.same fun b hb => ?_
        have := hrb b hb
        rw [hupd_ne (by omega)]
      · dsimp only
        rw [hfs, if_pos ‹_›]
        intro c hc
        rw [List.mem_append, List.mem_singleton] at hc
        rcases hc with hc | rfl
        · exact h5 c hc
        · omega
  · rw [List.take_of_length_le (by omega)] at h3 h5
    repeat' (first | apply w_seq | apply w_ops0 | apply w_exit | apply w_ret | apply a_n | apply a_x | apply o_nil | (apply o_val rfl; (focus (first | rfl | (simp (disch := omega) only [dm2, oldP, newP, simB0, ZA, reduceEqDiff, ↓reduceIte, reduceAdd, reduceLeDiff, decide_eq_true_eq]; first | done | omega))); (focus ((try simp (disch := omega) only [simB2, ZA, reduceEqDiff, ↓reduceIte, reduceAdd, reduceLeDiff, ZV, reduceCtorEq, g0, g1, g2, s1, s2]); first | with_reducible rfl | (apply s_ite; (focus omega); with_reducible rfl)))) | (apply e_st; (focus (first | rfl | (simp (disch := omega) only [dm2, oldP, newP, simB0, ZA, reduceEqDiff, ↓reduceIte, reduceAdd, reduceLeDiff, decide_eq_true_eq]; first | done | omega))); (iterate 4 (focus ((try simp (disch := omega) only [simB2, ZA, reduceEqDiff, ↓reduceIte, reduceAdd, reduceLeDiff, g0, g1, g2, s1, s2]); (try with_reducible rfl); done))); (focus (simp (disch := omega) only [SO, Bool.and_self, one_encV, one_encVV, g0, g1, g2, s1, s2])); (iterate 3 (focus ((try simp (disch := omega) only [SL, reduceAdd, Nat.reduceMul, List.length_map]); first | done | omega)))) | (apply w_cond; (focus ((try simp (disch := omega) only [simB2, ZA, reduceEqDiff, ↓reduceIte, reduceAdd, reduceLeDiff, g0, g1, g2, s1, s2]); (try with_reducible rfl); done)); all_goals (intro _hg; (try simp (disch := omega) only [ZB] at _hg); try first | exact absurd trivial _hg | (exfalso; omega))) | (refine e_ends rfl ?_) | (apply r_2; (iterate 2 (focus (simp (disch := omega) only [rv, simB2, ZA, reduceEqDiff, ↓reduceIte, reduceAdd, reduceLeDiff, g0, g1, g2, s1, s2]; with_reducible rfl)))))
    rw [hT false (by
      rw [Bool.eq_false_iff, ne_eq, List.any_eq_true]
      rintro ⟨c, hc1, hc2⟩
      have := h5 c hc1
      simp at hc2; omega), if_neg (by simp)]
    refine snap_tup (snapL_cons (snap_agg ?_) (snapL_cons (.int _ _) snapL_nil))
    refine snapL_cons (.int _ _) (snapL_cons (.int _ _) (snapL_cons (.int _ _) (snapL_cons ?_ snapL_nil)))
    refine Row.snap (h3.same fun b hb => ?_) (fun y hy => ?_) (by omega) (fun y hy c hc' => ?_)
    · have := h4 b hb
      rw [hupd_ne (by omega)]
    · simp at hy; obtain ⟨q, _, rfl⟩ := hy; rfl
    · simp at hy; obtain ⟨q, _, rfl⟩ := hy
      simp only [encC, AV.cells, List.mem_cons, List.not_mem_nil, or_false] at hc'
      rcases hc' with rfl | rfl | rfl
      · exact encV_dat _
      · exact encVV_dat _
      · exact encVV_dat _

end Go.Proofs.Ytcbkggfipdldaaa

/- P14: contracts of functions and plain laws; for all inputs that the theorems name. -/
namespace Go.Proofs.Ytcbkggfipdldaaa
open Go Go.Abs
open Nat (reduceEqDiff reduceAdd reduceLeDiff)
attribute [local irreducible] awp2 aops2 ains aloop athen bbind obind gbind acond res1 Go.Abs.Fn PCall Go.Abs.Pure SnapArgs SnapL Yl

/-! ### the reference's tasks -/
theorem rren_r (n i o : Int) : Pure Try.prog 36 [.int .i64 n, .int .i64 i, .int .i64 o] (.tup [encT (makeT 5 n i o 0).1, .int .i64 (makeT 5 n i o 0).2]) := by
  refine Pure.of_c2 follows is36 (Nat.le_of_ble_eq_true rfl) ?_
  simp only [b36, O, G, N, M, D, F, B2, cFal, cTru]
  have hm := make_r 5 n i o 0
  unfold encK at hm
  repeat' (first | apply w_seq | apply w_ops0 | apply w_ret | apply a_n | apply o_nil | (apply o_val rfl rfl; (focus ((try simp (disch := omega) only [simB0, ZA, reduceEqDiff, ↓reduceIte, reduceAdd, reduceLeDiff, ZV, reduceCtorEq, encT_cells, encCs_one, encCs_cells]); first | with_reducible rfl | (apply s_ite; (focus omega); with_reducible rfl)))) | (apply o_callD; (iterate 2 (focus ((try simp only [simB0, ZA, reduceEqDiff, ↓reduceIte, reduceAdd, reduceLeDiff, encT_cells, encCs_one, encCs_cells]); (try with_reducible rfl); done))); (focus (first | (exact hm))); (focus ((first | refine snap_plain ?_ rfl | apply snap_data); repeat' (first | exact snapL_nil | apply snapL_i | apply snapL_dat | exact encK_dat _ _ _ _ _)))) | (apply e_alloc rfl; (focus ((try simp only [simB0, ZA, reduceEqDiff, ↓reduceIte, reduceAdd, reduceLeDiff, encT_cells, encCs_one, encCs_cells]); (try with_reducible rfl); done)); (focus (simp only [SO, Bool.and_self, one_encV, one_encVV, encT_cells, encCs_one, encCs_cells]))) | (apply e_st rfl; (iterate 4 (focus ((try simp only [simB0, ZA, reduceEqDiff, ↓reduceIte, reduceAdd, reduceLeDiff, encT_cells, encCs_one, encCs_cells]); (try with_reducible rfl); done))); (focus (simp only [SO, Bool.and_self, one_encV, one_encVV, encT_cells, encCs_one, encCs_cells])); (iterate 3 (focus ((try simp only [SL, reduceAdd, Nat.reduceMul, List.length_map]); first | done | omega)))) | (refine e_ends rfl ?_) | (apply r_2; (iterate 2 (focus (simp only [rv, simB0, ZA, reduceEqDiff, ↓reduceIte, reduceAdd, reduceLeDiff, encT_cells, encCs_one, encCs_cells]; with_reducible rfl)))))
  exact encTE_dat _ _ _

theorem rcom_r (n : Int) : Pure Try.prog 37 [.int .i64 n] (.tup [encT (makeT 1 n 2 2 0).1, .int .i64 (makeT 1 n 2 2 0).2]) := by
  refine Pure.of_c2 follows is37 (Nat.le_of_ble_eq_true rfl) ?_
  simp only [b37, O, G, N, M, D, F, B2, cFal, cTru]
  have hm := make_r 1 n 2 2 0
  unfold encK at hm
  repeat' (first | apply w_seq | apply w_ops0 | apply w_ret | apply a_n | apply o_nil | (apply o_val rfl rfl; (focus ((try simp (disch := omega) only [simB0, ZA, reduceEqDiff, ↓reduceIte, reduceAdd, reduceLeDiff, ZV, reduceCtorEq, encT_cells, encCs_one, encCs_cells]); first | with_reducible rfl | (apply s_ite; (focus omega); with_reducible rfl)))) | (apply o_callD; (iterate 2 (focus ((try simp only [simB0, ZA, reduceEqDiff, ↓reduceIte, reduceAdd, reduceLeDiff, encT_cells, encCs_one, encCs_cells]); (try with_reducible rfl); done))); (focus (first | (exact hm))); (focus ((first | refine snap_plain ?_ rfl | apply snap_data); repeat' (first | exact snapL_nil | apply snapL_i | apply snapL_dat | exact encK_dat _ _ _ _ _)))) | (apply e_alloc rfl; (focus ((try simp only [simB0, ZA, reduceEqDiff, ↓reduceIte, reduceAdd, reduceLeDiff, encT_cells, encCs_one, encCs_cells]); (try with_reducible rfl); done)); (focus (simp only [SO, Bool.and_self, one_encV, one_encVV, encT_cells, encCs_one, encCs_cells]))) | (apply e_st rfl; (iterate 4 (focus ((try simp only [simB0, ZA, reduceEqDiff, ↓reduceIte, reduceAdd, reduceLeDiff, encT_cells, encCs_one, encCs_cells]); (try with_reducible rfl); done))); (focus (simp only [SO, Bool.and_self, one_encV, one_encVV, encT_cells, encCs_one, encCs_cells])); (iterate 3 (focus ((try simp only [SL, reduceAdd, Nat.reduceMul, List.length_map]); first | done | omega)))) | (refine e_ends rfl ?_) | (apply r_2; (iterate 2 (focus (simp only [rv, simB0, ZA, reduceEqDiff, ↓reduceIte, reduceAdd, reduceLeDiff, encT_cells, encCs_one, encCs_cells]; with_reducible rfl)))))
  exact encTE_dat _ _ _

theorem rlead_r (n : Int) : Pure Try.prog 39 [.int .i64 n] (.tup [encT (makeT 4 n 1 2 0).1, .int .i64 (makeT 4 n 1 2 0).2]) := by
  refine Pure.of_c2 follows is39 (Nat.le_of_ble_eq_true rfl) ?_
  simp only [b39, O, G, N, M, D, F, B2, cFal, cTru]
  have hm := make_r 4 n 1 2 0
  unfold encK at hm
  repeat' (first | apply w_seq | apply w_ops0 | apply w_ret | apply a_n | apply o_nil | (apply o_val rfl rfl; (focus ((try simp (disch := omega) only [simB0, ZA, reduceEqDiff, ↓reduceIte, reduceAdd, reduceLeDiff, ZV, reduceCtorEq, encT_cells, encCs_one, encCs_cells]); first | with_reducible rfl | (apply s_ite; (focus omega); with_reducible rfl)))) | (apply o_callD; (iterate 2 (focus ((try simp only [simB0, ZA, reduceEqDiff, ↓reduceIte, reduceAdd, reduceLeDiff, encT_cells, encCs_one, encCs_cells]); (try with_reducible rfl); done))); (focus (first | (exact hm))); (focus ((first | refine snap_plain ?_ rfl | apply snap_data); repeat' (first | exact snapL_nil | apply snapL_i | apply snapL_dat | exact encK_dat _ _ _ _ _)))) | (apply e_alloc rfl; (focus ((try simp only [simB0, ZA, reduceEqDiff, ↓reduceIte, reduceAdd, reduceLeDiff, encT_cells, encCs_one, encCs_cells]); (try with_reducible rfl); done)); (focus (simp only [SO, Bool.and_self, one_encV, one_encVV, encT_cells, encCs_one, encCs_cells]))) | (apply e_st rfl; (iterate 4 (focus ((try simp only [simB0, ZA, reduceEqDiff, ↓reduceIte, reduceAdd, reduceLeDiff, encT_cells, encCs_one, encCs_cells]); (try with_reducible rfl); done))); (focus (simp only [SO, Bool.and_self, one_encV, one_encVV, encT_cells, encCs_one, encCs_cells])); (iterate 3 (focus ((try simp only [SL, reduceAdd, Nat.reduceMul, List.length_map]); first | done | omega)))) | (refine e_ends rfl ?_) | (apply r_2; (iterate 2 (focus (simp only [rv, simB0, ZA, reduceEqDiff, ↓reduceIte, reduceAdd, reduceLeDiff, encT_cells, encCs_one, encCs_cells]; with_reducible rfl)))))
  exact encTE_dat _ _ _

/-! ### equal tasks -/
theorem order_r (a : List Int) (ha : Sh a) : Pure Try.prog 58 [encV a, encV a] (.int .i64 0) := by
  refine Pure.of_c2 follows is58 (Nat.le_of_ble_eq_true rfl) ?_
  simp only [b58, O, G, N, M, D, F, B2, cFal, cTru]
  repeat' (first | apply w_seq | apply w_ops0 | apply w_block | apply a_n | apply o_nil | (apply o_val rfl rfl; (focus ((try simp (disch := omega) only [simB0, ZA, reduceEqDiff, ↓reduceIte, reduceAdd, reduceLeDiff, ZV, reduceCtorEq]); first | with_reducible rfl | (apply s_ite; (focus omega); with_reducible rfl)))) | apply w_loop)
  refine loop0 (X := Nat) (fun k => [(0, encV a), (1, encV a), (5, .int .i64 k)]) (fun k => k ≤ a.length) (fun k => a.length - k) 0 (Nat.zero_le _) (by simp (disch := omega) only [agr, ZG, reduceEqDiff, ↓reduceIte]) ?_
  rintro k h1
  repeat' (first | apply w_seq | apply w_ops0 | apply w_ops1 | apply w_block | apply w_skip | apply w_exit | apply w_ret | apply a_n | apply a_x | apply o_nil | (apply o_val rfl rfl; (focus ((try simp (disch := omega) only [simB0, ZA, reduceEqDiff, ↓reduceIte, reduceAdd, reduceLeDiff, ZV, reduceCtorEq]); first | with_reducible rfl | (apply s_ite; (focus omega); with_reducible rfl)))) | (apply o_gT; (focus (simp only [simB0, ZA, reduceEqDiff, ↓reduceIte, reduceAdd, reduceLeDiff]; done))) | (apply o_gF; (focus (simp only [simB0, ZA, reduceEqDiff, ↓reduceIte, reduceAdd, reduceLeDiff, or_true, true_or]; done))) | (apply w_condF; (focus (simp only [simB0, ZA, reduceEqDiff, ↓reduceIte, reduceAdd, reduceLeDiff]; done))) | ((first | apply o_gB | apply w_cond); (focus ((try simp only [simB0, ZA, reduceEqDiff, ↓reduceIte, reduceAdd, reduceLeDiff]); (try with_reducible rfl); done)); all_goals (intro _hg; (try simp only [ZB] at _hg); try first | exact absurd trivial _hg | (exfalso; omega))) | (refine e_ends rfl ?_) | (apply r_1; (focus (simp only [rv, simB0, ZA, reduceEqDiff, ↓reduceIte, reduceAdd, reduceLeDiff]; with_reducible rfl))))
  · refine ⟨k + 1, by omega, by omega, by simp (disch := omega) only [agr, ZG, reduceEqDiff, ↓reduceIte], rfl, rfl⟩
  · exact .int _ _

theorem sameVs_r (a : List (List Int)) (ha : Sh a) (hs : ∀ x ∈ a, Sh x) : Pure Try.prog 44 [encVV a, encVV a] (.bool true) := by
  refine Pure.of_c2 follows is44 (Nat.le_of_ble_eq_true rfl) ?_
  simp only [b44, O, G, N, M, D, F, B2, cFal, cTru]
  repeat' (first | apply w_seq | apply w_ops0 | apply w_block | apply w_skip | apply a_n | apply o_nil | (apply o_val rfl rfl; (focus ((try simp (disch := omega) only [simB0, ZA, reduceEqDiff, ↓reduceIte, reduceAdd, reduceLeDiff, ZV, reduceCtorEq]); first | with_reducible rfl | (apply s_ite; (focus omega); with_reducible rfl)))) | (apply w_cond; (focus ((try simp only [simB0, ZA, reduceEqDiff, ↓reduceIte, reduceAdd, reduceLeDiff]); (try with_reducible rfl); done)); all_goals (intro _hg; (try simp only [ZB] at _hg); try first | exact absurd trivial _hg | (exfalso; omega))) | apply w_loop)
  refine loop0 (X := Nat) (fun k => [(0, encVV a), (1, encVV a), (5, .int .i64 k)]) (fun k => k ≤ a.length) (fun k => a.length - k) 0 (Nat.zero_le _) (by simp (disch := omega) only [agr, ZG, reduceEqDiff, ↓reduceIte]) ?_
  rintro k h1
  repeat' (first | apply w_seq | apply w_ops0 | apply w_mixS1 | apply w_block | apply w_skip | apply w_exit | apply w_ret | apply a_n | apply a_x | apply o_nil | (apply o_val rfl rfl; (focus ((try simp (disch := omega) only [simB0, ZA, reduceEqDiff, ↓reduceIte, reduceAdd, reduceLeDiff, ZV, reduceCtorEq]); first | with_reducible rfl | (apply s_ite; (focus omega); with_reducible rfl)))) | (apply o_callD; (iterate 2 (focus ((try simp only [simB0, ZA, reduceEqDiff, ↓reduceIte, reduceAdd, reduceLeDiff]); (try with_reducible rfl); done))); (focus (first | (exact order_r _ (hs _ (mem_getD (by omega)))))); (focus ((first | refine snap_plain ?_ rfl | apply snap_data); repeat' (first | exact snapL_nil | apply snapL_i | apply snapL_dat)))) | (apply w_cond; (focus ((try simp only [simB0, ZA, reduceEqDiff, ↓reduceIte, reduceAdd, reduceLeDiff]); (try with_reducible rfl); done)); all_goals (intro _hg; (try simp only [ZB] at _hg); try first | exact absurd trivial _hg | (exfalso; omega))) | (refine e_ends rfl ?_) | (apply r_1; (focus (simp only [rv, simB0, ZA, reduceEqDiff, ↓reduceIte, reduceAdd, reduceLeDiff]; with_reducible rfl))))
  · refine ⟨k + 1, by omega, by omega, by simp (disch := omega) only [agr, ZG, reduceEqDiff, ↓reduceIte], rfl, rfl⟩
  · exact .bool _

theorem alenS_encCs (l : List CaseV) : alenS (encCs l) = some (.int .i64 l.length) := by simp [alenS, encCs]
theorem aixS_encCs {l : List CaseV} {k : Nat} (h : k < l.length) : aixS 3 (encCs l) (.int .i64 k) = some (.iptr [encV (l.getD k default).inp, encVV (l.getD k default).out, encVV (l.getD k default).calm] 0) := by
  simp [aixS, encCs, h, List.getD, encC, AV.cells]
def ShC (c : CaseV) : Prop := Sh c.inp ∧ Sh c.out ∧ (∀ x ∈ c.out, Sh x) ∧ Sh c.calm ∧ ∀ x ∈ c.calm, Sh x
theorem same_r (t : TaskV) (h1 : Sh t.cases) (h2 : ∀ c ∈ t.cases, ShC c) : Pure Try.prog 15 [encT t, encT t] (.bool true) := by
  refine Pure.of_c2 follows is15 (Nat.le_of_ble_eq_true rfl) ?_
  simp only [b15, O, G, N, M, D, F, B2, cFal, cTru]
  repeat' (first | apply w_seq | apply w_ops0 | apply w_block | apply w_skip | apply a_n | apply o_nil | (apply o_val rfl rfl; (focus ((try simp (disch := omega) only [simB0, ZA, reduceEqDiff, ↓reduceIte, reduceAdd, reduceLeDiff, ZV, reduceCtorEq, encT_cells, encCs_one, encCs_cells, alenS_encCs]); first | with_reducible rfl | (apply s_ite; (focus omega); with_reducible rfl)))) | (apply e_box rfl; (iterate 2 (focus ((try simp only [simB0, ZA, reduceEqDiff, ↓reduceIte, reduceAdd, reduceLeDiff, encT_cells, encCs_one, encCs_cells, alenS_encCs]); (try with_reducible rfl); done))); (focus (simp only [SO, Bool.and_self, one_encV, one_encVV, encT_cells, encCs_one, encCs_cells, alenS_encCs]))) | (apply o_gT; (focus (simp only [simB0, ZA, reduceEqDiff, ↓reduceIte, reduceAdd, reduceLeDiff, encT_cells, encCs_one, encCs_cells, alenS_encCs]; done))) | ((first | apply o_gB | apply w_cond); (focus ((try simp only [simB0, ZA, reduceEqDiff, ↓reduceIte, reduceAdd, reduceLeDiff, encT_cells, encCs_one, encCs_cells, alenS_encCs]); (try with_reducible rfl); done)); all_goals (intro _hg; (try simp only [ZB] at _hg); try first | exact absurd trivial _hg | (exfalso; omega))) | apply w_loop)
  refine loopI (X := Nat) (fun k => [(2, .ptr 0 4 0), (3, .ptr 1 4 0), (5, .int .i64 k)]) (fun k H nx => k ≤ t.cases.length ∧ 2 ≤ nx ∧ H 0 = some [.int .i64 t.n, .int .i64 t.ins, .int .i64 t.outs, encCs t.cases] ∧ H 1 = some [.int .i64 t.n, .int .i64 t.ins, .int .i64 t.outs, encCs t.cases]) (fun k => t.cases.length - k) 0 ⟨Nat.zero_le _, Nat.le_refl _, rfl, rfl⟩ (by simp (disch := omega) only [agr, ZG, reduceEqDiff, ↓reduceIte, List.length_cons, List.length_nil, reduceAdd, Nat.zero_add]) ?_
  rintro k H nx ⟨hk, hn, g0, g1⟩
  by_cases hj : k < t.cases.length
  · obtain ⟨s1, s2, s3, s4, s5⟩ := h2 _ (mem_getD hj)
    repeat' (first | apply w_seq | apply w_ops0 | apply w_ops2 | apply w_block | apply w_skip | apply a_n | apply o_nil | (apply o_val rfl; (focus (first | rfl | (simp (disch := omega) only [dm2, oldP, newP, simB0, ZA, reduceEqDiff, ↓reduceIte, reduceAdd, reduceLeDiff, decide_eq_true_eq]; first | done | omega))); (focus ((try simp (disch := omega) only [simB2, ZA, reduceEqDiff, ↓reduceIte, reduceAdd, reduceLeDiff, ZV, reduceCtorEq, g0, g1, encCs_one, encCs_cells, alenS_encCs, aixS_encCs]); first | with_reducible rfl | (apply s_ite; (focus omega); with_reducible rfl)))) | (apply o_callD; (iterate 2 (focus ((try simp (disch := omega) only [simB2, ZA, reduceEqDiff, ↓reduceIte, reduceAdd, reduceLeDiff, g0, g1, encCs_one, encCs_cells, alenS_encCs, aixS_encCs]); (try with_reducible rfl); done))); (focus (first | (exact order_r _ s1) | (exact sameVs_r _ s2 s3) | (exact sameVs_r _ s4 s5))); (focus ((first | refine snap_plain ?_ rfl | apply snap_data); repeat' (first | exact snapL_nil | apply snapL_i | apply snapL_dat)))) | (apply e_alloc rfl; (focus ((try simp (disch := omega) only [simB2, ZA, reduceEqDiff, ↓reduceIte, reduceAdd, reduceLeDiff, g0, g1, encCs_one, encCs_cells, alenS_encCs, aixS_encCs]); (try with_reducible rfl); done)); (focus (simp (disch := omega) only [SO, Bool.and_self, one_encV, one_encVV, g0, g1, encCs_one, encCs_cells, alenS_encCs, aixS_encCs]))) | (apply e_st; (focus (first | rfl | (simp (disch := omega) only [dm2, oldP, newP, simB0, ZA, reduceEqDiff, ↓reduceIte, reduceAdd, reduceLeDiff, decide_eq_true_eq]; first | done | omega))); (iterate 4 (focus ((try simp (disch := omega) only [simB2, ZA, reduceEqDiff, ↓reduceIte, reduceAdd, reduceLeDiff, g0, g1, encCs_one, encCs_cells, alenS_encCs, aixS_encCs]); (try with_reducible rfl); done))); (focus (simp (disch := omega) only [SO, Bool.and_self, one_encV, one_encVV, g0, g1, encCs_one, encCs_cells, alenS_encCs, aixS_encCs])); (iterate 3 (focus ((try simp (disch := omega) only [SL, reduceAdd, Nat.reduceMul, List.length_map]); first | done | omega)))) | (apply o_gT; (focus (simp (disch := omega) only [simB2, ZA, reduceEqDiff, ↓reduceIte, reduceAdd, reduceLeDiff, g0, g1, encCs_one, encCs_cells, alenS_encCs, aixS_encCs]; done))) | (apply w_condF; (focus (simp (disch := omega) only [simB2, ZA, reduceEqDiff, ↓reduceIte, reduceAdd, reduceLeDiff, g0, g1, encCs_one, encCs_cells, alenS_encCs, aixS_encCs]; done))) | ((first | apply o_gB | apply w_cond); (focus ((try simp (disch := omega) only [simB2, ZA, reduceEqDiff, ↓reduceIte, reduceAdd, reduceLeDiff, g0, g1, encCs_one, encCs_cells, alenS_encCs, aixS_encCs]); (try with_reducible rfl); done)); all_goals (intro _hg; (try simp (disch := omega) only [ZB] at _hg); try first | exact absurd trivial _hg | (exfalso; omega))))
    refine ⟨k + 1, by omega, ⟨by omega, by omega, ?_, ?_⟩, by simp (disch := omega) only [agr, ZG, reduceEqDiff, ↓reduceIte]⟩
    · rw [hupd_ne (by omega), hupd_ne (by omega), hupd_ne (by omega), hupd_ne (by omega), g0]
    · rw [hupd_ne (by omega), hupd_ne (by omega), hupd_ne (by omega), hupd_ne (by omega), g1]
  · repeat' (first | apply w_seq | apply w_ops0 | apply w_exit | apply w_ret | apply a_n | apply a_x | apply o_nil | (apply o_val rfl; (focus (first | rfl | (simp (disch := omega) only [dm2, oldP, newP, simB0, ZA, reduceEqDiff, ↓reduceIte, reduceAdd, reduceLeDiff, decide_eq_true_eq]; first | done | omega))); (focus ((try simp (disch := omega) only [simB2, ZA, reduceEqDiff, ↓reduceIte, reduceAdd, reduceLeDiff, ZV, reduceCtorEq, g0, g1, encCs_one, encCs_cells, alenS_encCs, aixS_encCs]); first | with_reducible rfl | (apply s_ite; (focus omega); with_reducible rfl)))) | (apply w_cond; (focus ((try simp (disch := omega) only [simB2, ZA, reduceEqDiff, ↓reduceIte, reduceAdd, reduceLeDiff, g0, g1, encCs_one, encCs_cells, alenS_encCs, aixS_encCs]); (try with_reducible rfl); done)); all_goals (intro _hg; (try simp (disch := omega) only [ZB] at _hg); try first | exact absurd trivial _hg | (exfalso; omega))) | (refine e_ends rfl ?_) | (apply r_1; (focus (simp (disch := omega) only [rv, simB2, ZA, reduceEqDiff, ↓reduceIte, reduceAdd, reduceLeDiff, g0, g1, encCs_one, encCs_cells, alenS_encCs, aixS_encCs]; with_reducible rfl))))
    exact .bool _

def fewB (n ins outs : Int) : Bool := decide (n < 1 ∨ 5 < n ∨ ins < 1 ∨ 8 < ins ∨ outs < 1 ∨ 8 < outs) || decide (powL ins.toNat 1000 n.toNat * powL outs.toNat 1000 n.toNat ≤ 3000)
theorem few_r (n ins outs : Int) : Pure Try.prog 9 [.int .i64 n, .int .i64 ins, .int .i64 outs] (.bool (fewB n ins outs)) := by
  refine Pure.of_c2 follows is9 (Nat.le_of_ble_eq_true rfl) ?_
  simp only [b9, O, G, N, M, D, F, B2, cFal, cTru]
  refine w_seq ?_
  repeat' (first | apply w_ops0 | apply a_n | apply o_nil | (apply o_val rfl rfl; (focus ((try simp (disch := omega) only [simB0, ZA, reduceEqDiff, ↓reduceIte, reduceAdd, reduceLeDiff, ZV, reduceCtorEq]); first | with_reducible rfl | (apply s_ite; (focus omega); with_reducible rfl)))))
  by_cases h : n < 1 ∨ 5 < n ∨ ins < 1 ∨ 8 < ins ∨ outs < 1 ∨ 8 < outs
  · refine w_seqC (fun _ _ _ => False) ?_ (fun _ _ _ h => h.elim)
    repeat' (first | apply w_seq | apply w_ops0 | apply w_ret | apply a_n | apply a_r | apply o_nil | (apply o_val rfl rfl; (focus ((try simp (disch := omega) only [simB0, ZA, reduceEqDiff, ↓reduceIte, reduceAdd, reduceLeDiff, ZV, reduceCtorEq]); first | with_reducible rfl | (apply s_ite; (focus omega); with_reducible rfl)))) | (apply o_gT; (focus (simp only [simB0, ZA, reduceEqDiff, ↓reduceIte, reduceAdd, reduceLeDiff]; done))) | (apply o_gF; (focus (simp only [simB0, ZA, reduceEqDiff, ↓reduceIte, reduceAdd, reduceLeDiff, or_true, true_or]; done))) | (apply w_condT; (focus (simp only [simB0, ZA, reduceEqDiff, ↓reduceIte, reduceAdd, reduceLeDiff]; done))) | ((first | apply o_gB | apply w_cond); (focus ((try simp only [simB0, ZA, reduceEqDiff, ↓reduceIte, reduceAdd, reduceLeDiff]); (try with_reducible rfl); done)); all_goals (intro _hg; (try simp only [ZB] at _hg); try first | exact absurd trivial _hg | (exfalso; omega))) | (refine e_ends rfl ?_) | (apply r_1; (focus (simp only [rv, simB0, ZA, reduceEqDiff, ↓reduceIte, reduceAdd, reduceLeDiff]; with_reducible rfl))))
    all_goals (refine snap_bool ?_; unfold fewB; rw [decide_eq_true h]; rfl)
  · refine w_seqC (fun T H nx => T 0 = .int .i64 n ∧ T 1 = .int .i64 ins ∧ T 2 = .int .i64 outs) ?_ ?_
    · repeat' (first | apply w_seq | apply w_ops0 | apply w_skip | apply a_n | apply o_nil | (apply o_val rfl rfl; (focus ((try simp (disch := omega) only [simB0, ZA, reduceEqDiff, ↓reduceIte, reduceAdd, reduceLeDiff, ZV, reduceCtorEq]); first | with_reducible rfl | (apply s_ite; (focus omega); with_reducible rfl)))) | (apply o_gT; (focus (simp only [simB0, ZA, reduceEqDiff, ↓reduceIte, reduceAdd, reduceLeDiff]; done))) | ((first | apply o_gB | apply w_cond); (focus ((try simp only [simB0, ZA, reduceEqDiff, ↓reduceIte, reduceAdd, reduceLeDiff]); (try with_reducible rfl); done)); all_goals (intro _hg; (try simp only [ZB] at _hg); try first | exact absurd trivial _hg | (exfalso; omega))))
      exact ⟨rfl, rfl, rfl⟩
    · rintro T H nx ⟨t0, t1, t2⟩
      obtain ⟨N, rfl⟩ : ∃ N : Nat, n = N := ⟨n.toNat, by omega⟩
      obtain ⟨V, rfl⟩ : ∃ V : Nat, ins = V := ⟨ins.toNat, by omega⟩
      obtain ⟨O, rfl⟩ : ∃ O : Nat, outs = O := ⟨outs.toNat, by omega⟩
      have q1 := powL_le (base := V) (lim := 1000) (by omega) (by omega) N
      have q2 := powL_le (base := O) (lim := 1000) (by omega) (by omega) N
      have q3 : powL V 1000 N * powL O 1000 N ≤ (1000 * 8) * (1000 * 8) := Nat.mul_le_mul q1 q2
      have p1 := power_r V N 1000 (by omega) (by omega) (by omega)
      have p2 := power_r O N 1000 (by omega) (by omega) (by omega)
      repeat' (first | apply w_seq | apply w_ops0 | apply w_ret | apply a_n | apply o_nil | (apply o_val rfl rfl; (focus ((try simp (disch := omega) only [simB0, ZA, reduceEqDiff, ↓reduceIte, reduceAdd, reduceLeDiff, ZV, reduceCtorEq, t0, t1, t2, ← Int.natCast_mul]); first | with_reducible rfl | (apply s_ite; (focus omega); with_reducible rfl)))) | (apply o_callD; (iterate 2 (focus ((try simp only [simB0, ZA, reduceEqDiff, ↓reduceIte, reduceAdd, reduceLeDiff, t0, t1, t2, ← Int.natCast_mul]); (try with_reducible rfl); done))); (focus (first | (exact p1) | (exact p2))); (focus ((first | refine snap_plain ?_ rfl | apply snap_data); repeat' (first | exact snapL_nil | apply snapL_i | apply snapL_dat)))) | (refine e_ends rfl ?_) | (apply r_1; (focus (simp only [rv, simB0, ZA, reduceEqDiff, ↓reduceIte, reduceAdd, reduceLeDiff, t0, t1, t2, ← Int.natCast_mul]; with_reducible rfl))))
      refine snap_bool ?_
      unfold fewB
      rw [decide_eq_false h, Bool.false_or, Int.toNat_natCast, Int.toNat_natCast, Int.toNat_natCast]
      exact decide_eq_decide.2 (Int.ofNat_le (n := 3000))

end Go.Proofs.Ytcbkggfipdldaaa

/- P15: contracts of functions and plain laws; for all inputs that the theorems name. -/
namespace Go.Proofs.Ytcbkggfipdldaaa
open Go Go.Abs
open Nat (reduceEqDiff reduceAdd reduceLeDiff)
theorem snap_mslL {H : Hp} {b n len : Nat} {cs l : List AV} (hb : H b = some cs) (hn : cs.length = n) (hl : l.length = len) (hs : n = len) (hc : ∀ y ∈ l, y.cells = [y]) (h : SnapL H cs l) : Snap H (.msl b n 1 0 len) (.sl 1 l) := by
  subst hs
  refine snap_msl hb hn (by omega) hl hc (fun i a c ha hc' => ?_)
  rw [Nat.zero_add] at ha
  exact h.2 i a c ha hc'
attribute [local irreducible] awp2 aops2 ains aloop athen bbind obind gbind acond res1 Go.Abs.Fn PCall Go.Abs.Pure SnapArgs SnapL Yl

/-! ### examples -/
theorem ex_cons : (consensusT 2 2).2 = 0 ∧ (consensusT 2 2).1.cases.length = 4 ∧ ((consensusT 2 2).1.cases.getD 1 default).out = [[0, 0], [1, 1]] ∧ ((consensusT 2 2).1.cases.getD 3 default).out.length = 1 ∧ ((consensusT 2 2).1.cases.getD 1 default).calm.length = 0 := by decide
theorem ex_appr : (approxT 2 3).2 = 0 ∧ (approxT 2 3).1.cases.length = 4 ∧ ((approxT 2 3).1.cases.getD 1 default).out.length = 10 ∧ ((approxT 2 3).1.cases.getD 3 default).out.length = 1 := by decide
theorem ex_ren : (renT 2 3 3).2 = 0 ∧ (renT 2 3 3).1.cases.length = 6 ∧ ((renT 2 3 3).1.cases.getD 0 default).out.length = 6 := by decide
theorem ex_ren2 : (renT 3 3 2).2 = 16 ∧ (renT 3 2 3).2 = 16 := by decide
theorem ex_crus : (crusT 2 2).2 = 0 ∧ (crusT 2 2).1.cases.length = 4 ∧ ((crusT 2 2).1.cases.getD 0 default).out.length = 7 ∧ ((crusT 2 2).1.cases.getD 2 default).calm = [[1, 1]] := by decide
theorem ex_com : (comT 2).2 = 0 ∧ (comT 2).1.cases.length = 4 ∧ ((comT 2).1.cases.getD 3 default).calm = [[1, 1]] ∧ ((comT 2).1.cases.getD 3 default).out.length = 2 ∧ ((comT 2).1.cases.getD 1 default).out.length = 1 := by decide

theorem snap_vv {H : Hp} {b n len : Nat} {cs : List AV} {l : List (List Int)} (hb : H b = some cs) (hn : cs.length = n) (hl : l.length = len) (hs : n = len) (h : SnapL H cs (l.map encV)) : Snap H (.msl b n 1 0 len) (encVV l) :=
  snap_mslL hb hn (by simpa using hl) hs (fun y hy => by obtain ⟨x, _, rfl⟩ := List.mem_map.1 hy; rfl) h
theorem awake_c : Pure Try.prog 10 [] (.bool true) := by
  refine Pure.of_c2 follows is10 (Nat.le_of_ble_eq_true rfl) ?_
  simp only [b10, O, G, N, M, D, F, B2, cFal, cTru]
  have c1 := consensus_c 2 2
  have c2 := approx_c 2 3
  have c3 := ren_c 2 3 3
  have c4 := ren_c 3 3 2
  have c5 := ren_c 3 2 3
  have c6 := crus_c 2 2
  have c7 := com_c 2
  obtain ⟨a1, a2, a3, a4, a5⟩ := ex_cons
  obtain ⟨b1, b2, b3, b4⟩ := ex_appr
  obtain ⟨d1, d2, d3⟩ := ex_ren
  obtain ⟨e1, e2⟩ := ex_ren2
  obtain ⟨f1, f2, f3, f4⟩ := ex_crus
  obtain ⟨g1, g2, g3, g4, g5⟩ := ex_com
  generalize consensusT 2 2 = C1 at *
  generalize approxT 2 3 = C2 at *
  generalize renT 2 3 3 = C3 at *
  generalize renT 3 3 2 = C4 at *
  generalize renT 3 2 3 = C5 at *
  generalize crusT 2 2 = C6 at *
  generalize comT 2 = C7 at *
  refine w_seq ?_
  repeat' (first | apply w_ops0 | apply a_n | apply o_nil | (apply o_val rfl rfl; (focus ((try simp (disch := omega) only [simB0, ZA, reduceEqDiff, ↓reduceIte, reduceAdd, reduceLeDiff, ZV, reduceCtorEq]); first | with_reducible rfl | (apply s_ite; (focus omega); with_reducible rfl)))))
  refine w_seq ?_
  repeat' (first | apply w_ops0 | apply a_n | apply o_nil | (apply o_val rfl rfl; (focus ((try simp (disch := omega) only [simB0, ZA, reduceEqDiff, ↓reduceIte, reduceAdd, reduceLeDiff, ZV, reduceCtorEq, encT_cells, encCs_one, encCs_cells, a1]); first | with_reducible rfl | (apply s_ite; (focus omega); with_reducible rfl)))) | (apply o_callD; (iterate 2 (focus ((try simp only [simB0, ZA, reduceEqDiff, ↓reduceIte, reduceAdd, reduceLeDiff, encT_cells, encCs_one, encCs_cells, a1]); (try with_reducible rfl); done))); (focus (first | (exact c1))); (focus ((first | refine snap_plain ?_ rfl | apply snap_data); repeat' (first | exact snapL_nil | apply snapL_i | apply snapL_dat)))) | (apply e_alloc rfl; (focus ((try simp only [simB0, ZA, reduceEqDiff, ↓reduceIte, reduceAdd, reduceLeDiff, encT_cells, encCs_one, encCs_cells, a1]); (try with_reducible rfl); done)); (focus (simp only [SO, Bool.and_self, one_encV, one_encVV, encT_cells, encCs_one, encCs_cells, a1]))) | (apply e_st rfl; (iterate 4 (focus ((try simp only [simB0, ZA, reduceEqDiff, ↓reduceIte, reduceAdd, reduceLeDiff, encT_cells, encCs_one, encCs_cells, a1]); (try with_reducible rfl); done))); (focus (simp only [SO, Bool.and_self, one_encV, one_encVV, encT_cells, encCs_one, encCs_cells, a1])); (iterate 3 (focus ((try simp only [SL, reduceAdd, Nat.reduceMul, List.length_map]); first | done | omega)))))
  refine w_seq ?_
  repeat' (first | apply w_ops0 | apply a_n | apply o_nil | (apply o_val rfl rfl; (focus ((try simp (disch := omega) only [simB0, ZA, reduceEqDiff, ↓reduceIte, reduceAdd, reduceLeDiff, ZV, reduceCtorEq, encT_cells, encCs_one, encCs_cells, b1]); first | with_reducible rfl | (apply s_ite; (focus omega); with_reducible rfl)))) | (apply o_callD; (iterate 2 (focus ((try simp only [simB0, ZA, reduceEqDiff, ↓reduceIte, reduceAdd, reduceLeDiff, encT_cells, encCs_one, encCs_cells, b1]); (try with_reducible rfl); done))); (focus (first | (exact c2))); (focus ((first | refine snap_plain ?_ rfl | apply snap_data); repeat' (first | exact snapL_nil | apply snapL_i | apply snapL_dat)))) | (apply e_alloc rfl; (focus ((try simp only [simB0, ZA, reduceEqDiff, ↓reduceIte, reduceAdd, reduceLeDiff, encT_cells, encCs_one, encCs_cells, b1]); (try with_reducible rfl); done)); (focus (simp only [SO, Bool.and_self, one_encV, one_encVV, encT_cells, encCs_one, encCs_cells, b1]))) | (apply e_st rfl; (iterate 4 (focus ((try simp only [simB0, ZA, reduceEqDiff, ↓reduceIte, reduceAdd, reduceLeDiff, encT_cells, encCs_one, encCs_cells, b1]); (try with_reducible rfl); done))); (focus (simp only [SO, Bool.and_self, one_encV, one_encVV, encT_cells, encCs_one, encCs_cells, b1])); (iterate 3 (focus ((try simp only [SL, reduceAdd, Nat.reduceMul, List.length_map]); first | done | omega)))))
  refine w_seq ?_
  repeat' (first | apply w_ops0 | apply a_n | apply o_nil | (apply o_val rfl rfl; (focus ((try simp (disch := omega) only [simB0, ZA, reduceEqDiff, ↓reduceIte, reduceAdd, reduceLeDiff, ZV, reduceCtorEq, encT_cells, encCs_one, encCs_cells, d1]); first | with_reducible rfl | (apply s_ite; (focus omega); with_reducible rfl)))) | (apply o_callD; (iterate 2 (focus ((try simp only [simB0, ZA, reduceEqDiff, ↓reduceIte, reduceAdd, reduceLeDiff, encT_cells, encCs_one, encCs_cells, d1]); (try with_reducible rfl); done))); (focus (first | (exact c3))); (focus ((first | refine snap_plain ?_ rfl | apply snap_data); repeat' (first | exact snapL_nil | apply snapL_i | apply snapL_dat)))) | (apply e_alloc rfl; (focus ((try simp only [simB0, ZA, reduceEqDiff, ↓reduceIte, reduceAdd, reduceLeDiff, encT_cells, encCs_one, encCs_cells, d1]); (try with_reducible rfl); done)); (focus (simp only [SO, Bool.and_self, one_encV, one_encVV, encT_cells, encCs_one, encCs_cells, d1]))) | (apply e_st rfl; (iterate 4 (focus ((try simp only [simB0, ZA, reduceEqDiff, ↓reduceIte, reduceAdd, reduceLeDiff, encT_cells, encCs_one, encCs_cells, d1]); (try with_reducible rfl); done))); (focus (simp only [SO, Bool.and_self, one_encV, one_encVV, encT_cells, encCs_one, encCs_cells, d1])); (iterate 3 (focus ((try simp only [SL, reduceAdd, Nat.reduceMul, List.length_map]); first | done | omega)))))
  refine w_seq ?_
  repeat' (first | apply w_ops0 | apply a_n | apply o_nil | (apply o_val rfl rfl; (focus ((try simp (disch := omega) only [simB0, ZA, reduceEqDiff, ↓reduceIte, reduceAdd, reduceLeDiff, ZV, reduceCtorEq, encT_cells, encCs_one, encCs_cells, e1]); first | with_reducible rfl | (apply s_ite; (focus omega); with_reducible rfl)))) | (apply o_callD; (iterate 2 (focus ((try simp only [simB0, ZA, reduceEqDiff, ↓reduceIte, reduceAdd, reduceLeDiff, encT_cells, encCs_one, encCs_cells, e1]); (try with_reducible rfl); done))); (focus (first | (exact c4))); (focus ((first | refine snap_plain ?_ rfl | apply snap_data); repeat' (first | exact snapL_nil | apply snapL_i | apply snapL_dat)))) | (apply e_alloc rfl; (focus ((try simp only [simB0, ZA, reduceEqDiff, ↓reduceIte, reduceAdd, reduceLeDiff, encT_cells, encCs_one, encCs_cells, e1]); (try with_reducible rfl); done)); (focus (simp only [SO, Bool.and_self, one_encV, one_encVV, encT_cells, encCs_one, encCs_cells, e1]))) | (apply e_st rfl; (iterate 4 (focus ((try simp only [simB0, ZA, reduceEqDiff, ↓reduceIte, reduceAdd, reduceLeDiff, encT_cells, encCs_one, encCs_cells, e1]); (try with_reducible rfl); done))); (focus (simp only [SO, Bool.and_self, one_encV, one_encVV, encT_cells, encCs_one, encCs_cells, e1])); (iterate 3 (focus ((try simp only [SL, reduceAdd, Nat.reduceMul, List.length_map]); first | done | omega)))))
  refine w_seq ?_
  repeat' (first | apply w_ops0 | apply a_n | apply o_nil | (apply o_val rfl rfl; (focus ((try simp (disch := omega) only [simB0, ZA, reduceEqDiff, ↓reduceIte, reduceAdd, reduceLeDiff, ZV, reduceCtorEq, encT_cells, encCs_one, encCs_cells, e2]); first | with_reducible rfl | (apply s_ite; (focus omega); with_reducible rfl)))) | (apply o_callD; (iterate 2 (focus ((try simp only [simB0, ZA, reduceEqDiff, ↓reduceIte, reduceAdd, reduceLeDiff, encT_cells, encCs_one, encCs_cells, e2]); (try with_reducible rfl); done))); (focus (first | (exact c5))); (focus ((first | refine snap_plain ?_ rfl | apply snap_data); repeat' (first | exact snapL_nil | apply snapL_i | apply snapL_dat)))) | (apply e_alloc rfl; (focus ((try simp only [simB0, ZA, reduceEqDiff, ↓reduceIte, reduceAdd, reduceLeDiff, encT_cells, encCs_one, encCs_cells, e2]); (try with_reducible rfl); done)); (focus (simp only [SO, Bool.and_self, one_encV, one_encVV, encT_cells, encCs_one, encCs_cells, e2]))) | (apply e_st rfl; (iterate 4 (focus ((try simp only [simB0, ZA, reduceEqDiff, ↓reduceIte, reduceAdd, reduceLeDiff, encT_cells, encCs_one, encCs_cells, e2]); (try with_reducible rfl); done))); (focus (simp only [SO, Bool.and_self, one_encV, one_encVV, encT_cells, encCs_one, encCs_cells, e2])); (iterate 3 (focus ((try simp only [SL, reduceAdd, Nat.reduceMul, List.length_map]); first | done | omega)))))
  refine w_seq ?_
  repeat' (first | apply w_ops0 | apply a_n | apply o_nil | (apply o_val rfl rfl; (focus ((try simp (disch := omega) only [simB0, ZA, reduceEqDiff, ↓reduceIte, reduceAdd, reduceLeDiff, ZV, reduceCtorEq, encT_cells, encCs_one, encCs_cells, f1]); first | with_reducible rfl | (apply s_ite; (focus omega); with_reducible rfl)))) | (apply o_callD; (iterate 2 (focus ((try simp only [simB0, ZA, reduceEqDiff, ↓reduceIte, reduceAdd, reduceLeDiff, encT_cells, encCs_one, encCs_cells, f1]); (try with_reducible rfl); done))); (focus (first | (exact c6))); (focus ((first | refine snap_plain ?_ rfl | apply snap_data); repeat' (first | exact snapL_nil | apply snapL_i | apply snapL_dat)))) | (apply e_alloc rfl; (focus ((try simp only [simB0, ZA, reduceEqDiff, ↓reduceIte, reduceAdd, reduceLeDiff, encT_cells, encCs_one, encCs_cells, f1]); (try with_reducible rfl); done)); (focus (simp only [SO, Bool.and_self, one_encV, one_encVV, encT_cells, encCs_one, encCs_cells, f1]))) | (apply e_st rfl; (iterate 4 (focus ((try simp only [simB0, ZA, reduceEqDiff, ↓reduceIte, reduceAdd, reduceLeDiff, encT_cells, encCs_one, encCs_cells, f1]); (try with_reducible rfl); done))); (focus (simp only [SO, Bool.and_self, one_encV, one_encVV, encT_cells, encCs_one, encCs_cells, f1])); (iterate 3 (focus ((try simp only [SL, reduceAdd, Nat.reduceMul, List.length_map]); first | done | omega)))))
  refine w_seq ?_
  repeat' (first | apply w_ops0 | apply a_n | apply o_nil | (apply o_val rfl rfl; (focus ((try simp (disch := omega) only [simB0, ZA, reduceEqDiff, ↓reduceIte, reduceAdd, reduceLeDiff, ZV, reduceCtorEq, encT_cells, encCs_one, encCs_cells, g1]); first | with_reducible rfl | (apply s_ite; (focus omega); with_reducible rfl)))) | (apply o_callD; (iterate 2 (focus ((try simp only [simB0, ZA, reduceEqDiff, ↓reduceIte, reduceAdd, reduceLeDiff, encT_cells, encCs_one, encCs_cells, g1]); (try with_reducible rfl); done))); (focus (first | (exact c7))); (focus ((first | refine snap_plain ?_ rfl | apply snap_data); repeat' (first | exact snapL_nil | apply snapL_i | apply snapL_dat)))) | (apply e_alloc rfl; (focus ((try simp only [simB0, ZA, reduceEqDiff, ↓reduceIte, reduceAdd, reduceLeDiff, encT_cells, encCs_one, encCs_cells, g1]); (try with_reducible rfl); done)); (focus (simp only [SO, Bool.and_self, one_encV, one_encVV, encT_cells, encCs_one, encCs_cells, g1]))) | (apply e_st rfl; (iterate 4 (focus ((try simp only [simB0, ZA, reduceEqDiff, ↓reduceIte, reduceAdd, reduceLeDiff, encT_cells, encCs_one, encCs_cells, g1]); (try with_reducible rfl); done))); (focus (simp only [SO, Bool.and_self, one_encV, one_encVV, encT_cells, encCs_one, encCs_cells, g1])); (iterate 3 (focus ((try simp only [SL, reduceAdd, Nat.reduceMul, List.length_map]); first | done | omega)))))
  refine w_seqC (fun T H nx => nx = 7 ∧ T 1 = .ptr 0 4 0 ∧ T 3 = .ptr 1 4 0 ∧ T 5 = .ptr 2 4 0 ∧ T 11 = .ptr 5 4 0 ∧ T 13 = .ptr 6 4 0 ∧ H 0 = some [.int .i64 C1.1.n, .int .i64 C1.1.ins, .int .i64 C1.1.outs, encCs C1.1.cases] ∧ H 1 = some [.int .i64 C2.1.n, .int .i64 C2.1.ins, .int .i64 C2.1.outs, encCs C2.1.cases]
    ∧ H 2 = some [.int .i64 C3.1.n, .int .i64 C3.1.ins, .int .i64 C3.1.outs, encCs C3.1.cases] ∧ H 5 = some [.int .i64 C6.1.n, .int .i64 C6.1.ins, .int .i64 C6.1.outs, encCs C6.1.cases] ∧ H 6 = some [.int .i64 C7.1.n, .int .i64 C7.1.ins, .int .i64 C7.1.outs, encCs C7.1.cases]) ?_ ?_
  · repeat' (first | apply w_seq | apply w_ops0 | apply w_skip | apply a_n | apply o_nil | (apply o_val rfl rfl; (focus ((try simp (disch := omega) only [simB0, ZA, reduceEqDiff, ↓reduceIte, reduceAdd, reduceLeDiff, ZV, reduceCtorEq, alenS_encCs, a2, b2, d2, f2, g2]); first | with_reducible rfl | (apply s_ite; (focus omega); with_reducible rfl)))) | (apply o_gT; (focus (simp only [simB0, ZA, reduceEqDiff, ↓reduceIte, reduceAdd, reduceLeDiff, alenS_encCs, a2, b2, d2, f2, g2]; done))) | ((first | apply o_gB | apply w_cond); (focus ((try simp only [simB0, ZA, reduceEqDiff, ↓reduceIte, reduceAdd, reduceLeDiff, alenS_encCs, a2, b2, d2, f2, g2]); (try with_reducible rfl); done)); all_goals (intro _hg; (try simp only [ZB] at _hg); try first | exact absurd trivial _hg | (exfalso; omega))))
    exact ⟨rfl, rfl, rfl, rfl, rfl, rfl, rfl, rfl, rfl, rfl, rfl⟩
  · rintro T H nx ⟨rfl, t1, t3, t5, t11, t13, h0, h1, h2, h5, h6⟩
    have i1 : aixS 3 (encCs C1.1.cases) (.int .i64 1) = _ := aixS_encCs (l := C1.1.cases) (k := 1) (by omega)
    have i2 : aixS 3 (encCs C1.1.cases) (.int .i64 3) = _ := aixS_encCs (l := C1.1.cases) (k := 3) (by omega)
    have i3 : aixS 3 (encCs C2.1.cases) (.int .i64 1) = _ := aixS_encCs (l := C2.1.cases) (k := 1) (by omega)
    have i4 : aixS 3 (encCs C2.1.cases) (.int .i64 3) = _ := aixS_encCs (l := C2.1.cases) (k := 3) (by omega)
    have i5 : aixS 3 (encCs C3.1.cases) (.int .i64 0) = _ := aixS_encCs (l := C3.1.cases) (k := 0) (by omega)
    have i6 : aixS 3 (encCs C6.1.cases) (.int .i64 0) = _ := aixS_encCs (l := C6.1.cases) (k := 0) (by omega)
    have i7 : aixS 3 (encCs C6.1.cases) (.int .i64 2) = _ := aixS_encCs (l := C6.1.cases) (k := 2) (by omega)
    have i8 : aixS 3 (encCs C7.1.cases) (.int .i64 3) = _ := aixS_encCs (l := C7.1.cases) (k := 3) (by omega)
    have i9 : aixS 3 (encCs C7.1.cases) (.int .i64 1) = _ := aixS_encCs (l := C7.1.cases) (k := 1) (by omega)
    rw [a3] at i1
    rw [f4] at i7
    rw [g3] at i8
    repeat' (first | apply w_seq | apply w_ops0 | (apply o_val rfl rfl; (focus ((try simp (disch := omega) only [simB0, ZA, reduceEqDiff, ↓reduceIte, reduceAdd, reduceLeDiff, ZV, reduceCtorEq, t1, t3, t5, t11, t13, h0, h1, h2, h5, h6, alenS_encCs, alenS_encVV, i1, i2, i3, i4, i5, i6, i7, i8, i9]); first | with_reducible rfl | (apply s_ite; (focus omega); with_reducible rfl)))) | (apply e_bld rfl; (focus (exact Nat.succ_ne_zero _)); (focus ((try simp only [simB0, ZA, reduceEqDiff, ↓reduceIte, reduceAdd, reduceLeDiff, t1, t3, t5, t11, t13, h0, h1, h2, h5, h6, alenS_encCs, alenS_encVV, i1, i2, i3, i4, i5, i6, i7, i8, i9]); (try with_reducible rfl); done)); (focus ((try simp only [simB0, ZA, reduceEqDiff, ↓reduceIte, reduceAdd, reduceLeDiff, SO, Bool.and_self, one_encV, one_encVV, t1, t3, t5, t11, t13, h0, h1, h2, h5, h6, alenS_encCs, alenS_encVV, i1, i2, i3, i4, i5, i6, i7, i8, i9]); (try with_reducible rfl); done))))
    refine o_callP (by ((try simp only [simB0, ZA, reduceEqDiff, ↓reduceIte, reduceAdd, reduceLeDiff]); (try with_reducible rfl))) (by ((try simp only [simB0, ZA, reduceEqDiff, ↓reduceIte, reduceAdd, reduceLeDiff]); (try with_reducible rfl))) (sameVs_r [[0, 0], [1, 1]] (by simp) (by simp)) (snap_plain (snapL_cons (encVV_dat _ _) (snapL_cons (snap_vv (len := 2) (l := [[0, 0], [1, 1]]) hupd_self' rfl rfl rfl (snapL_cons (snap_row (len := 2) (l := [0, 0]) (by ((try simp only [simB0, ZA, reduceEqDiff, ↓reduceIte, reduceAdd, reduceLeDiff]); (try with_reducible rfl))) rfl rfl) (snapL_cons (snap_row (len := 2) (l := [1, 1]) (by ((try simp only [simB0, ZA, reduceEqDiff, ↓reduceIte, reduceAdd, reduceLeDiff]); (try with_reducible rfl))) rfl rfl) snapL_nil))) snapL_nil)) rfl) ?_
    repeat' (first | (apply o_val rfl rfl; (focus ((try simp (disch := omega) only [simB0, ZA, reduceEqDiff, ↓reduceIte, reduceAdd, reduceLeDiff, ZV, reduceCtorEq, t1, t3, t5, t11, t13, h0, h1, h2, h5, h6, alenS_encCs, alenS_encVV, i1, i2, i3, i4, i5, i6, i7, i8, i9, a4, a5, b3, b4, d3, f3, g4, g5]); first | with_reducible rfl | (apply s_ite; (focus omega); with_reducible rfl)))) | (apply e_bld rfl; (focus (exact Nat.succ_ne_zero _)); (focus ((try simp only [simB0, ZA, reduceEqDiff, ↓reduceIte, reduceAdd, reduceLeDiff, t1, t3, t5, t11, t13, h0, h1, h2, h5, h6, alenS_encCs, alenS_encVV, i1, i2, i3, i4, i5, i6, i7, i8, i9, a4, a5, b3, b4, d3, f3, g4, g5]); (try with_reducible rfl); done)); (focus ((try simp only [simB0, ZA, reduceEqDiff, ↓reduceIte, reduceAdd, reduceLeDiff, SO, Bool.and_self, one_encV, one_encVV, t1, t3, t5, t11, t13, h0, h1, h2, h5, h6, alenS_encCs, alenS_encVV, i1, i2, i3, i4, i5, i6, i7, i8, i9, a4, a5, b3, b4, d3, f3, g4, g5]); (try with_reducible rfl); done))) | (apply o_gT; (focus (simp only [simB0, ZA, reduceEqDiff, ↓reduceIte, reduceAdd, reduceLeDiff, t1, t3, t5, t11, t13, h0, h1, h2, h5, h6, alenS_encCs, alenS_encVV, i1, i2, i3, i4, i5, i6, i7, i8, i9, a4, a5, b3, b4, d3, f3, g4, g5]; done))) | (apply o_gB; (focus ((try simp only [simB0, ZA, reduceEqDiff, ↓reduceIte, reduceAdd, reduceLeDiff, t1, t3, t5, t11, t13, h0, h1, h2, h5, h6, alenS_encCs, alenS_encVV, i1, i2, i3, i4, i5, i6, i7, i8, i9, a4, a5, b3, b4, d3, f3, g4, g5]); (try with_reducible rfl); done)); all_goals (intro _hg; (try simp only [ZB] at _hg); try first | exact absurd trivial _hg | (exfalso; omega))))
    refine o_callP (by ((try simp only [simB0, ZA, reduceEqDiff, ↓reduceIte, reduceAdd, reduceLeDiff]); (try with_reducible rfl))) (by ((try simp only [simB0, ZA, reduceEqDiff, ↓reduceIte, reduceAdd, reduceLeDiff]); (try with_reducible rfl))) (sameVs_r [[1, 1]] (by simp) (by simp)) (snap_plain (snapL_cons (encVV_dat _ _) (snapL_cons (snap_vv (len := 1) (l := [[1, 1]]) hupd_self' rfl rfl rfl (snapL_cons (snap_row (len := 2) (l := [1, 1]) (by ((try simp only [simB0, ZA, reduceEqDiff, ↓reduceIte, reduceAdd, reduceLeDiff]); (try with_reducible rfl))) rfl rfl) snapL_nil)) snapL_nil)) rfl) ?_
    repeat' (first | (apply o_val rfl rfl; (focus ((try simp (disch := omega) only [simB0, ZA, reduceEqDiff, ↓reduceIte, reduceAdd, reduceLeDiff, ZV, reduceCtorEq, t1, t3, t5, t11, t13, h0, h1, h2, h5, h6, alenS_encCs, alenS_encVV, i1, i2, i3, i4, i5, i6, i7, i8, i9, a4, a5, b3, b4, d3, f3, g4, g5]); first | with_reducible rfl | (apply s_ite; (focus omega); with_reducible rfl)))) | (apply e_bld rfl; (focus (exact Nat.succ_ne_zero _)); (focus ((try simp only [simB0, ZA, reduceEqDiff, ↓reduceIte, reduceAdd, reduceLeDiff, t1, t3, t5, t11, t13, h0, h1, h2, h5, h6, alenS_encCs, alenS_encVV, i1, i2, i3, i4, i5, i6, i7, i8, i9, a4, a5, b3, b4, d3, f3, g4, g5]); (try with_reducible rfl); done)); (focus ((try simp only [simB0, ZA, reduceEqDiff, ↓reduceIte, reduceAdd, reduceLeDiff, SO, Bool.and_self, one_encV, one_encVV, t1, t3, t5, t11, t13, h0, h1, h2, h5, h6, alenS_encCs, alenS_encVV, i1, i2, i3, i4, i5, i6, i7, i8, i9, a4, a5, b3, b4, d3, f3, g4, g5]); (try with_reducible rfl); done))) | (apply o_gT; (focus (simp only [simB0, ZA, reduceEqDiff, ↓reduceIte, reduceAdd, reduceLeDiff, t1, t3, t5, t11, t13, h0, h1, h2, h5, h6, alenS_encCs, alenS_encVV, i1, i2, i3, i4, i5, i6, i7, i8, i9, a4, a5, b3, b4, d3, f3, g4, g5]; done))))
    refine o_callP (by ((try simp only [simB0, ZA, reduceEqDiff, ↓reduceIte, reduceAdd, reduceLeDiff]); (try with_reducible rfl))) (by ((try simp only [simB0, ZA, reduceEqDiff, ↓reduceIte, reduceAdd, reduceLeDiff]); (try with_reducible rfl))) (sameVs_r [[1, 1]] (by simp) (by simp)) (snap_plain (snapL_cons (encVV_dat _ _) (snapL_cons (snap_vv (len := 1) (l := [[1, 1]]) hupd_self' rfl rfl rfl (snapL_cons (snap_row (len := 2) (l := [1, 1]) (by ((try simp only [simB0, ZA, reduceEqDiff, ↓reduceIte, reduceAdd, reduceLeDiff]); (try with_reducible rfl))) rfl rfl) snapL_nil)) snapL_nil)) rfl) ?_
    repeat' (first | apply w_ret | apply a_n | apply o_nil | (apply o_val rfl rfl; (focus ((try simp (disch := omega) only [simB0, ZA, reduceEqDiff, ↓reduceIte, reduceAdd, reduceLeDiff, ZV, reduceCtorEq, t1, t3, t5, t11, t13, h0, h1, h2, h5, h6, alenS_encCs, alenS_encVV, i1, i2, i3, i4, i5, i6, i7, i8, i9, a4, a5, b3, b4, d3, f3, g4, g5]); first | with_reducible rfl | (apply s_ite; (focus omega); with_reducible rfl)))) | (apply o_gT; (focus (simp only [simB0, ZA, reduceEqDiff, ↓reduceIte, reduceAdd, reduceLeDiff, t1, t3, t5, t11, t13, h0, h1, h2, h5, h6, alenS_encCs, alenS_encVV, i1, i2, i3, i4, i5, i6, i7, i8, i9, a4, a5, b3, b4, d3, f3, g4, g5]; done))) | (apply o_gB; (focus ((try simp only [simB0, ZA, reduceEqDiff, ↓reduceIte, reduceAdd, reduceLeDiff, t1, t3, t5, t11, t13, h0, h1, h2, h5, h6, alenS_encCs, alenS_encVV, i1, i2, i3, i4, i5, i6, i7, i8, i9, a4, a5, b3, b4, d3, f3, g4, g5]); (try with_reducible rfl); done)); all_goals (intro _hg; (try simp only [ZB] at _hg); try first | exact absurd trivial _hg | (exfalso; omega))) | (refine e_ends rfl ?_) | (apply r_1; (focus (simp only [rv, simB0, ZA, reduceEqDiff, ↓reduceIte, reduceAdd, reduceLeDiff, t1, t3, t5, t11, t13, h0, h1, h2, h5, h6, alenS_encCs, alenS_encVV, i1, i2, i3, i4, i5, i6, i7, i8, i9, a4, a5, b3, b4, d3, f3, g4, g5]; with_reducible rfl))))
    all_goals exact snap_bool (by simp)

end Go.Proofs.Ytcbkggfipdldaaa

/- P16: contracts of functions and plain laws; for all inputs that the theorems name. -/
namespace Go.Proofs.Ytcbkggfipdldaaa
open Go Go.Abs

/-! ### the library's tasks are the reference's -/
theorem powL_pow {b lim : Nat} (hb : 1 ≤ b) (h1 : 1 ≤ lim) : ∀ n, powL b lim n = b ^ n ∨ (lim < powL b lim n ∧ lim < b ^ n)
  | 0 => .inl rfl
  | n + 1 => by
    show (if powL b lim n ≤ lim then powL b lim n * b else powL b lim n) = _ ∨ (lim < (if powL b lim n ≤ lim then powL b lim n * b else powL b lim n) ∧ _)
    have hp : b ^ n ≤ b ^ (n + 1) := Nat.pow_le_pow_right hb (Nat.le_succ n)
    rcases powL_pow hb h1 n with h | ⟨h2, h3⟩
    · split
      · left; rw [h, Nat.pow_succ]
      · right; rw [h] at *; omega
    · rw [if_neg (by omega)]
      right; omega
theorem powL_lim {b lim n : Nat} (hb : 1 ≤ b) (h1 : 1 ≤ lim) : lim < powL b lim n ↔ lim < b ^ n := by
  rcases powL_pow hb h1 n with h | ⟨h2, h3⟩
  · rw [h]
  · omega

theorem agree (k : KindV) (task kk : Int) (hn : 1 ≤ k.n ∧ k.n ≤ 5) (hi : 1 ≤ k.ins ∧ k.ins ≤ 8) (ho : 1 ≤ k.outs ∧ k.outs ≤ 8) (h5 : task ≠ 5) (h6 : task = 6 → 1 ≤ kk ∧ kk ≤ k.n) (hc : k.hasC = false) (hp : ∀ x, k.pc x = true)
    (ha : ∀ x ∈ every k.n k.ins, ∀ y ∈ every k.n k.outs, k.pa x y = allowB task k.ins k.outs kk x y ∧ k.pm x y = calmB task x y) : taskOf k = makeT task k.n k.ins k.outs kk := by
  have hcnt : cnt (every k.n k.ins) k.pc = k.ins ^ k.n := by
    unfold cnt
    rw [List.filter_eq_self.2 (fun x _ => hp x), every_count]
  have hpos : 0 < k.ins ^ k.n := Nat.pow_pos (by omega)
  have hcs : casesOf k (every k.n k.ins) = rcases task k.ins k.outs kk k.n k.outs (every k.n k.ins) := by
    unfold casesOf rcases
    rw [List.filter_eq_self.2 (fun x _ => hp x), List.filter_eq_self.2 (fun x _ => by simp [caseB, h5])]
    refine List.map_congr_left fun x hx => ?_
    unfold caseOf rcase
    have f1 : (every k.n k.outs).filter (k.pa x) = (every k.n k.outs).filter (allowB task k.ins k.outs kk x) := List.filter_congr (fun y hy => (ha x hx y hy).1)
    have f2 : (every k.n k.outs).filter (fun o => k.pa x o && k.pm x o) = (every k.n k.outs).filter (fun o => allowB task k.ins k.outs kk x o && calmB task x o) := List.filter_congr (fun y hy => by rw [(ha x hx y hy).1, (ha x hx y hy).2])
    rw [f1, f2]
  have e1 : taskOf k = if 1024 < cnt (every k.n k.ins) k.pc then (T00, 17) else if (casesOf k (every k.n k.ins)).any (fun c => decide (1024 < c.out.length)) then (T00, 17) else (⟨k.n, k.ins, k.outs, casesOf k (every k.n k.ins)⟩, 0) := by
    unfold taskOf
    rw [if_neg (by omega), if_neg (by simp [hc])]
  have e2 : makeT task k.n k.ins k.outs kk = if 1024 < casesN task k.n k.ins then (T00, 17) else if (rcases task k.ins k.outs kk k.n k.outs (every k.n k.ins)).any (fun c => decide (1024 < c.out.length)) then (T00, 17) else (⟨k.n, k.ins, k.outs, rcases task k.ins k.outs kk k.n k.outs (every k.n k.ins)⟩, 0) := by
    unfold makeT
    rw [if_neg (by omega), if_neg (by omega), if_neg (fun h => by have := h6 h.1; omega), if_neg (by omega)]
    simp only [Int.toNat_natCast]
  have : casesN task k.n k.ins = powL k.ins 1024 k.n := by unfold casesN; rw [if_neg h5]
  rw [e1, e2, hcs, hcnt, this]
  simp only [powL_lim hi.1 (show 1 ≤ 1024 by omega)]

end Go.Proofs.Ytcbkggfipdldaaa

/- P17: contracts of functions and plain laws; for all inputs that the theorems name. -/
namespace Go.Proofs.Ytcbkggfipdldaaa
open Go Go.Abs
open Nat (reduceEqDiff reduceAdd reduceLeDiff)

theorem every_lenB {n v : Nat} (hn : n ≤ 5) (hv : v ≤ 8) : (every n v).length ≤ 32768 := by
  rw [every_count]
  exact Nat.le_trans (Nat.pow_le_pow_left hv n) (show 8 ^ n ≤ 8 ^ 5 from Nat.pow_le_pow_right (by omega) hn)

theorem makeT_sh (task n ins outs k : Int) : Sh (makeT task n ins outs k).1.cases ∧ ∀ c ∈ (makeT task n ins outs k).1.cases, ShC c := by
  have h0 : Sh T00.cases ∧ ∀ c ∈ T00.cases, ShC c := ⟨Nat.zero_le _, fun c hc => (by cases hc)⟩
  unfold makeT
  by_cases c1 : n < 1 ∨ 5 < n
  · rw [if_pos c1]; exact h0
  rw [if_neg c1]
  by_cases c2 : ins < 1 ∨ 8 < ins ∨ outs < 1 ∨ 8 < outs
  · rw [if_pos c2]; exact h0
  rw [if_neg c2]
  split
  · exact h0
  split
  · exact h0
  split
  · exact h0
  split
  · exact h0
  have b1 := every_lenB (n := n.toNat) (v := ins.toNat) (by omega) (by omega)
  have b2 := every_lenB (n := n.toNat) (v := outs.toNat) (by omega) (by omega)
  have hn : n.toNat ≤ 5 := by omega
  dsimp only
  unfold rcases
  refine ⟨?_, fun c hc => ?_⟩
  · show _ ≤ _
    rw [List.length_map]
    have := List.length_filter_le (caseB task) (every n.toNat ins.toNat)
    omega
  · obtain ⟨x, hx, rfl⟩ := List.mem_map.1 hc
    have hx := (List.mem_filter.1 hx).1
    refine ⟨every_sh hn hx, ?_, fun y hy => every_sh hn (List.mem_filter.1 hy).1, ?_, fun y hy => every_sh hn (List.mem_filter.1 hy).1⟩
    · exact Nat.le_trans (List.length_filter_le _ _) (Nat.le_trans b2 (by omega))
    · exact Nat.le_trans (List.length_filter_le _ _) (Nat.le_trans b2 (by omega))

attribute [local irreducible] awp2 aops2 ains aloop athen bbind obind gbind acond res1 Go.Abs.Fn PCall Go.Abs.Pure SnapArgs SnapL Yl

end Go.Proofs.Ytcbkggfipdldaaa

/- P18: contracts of functions and plain laws; for all inputs that the theorems name. -/
namespace Go.Proofs.Ytcbkggfipdldaaa
open Go Go.Abs Go.RowKit Go.ChangeShapes Go.WideShapes Go.ChangeAt

theorem post_of_below {H : Type} {enc : TypeId × Value → H} {P : Program} {f : Func} {s : ChangeSpec} {apart fresh handsOn again : Bool} {W W' : World} {args : Array Value} {v : Value} {ds gs : List (DataW H)} {before pa pv : List MemPlace}
    (hW : DataW.Whole enc P f.params.toList s.vars apart W args.toList ds gs before)
    (hres : ∀ (b : Nat) (sp : Nat → Bool) (hd : Bool), DataW.TrodAll enc P W' b sp hd f.resultTypes.toList (v.resultList f.resultTypes.size) (s.fn H (ds ++ gs)).results [])
    (hargs : ∀ sp : Nat → Bool, (∀ p ∈ before, sp p.block = true) → DataW.TrodAll enc P W' 0 sp true f.params.toList args.toList (s.fn H (ds ++ gs)).args pa)
    (hvars : ∀ sp : Nat → Bool, (∀ p ∈ before, sp p.block = true) → DataW.TrodVars enc P W' sp s.vars (s.fn H (ds ++ gs)).vars pv)
    (hps : before = pa ++ pv) (hb : Below W.heap.size W W')
    (hok : ∀ (j : Nat) (t : TypeId) (r : Value), f.resultTypes[j]? = some t → (v.resultList f.resultTypes.size)[j]? = some r → Value.okWide P W' .any 0 t r) :
    s.post enc P f apart fresh handsOn again W args v W' := by
  have hold : ∀ p ∈ before, (fun b => decide (b < W.heap.size)) p.block = true := fun p hp => by simpa using hW.lt p hp
  have hlt := fun p hp => hW.lt p hp
  refine ⟨ds, gs, before, [], pa, pv, hW, hres _ _ _, hargs _ hold, hvars _ hold, World.keptBut_mono (fun p hp => ⟨hp, ?_⟩) (hb.frame _), fun _ => ?_⟩
  · rw [hps, List.mem_append] at hp
    exact Or.inr hp
  · obtain ⟨_, _, _, _, _, hz, hn⟩ := hW
    refine ⟨hok, _, _, ([] ++ pa) ++ pv, ⟨[] ++ pa, pv, trodAll_append (hargs _ (fun _ _ => rfl)) (hres _ _ _), hvars _ (fun _ _ => rfl), rfl, ?_, ?_⟩, ?_⟩
    · intro b off hp
      have hp' : MemPlace.cell b off ∈ before := by rw [hps]; simpa using hp
      rw [hb.frozen (hlt _ hp')]
      exact hz b off hp'
    · intro ha
      have := hn ha
      rw [hps] at this
      simpa using this
    · intro p hp _
      rw [hps]
      simpa using hp

theorem relL_nil {E : Env} {w : World} : RelL E w [] [] := ⟨rfl, fun i x y h => (by cases h)⟩
theorem relL_cons {E : Env} {w : World} {x : AV} {y : Value} {xs : List AV} {ys : List Value} (h : Rel E w x y) (hs : RelL E w xs ys) : RelL E w (x :: xs) (y :: ys) := by
  refine ⟨by simp [hs.1], fun i a b ha hb => ?_⟩
  cases i with
  | zero => simp at ha hb; subst ha hb; exact h
  | succ i => simp at ha hb; exact hs.2 i a b ha hb
theorem calls_of_pure {f : FuncId} {xs : List AV} {vs : List Value} (h : Go.Abs.Pure Try.prog f xs (.bool true)) (w : World) (hv : RelL (E0 fun _ => False) w xs vs) :
    Calls Try.prog f vs.toArray w fun e w' => e = .returned (.bool true) ∧ Below w.heap.size w w' := by
  refine (h.2 (fun _ => False) w vs (fun _ h => h.elim) hv).mono ?_
  rintro e w' ⟨v, imm', rfl, hb, _, _, _, hr⟩
  cases hr
  exact ⟨rfl, hb⟩

theorem own : ownKnob Try.prog.godebug = none := by kernel_rfl

end Go.Proofs.Ytcbkggfipdldaaa

/- P19: contracts of functions and plain laws; for all inputs that the theorems name. -/
namespace Go.Proofs.Ytcbkggfipdldaaa
open Go Go.Abs

theorem min01 : ∀ (l : List Int) (a : Int), (∀ x ∈ l, 0 ≤ x ∧ x < 2) → (0 ≤ a ∧ a < 2) → l.foldl min a = if a = 0 ∨ 0 ∈ l then 0 else 1
  | [], a, _, ha => by
    simp only [List.foldl_nil, List.not_mem_nil, or_false]
    split <;> omega
  | x :: l, a, h, ha => by
    have hx := h x (by simp)
    rw [List.foldl_cons, min01 l (min a x) (fun y hy => h y (by simp [hy])) (by omega)]
    by_cases h0 : 0 ∈ l
    · rw [if_pos (.inr h0), if_pos (.inr (by simp [h0]))]
    · by_cases h1 : a = 0 ∨ x = 0
      · rw [if_pos (.inl (by omega)), if_pos (by rcases h1 with h1 | h1; exact .inl h1; exact .inr (by simp [h1]))]
      · rw [if_neg, if_neg]
        · rintro (h2 | h2)
          · omega
          · rw [List.mem_cons] at h2
            rcases h2 with h2 | h2
            · omega
            · exact h0 h2
        · rintro (h2 | h2)
          · omega
          · exact h0 h2
theorem min01' {l : List Int} (h : ∀ x ∈ l, 0 ≤ x ∧ x < 2) (h0 : l ≠ []) : l.foldl min (l.getD 0 default) = if 0 ∈ l then 0 else 1 := by
  have hm : l.getD 0 default ∈ l := mem_getD (List.length_pos_iff.2 h0)
  rw [min01 l _ h (h _ hm)]
  by_cases e : 0 ∈ l
  · rw [if_pos (.inr e), if_pos e]
  · rw [if_neg (fun h => by rcases h with h | h; exact e (h ▸ hm); exact e h), if_neg e]

theorem lead_eq (n : Int) : leadT n = makeT 4 n 1 2 0 := by
  unfold leadT taskI
  split
  · rename_i h
    unfold inR at h
    have h1 : ((kLead n).n : Int) = n := by show (n.toNat : Int) = n; omega
    have h2 : ((kLead n).ins : Int) = 1 := rfl
    have h3 : ((kLead n).outs : Int) = 2 := rfl
    rw [agree (kLead n) 4 0 (by omega) (by omega) (by omega) (by omega) (by omega) rfl (fun _ => rfl) (fun x hx y hy => ⟨?_, rfl⟩), h1, h2, h3]
    rfl
  · rename_i h
    unfold inR at h
    unfold makeT
    rw [if_pos (by omega)]

theorem com_eq (n : Int) : comT n = makeT 1 n 2 2 0 := by
  unfold comT taskI
  split
  · rename_i h
    unfold inR at h
    have h1 : ((kCom n).n : Int) = n := by show (n.toNat : Int) = n; omega
    have h2 : ((kCom n).ins : Int) = 2 := rfl
    have h3 : ((kCom n).outs : Int) = 2 := rfl
    rw [agree (kCom n) 1 0 (by omega) (by omega) (by omega) (by omega) (by omega) rfl (fun _ => rfl) (fun x hx y hy => ?_), h1, h2, h3]
    have hm := min01' (l := x) (fun a ha => by have := every_mem _ _ x hx a ha; omega) (every_ne (by omega) hx)
    show (eqv y 0 || eqv y 1 && decide (x.foldl min (x.getD 0 default) = 1)) = _ ∧ eqv y (x.foldl min (x.getD 0 default)) = _
    rw [hm]
    have e1 : ∀ u v, allowB 1 u v 0 x y = (eqv y 0 || (eqv y 1 && !decide (0 ∈ x))) := fun u v => by
      unfold allowB; rw [if_neg (by omega), if_pos rfl]
    have e2 : calmB 1 x y = ((decide (0 ∈ x) && eqv y 0) || (!decide (0 ∈ x) && eqv y 1)) := by
      unfold calmB; rw [if_pos rfl]
    rw [e1, e2]
    by_cases e : 0 ∈ x
    · simp [e]
    · simp [e]
  · rename_i h
    unfold inR at h
    unfold makeT
    rw [if_pos (by omega)]

def injB (l : List Int) : Bool := decide ((kinds l).length = l.length)
theorem inj_some : ∀ n < 6, ∀ v < 9, n ≤ v → (every n v).any injB = true := by decide +kernel
theorem inj_none : ∀ n < 6, ∀ v < n, (every n v).any injB = false := by decide +kernel

theorem fallL_pow {v : Nat} (hv : 1 ≤ v) : ∀ n, fallL v n ≤ v ^ n
  | 0 => Nat.le_refl _
  | n + 1 => by
    show (if fallL v n ≤ 1024 then fallL v n * (v - n) else fallL v n) ≤ _
    have ih := fallL_pow hv n
    split
    · rw [Nat.pow_succ]; exact Nat.mul_le_mul ih (Nat.sub_le _ _)
    · exact Nat.le_trans ih (Nat.pow_le_pow_right hv (Nat.le_succ n))

theorem few_pow {n v o : Nat} (hn : 1 ≤ n) (hv : 1 ≤ v ∧ v ≤ 8) (ho : n ≤ o) (h : powL v 1000 n * powL o 1000 n ≤ 3000) : v ^ n ≤ 1024 := by
  by_cases h1 : n = 1
  · subst h1; rw [Nat.pow_one]; omega
  · have h4 : 4 ≤ powL o 1000 n := by
      rcases powL_pow (b := o) (lim := 1000) (by omega) (by omega) n with e | ⟨e, _⟩
      · rw [e]
        exact Nat.le_trans (Nat.pow_le_pow_left (show 2 ≤ o by omega) 2) (Nat.pow_le_pow_right (by omega) (by omega))
      · omega
    have h5 : powL v 1000 n * 4 ≤ 3000 := Nat.le_trans (Nat.mul_le_mul_left _ h4) h
    rcases powL_pow (b := v) (lim := 1000) hv.1 (by omega) n with e | ⟨e, _⟩
    · rw [← e]; omega
    · omega

theorem ren_eq (n i o : Int) (hf : fewB n i o = true) : renT n i o = makeT 5 n i o 0 := by
  unfold renT taskI
  split
  · rename_i h
    unfold inR at h
    obtain ⟨N, rfl⟩ : ∃ N : Nat, n = N := ⟨n.toNat, by omega⟩
    obtain ⟨V, rfl⟩ : ∃ V : Nat, i = V := ⟨i.toNat, by omega⟩
    obtain ⟨O, rfl⟩ : ∃ O : Nat, o = O := ⟨o.toNat, by omega⟩
    unfold fewB at hf
    rw [decide_eq_false (by omega), Bool.false_or, decide_eq_true_iff] at hf
    simp only [Int.toNat_natCast] at hf
    have hk : kRen N V O = ⟨N, V, O, true, injB, fun _ m => decide ((kinds m).length = m.length), fun _ _ => false⟩ := by
      unfold kRen; simp only [Int.toNat_natCast]; rfl
    rw [hk]
    have hc0 : cnt (every N V) injB = 0 ↔ V < N := by
      unfold cnt
      rw [List.length_eq_zero_iff, List.filter_eq_nil_iff]
      constructor
      · intro h0
        refine Nat.lt_of_not_le fun hle => ?_
        have := inj_some N (by omega) V (by omega) hle
        rw [List.any_eq_true] at this
        obtain ⟨x, hx, hx2⟩ := this
        exact h0 x hx hx2
      · intro hlt x hx hx2
        have := inj_none N (by omega) V hlt
        rw [List.any_eq_false] at this
        exact this x hx hx2
    have hcs : casesOf ⟨N, V, O, true, injB, fun _ m => decide ((kinds m).length = m.length), fun _ _ => false⟩ (every N V) = rcases 5 V O 0 N O (every N V) := rfl
    have e1 : makeT 5 N V O 0 = if V < N ∨ O < N then (T00, 16) else if 1024 < fallL V N then (T00, 17) else if (rcases 5 V O 0 N O (every N V)).any (fun c => decide (1024 < c.out.length)) then (T00, 17) else (⟨N, V, O, rcases 5 V O 0 N O (every N V)⟩, 0) := by
      unfold makeT
      rw [if_neg (by omega), if_neg (by omega), if_neg (by omega)]
      by_cases hlt : V < N ∨ O < N
      · rw [if_pos (show (5 : Int) = 5 ∧ ((V : Int) < N ∨ (O : Int) < N) from ⟨rfl, by omega⟩), if_pos hlt]
      · rw [if_neg (show ¬ ((5 : Int) = 5 ∧ ((V : Int) < N ∨ (O : Int) < N)) from fun h => by omega), if_neg hlt]; rfl
    rw [e1]
    unfold taskOf
    dsimp only
    rw [hcs]
    by_cases hlt : V < N ∨ O < N
    · rw [if_pos hlt]
      by_cases h0 : V < N
      · rw [if_pos (hc0.2 h0)]
      · rw [if_neg (fun h => h0 (hc0.1 h)), if_pos ⟨rfl, by omega⟩]
    · have hp := few_pow (by omega) (by omega) (by omega) hf
      have hq := fallL_pow (v := V) (by omega) N
      have hr : cnt (every N V) injB ≤ V ^ N := by
        rw [← every_count]; exact List.length_filter_le _ _
      rw [if_neg hlt, if_neg (show ¬ cnt (every N V) injB = 0 from fun h => by have := hc0.1 h; omega), if_neg (show ¬ (true = true ∧ O < N) from fun h => by omega), if_neg (show ¬ 1024 < cnt (every N V) injB by omega), if_neg (show ¬ 1024 < fallL V N by omega)]
  · rename_i h
    unfold inR at h
    unfold makeT
    by_cases h1 : n < 1 ∨ 5 < n
    · rw [if_pos h1]
    · rw [if_neg h1, if_pos (by omega)]

end Go.Proofs.Ytcbkggfipdldaaa

/- P20: contracts of functions and plain laws; for all inputs that the theorems name. -/
namespace Go.Proofs.Ytcbkggfipdldaaa
open Go Go.Abs
open Nat (reduceEqDiff reduceAdd reduceLeDiff)
attribute [local irreducible] awp2 aops2 ains aloop athen bbind obind gbind acond res1 Go.Abs.Fn PCall Go.Abs.Pure SnapArgs SnapL Yl

/-! ### the tasks by their names -/
def sAppr : ByteArray := ByteArray.mk (Array.mk [97, 112, 112, 114, 111, 120, 105, 109, 97, 116, 101])
def sCom : ByteArray := ByteArray.mk (Array.mk [99, 111, 109, 109, 105, 116])
def sCons : ByteArray := ByteArray.mk (Array.mk [99, 111, 110, 115, 101, 110, 115, 117, 115])
def sCrus : ByteArray := ByteArray.mk (Array.mk [99, 114, 117, 115, 97, 100, 101, 114])
def sLead : ByteArray := ByteArray.mk (Array.mk [108, 101, 97, 100, 101, 114])
def sRen : ByteArray := ByteArray.mk (Array.mk [114, 101, 110, 97, 109, 105, 110, 103])
def sSet : ByteArray := ByteArray.mk (Array.mk [115, 101, 116])

def taskNames : List AV := [.str sAppr, .str sCom, .str sCons, .str sCrus, .str sLead, .str sRen, .str sSet]
def taskFuncs : List AV := [.func 91 [], .func 92 [], .func 93 [], .func 94 [], .func 95 [], .func 35 [], .func 18 []]
theorem tasks_c (H : Hp) (nx : Nat) : Abs.Fn Try.prog 60 [] H nx fun r H' nx' => r = .mp nx ∧ H' nx = some [.omap taskNames taskFuncs] ∧ nx' = nx + 1 ∧ ∀ x, x ≠ nx → H' x = H x := by
  refine Abs.Fn.of_c2 follows is60 (Nat.le_of_ble_eq_true rfl) ?_
  simp only [b60, O, G, N, M, D, F, B2, cFal, cTru]
  repeat' (first | apply w_seq | apply w_ops0 | apply a_n | apply o_nil | (apply o_val rfl rfl; (focus ((try simp (disch := omega) only [simB0, ZA, reduceEqDiff, ↓reduceIte, reduceAdd, reduceLeDiff, ZV, reduceCtorEq]); first | with_reducible rfl | (apply s_ite; (focus omega); with_reducible rfl)))))
  refine o_mkm ?_
  refine o_mput (by ((try simp only [simB0, ZA, reduceEqDiff, ↓reduceIte, reduceAdd, reduceLeDiff]); (try with_reducible rfl))) hupd_self' (kv := .str sAppr) (xv := .func 91 []) rfl rfl rfl (r := none) (by decide +kernel) ?_
  refine o_mput (by ((try simp only [simB0, ZA, reduceEqDiff, ↓reduceIte, reduceAdd, reduceLeDiff]); (try with_reducible rfl))) hupd_self' (kv := .str sCom) (xv := .func 92 []) rfl rfl rfl (r := none) (by decide +kernel) ?_
  refine o_mput (by ((try simp only [simB0, ZA, reduceEqDiff, ↓reduceIte, reduceAdd, reduceLeDiff]); (try with_reducible rfl))) hupd_self' (kv := .str sCons) (xv := .func 93 []) rfl rfl rfl (r := none) (by decide +kernel) ?_
  refine o_mput (by ((try simp only [simB0, ZA, reduceEqDiff, ↓reduceIte, reduceAdd, reduceLeDiff]); (try with_reducible rfl))) hupd_self' (kv := .str sCrus) (xv := .func 94 []) rfl rfl rfl (r := none) (by decide +kernel) ?_
  refine o_mput (by ((try simp only [simB0, ZA, reduceEqDiff, ↓reduceIte, reduceAdd, reduceLeDiff]); (try with_reducible rfl))) hupd_self' (kv := .str sLead) (xv := .func 95 []) rfl rfl rfl (r := none) (by decide +kernel) ?_
  refine o_mput (by ((try simp only [simB0, ZA, reduceEqDiff, ↓reduceIte, reduceAdd, reduceLeDiff]); (try with_reducible rfl))) hupd_self' (kv := .str sRen) (xv := .func 35 []) rfl rfl rfl (r := none) (by decide +kernel) ?_
  refine o_mput (by ((try simp only [simB0, ZA, reduceEqDiff, ↓reduceIte, reduceAdd, reduceLeDiff]); (try with_reducible rfl))) hupd_self' (kv := .str sSet) (xv := .func 18 []) rfl rfl rfl (r := none) (by decide +kernel) ?_
  repeat' (first | apply w_ret | apply a_n | apply o_nil | (apply o_val rfl rfl; (focus ((try simp (disch := omega) only [simB0, ZA, reduceEqDiff, ↓reduceIte, reduceAdd, reduceLeDiff, ZV, reduceCtorEq]); first | with_reducible rfl | (apply s_ite; (focus omega); with_reducible rfl)))) | (refine e_ends rfl ?_) | (apply r_1; (focus (simp only [rv, simB0, ZA, reduceEqDiff, ↓reduceIte, reduceAdd, reduceLeDiff]; with_reducible rfl))))
  refine ⟨rfl, ?_, rfl, fun x hx => ?_⟩
  · rw [hupd_self']; rfl
  · simp only [hupd_ne hx]

end Go.Proofs.Ytcbkggfipdldaaa

/- P23: contracts of functions and plain laws; for all inputs that the theorems name. -/
namespace Go.Proofs.Ytcbkggfipdldaaa
open Go Go.Abs
open Nat (reduceEqDiff reduceAdd reduceLeDiff)

/-! ### comparisons of vectors -/
def order : List Int → List Int → Int
  | [], [] => 0
  | [], _ :: _ => -1
  | _ :: _, [] => 1
  | a :: l, b :: m => if a < b then -1 else if a > b then 1 else order l m

attribute [local irreducible] awp2 aops2 ains aloop athen bbind obind gbind acond res1 Go.Abs.Fn PCall Go.Abs.Pure SnapArgs SnapL Yl
end Go.Proofs.Ytcbkggfipdldaaa

/- P24: contracts of functions and plain laws; for all inputs that the theorems name. -/
namespace Go.Proofs.Ytcbkggfipdldaaa
open Go Go.Abs
open Nat (reduceEqDiff reduceAdd reduceLeDiff)
attribute [local irreducible] awp2 aops2 ains aloop athen bbind obind gbind acond res1 Go.Abs.Fn PCall Go.Abs.Pure SnapArgs SnapL Yl

/-! ### checks of tasks that are well-formed -/
end Go.Proofs.Ytcbkggfipdldaaa

/- P25: contracts of functions and plain laws; for all inputs that the theorems name. -/
namespace Go.Proofs.Ytcbkggfipdldaaa
open Go Go.Abs
open Nat (reduceEqDiff reduceAdd reduceLeDiff)
attribute [local irreducible] awp2 aops2 ains aloop athen bbind obind gbind acond res1 Go.Abs.Fn PCall Go.Abs.Pure SnapArgs SnapL Yl

end Go.Proofs.Ytcbkggfipdldaaa

/- P26: contracts of functions and plain laws; for all inputs that the theorems name. -/
namespace Go.Proofs.Ytcbkggfipdldaaa
open Go Go.Abs
open Nat (reduceEqDiff reduceAdd reduceLeDiff)
attribute [local irreducible] awp2 aops2 ains aloop athen bbind obind gbind acond res1 Go.Abs.Fn PCall Go.Abs.Pure SnapArgs SnapL Yl

end Go.Proofs.Ytcbkggfipdldaaa

/- P27: contracts of functions and plain laws; for all inputs that the theorems name. -/
namespace Go.Proofs.Ytcbkggfipdldaaa
open Go Go.Abs
open Nat (reduceEqDiff reduceAdd reduceLeDiff)
attribute [local irreducible] awp2 aops2 ains aloop athen bbind obind gbind acond res1 Go.Abs.Fn PCall Go.Abs.Pure SnapArgs SnapL Yl

end Go.Proofs.Ytcbkggfipdldaaa

/- P28: contracts of functions and plain laws; for all inputs that the theorems name. -/
namespace Go.Proofs.Ytcbkggfipdldaaa
open Go Go.Abs
open Nat (reduceEqDiff reduceAdd reduceLeDiff)
attribute [local irreducible] awp2 aops2 ains aloop athen bbind obind gbind acond res1 Go.Abs.Fn PCall Go.Abs.Pure SnapArgs SnapL Yl

end Go.Proofs.Ytcbkggfipdldaaa

/- P29: contracts of functions and plain laws; for all inputs that the theorems name. -/
namespace Go.Proofs.Ytcbkggfipdldaaa
open Go Go.Abs
open Nat (reduceEqDiff reduceAdd reduceLeDiff)
attribute [local irreducible] awp2 aops2 ains aloop athen bbind obind gbind acond res1 Go.Abs.Fn PCall Go.Abs.Pure SnapArgs SnapL Yl

end Go.Proofs.Ytcbkggfipdldaaa

/- P30: contracts of functions and plain laws; for all inputs that the theorems name. -/
namespace Go.Proofs.Ytcbkggfipdldaaa
open Go Go.Abs

end Go.Proofs.Ytcbkggfipdldaaa

/- P31: contracts of functions and plain laws; for all inputs that the theorems name. -/
namespace Go.Proofs.Ytcbkggfipdldaaa
open Go Go.Abs
open Nat (reduceEqDiff reduceAdd reduceLeDiff)
attribute [local irreducible] awp2 aops2 ains aloop athen bbind obind gbind acond res1 Go.Abs.Fn PCall Go.Abs.Pure SnapArgs SnapL Yl

/-! ### sorting a short row of numbers, and counting its distinct ones -/
set_option maxRecDepth 20000
theorem len64_c (n : Nat) (h : n ≤ 7) : ∃ r : Int, Pure Try.prog 109 [.int .u64 n] (.int .i64 r) := by
  have hn : n = 0 ∨ n = 1 ∨ n = 2 ∨ n = 3 ∨ n = 4 ∨ n = 5 ∨ n = 6 ∨ n = 7 := by omega
  rcases hn with rfl | rfl | rfl | rfl | rfl | rfl | rfl | rfl
  · refine ⟨?_, Pure.of_c2 follows is109 (Nat.le_of_ble_eq_true rfl) ?_⟩
    rotate_left
    delta b109 O G N M D F B2 cFal cTru
    repeat' (first | apply w_seq | apply w_ops0 | apply w_skip | apply a_n | apply o_nil | (apply o_val rfl rfl; (focus ((try simp (disch := omega) only [simB0, ZA, reduceEqDiff, ↓reduceIte, reduceAdd, reduceLeDiff, ZV, reduceCtorEq]); first | with_reducible rfl | (apply s_ite; (focus omega); with_reducible rfl)))) | (apply w_cond; (focus ((try simp only [simB0, ZA, reduceEqDiff, ↓reduceIte, reduceAdd, reduceLeDiff]); (try with_reducible rfl); done)); all_goals (intro _hg; (try simp only [ZB] at _hg); try first | exact absurd trivial _hg | (exfalso; omega))))
    refine o_val (r := .int .u8 0) rfl rfl (by kernel_rfl) ?_
    repeat' (first | apply w_ret | apply a_n | apply o_nil | (apply o_val rfl rfl; (focus ((try simp (disch := omega) only [simB0, ZA, reduceEqDiff, ↓reduceIte, reduceAdd, reduceLeDiff, ZV, reduceCtorEq]); first | with_reducible rfl | (apply s_ite; (focus omega); with_reducible rfl)))) | (refine e_ends rfl ?_) | (apply r_1; (focus (simp only [rv, simB0, ZA, reduceEqDiff, ↓reduceIte, reduceAdd, reduceLeDiff]; with_reducible rfl))))
    exact .int _ _
  · refine ⟨?_, Pure.of_c2 follows is109 (Nat.le_of_ble_eq_true rfl) ?_⟩
    rotate_left
    delta b109 O G N M D F B2 cFal cTru
    repeat' (first | apply w_seq | apply w_ops0 | apply w_skip | apply a_n | apply o_nil | (apply o_val rfl rfl; (focus ((try simp (disch := omega) only [simB0, ZA, reduceEqDiff, ↓reduceIte, reduceAdd, reduceLeDiff, ZV, reduceCtorEq]); first | with_reducible rfl | (apply s_ite; (focus omega); with_reducible rfl)))) | (apply w_cond; (focus ((try simp only [simB0, ZA, reduceEqDiff, ↓reduceIte, reduceAdd, reduceLeDiff]); (try with_reducible rfl); done)); all_goals (intro _hg; (try simp only [ZB] at _hg); try first | exact absurd trivial _hg | (exfalso; omega))))
    refine o_val (r := .int .u8 1) rfl rfl (by kernel_rfl) ?_
    repeat' (first | apply w_ret | apply a_n | apply o_nil | (apply o_val rfl rfl; (focus ((try simp (disch := omega) only [simB0, ZA, reduceEqDiff, ↓reduceIte, reduceAdd, reduceLeDiff, ZV, reduceCtorEq]); first | with_reducible rfl | (apply s_ite; (focus omega); with_reducible rfl)))) | (refine e_ends rfl ?_) | (apply r_1; (focus (simp only [rv, simB0, ZA, reduceEqDiff, ↓reduceIte, reduceAdd, reduceLeDiff]; with_reducible rfl))))
    exact .int _ _
  · refine ⟨?_, Pure.of_c2 follows is109 (Nat.le_of_ble_eq_true rfl) ?_⟩
    rotate_left
    delta b109 O G N M D F B2 cFal cTru
    repeat' (first | apply w_seq | apply w_ops0 | apply w_skip | apply a_n | apply o_nil | (apply o_val rfl rfl; (focus ((try simp (disch := omega) only [simB0, ZA, reduceEqDiff, ↓reduceIte, reduceAdd, reduceLeDiff, ZV, reduceCtorEq]); first | with_reducible rfl | (apply s_ite; (focus omega); with_reducible rfl)))) | (apply w_cond; (focus ((try simp only [simB0, ZA, reduceEqDiff, ↓reduceIte, reduceAdd, reduceLeDiff]); (try with_reducible rfl); done)); all_goals (intro _hg; (try simp only [ZB] at _hg); try first | exact absurd trivial _hg | (exfalso; omega))))
    refine o_val (r := .int .u8 2) rfl rfl (by kernel_rfl) ?_
    repeat' (first | apply w_ret | apply a_n | apply o_nil | (apply o_val rfl rfl; (focus ((try simp (disch := omega) only [simB0, ZA, reduceEqDiff, ↓reduceIte, reduceAdd, reduceLeDiff, ZV, reduceCtorEq]); first | with_reducible rfl | (apply s_ite; (focus omega); with_reducible rfl)))) | (refine e_ends rfl ?_) | (apply r_1; (focus (simp only [rv, simB0, ZA, reduceEqDiff, ↓reduceIte, reduceAdd, reduceLeDiff]; with_reducible rfl))))
    exact .int _ _
  · refine ⟨?_, Pure.of_c2 follows is109 (Nat.le_of_ble_eq_true rfl) ?_⟩
    rotate_left
    delta b109 O G N M D F B2 cFal cTru
    repeat' (first | apply w_seq | apply w_ops0 | apply w_skip | apply a_n | apply o_nil | (apply o_val rfl rfl; (focus ((try simp (disch := omega) only [simB0, ZA, reduceEqDiff, ↓reduceIte, reduceAdd, reduceLeDiff, ZV, reduceCtorEq]); first | with_reducible rfl | (apply s_ite; (focus omega); with_reducible rfl)))) | (apply w_cond; (focus ((try simp only [simB0, ZA, reduceEqDiff, ↓reduceIte, reduceAdd, reduceLeDiff]); (try with_reducible rfl); done)); all_goals (intro _hg; (try simp only [ZB] at _hg); try first | exact absurd trivial _hg | (exfalso; omega))))
    refine o_val (r := .int .u8 2) rfl rfl (by kernel_rfl) ?_
    repeat' (first | apply w_ret | apply a_n | apply o_nil | (apply o_val rfl rfl; (focus ((try simp (disch := omega) only [simB0, ZA, reduceEqDiff, ↓reduceIte, reduceAdd, reduceLeDiff, ZV, reduceCtorEq]); first | with_reducible rfl | (apply s_ite; (focus omega); with_reducible rfl)))) | (refine e_ends rfl ?_) | (apply r_1; (focus (simp only [rv, simB0, ZA, reduceEqDiff, ↓reduceIte, reduceAdd, reduceLeDiff]; with_reducible rfl))))
    exact .int _ _
  · refine ⟨?_, Pure.of_c2 follows is109 (Nat.le_of_ble_eq_true rfl) ?_⟩
    rotate_left
    delta b109 O G N M D F B2 cFal cTru
    repeat' (first | apply w_seq | apply w_ops0 | apply w_skip | apply a_n | apply o_nil | (apply o_val rfl rfl; (focus ((try simp (disch := omega) only [simB0, ZA, reduceEqDiff, ↓reduceIte, reduceAdd, reduceLeDiff, ZV, reduceCtorEq]); first | with_reducible rfl | (apply s_ite; (focus omega); with_reducible rfl)))) | (apply w_cond; (focus ((try simp only [simB0, ZA, reduceEqDiff, ↓reduceIte, reduceAdd, reduceLeDiff]); (try with_reducible rfl); done)); all_goals (intro _hg; (try simp only [ZB] at _hg); try first | exact absurd trivial _hg | (exfalso; omega))))
    refine o_val (r := .int .u8 3) rfl rfl (by kernel_rfl) ?_
    repeat' (first | apply w_ret | apply a_n | apply o_nil | (apply o_val rfl rfl; (focus ((try simp (disch := omega) only [simB0, ZA, reduceEqDiff, ↓reduceIte, reduceAdd, reduceLeDiff, ZV, reduceCtorEq]); first | with_reducible rfl | (apply s_ite; (focus omega); with_reducible rfl)))) | (refine e_ends rfl ?_) | (apply r_1; (focus (simp only [rv, simB0, ZA, reduceEqDiff, ↓reduceIte, reduceAdd, reduceLeDiff]; with_reducible rfl))))
    exact .int _ _
  · refine ⟨?_, Pure.of_c2 follows is109 (Nat.le_of_ble_eq_true rfl) ?_⟩
    rotate_left
    delta b109 O G N M D F B2 cFal cTru
    repeat' (first | apply w_seq | apply w_ops0 | apply w_skip | apply a_n | apply o_nil | (apply o_val rfl rfl; (focus ((try simp (disch := omega) only [simB0, ZA, reduceEqDiff, ↓reduceIte, reduceAdd, reduceLeDiff, ZV, reduceCtorEq]); first | with_reducible rfl | (apply s_ite; (focus omega); with_reducible rfl)))) | (apply w_cond; (focus ((try simp only [simB0, ZA, reduceEqDiff, ↓reduceIte, reduceAdd, reduceLeDiff]); (try with_reducible rfl); done)); all_goals (intro _hg; (try simp only [ZB] at _hg); try first | exact absurd trivial _hg | (exfalso; omega))))
    refine o_val (r := .int .u8 3) rfl rfl (by kernel_rfl) ?_
    repeat' (first | apply w_ret | apply a_n | apply o_nil | (apply o_val rfl rfl; (focus ((try simp (disch := omega) only [simB0, ZA, reduceEqDiff, ↓reduceIte, reduceAdd, reduceLeDiff, ZV, reduceCtorEq]); first | with_reducible rfl | (apply s_ite; (focus omega); with_reducible rfl)))) | (refine e_ends rfl ?_) | (apply r_1; (focus (simp only [rv, simB0, ZA, reduceEqDiff, ↓reduceIte, reduceAdd, reduceLeDiff]; with_reducible rfl))))
    exact .int _ _
  · refine ⟨?_, Pure.of_c2 follows is109 (Nat.le_of_ble_eq_true rfl) ?_⟩
    rotate_left
    delta b109 O G N M D F B2 cFal cTru
    repeat' (first | apply w_seq | apply w_ops0 | apply w_skip | apply a_n | apply o_nil | (apply o_val rfl rfl; (focus ((try simp (disch := omega) only [simB0, ZA, reduceEqDiff, ↓reduceIte, reduceAdd, reduceLeDiff, ZV, reduceCtorEq]); first | with_reducible rfl | (apply s_ite; (focus omega); with_reducible rfl)))) | (apply w_cond; (focus ((try simp only [simB0, ZA, reduceEqDiff, ↓reduceIte, reduceAdd, reduceLeDiff]); (try with_reducible rfl); done)); all_goals (intro _hg; (try simp only [ZB] at _hg); try first | exact absurd trivial _hg | (exfalso; omega))))
    refine o_val (r := .int .u8 3) rfl rfl (by kernel_rfl) ?_
    repeat' (first | apply w_ret | apply a_n | apply o_nil | (apply o_val rfl rfl; (focus ((try simp (disch := omega) only [simB0, ZA, reduceEqDiff, ↓reduceIte, reduceAdd, reduceLeDiff, ZV, reduceCtorEq]); first | with_reducible rfl | (apply s_ite; (focus omega); with_reducible rfl)))) | (refine e_ends rfl ?_) | (apply r_1; (focus (simp only [rv, simB0, ZA, reduceEqDiff, ↓reduceIte, reduceAdd, reduceLeDiff]; with_reducible rfl))))
    exact .int _ _
  · refine ⟨?_, Pure.of_c2 follows is109 (Nat.le_of_ble_eq_true rfl) ?_⟩
    rotate_left
    delta b109 O G N M D F B2 cFal cTru
    repeat' (first | apply w_seq | apply w_ops0 | apply w_skip | apply a_n | apply o_nil | (apply o_val rfl rfl; (focus ((try simp (disch := omega) only [simB0, ZA, reduceEqDiff, ↓reduceIte, reduceAdd, reduceLeDiff, ZV, reduceCtorEq]); first | with_reducible rfl | (apply s_ite; (focus omega); with_reducible rfl)))) | (apply w_cond; (focus ((try simp only [simB0, ZA, reduceEqDiff, ↓reduceIte, reduceAdd, reduceLeDiff]); (try with_reducible rfl); done)); all_goals (intro _hg; (try simp only [ZB] at _hg); try first | exact absurd trivial _hg | (exfalso; omega))))
    refine o_val (r := .int .u8 3) rfl rfl (by kernel_rfl) ?_
    repeat' (first | apply w_ret | apply a_n | apply o_nil | (apply o_val rfl rfl; (focus ((try simp (disch := omega) only [simB0, ZA, reduceEqDiff, ↓reduceIte, reduceAdd, reduceLeDiff, ZV, reduceCtorEq]); first | with_reducible rfl | (apply s_ite; (focus omega); with_reducible rfl)))) | (refine e_ends rfl ?_) | (apply r_1; (focus (simp only [rv, simB0, ZA, reduceEqDiff, ↓reduceIte, reduceAdd, reduceLeDiff]; with_reducible rfl))))
    exact .int _ _
theorem len_c (n : Nat) (h : n ≤ 7) : ∃ r : Int, Pure Try.prog 75 [.int .u64 n] (.int .i64 r) := by
  obtain ⟨r, hr⟩ := len64_c n h
  refine ⟨r, Pure.of_c2 follows is75 (Nat.le_of_ble_eq_true rfl) ?_⟩
  simp only [b75, O, G, N, M, D, F, B2, cFal, cTru]
  repeat' (first | apply w_seq | apply w_ops0 | apply w_skip | apply w_ret | apply a_n | apply o_nil | (apply o_val rfl rfl; (focus ((try simp (disch := omega) only [simB0, ZA, reduceEqDiff, ↓reduceIte, reduceAdd, reduceLeDiff, ZV, reduceCtorEq]); first | with_reducible rfl | (apply s_ite; (focus omega); with_reducible rfl)))) | (apply o_callD; (iterate 2 (focus ((try simp only [simB0, ZA, reduceEqDiff, ↓reduceIte, reduceAdd, reduceLeDiff]); (try with_reducible rfl); done))); (focus (first | (exact hr))); (focus ((first | refine snap_plain ?_ rfl | apply snap_data); repeat' (first | exact snapL_nil | apply snapL_i | apply snapL_dat)))) | (apply w_condF; (focus (simp only [simB0, ZA, reduceEqDiff, ↓reduceIte, reduceAdd, reduceLeDiff]; done))) | (refine e_ends rfl ?_) | (apply r_1; (focus (simp only [rv, simB0, ZA, reduceEqDiff, ↓reduceIte, reduceAdd, reduceLeDiff]; with_reducible rfl))))
  exact .int _ _

def swp (l : List Int) (j : Nat) : List Int := (l.set (j + 1) (l.getD j default)).set j (l.getD (j + 1) default)
def down : Nat → List Int → List Int
  | 0, l => l
  | j + 1, l => if l.getD (j + 1) default < l.getD j default then down j (swp l j) else l
def downs : Nat → Nat → List Int → List Int
  | 0, _, l => l
  | f + 1, i, l => downs f (i + 1) (down i l)
def sorted (l : List Int) : List Int := downs (l.length - 1) 1 l
theorem hupd_two (H : Hp) (b : Nat) (x y : List AV) : hupd (hupd H b x) b y = hupd H b y := by
  funext i
  by_cases e : i = b
  · subst e; rw [hupd_self', hupd_self']
  · rw [hupd_ne e, hupd_ne e, hupd_ne e]

end Go.Proofs.Ytcbkggfipdldaaa

/- P32: contracts of functions and plain laws; for all inputs that the theorems name. -/
namespace Go.Proofs.Ytcbkggfipdldaaa
open Go Go.Abs
open Nat (reduceEqDiff reduceAdd reduceLeDiff)
attribute [local irreducible] awp2 aops2 ains aloop athen bbind obind gbind acond res1 Go.Abs.Fn PCall Go.Abs.Pure SnapArgs SnapL Yl

def heads (l : List Int) : Nat → Nat
  | 0 => 0
  | k + 1 => heads l k + if k = 0 ∨ l.getD k default ≠ l.getD (k - 1) default then 1 else 0
end Go.Proofs.Ytcbkggfipdldaaa

/- P33: contracts of functions and plain laws; for all inputs that the theorems name. -/
namespace Go.Proofs.Ytcbkggfipdldaaa
open Go Go.Abs
open Nat (reduceEqDiff reduceAdd reduceLeDiff)
attribute [local irreducible] awp2 aops2 ains aloop athen bbind obind gbind acond res1 Go.Abs.Fn PCall Go.Abs.Pure SnapArgs SnapL Yl

def pw (h : Nat) : Nat → Nat
  | 0 => 1
  | q + 1 => pw h q * h
end Go.Proofs.Ytcbkggfipdldaaa

/- P34: contracts of functions and plain laws; for all inputs that the theorems name. -/
namespace Go.Proofs.Ytcbkggfipdldaaa
open Go Go.Abs

def pairB (N K : Nat) (c d : CaseV) : Bool :=
  decide (d.inp = c.inp) && !(c.out.any fun w => !(d.out.any fun z => decide (w = z))) && decide (d.inp.length = N) && (decide (K + 1 ≠ N) || decide (d.out.length = pw (heads (sorted d.inp) N) N))
def pairsB (N K : Nat) : List CaseV → List CaseV → Bool
  | [], [] => true
  | c :: l, d :: m => pairB N K c d && pairsB N K l m
  | _, _ => false
end Go.Proofs.Ytcbkggfipdldaaa

/- P35: contracts of functions and plain laws; for all inputs that the theorems name. -/
namespace Go.Proofs.Ytcbkggfipdldaaa
open Go Go.Abs
open Nat (reduceEqDiff reduceAdd reduceLeDiff)

attribute [local irreducible] awp2 aops2 ains aloop athen bbind obind gbind acond res1 Go.Abs.Fn PCall Go.Abs.Pure SnapArgs SnapL Yl
end Go.Proofs.Ytcbkggfipdldaaa
