/- P8: contracts of functions and plain laws; for all inputs that the theorems name. -/
import Derived.Test.YtcbkggfipdldaaaXP7
set_option linter.unusedSimpArgs false
set_option linter.unusedVariables false
namespace Go.Proofs.Ytcbkggfipdldaaa
open Go Go.Abs
attribute [local irreducible] awp2 aops2 ains aloop athen bbind obind gbind acond res1 Go.Abs.Fn PCall Go.Abs.Pure SnapArgs SnapL Yl

/-! ### made, for all numbers -/
def inR (n ins outs kk : Int) : Prop := (1 ≤ n ∧ n ≤ 5) ∧ (1 ≤ ins ∧ ins ≤ 8) ∧ (1 ≤ outs ∧ outs ≤ 8) ∧ (kk = -1 ∨ 1 ≤ kk ∧ kk ≤ n)
instance (n ins outs kk : Int) : Decidable (inR n ins outs kk) := by unfold inR; infer_instance

/-- a function value or nil, over data -/
structure DatF (f : AV) : Prop where
  dat : Dat f
  cells : f.cells = [f]
  one : f.one = true
theorem DatF.nil : DatF .nilf := ⟨.nilf, rfl, rfl⟩
theorem DatF.func {g : FuncId} {caps : List AV} (h : ∀ c ∈ caps, Dat c) : DatF (.func g caps) := ⟨.func h, rfl, rfl⟩

theorem made_err (n ins outs kk : Int) (fc fa fm : AV) (h1 : DatF fc) (h2 : DatF fa) (h3 : DatF fm) (h : ¬ inR n ins outs kk) :
    Pure Try.prog 45 [.agg [.int .i64 n, .int .i64 ins, .int .i64 outs, .int .i64 kk, fc, fa, fm]] (.tup [encT T00, .int .i64 2]) := by
  refine Pure.of_c2 follows is45 (Nat.le_of_ble_eq_true rfl) ?_
  simp only [b45]
  obtain ⟨hd1, hc1, ho1⟩ := h1
  obtain ⟨hd2, hc2, ho2⟩ := h2
  obtain ⟨hd3, hc3, ho3⟩ := h3
  unfold inR at h
  refine w_seq ?_
  repeat' (first | refine w_ops0 ?_ | refine a_n ?_ | refine o_nil ?_ | (apply e_alloc rfl; (focus ((try simp only [simB0, simB1, SA, SV, SN, SR, SL, pick_bool, Nat.reduceEqDiff, ↓reduceIte, Nat.reduceAdd, Nat.reduceLeDiff, ho1, ho2, ho3]); (try with_reducible rfl); done)); (focus (simp only [SO, Bool.and_self, one_encV, one_encVV, ho1, ho2, ho3]))) | (apply e_box rfl; (focus ((try simp only [simB0, simB1, SA, SV, SN, SR, SL, pick_bool, Nat.reduceEqDiff, ↓reduceIte, Nat.reduceAdd, Nat.reduceLeDiff, ho1, ho2, ho3]); (try with_reducible rfl); done)); (focus ((try simp only [simB0, simB1, SA, SV, SN, SR, SL, pick_bool, Nat.reduceEqDiff, ↓reduceIte, Nat.reduceAdd, Nat.reduceLeDiff, ho1, ho2, ho3]); (try with_reducible rfl); done)); (focus (simp only [SO, Bool.and_self, one_encV, one_encVV, ho1, ho2, ho3]))))
  refine w_seqC (fun T H nx => False) ?_ (fun _ _ _ h => h.elim)
  repeat' (first | refine w_seq ?_ | refine w_ops0 ?_ | refine w_block ?_ | refine w_ret ?_ | refine a_n ?_ | refine a_r ?_ | refine o_nil ?_ | (apply o_val rfl rfl; (focus ((try simp (disch := omega) only [simB0, simB1, SA, SV, SN, SR, SL, pick_bool, Nat.reduceEqDiff, ↓reduceIte, Nat.reduceAdd, Nat.reduceLeDiff, SO, one_encV, one_encVV, Bool.and_self, Bool.false_eq_true, reduceCtorEq, wrap64, aixS_encV, aixS_encVV, alenS_encV, alenS_encVV, Int.toNat_natCast, List.length_map, aixS_msl, getElem?_map_lt, Nat.mul_one, ho1, ho2, ho3]); first | with_reducible rfl | (apply s_ite; (focus omega); with_reducible rfl)))) | (apply o_callD; (focus ((try simp only [simB0, simB1, SA, SV, SN, SR, SL, pick_bool, Nat.reduceEqDiff, ↓reduceIte, Nat.reduceAdd, Nat.reduceLeDiff, ho1, ho2, ho3]); (try with_reducible rfl); done)); (focus ((try simp only [simB0, simB1, SA, SV, SN, SR, SL, pick_bool, Nat.reduceEqDiff, ↓reduceIte, Nat.reduceAdd, Nat.reduceLeDiff, ho1, ho2, ho3]); (try with_reducible rfl); done)); (focus (first | (exact between_c _ _ _))); (focus (first | (apply snap_data; repeat' (first | exact snapL_nil | apply snapL_dat | exact Dat.int | exact Dat.bool | exact Dat.str | exact Dat.esl | exact Dat.nilf | exact encV_dat _ | exact encVV_dat _)) | (apply snap_plain; (focus (repeat' (first | exact snapL_nil | apply snapL_dat | exact Dat.int | exact Dat.bool | exact Dat.str | exact encV_dat _ | exact encVV_dat _))); rfl)))) | (apply e_st rfl; (focus ((try simp only [simB0, simB1, SA, SV, SN, SR, SL, pick_bool, Nat.reduceEqDiff, ↓reduceIte, Nat.reduceAdd, Nat.reduceLeDiff, ho1, ho2, ho3]); (try with_reducible rfl); done)); (focus ((try simp only [simB0, simB1, SA, SV, SN, SR, SL, pick_bool, Nat.reduceEqDiff, ↓reduceIte, Nat.reduceAdd, Nat.reduceLeDiff, ho1, ho2, ho3]); (try with_reducible rfl); done)); (focus ((try simp only [simB0, simB1, SA, SV, SN, SR, SL, pick_bool, Nat.reduceEqDiff, ↓reduceIte, Nat.reduceAdd, Nat.reduceLeDiff, ho1, ho2, ho3]); (try with_reducible rfl); done)); (focus ((try simp only [simB0, simB1, SA, SV, SN, SR, SL, pick_bool, Nat.reduceEqDiff, ↓reduceIte, Nat.reduceAdd, Nat.reduceLeDiff, ho1, ho2, ho3]); (try with_reducible rfl); done)); (focus (simp only [SO, Bool.and_self, one_encV, one_encVV, ho1, ho2, ho3])); (focus ((try simp only [SL, Nat.reduceAdd, Nat.reduceMul, List.length_map]); first | done | omega)); (focus ((try simp only [SL, Nat.reduceAdd, Nat.reduceMul, List.length_map]); first | done | omega)); (focus ((try simp only [SL, Nat.reduceAdd, Nat.reduceMul, List.length_map]); first | done | omega))) | (apply o_gT; (focus (simp only [simB0, simB1, SA, SV, SN, SR, SL, pick_bool, Nat.reduceEqDiff, ↓reduceIte, Nat.reduceAdd, Nat.reduceLeDiff, ho1, ho2, ho3]; done))) | (apply o_gF; (focus (simp only [simB0, simB1, SA, SV, SN, SR, SL, pick_bool, Nat.reduceEqDiff, ↓reduceIte, Nat.reduceAdd, Nat.reduceLeDiff, or_true, true_or, ho1, ho2, ho3]; done))) | (apply o_gB; (focus ((try simp only [simB0, simB1, SA, SV, SN, SR, SL, pick_bool, Nat.reduceEqDiff, ↓reduceIte, Nat.reduceAdd, Nat.reduceLeDiff, ho1, ho2, ho3]); (try with_reducible rfl); done)); all_goals (intro _hg; (try simp only [Bool.not_true, Bool.not_false, Bool.not_eq_true', Bool.not_eq_false', Bool.not_not, decide_eq_true_eq, decide_eq_false_iff_not] at _hg); try (exfalso; omega))) | (apply w_condT; (focus (simp only [simB0, simB1, SA, SV, SN, SR, SL, pick_bool, Nat.reduceEqDiff, ↓reduceIte, Nat.reduceAdd, Nat.reduceLeDiff, ho1, ho2, ho3]; done))) | (apply w_cond; (focus ((try simp only [simB0, simB1, SA, SV, SN, SR, SL, pick_bool, Nat.reduceEqDiff, ↓reduceIte, Nat.reduceAdd, Nat.reduceLeDiff, ho1, ho2, ho3]); (try with_reducible rfl); done)); all_goals (intro _hg; (try simp only [Bool.not_eq_true', Bool.not_eq_false', Bool.not_not, decide_eq_true_eq, decide_eq_false_iff_not] at _hg); try (exfalso; omega))) | (refine e_ends rfl ?_) | (apply r_2; (focus (simp only [rv, simB0, simB1, SA, SV, SN, SR, SL, pick_bool, Nat.reduceEqDiff, ↓reduceIte, Nat.reduceAdd, Nat.reduceLeDiff, ho1, ho2, ho3]; with_reducible rfl)); (focus (simp only [rv, simB0, simB1, SA, SV, SN, SR, SL, pick_bool, Nat.reduceEqDiff, ↓reduceIte, Nat.reduceAdd, Nat.reduceLeDiff, ho1, ho2, ho3]; with_reducible rfl))))
  all_goals exact snapErr 2

/-- the result of made -/
def taskI (n ins outs kk : Int) (k : KindV) : TaskV × Int := if inR n ins outs kk then taskOf k else (T00, 2)

theorem made_all (n ins outs kk : Int) (k : KindV) (fc fa fm : AV) (h1 : DatF fc) (h2 : DatF fa) (h3 : DatF fm)
    (h : inR n ins outs kk → k.n = n ∧ k.ins = ins ∧ k.outs = outs ∧ Cond fc (every k.n k.ins) k.pc ∧ (k.hasC = true ↔ fc ≠ .nilf) ∧ Cond2 fa (every k.n k.ins) (every k.n k.outs) k.pa ∧ ((fm = .nilf ∧ ∀ x y, k.pm x y = false) ∨ Cond2 fm (every k.n k.ins) (every k.n k.outs) k.pm)) :
    Pure Try.prog 45 [.agg [.int .i64 n, .int .i64 ins, .int .i64 outs, .int .i64 kk, fc, fa, fm]] (.tup [encT (taskI n ins outs kk k).1, .int .i64 (taskI n ins outs kk k).2]) := by
  unfold taskI
  by_cases hr : inR n ins outs kk
  · rw [if_pos hr]
    obtain ⟨e1, e2, e3, e4, e5, e6, e7⟩ := h hr
    unfold inR at hr
    rw [← e1, ← e2, ← e3]
    exact made_c k (by omega) (by omega) (by omega) kk (by omega) fc fa fm e4 e5 e6 e7
  · rw [if_neg hr]
    exact made_err n ins outs kk fc fa fm h1 h2 h3 hr

theorem encCs_dat (l : List CaseV) : Dat (encCs l) := Dat.sl (fun x hx c hc => by
  simp at hx; obtain ⟨q, _, rfl⟩ := hx
  simp only [encC, AV.cells, List.mem_cons, List.not_mem_nil, or_false] at hc
  rcases hc with rfl | rfl | rfl
  · exact encV_dat _
  · exact encVV_dat _
  · exact encVV_dat _)
theorem encT_dat (t : TaskV) : Dat (encT t) := by
  refine Dat.agg fun x hx => ?_
  simp only [List.mem_cons, List.not_mem_nil, or_false] at hx
  rcases hx with rfl | rfl | rfl | rfl
  · exact .int
  · exact .int
  · exact .int
  · exact encCs_dat _
theorem encTE_dat (t : TaskV) (e : Int) : Dat (.tup [encT t, .int .i64 e]) := Dat.tup (DatL.cons (encT_dat t) (DatL.cons .int DatL.nil))
theorem encT_cells (t : TaskV) : (encT t).cells = [.int .i64 t.n, .int .i64 t.ins, .int .i64 t.outs, encCs t.cases] := rfl
theorem encCs_one (l : List CaseV) : (encCs l).one = true := rfl
theorem encCs_cells (l : List CaseV) : (encCs l).cells = [encCs l] := rfl
theorem kind_dat {n i o k : Int} {fc fa fm : AV} (h1 : DatF fc) (h2 : DatF fa) (h3 : DatF fm) : Dat (.agg [.int .i64 n, .int .i64 i, .int .i64 o, .int .i64 k, fc, fa, fm]) := by
  refine Dat.agg fun x hx => ?_
  simp only [List.mem_cons, List.not_mem_nil, or_false] at hx
  rcases hx with rfl | rfl | rfl | rfl | rfl | rfl | rfl
  · exact .int
  · exact .int
  · exact .int
  · exact .int
  · exact h1.dat
  · exact h2.dat
  · exact h3.dat
theorem DatF.fun1 {g : FuncId} {x : AV} (h : Dat x) : DatF (.func g [.iptr [x] 0]) := DatF.func (DatL.cons (Dat.iptr (DatL.cons h DatL.nil)) DatL.nil)
theorem DatF.fun0 {g : FuncId} : DatF (.func g []) := DatF.func DatL.nil
theorem Cond2.fun1 {g : FuncId} {c : AV} {L M : List (List Int)} {p : List Int → List Int → Bool} (hd : Dat c) (h : ∀ x ∈ L, ∀ y ∈ M, Pure Try.prog g [encV x, encV y, .iptr [c] 0] (.bool (p x y))) : Cond2 (.func g [.iptr [c] 0]) L M p :=
  ⟨g, _, rfl, DatL.cons (Dat.iptr (DatL.cons hd DatL.nil)) DatL.nil, h⟩
theorem Cond2.fun0 {g : FuncId} {L M : List (List Int)} {p : List Int → List Int → Bool} (h : ∀ x ∈ L, ∀ y ∈ M, Pure Try.prog g [encV x, encV y] (.bool (p x y))) : Cond2 (.func g []) L M p :=
  ⟨g, _, rfl, DatL.nil, h⟩

theorem every_sh {n v : Nat} (hn : n ≤ 5) {x : List Int} (h : x ∈ every n v) : Sh x := by
  have := every_len n v x h
  show _ ≤ _; omega

theorem every_ne {n v : Nat} (hn : n ≠ 0) {x : List Int} (h : x ∈ every n v) : x ≠ [] := by
  have := every_len n v x h
  intro e; subst e; exact hn this.symm

/-! ### the tasks -/
theorem agreement_c (n v k : Int) : Pure Try.prog 59 [.int .i64 n, .int .i64 v, .int .i64 k] (.agg [.int .i64 n, .int .i64 v, .int .i64 v, .int .i64 k, .nilf, .func 89 [.iptr [.int .i64 k] 0], .nilf]) := by
  refine Pure.of_c2 follows is59 (Nat.le_of_ble_eq_true rfl) ?_
  simp only [b59]
  repeat' (first | refine w_seq ?_ | refine w_ops0 ?_ | refine w_ret ?_ | refine a_n ?_ | refine o_nil ?_ | (apply o_val rfl rfl; (focus ((try simp (disch := omega) only [simB0, simB1, SA, SV, SN, SR, SL, pick_bool, Nat.reduceEqDiff, ↓reduceIte, Nat.reduceAdd, Nat.reduceLeDiff, SO, one_encV, one_encVV, Bool.and_self, Bool.false_eq_true, reduceCtorEq, wrap64, aixS_encV, aixS_encVV, alenS_encV, alenS_encVV, Int.toNat_natCast, List.length_map, aixS_msl, getElem?_map_lt, Nat.mul_one]); first | with_reducible rfl | (apply s_ite; (focus omega); with_reducible rfl)))) | (apply e_alloc rfl; (focus ((try simp only [simB0, simB1, SA, SV, SN, SR, SL, pick_bool, Nat.reduceEqDiff, ↓reduceIte, Nat.reduceAdd, Nat.reduceLeDiff]); (try with_reducible rfl); done)); (focus (simp only [SO, Bool.and_self, one_encV, one_encVV]))) | (apply e_box rfl; (focus ((try simp only [simB0, simB1, SA, SV, SN, SR, SL, pick_bool, Nat.reduceEqDiff, ↓reduceIte, Nat.reduceAdd, Nat.reduceLeDiff]); (try with_reducible rfl); done)); (focus ((try simp only [simB0, simB1, SA, SV, SN, SR, SL, pick_bool, Nat.reduceEqDiff, ↓reduceIte, Nat.reduceAdd, Nat.reduceLeDiff]); (try with_reducible rfl); done)); (focus (simp only [SO, Bool.and_self, one_encV, one_encVV]))) | (apply e_st rfl; (focus ((try simp only [simB0, simB1, SA, SV, SN, SR, SL, pick_bool, Nat.reduceEqDiff, ↓reduceIte, Nat.reduceAdd, Nat.reduceLeDiff]); (try with_reducible rfl); done)); (focus ((try simp only [simB0, simB1, SA, SV, SN, SR, SL, pick_bool, Nat.reduceEqDiff, ↓reduceIte, Nat.reduceAdd, Nat.reduceLeDiff]); (try with_reducible rfl); done)); (focus ((try simp only [simB0, simB1, SA, SV, SN, SR, SL, pick_bool, Nat.reduceEqDiff, ↓reduceIte, Nat.reduceAdd, Nat.reduceLeDiff]); (try with_reducible rfl); done)); (focus ((try simp only [simB0, simB1, SA, SV, SN, SR, SL, pick_bool, Nat.reduceEqDiff, ↓reduceIte, Nat.reduceAdd, Nat.reduceLeDiff]); (try with_reducible rfl); done)); (focus (simp only [SO, Bool.and_self, one_encV, one_encVV])); (focus ((try simp only [SL, Nat.reduceAdd, Nat.reduceMul, List.length_map]); first | done | omega)); (focus ((try simp only [SL, Nat.reduceAdd, Nat.reduceMul, List.length_map]); first | done | omega)); (focus ((try simp only [SL, Nat.reduceAdd, Nat.reduceMul, List.length_map]); first | done | omega))) | (refine e_ends rfl ?_) | (apply r_1; (focus (simp only [rv, simB0, simB1, SA, SV, SN, SR, SL, pick_bool, Nat.reduceEqDiff, ↓reduceIte, Nat.reduceAdd, Nat.reduceLeDiff]; with_reducible rfl))))
  refine snap_agg ?_
  (repeat' (first | exact snapL_nil | exact Dat.snap Dat.int | exact Dat.snap Dat.bool | exact Dat.snap Dat.str | exact Dat.snap Dat.esl | exact Dat.snap Dat.nilf | exact Dat.snap (encV_dat _) | exact Dat.snap (encVV_dat _) | apply snapL_cons | apply snap_func | apply snap_iptr | (apply snap_ptr; (focus ((try simp only [simB0, simB1, SA, SV, SN, SR, SL, pick_bool, Nat.reduceEqDiff, ↓reduceIte, Nat.reduceAdd, Nat.reduceLeDiff]); with_reducible rfl)); (focus rfl))))

def kAgree (n v k : Int) : KindV := ⟨n.toNat, v.toNat, v.toNat, false, fun _ => true, fun i o => decide ((kinds o).length ≤ max k 1) && o.all fun v => decide (v ∈ i), fun _ _ => false⟩
theorem made_agree (n v kk k : Int) : Pure Try.prog 45 [.agg [.int .i64 n, .int .i64 v, .int .i64 v, .int .i64 kk, .nilf, .func 89 [.iptr [.int .i64 k] 0], .nilf]] (.tup [encT (taskI n v v kk (kAgree n v k)).1, .int .i64 (taskI n v v kk (kAgree n v k)).2]) := by
  refine made_all n v v kk (kAgree n v k) _ _ _ DatF.nil (DatF.fun1 .int) DatF.nil (fun h => ?_)
  unfold inR at h
  have : (kAgree n v k).n ≤ 5 := by show n.toNat ≤ 5; omega
  refine ⟨by show (n.toNat : Int) = n; omega, by show (v.toNat : Int) = v; omega, by show (v.toNat : Int) = v; omega, ⟨.inl ⟨rfl, fun _ => rfl⟩⟩, by simp [kAgree], Cond2.fun1 .int (fun x hx y hy => ?_), .inl ⟨rfl, fun _ _ => rfl⟩⟩
  exact agreement1_c k x y (every_sh this hx) (every_sh this hy)

def consensusT (n v : Int) : TaskV × Int := taskI n v v (-1) (kAgree n v 1)
theorem consensus_c (n v : Int) : Pure Try.prog 16 [.int .i64 n, .int .i64 v] (.tup [encT (consensusT n v).1, .int .i64 (consensusT n v).2]) := by
  refine Pure.of_c2 follows is16 (Nat.le_of_ble_eq_true rfl) ?_
  simp only [b16]
  have hm := made_agree n v (-1) 1
  have hdd : ∀ k : Int, Dat (.agg [.int .i64 n, .int .i64 v, .int .i64 v, .int .i64 k, .nilf, .func 89 [.iptr [.int .i64 1] 0], .nilf]) := fun k => kind_dat DatF.nil (DatF.fun1 .int) DatF.nil
  repeat' (first | refine w_seq ?_ | refine w_ops0 ?_ | refine w_ret ?_ | refine a_n ?_ | refine o_nil ?_ | (apply o_val rfl rfl; (focus ((try simp (disch := omega) only [simB0, simB1, SA, SV, SN, SR, SL, pick_bool, Nat.reduceEqDiff, ↓reduceIte, Nat.reduceAdd, Nat.reduceLeDiff, SO, one_encV, one_encVV, Bool.and_self, Bool.false_eq_true, reduceCtorEq, wrap64, aixS_encV, aixS_encVV, alenS_encV, alenS_encVV, Int.toNat_natCast, List.length_map, aixS_msl, getElem?_map_lt, Nat.mul_one, encT_cells, encCs_one, encCs_cells]); first | with_reducible rfl | (apply s_ite; (focus omega); with_reducible rfl)))) | (apply o_callD; (focus ((try simp only [simB0, simB1, SA, SV, SN, SR, SL, pick_bool, Nat.reduceEqDiff, ↓reduceIte, Nat.reduceAdd, Nat.reduceLeDiff, encT_cells, encCs_one, encCs_cells]); (try with_reducible rfl); done)); (focus ((try simp only [simB0, simB1, SA, SV, SN, SR, SL, pick_bool, Nat.reduceEqDiff, ↓reduceIte, Nat.reduceAdd, Nat.reduceLeDiff, encT_cells, encCs_one, encCs_cells]); (try with_reducible rfl); done)); (focus (first | (exact agreement_c _ _ _) | (exact hm))); (focus (first | (apply snap_data; repeat' (first | exact snapL_nil | apply snapL_dat | exact Dat.int | exact Dat.bool | exact Dat.str | exact Dat.esl | exact Dat.nilf | exact encV_dat _ | exact encVV_dat _ | exact hdd _)) | (apply snap_plain; (focus (repeat' (first | exact snapL_nil | apply snapL_dat | exact Dat.int | exact Dat.bool | exact Dat.str | exact encV_dat _ | exact encVV_dat _ | exact hdd _))); rfl)))) | (apply e_alloc rfl; (focus ((try simp only [simB0, simB1, SA, SV, SN, SR, SL, pick_bool, Nat.reduceEqDiff, ↓reduceIte, Nat.reduceAdd, Nat.reduceLeDiff, encT_cells, encCs_one, encCs_cells]); (try with_reducible rfl); done)); (focus (simp only [SO, Bool.and_self, one_encV, one_encVV, encT_cells, encCs_one, encCs_cells]))) | (apply e_st rfl; (focus ((try simp only [simB0, simB1, SA, SV, SN, SR, SL, pick_bool, Nat.reduceEqDiff, ↓reduceIte, Nat.reduceAdd, Nat.reduceLeDiff, encT_cells, encCs_one, encCs_cells]); (try with_reducible rfl); done)); (focus ((try simp only [simB0, simB1, SA, SV, SN, SR, SL, pick_bool, Nat.reduceEqDiff, ↓reduceIte, Nat.reduceAdd, Nat.reduceLeDiff, encT_cells, encCs_one, encCs_cells]); (try with_reducible rfl); done)); (focus ((try simp only [simB0, simB1, SA, SV, SN, SR, SL, pick_bool, Nat.reduceEqDiff, ↓reduceIte, Nat.reduceAdd, Nat.reduceLeDiff, encT_cells, encCs_one, encCs_cells]); (try with_reducible rfl); done)); (focus ((try simp only [simB0, simB1, SA, SV, SN, SR, SL, pick_bool, Nat.reduceEqDiff, ↓reduceIte, Nat.reduceAdd, Nat.reduceLeDiff, encT_cells, encCs_one, encCs_cells]); (try with_reducible rfl); done)); (focus (simp only [SO, Bool.and_self, one_encV, one_encVV, encT_cells, encCs_one, encCs_cells])); (focus ((try simp only [SL, Nat.reduceAdd, Nat.reduceMul, List.length_map]); first | done | omega)); (focus ((try simp only [SL, Nat.reduceAdd, Nat.reduceMul, List.length_map]); first | done | omega)); (focus ((try simp only [SL, Nat.reduceAdd, Nat.reduceMul, List.length_map]); first | done | omega))) | (refine e_ends rfl ?_) | (apply r_2; (focus (simp only [rv, simB0, simB1, SA, SV, SN, SR, SL, pick_bool, Nat.reduceEqDiff, ↓reduceIte, Nat.reduceAdd, Nat.reduceLeDiff, encT_cells, encCs_one, encCs_cells]; with_reducible rfl)); (focus (simp only [rv, simB0, simB1, SA, SV, SN, SR, SL, pick_bool, Nat.reduceEqDiff, ↓reduceIte, Nat.reduceAdd, Nat.reduceLeDiff, encT_cells, encCs_one, encCs_cells]; with_reducible rfl))))
  exact encTE_dat _ _ _

def setT (n v k : Int) : TaskV × Int := taskI n v v (max k 0) (kAgree n v (max k 0))
theorem set_c (n v k : Int) : Pure Try.prog 18 [.int .i64 n, .int .i64 v, .int .i64 k] (.tup [encT (setT n v k).1, .int .i64 (setT n v k).2]) := by
  refine Pure.of_c2 follows is18 (Nat.le_of_ble_eq_true rfl) ?_
  simp only [b18]
  have hm := made_agree n v (max k 0) (max k 0)
  have hdd : Dat (.agg [.int .i64 n, .int .i64 v, .int .i64 v, .int .i64 (max k 0), .nilf, .func 89 [.iptr [.int .i64 (max k 0)] 0], .nilf]) := kind_dat DatF.nil (DatF.fun1 .int) DatF.nil
  repeat' (first | refine w_seq ?_ | refine w_ops0 ?_ | refine w_ret ?_ | refine a_n ?_ | refine o_nil ?_ | (apply o_val rfl rfl; (focus ((try simp (disch := omega) only [simB0, simB1, SA, SV, SN, SR, SL, pick_bool, Nat.reduceEqDiff, ↓reduceIte, Nat.reduceAdd, Nat.reduceLeDiff, SO, one_encV, one_encVV, Bool.and_self, Bool.false_eq_true, reduceCtorEq, wrap64, aixS_encV, aixS_encVV, alenS_encV, alenS_encVV, Int.toNat_natCast, List.length_map, aixS_msl, getElem?_map_lt, Nat.mul_one, encT_cells, encCs_one, encCs_cells]); first | with_reducible rfl | (apply s_ite; (focus omega); with_reducible rfl)))) | (apply o_callD; (focus ((try simp only [simB0, simB1, SA, SV, SN, SR, SL, pick_bool, Nat.reduceEqDiff, ↓reduceIte, Nat.reduceAdd, Nat.reduceLeDiff, encT_cells, encCs_one, encCs_cells]); (try with_reducible rfl); done)); (focus ((try simp only [simB0, simB1, SA, SV, SN, SR, SL, pick_bool, Nat.reduceEqDiff, ↓reduceIte, Nat.reduceAdd, Nat.reduceLeDiff, encT_cells, encCs_one, encCs_cells]); (try with_reducible rfl); done)); (focus (first | (exact agreement_c _ _ _) | (exact hm))); (focus (first | (apply snap_data; repeat' (first | exact snapL_nil | apply snapL_dat | exact Dat.int | exact Dat.bool | exact Dat.str | exact Dat.esl | exact Dat.nilf | exact encV_dat _ | exact encVV_dat _ | exact hdd)) | (apply snap_plain; (focus (repeat' (first | exact snapL_nil | apply snapL_dat | exact Dat.int | exact Dat.bool | exact Dat.str | exact encV_dat _ | exact encVV_dat _ | exact hdd))); rfl)))) | (apply e_alloc rfl; (focus ((try simp only [simB0, simB1, SA, SV, SN, SR, SL, pick_bool, Nat.reduceEqDiff, ↓reduceIte, Nat.reduceAdd, Nat.reduceLeDiff, encT_cells, encCs_one, encCs_cells]); (try with_reducible rfl); done)); (focus (simp only [SO, Bool.and_self, one_encV, one_encVV, encT_cells, encCs_one, encCs_cells]))) | (apply e_st rfl; (focus ((try simp only [simB0, simB1, SA, SV, SN, SR, SL, pick_bool, Nat.reduceEqDiff, ↓reduceIte, Nat.reduceAdd, Nat.reduceLeDiff, encT_cells, encCs_one, encCs_cells]); (try with_reducible rfl); done)); (focus ((try simp only [simB0, simB1, SA, SV, SN, SR, SL, pick_bool, Nat.reduceEqDiff, ↓reduceIte, Nat.reduceAdd, Nat.reduceLeDiff, encT_cells, encCs_one, encCs_cells]); (try with_reducible rfl); done)); (focus ((try simp only [simB0, simB1, SA, SV, SN, SR, SL, pick_bool, Nat.reduceEqDiff, ↓reduceIte, Nat.reduceAdd, Nat.reduceLeDiff, encT_cells, encCs_one, encCs_cells]); (try with_reducible rfl); done)); (focus ((try simp only [simB0, simB1, SA, SV, SN, SR, SL, pick_bool, Nat.reduceEqDiff, ↓reduceIte, Nat.reduceAdd, Nat.reduceLeDiff, encT_cells, encCs_one, encCs_cells]); (try with_reducible rfl); done)); (focus (simp only [SO, Bool.and_self, one_encV, one_encVV, encT_cells, encCs_one, encCs_cells])); (focus ((try simp only [SL, Nat.reduceAdd, Nat.reduceMul, List.length_map]); first | done | omega)); (focus ((try simp only [SL, Nat.reduceAdd, Nat.reduceMul, List.length_map]); first | done | omega)); (focus ((try simp only [SL, Nat.reduceAdd, Nat.reduceMul, List.length_map]); first | done | omega))) | (refine e_ends rfl ?_) | (apply r_2; (focus (simp only [rv, simB0, simB1, SA, SV, SN, SR, SL, pick_bool, Nat.reduceEqDiff, ↓reduceIte, Nat.reduceAdd, Nat.reduceLeDiff, encT_cells, encCs_one, encCs_cells]; with_reducible rfl)); (focus (simp only [rv, simB0, simB1, SA, SV, SN, SR, SL, pick_bool, Nat.reduceEqDiff, ↓reduceIte, Nat.reduceAdd, Nat.reduceLeDiff, encT_cells, encCs_one, encCs_cells]; with_reducible rfl))))
  exact encTE_dat _ _ _

def moreI (n : Int) : Int := if 0 ≤ n ∧ n ≤ 8 then n + 1 else 9
def kApprox (n s : Int) : KindV := ⟨n.toNat, 2, (moreI s).toNat, false, fun _ => true, fun l m => if (kinds l).length = 1 then eqv m (IntKind.wrap .i64 (l.getD 0 default * s)) else decide (IntKind.wrap .i64 (m.foldl max (m.getD 0 default) - m.foldl min (m.getD 0 default)) ≤ 1), fun _ _ => false⟩
def approxT (n s : Int) : TaskV × Int := taskI n 2 (moreI s) (-1) (kApprox n s)
theorem made_approx (n s : Int) : Pure Try.prog 45 [.agg [.int .i64 n, .int .i64 2, .int .i64 (moreI s), .int .i64 (-1), .nilf, .func 47 [.iptr [.int .i64 s] 0], .nilf]] (.tup [encT (approxT n s).1, .int .i64 (approxT n s).2]) := by
  refine made_all n 2 (moreI s) (-1) (kApprox n s) _ _ _ DatF.nil (DatF.fun1 .int) DatF.nil (fun h => ?_)
  unfold inR at h
  have h5 : (kApprox n s).n ≤ 5 := by show n.toNat ≤ 5; omega
  have h1 : (kApprox n s).n ≠ 0 := by show n.toNat ≠ 0; omega
  refine ⟨by show (n.toNat : Int) = n; omega, rfl, by show ((moreI s).toNat : Int) = moreI s; omega, ⟨.inl ⟨rfl, fun _ => rfl⟩⟩, by simp [kApprox], Cond2.fun1 .int (fun x hx y hy => ?_), .inl ⟨rfl, fun _ _ => rfl⟩⟩
  exact approx1_c s x y (every_sh h5 hx) (every_sh h5 hy) (every_ne h1 hx) (every_ne h1 hy)

theorem approx_c (n s : Int) : Pure Try.prog 11 [.int .i64 n, .int .i64 s] (.tup [encT (approxT n s).1, .int .i64 (approxT n s).2]) := by
  refine Pure.of_c2 follows is11 (Nat.le_of_ble_eq_true rfl) ?_
  simp only [b11]
  have hm := made_approx n s
  unfold moreI at hm
  refine w_seq ?_
  repeat' (first | refine w_ops0 ?_ | refine a_n ?_ | refine o_nil ?_ | (apply o_val rfl rfl; (focus ((try simp (disch := omega) only [simB0, simB1, SA, SV, SN, SR, SL, pick_bool, Nat.reduceEqDiff, ↓reduceIte, Nat.reduceAdd, Nat.reduceLeDiff, SO, one_encV, one_encVV, Bool.and_self, Bool.false_eq_true, reduceCtorEq, wrap64, aixS_encV, aixS_encVV, alenS_encV, alenS_encVV, Int.toNat_natCast, List.length_map, aixS_msl, getElem?_map_lt, Nat.mul_one]); first | with_reducible rfl | (apply s_ite; (focus omega); with_reducible rfl)))) | (apply e_alloc rfl; (focus ((try simp only [simB0, simB1, SA, SV, SN, SR, SL, pick_bool, Nat.reduceEqDiff, ↓reduceIte, Nat.reduceAdd, Nat.reduceLeDiff]); (try with_reducible rfl); done)); (focus (simp only [SO, Bool.and_self, one_encV, one_encVV]))) | (apply e_box rfl; (focus ((try simp only [simB0, simB1, SA, SV, SN, SR, SL, pick_bool, Nat.reduceEqDiff, ↓reduceIte, Nat.reduceAdd, Nat.reduceLeDiff]); (try with_reducible rfl); done)); (focus ((try simp only [simB0, simB1, SA, SV, SN, SR, SL, pick_bool, Nat.reduceEqDiff, ↓reduceIte, Nat.reduceAdd, Nat.reduceLeDiff]); (try with_reducible rfl); done)); (focus (simp only [SO, Bool.and_self, one_encV, one_encVV]))))
  refine w_seq ?_
  refine w_ops0F (only 0 [.int .i64 s]) _ [(0, .int .i64 n), (3, .iptr [.int .i64 s] 0), (4, .ptr 1 4 0)] (Fz.one (by ((try simp only [simB0, simB1, SA, SV, SN, SR, SL, pick_bool, Nat.reduceEqDiff, ↓reduceIte, Nat.reduceAdd, Nat.reduceLeDiff]); (try with_reducible rfl)))) ⟨.inl (by ((try simp only [simB0, simB1, SA, SV, SN, SR, SL, pick_bool, Nat.reduceEqDiff, ↓reduceIte, Nat.reduceAdd, Nat.reduceLeDiff]); (try with_reducible rfl))), .inr ?_, .inl (by ((try simp only [simB0, simB1, SA, SV, SN, SR, SL, pick_bool, Nat.reduceEqDiff, ↓reduceIte, Nat.reduceAdd, Nat.reduceLeDiff]); (try with_reducible rfl))), trivial⟩ ?_
  · ((try simp only [simB0, simB1, SA, SV, SN, SR, SL, pick_bool, Nat.reduceEqDiff, ↓reduceIte, Nat.reduceAdd, Nat.reduceLeDiff]); (try with_reducible rfl))
    exact snap_ptr only_at rfl (snapL_cons (.int _ _) snapL_nil)
  repeat' (first | refine w_ret ?_ | refine a_n ?_ | refine o_nil ?_ | (apply o_val rfl rfl; (focus ((try simp (disch := omega) only [simB0, simB1, SA, SV, SN, SR, SL, pick_bool, Nat.reduceEqDiff, ↓reduceIte, Nat.reduceAdd, Nat.reduceLeDiff, SO, one_encV, one_encVV, Bool.and_self, Bool.false_eq_true, reduceCtorEq, wrap64, aixS_encV, aixS_encVV, alenS_encV, alenS_encVV, Int.toNat_natCast, List.length_map, aixS_msl, getElem?_map_lt, Nat.mul_one, encT_cells, encCs_one, encCs_cells]); first | with_reducible rfl | (apply s_ite; (focus omega); with_reducible rfl)))) | (apply o_callD; (focus ((try simp only [simB0, simB1, SA, SV, SN, SR, SL, pick_bool, Nat.reduceEqDiff, ↓reduceIte, Nat.reduceAdd, Nat.reduceLeDiff, encT_cells, encCs_one, encCs_cells]); (try with_reducible rfl); done)); (focus ((try simp only [simB0, simB1, SA, SV, SN, SR, SL, pick_bool, Nat.reduceEqDiff, ↓reduceIte, Nat.reduceAdd, Nat.reduceLeDiff, encT_cells, encCs_one, encCs_cells]); (try with_reducible rfl); done)); (focus (first | (exact more_c _) | (exact hm))); (focus (first | (apply snap_data; repeat' (first | exact snapL_nil | apply snapL_dat | exact Dat.int | exact Dat.bool | exact Dat.str | exact Dat.esl | exact Dat.nilf | exact encV_dat _ | exact encVV_dat _ | exact kind_dat DatF.nil (DatF.fun1 .int) DatF.nil)) | (apply snap_plain; (focus (repeat' (first | exact snapL_nil | apply snapL_dat | exact Dat.int | exact Dat.bool | exact Dat.str | exact encV_dat _ | exact encVV_dat _ | exact kind_dat DatF.nil (DatF.fun1 .int) DatF.nil))); rfl)))) | (apply e_st rfl; (focus ((try simp only [simB0, simB1, SA, SV, SN, SR, SL, pick_bool, Nat.reduceEqDiff, ↓reduceIte, Nat.reduceAdd, Nat.reduceLeDiff, encT_cells, encCs_one, encCs_cells]); (try with_reducible rfl); done)); (focus ((try simp only [simB0, simB1, SA, SV, SN, SR, SL, pick_bool, Nat.reduceEqDiff, ↓reduceIte, Nat.reduceAdd, Nat.reduceLeDiff, encT_cells, encCs_one, encCs_cells]); (try with_reducible rfl); done)); (focus ((try simp only [simB0, simB1, SA, SV, SN, SR, SL, pick_bool, Nat.reduceEqDiff, ↓reduceIte, Nat.reduceAdd, Nat.reduceLeDiff, encT_cells, encCs_one, encCs_cells]); (try with_reducible rfl); done)); (focus ((try simp only [simB0, simB1, SA, SV, SN, SR, SL, pick_bool, Nat.reduceEqDiff, ↓reduceIte, Nat.reduceAdd, Nat.reduceLeDiff, encT_cells, encCs_one, encCs_cells]); (try with_reducible rfl); done)); (focus (simp only [SO, Bool.and_self, one_encV, one_encVV, encT_cells, encCs_one, encCs_cells])); (focus ((try simp only [SL, Nat.reduceAdd, Nat.reduceMul, List.length_map]); first | done | omega)); (focus ((try simp only [SL, Nat.reduceAdd, Nat.reduceMul, List.length_map]); first | done | omega)); (focus ((try simp only [SL, Nat.reduceAdd, Nat.reduceMul, List.length_map]); first | done | omega))) | (refine e_ends rfl ?_) | (apply r_2; (focus (simp only [rv, simB0, simB1, SA, SV, SN, SR, SL, pick_bool, Nat.reduceEqDiff, ↓reduceIte, Nat.reduceAdd, Nat.reduceLeDiff, encT_cells, encCs_one, encCs_cells]; with_reducible rfl)); (focus (simp only [rv, simB0, simB1, SA, SV, SN, SR, SL, pick_bool, Nat.reduceEqDiff, ↓reduceIte, Nat.reduceAdd, Nat.reduceLeDiff, encT_cells, encCs_one, encCs_cells]; with_reducible rfl))))
  exact encTE_dat _ _ _

end Go.Proofs.Ytcbkggfipdldaaa
