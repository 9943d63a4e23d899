/- Texts of this claim, one after the other: T11, T12. -/
import Derived.Test.YtbiikomnhkbblaaGreatXG5

set_option linter.unusedSimpArgs false
set_option linter.unusedVariables false

/- T11: contracts of functions and plain laws; for all inputs that the theorems name. -/
namespace Go.Proofs.YtbiikomnhkbblaaGreat
open Go Go.Abs
open Nat (reduceEqDiff reduceAdd reduceLeDiff)
def idx (l : List Int) (v : Int) : Int := if v ∈ l then (l.idxOf v : Nat) else -1
theorem idx_at {l : List Int} {v : Int} {k : Nat} (hk : k < l.length) (h : ∀ i, i < k → l.getD i default ≠ v) (hv : v = l.getD k default) : idx l v = k := by
  have e : l.getD k default = l[k] := by simp [List.getD, hk]
  have hm : v ∈ l := by rw [hv, e]; exact List.getElem_mem hk
  unfold idx; rw [if_pos hm]
  have h1 : l.idxOf v ≤ k := by
    by_cases hlt : l.idxOf v ≤ k
    · exact hlt
    · exfalso
      have := List.not_of_lt_findIdx (xs := l) (p := (· == v)) (i := k) (by simp only [List.idxOf] at hlt; omega)
      rw [e] at hv; subst hv; simp at this
  have h2 : k ≤ l.idxOf v := by
    by_cases hlt : k ≤ l.idxOf v
    · exact hlt
    · exfalso
      have hi := List.idxOf_lt_length_iff.2 hm
      have := h (l.idxOf v) (by omega)
      apply this
      simp [List.getD, hi]
  omega
theorem idx_none {l : List Int} {v : Int} (h : ∀ i, i < l.length → l.getD i default ≠ v) : idx l v = -1 := by
  unfold idx; rw [if_neg]
  intro hm
  obtain ⟨i, hi, e⟩ := List.getElem_of_mem hm
  exact h i hi (by simp [List.getD, hi, e])

/-! ### tasks with some of their cases, plainly -/
def upI (l : List Nat) : List Int := l.map fun (i : Nat) => (i : Int)
theorem upI_getD {l : List Nat} {k : Nat} (h : k < l.length) : (upI l).getD k default = ((l.getD k default : Nat) : Int) := by simp [upI, List.getD, h]
theorem upI_len {l : List Nat} : (upI l).length = l.length := by simp [upI]
theorem pickT_cases {t : TaskV} {l : List Nat} : (pickT t (upI l)).cases = l.map fun i => t.cases.getD i default := by
  simp only [pickT, upI, List.map_map]
  refine List.map_congr_left fun i _ => ?_
  simp [pickC]
theorem pick_getD {t : TaskV} {l : List Nat} {k : Nat} (h : k < l.length) : (pickT t (upI l)).cases.getD k default = t.cases.getD (l.getD k default) default := by
  rw [pickT_cases]; simp [List.getD, h]
section
variable {t : TaskV} {S : List Nat} (hc : checkE t = 0) (hp : S.Pairwise (· < ·)) (hS : ∀ i ∈ S, i < t.cases.length)
include hp in
theorem asc_at {i j : Nat} (hij : i < j) (hj : j < S.length) : S.getD i default < S.getD j default := by
  have := List.pairwise_iff_getElem.1 hp i j (by omega) hj hij
  simpa [List.getD, hj, show i < S.length by omega] using this
include hp hS in
theorem sub_len : S.length ≤ t.cases.length := by
  have hn : S.Nodup := hp.imp (fun h => by omega)
  have := List.Nodup.length_le_of_subset hn (l₂ := List.range t.cases.length) (fun i hi => List.mem_range.2 (hS i hi))
  simpa using this
include hp hS in
theorem idxE_zero {k : Nat} (hk : k < S.length) : idxE t (upI S) k = 0 := by
  unfold idxE
  have h1 := hS _ (mem_getD hk)
  rw [upI_getD hk, if_neg (by omega)]
  by_cases h0 : 0 < k
  · have := asc_at hp (i := k - 1) (j := k) (by omega) hk
    rw [upI_getD (by omega), if_neg (by omega)]
  · rw [if_neg (by omega)]
theorem check_parts (h : checkE t = 0) : (¬ (t.n < 1 ∨ 5 < t.n ∨ t.ins < 1 ∨ 8 < t.ins ∨ t.outs < 1 ∨ 8 < t.outs)) ∧ (1 ≤ t.cases.length ∧ t.cases.length ≤ 1024) ∧ ∀ k, k < t.cases.length → vectorE (t.cases.getD k default).inp t.n t.ins = 0 ∧ vectorsE t.n t.outs (t.cases.getD k default) = 0 := by
  unfold checkE at h
  split at h
  · omega
  · rename_i h1
    split at h
    · omega
    · rename_i h2
      refine ⟨h1, by omega, fun k hk => ?_⟩
      have h3 := firstI_all h k hk
      unfold caseE at h3
      split at h3
      · exact absurd h3 ‹_›
      · rename_i h4
        split at h3
        · omega
        · exact ⟨Decidable.byContradiction fun x => h4 x, h3⟩
include hc hp hS in
theorem pick_check (h1 : 1 ≤ S.length) : checkE (pickT t (upI S)) = 0 := by
  obtain ⟨c1, c2, c3⟩ := check_parts hc
  have hl : (pickT t (upI S)).cases.length = S.length := by rw [pickT_cases]; simp
  have hle := sub_len hp hS
  unfold checkE
  rw [if_neg (show ¬ ((pickT t (upI S)).n < 1 ∨ 5 < (pickT t (upI S)).n ∨ (pickT t (upI S)).ins < 1 ∨ 8 < (pickT t (upI S)).ins ∨ (pickT t (upI S)).outs < 1 ∨ 8 < (pickT t (upI S)).outs) from c1), hl, if_neg (by omega)]
  refine firstI_zero fun k hk => ?_
  have hi := hS _ (mem_getD hk)
  obtain ⟨d1, d2⟩ := c3 _ hi
  unfold caseE
  rw [pick_getD hk]
  have hn : (pickT t (upI S)).n = t.n ∧ (pickT t (upI S)).ins = t.ins ∧ (pickT t (upI S)).outs = t.outs := ⟨rfl, rfl, rfl⟩
  rw [hn.1, hn.2.1, hn.2.2, d1, if_neg (by simp), d2]
  have hu : unordB ((pickT t (upI S)).cases.map CaseV.inp) k = false := by
    unfold unordB
    by_cases h0 : 0 < k
    · rw [inp_getD (by omega), inp_getD (by omega), pick_getD hk, pick_getD (by omega)]
      have := checkE_asc hc _ _ (asc_at hp (i := k - 1) (j := k) (by omega) hk) hi
      rw [decide_eq_true h0, Bool.true_and, decide_eq_false (by omega)]
    · rw [decide_eq_false h0, Bool.false_and]
  rw [hu, if_neg (by simp)]
include hc in
theorem inp_inj {i j : Nat} (hi : i < t.cases.length) (hj : j < t.cases.length) (h : (t.cases.getD i default).inp = (t.cases.getD j default).inp) : i = j := by
  rcases Nat.lt_trichotomy i j with hl | rfl | hl
  · have := checkE_asc hc j i hl hj
    rw [h, order_refl] at this; omega
  · rfl
  · have := checkE_asc hc i j hl hi
    rw [h, order_refl] at this; omega
include hc hp hS in
theorem pick_find (h1 : 1 ≤ S.length) {i : Nat} (hi : i < t.cases.length) : (i ∈ S → ∃ k, k < S.length ∧ S.getD k default = i ∧ findT (pickT t (upI S)) (t.cases.getD i default).inp = ((k : Int), 0)) ∧ (i ∉ S → findT (pickT t (upI S)) (t.cases.getD i default).inp = (0, 6)) := by
  have hck := pick_check hc hp hS h1
  have hl : (pickT t (upI S)).cases.length = S.length := by rw [pickT_cases]; simp
  have hg : ∀ k, k < S.length → ((pickT t (upI S)).cases.map CaseV.inp).getD k default = (t.cases.getD (S.getD k default) default).inp := fun k hk => by
    rw [inp_getD (by omega), pick_getD hk]
  unfold findT
  rw [hck, if_neg (by simp)]
  constructor
  · intro hm
    obtain ⟨k, hk, e⟩ := List.getElem_of_mem hm
    have e' : S.getD k default = i := by simp [List.getD, hk, e]
    have hk2 : k < ((pickT t (upI S)).cases.map CaseV.inp).length := by rw [List.length_map, hl]; exact hk
    refine ⟨k, hk, e', ?_⟩
    rw [if_pos (mem_getV.2 ⟨k, hk2, by rw [hg k hk, e']⟩)]
    have : idxT (pickT t (upI S)) (t.cases.getD i default).inp = k := findIdx_at hk2 (fun j hj h => by
      rw [hg j (by omega)] at h
      have := inp_inj hc (hS _ (mem_getD (by omega))) hi h
      have := asc_at hp hj hk
      omega) (by rw [hg k hk, e'])
    rw [this]
  · intro hm
    rw [if_neg]
    intro h
    obtain ⟨k, hk, e⟩ := mem_getV.1 h
    rw [List.length_map, hl] at hk
    rw [hg k hk] at e
    have := inp_inj hc (hS _ (mem_getD hk)) hi e
    exact hm (this ▸ mem_getD hk)
include hc hp hS in
theorem pick_restrict (h1 : 1 ≤ S.length) : restrictT t (upI S) = (pickT t (upI S), 0) := by
  obtain ⟨c1, c2, c3⟩ := check_parts hc
  have hle := sub_len hp hS
  unfold restrictT
  rw [if_neg (fun h => h hc), upI_len, if_neg (by omega), firstI_zero fun k hk => idxE_zero hp hS hk, if_neg (by simp)]
end
theorem pick_all (t : TaskV) : pickT t (upI (List.range t.cases.length)) = t := by
  obtain ⟨n, i, o, cs⟩ := t
  have : (pickT ⟨n, i, o, cs⟩ (upI (List.range cs.length))).cases = cs := by
    rw [pickT_cases]
    refine List.ext_getElem (by simp) fun k h1 h2 => ?_
    simp [List.getD, h2]
  simp only [pickT] at this ⊢
  rw [this]
theorem restrict_none {t : TaskV} (hc : checkE t = 0) : restrictT t [] = (T00, 5) := by
  unfold restrictT
  rw [if_neg (fun h => h hc), if_pos (.inl (by simp))]

def selB (w : Int) (i : Nat) : Bool := decide (IntKind.wrap .u16 ((BitVec.ofInt 16 (w.fdiv (2 ^ (min (i % 16) 16))) &&& BitVec.ofInt 16 1).toNat : Int) = 1)
def sm (w : Int) (k : Nat) : List Nat := (List.range k).filter (selB w)
theorem sm_succ (w : Int) (k : Nat) : sm w (k + 1) = if selB w k then sm w k ++ [k] else sm w k := by
  unfold sm
  rw [List.range_succ, List.filter_append]
  cases h : selB w k <;> simp [h]
theorem shr16 {tb tf : Bool} {w : Int} {i : Nat} : abin2 .shr tb tf (.int .u16 w) (.int .i64 ((i : Int) % 16)) = some (.int .u16 (w.fdiv (2 ^ (min (i % 16) 16)))) := by
  have e : (i : Int) % 16 = ((i % 16 : Nat) : Int) := by omega
  have h : ¬ (((i % 16 : Nat) : Int) < 0) := by omega
  rw [e]
  simp only [abin2, ashift, h, if_false, or_true, if_true]
  rfl
theorem and16 {tb tf : Bool} {a : Int} : abin2 .and tb tf (.int .u16 a) (.int .u16 1) = some (.int .u16 (IntKind.wrap .u16 ((BitVec.ofInt 16 a &&& BitVec.ofInt 16 1).toNat : Int))) := rfl
theorem rem16 {tb tf : Bool} {i : Nat} : abin2 .rem tb tf (.int .i64 (i : Int)) (.int .i64 16) = some (.int .i64 ((i : Int) % 16)) := rem_pos (by omega) (by omega)
attribute [local irreducible] awp2 aops2 ains aloop athen bbind obind gbind acond res1 Go.Abs.Fn PCall Go.Abs.Pure SnapArgs SnapL Yl

theorem index_c (l : List Int) (v : Int) (hl : Sh l) : Pure Tryz.prog 73 [encV l, .int .i64 v] (.int .i64 (idx l v)) := by
  refine Pure.of_c2 follows is73 (Nat.le_of_ble_eq_true rfl) ?_
  simp only [b73, O, G, N, M, D, F, B2, cFal, cTru]
  repeat' (first | apply w_seq | apply w_ops0 | apply w_block | apply a_n | apply o_nil | (apply o_val rfl rfl; (focus ((try simp (disch := omega) only [simB0, ZA, reduceEqDiff, ↓reduceIte, reduceAdd, reduceLeDiff, ZV, reduceCtorEq]); first | with_reducible rfl | (apply s_ite; (focus omega); with_reducible rfl)))) | apply w_loop)
  refine loop0 (X := Nat) (fun k => [(0, encV l), (1, .int .i64 v), (7, .int .i64 l.length), (8, .int .i64 k)]) (fun k => k ≤ l.length ∧ ∀ i, i < k → l.getD i default ≠ v) (fun k => l.length - k) 0 ⟨Nat.zero_le _, by simp⟩ (by simp (disch := omega) only [agr, ZG, reduceEqDiff, ↓reduceIte]) ?_
  rintro k ⟨h1, h2⟩
  repeat' (first | apply w_seq | apply w_ops0 | apply w_block | apply w_skip | apply w_exit | apply w_ret | apply a_n | apply a_x | apply a_r | apply o_nil | (apply o_val rfl rfl; (focus ((try simp (disch := omega) only [simB0, ZA, reduceEqDiff, ↓reduceIte, reduceAdd, reduceLeDiff, ZV, reduceCtorEq]); first | with_reducible rfl | (apply s_ite; (focus omega); with_reducible rfl)))) | (apply w_cond; (focus ((try simp only [simB0, ZA, reduceEqDiff, ↓reduceIte, reduceAdd, reduceLeDiff]); (try with_reducible rfl); done)); all_goals (intro _hg; (try simp only [ZB] at _hg); try first | exact absurd trivial _hg | (exfalso; omega))) | (refine e_ends rfl ?_) | (apply r_1; (focus (simp only [rv, simB0, ZA, reduceEqDiff, ↓reduceIte, reduceAdd, reduceLeDiff]; with_reducible rfl))))
  · exact snap_int (idx_at (by omega) h2 _hg).symm
  · refine ⟨k + 1, ⟨by omega, fun i hi => ?_⟩, by omega, by simp (disch := omega) only [agr, ZG, reduceEqDiff, ↓reduceIte], rfl, rfl⟩
    rcases Nat.lt_succ_iff_lt_or_eq.1 hi with h | rfl
    · exact h2 i h
    · exact fun e => _hg e.symm
  · exact snap_int (idx_none fun i hi => h2 i (by omega)).symm

theorem contains_c (l : List Int) (v : Int) (hl : Sh l) : Pure Tryz.prog 36 [encV l, .int .i64 v] (.bool (decide (v ∈ l))) := by
  refine Pure.of_c2 follows is36 (Nat.le_of_ble_eq_true rfl) ?_
  simp only [b36, O, G, N, M, D, F, B2, cFal, cTru]
  repeat' (first | apply w_seq | apply w_ops0 | apply w_ret | apply a_n | apply o_nil | (apply o_val rfl rfl; (focus ((try simp (disch := omega) only [simB0, ZA, reduceEqDiff, ↓reduceIte, reduceAdd, reduceLeDiff, ZV, reduceCtorEq]); first | with_reducible rfl | (apply s_ite; (focus omega); with_reducible rfl)))) | (apply o_callD; (iterate 2 (focus ((try simp only [simB0, ZA, reduceEqDiff, ↓reduceIte, reduceAdd, reduceLeDiff]); (try with_reducible rfl); done))); (focus (first | (exact index_c _ _ hl))); (focus ((first | refine snap_plain ?_ rfl | apply snap_data); repeat' (first | exact snapL_nil | apply snapL_i | apply snapL_dat)))) | (refine e_ends rfl ?_) | (apply r_1; (focus (simp only [rv, simB0, ZA, reduceEqDiff, ↓reduceIte, reduceAdd, reduceLeDiff]; with_reducible rfl))))
  refine snap_bool ?_
  unfold idx; split <;> simp_all

theorem orderRR (a : List Int) (ha : Sh a) : Pure Tryz.prog 61 [encV a, encV a] (.int .i64 0) := by
  have := orderR a a ha ha
  rwa [order_refl] at this
theorem sameVs_r (a : List (List Int)) (ha : Sh a) (hs : ∀ x ∈ a, Sh x) : Pure Tryz.prog 20 [encVV a, encVV a] (.bool true) := by
  refine Pure.of_c2 follows is20 (Nat.le_of_ble_eq_true rfl) ?_
  simp only [b20, O, G, N, M, D, F, B2, cFal, cTru]
  repeat' (first | apply w_seq | apply w_ops0 | apply w_block | apply w_skip | apply a_n | apply o_nil | (apply o_val rfl rfl; (focus ((try simp (disch := omega) only [simB0, ZA, reduceEqDiff, ↓reduceIte, reduceAdd, reduceLeDiff, ZV, reduceCtorEq]); first | with_reducible rfl | (apply s_ite; (focus omega); with_reducible rfl)))) | (apply w_cond; (focus ((try simp only [simB0, ZA, reduceEqDiff, ↓reduceIte, reduceAdd, reduceLeDiff]); (try with_reducible rfl); done)); all_goals (intro _hg; (try simp only [ZB] at _hg); try first | exact absurd trivial _hg | (exfalso; omega))) | apply w_loop)
  refine loop0 (X := Nat) (fun k => [(0, encVV a), (1, encVV a), (5, .int .i64 k)]) (fun k => k ≤ a.length) (fun k => a.length - k) 0 (Nat.zero_le _) (by simp (disch := omega) only [agr, ZG, reduceEqDiff, ↓reduceIte]) ?_
  rintro k h1
  repeat' (first | apply w_seq | apply w_ops0 | apply w_mixS1 | apply w_block | apply w_skip | apply w_exit | apply w_ret | apply a_n | apply a_x | apply o_nil | (apply o_val rfl rfl; (focus ((try simp (disch := omega) only [simB0, ZA, reduceEqDiff, ↓reduceIte, reduceAdd, reduceLeDiff, ZV, reduceCtorEq]); first | with_reducible rfl | (apply s_ite; (focus omega); with_reducible rfl)))) | (apply o_callD; (iterate 2 (focus ((try simp only [simB0, ZA, reduceEqDiff, ↓reduceIte, reduceAdd, reduceLeDiff]); (try with_reducible rfl); done))); (focus (first | (exact orderRR _ (hs _ (mem_getD (by omega)))))); (focus ((first | refine snap_plain ?_ rfl | apply snap_data); repeat' (first | exact snapL_nil | apply snapL_i | apply snapL_dat)))) | (apply w_cond; (focus ((try simp only [simB0, ZA, reduceEqDiff, ↓reduceIte, reduceAdd, reduceLeDiff]); (try with_reducible rfl); done)); all_goals (intro _hg; (try simp only [ZB] at _hg); try first | exact absurd trivial _hg | (exfalso; omega))) | (refine e_ends rfl ?_) | (apply r_1; (focus (simp only [rv, simB0, ZA, reduceEqDiff, ↓reduceIte, reduceAdd, reduceLeDiff]; with_reducible rfl))))
  · refine ⟨k + 1, by omega, by omega, by simp (disch := omega) only [agr, ZG, reduceEqDiff, ↓reduceIte], rfl, rfl⟩
  · exact .bool _

theorem same_r (t : TaskV) (h1 : Sh t.cases) (h2 : ∀ c ∈ t.cases, ShC c) : Pure Tryz.prog 28 [encT t, encT t] (.bool true) := by
  refine Pure.of_c2 follows is28 (Nat.le_of_ble_eq_true rfl) ?_
  simp only [b28, O, G, N, M, D, F, B2, cFal, cTru]
  repeat' (first | apply w_seq | apply w_ops0 | apply w_block | apply w_skip | apply a_n | apply o_nil | (apply o_val rfl rfl; (focus ((try simp (disch := omega) only [simB0, ZA, reduceEqDiff, ↓reduceIte, reduceAdd, reduceLeDiff, ZV, reduceCtorEq, encT_cells, encCs_one, encCs_cells, alenS_encCs]); first | with_reducible rfl | (apply s_ite; (focus omega); with_reducible rfl)))) | (apply e_box rfl; (iterate 2 (focus ((try simp only [simB0, ZA, reduceEqDiff, ↓reduceIte, reduceAdd, reduceLeDiff, encT_cells, encCs_one, encCs_cells, alenS_encCs]); (try with_reducible rfl); done))); (focus (simp only [SO, Bool.and_self, one_encV, one_encVV, encT_cells, encCs_one, encCs_cells, alenS_encCs]))) | (apply o_gT; (focus (simp only [simB0, ZA, reduceEqDiff, ↓reduceIte, reduceAdd, reduceLeDiff, encT_cells, encCs_one, encCs_cells, alenS_encCs]; done))) | ((first | apply o_gB | apply w_cond); (focus ((try simp only [simB0, ZA, reduceEqDiff, ↓reduceIte, reduceAdd, reduceLeDiff, encT_cells, encCs_one, encCs_cells, alenS_encCs]); (try with_reducible rfl); done)); all_goals (intro _hg; (try simp only [ZB] at _hg); try first | exact absurd trivial _hg | (exfalso; omega))) | apply w_loop)
  refine loopI (X := Nat) (fun k => [(2, .ptr 0 4 0), (3, .ptr 1 4 0), (5, .int .i64 k)]) (fun k H nx => k ≤ t.cases.length ∧ 2 ≤ nx ∧ H 0 = some [.int .i64 t.n, .int .i64 t.ins, .int .i64 t.outs, encCs t.cases] ∧ H 1 = some [.int .i64 t.n, .int .i64 t.ins, .int .i64 t.outs, encCs t.cases]) (fun k => t.cases.length - k) 0 ⟨Nat.zero_le _, Nat.le_refl _, rfl, rfl⟩ (by simp (disch := omega) only [agr, ZG, reduceEqDiff, ↓reduceIte, List.length_cons, List.length_nil, reduceAdd, Nat.zero_add]) ?_
  rintro k H nx ⟨hk, hn, g0, g1⟩
  by_cases hj : k < t.cases.length
  · obtain ⟨s1, s2, s3, s4, s5⟩ := h2 _ (mem_getD hj)
    repeat' (first | apply w_seq | apply w_ops0 | apply w_ops2 | apply w_block | apply w_skip | apply a_n | apply o_nil | (apply o_val rfl; (focus (first | rfl | (simp (disch := omega) only [dm2, oldP, newP, simB0, ZA, reduceEqDiff, ↓reduceIte, reduceAdd, reduceLeDiff, decide_eq_true_eq]; first | done | omega))); (focus ((try simp (disch := omega) only [simB2, ZA, reduceEqDiff, ↓reduceIte, reduceAdd, reduceLeDiff, ZV, reduceCtorEq, g0, g1, encCs_one, encCs_cells, alenS_encCs, aixS_encCs]); first | with_reducible rfl | (apply s_ite; (focus omega); with_reducible rfl)))) | (apply o_callD; (iterate 2 (focus ((try simp (disch := omega) only [simB2, ZA, reduceEqDiff, ↓reduceIte, reduceAdd, reduceLeDiff, g0, g1, encCs_one, encCs_cells, alenS_encCs, aixS_encCs]); (try with_reducible rfl); done))); (focus (first | (exact orderRR _ s1) | (exact sameVs_r _ s2 s3) | (exact sameVs_r _ s4 s5))); (focus ((first | refine snap_plain ?_ rfl | apply snap_data); repeat' (first | exact snapL_nil | apply snapL_i | apply snapL_dat)))) | (apply e_alloc rfl; (focus ((try simp (disch := omega) only [simB2, ZA, reduceEqDiff, ↓reduceIte, reduceAdd, reduceLeDiff, g0, g1, encCs_one, encCs_cells, alenS_encCs, aixS_encCs]); (try with_reducible rfl); done)); (focus (simp (disch := omega) only [SO, Bool.and_self, one_encV, one_encVV, g0, g1, encCs_one, encCs_cells, alenS_encCs, aixS_encCs]))) | (apply e_st; (focus (first | rfl | (simp (disch := omega) only [dm2, oldP, newP, simB0, ZA, reduceEqDiff, ↓reduceIte, reduceAdd, reduceLeDiff, decide_eq_true_eq]; first | done | omega))); (iterate 4 (focus ((try simp (disch := omega) only [simB2, ZA, reduceEqDiff, ↓reduceIte, reduceAdd, reduceLeDiff, g0, g1, encCs_one, encCs_cells, alenS_encCs, aixS_encCs]); (try with_reducible rfl); done))); (focus (simp (disch := omega) only [SO, Bool.and_self, one_encV, one_encVV, g0, g1, encCs_one, encCs_cells, alenS_encCs, aixS_encCs])); (iterate 3 (focus ((try simp (disch := omega) only [SL, reduceAdd, Nat.reduceMul, List.length_map]); first | done | omega)))) | (apply o_gT; (focus (simp (disch := omega) only [simB2, ZA, reduceEqDiff, ↓reduceIte, reduceAdd, reduceLeDiff, g0, g1, encCs_one, encCs_cells, alenS_encCs, aixS_encCs]; done))) | (apply w_condF; (focus (simp (disch := omega) only [simB2, ZA, reduceEqDiff, ↓reduceIte, reduceAdd, reduceLeDiff, g0, g1, encCs_one, encCs_cells, alenS_encCs, aixS_encCs]; done))) | ((first | apply o_gB | apply w_cond); (focus ((try simp (disch := omega) only [simB2, ZA, reduceEqDiff, ↓reduceIte, reduceAdd, reduceLeDiff, g0, g1, encCs_one, encCs_cells, alenS_encCs, aixS_encCs]); (try with_reducible rfl); done)); all_goals (intro _hg; (try simp (disch := omega) only [ZB] at _hg); try first | exact absurd trivial _hg | (exfalso; omega))))
    refine ⟨k + 1, by omega, ⟨by omega, by omega, ?_, ?_⟩, by simp (disch := omega) only [agr, ZG, reduceEqDiff, ↓reduceIte]⟩
    · rw [hupd_ne (by omega), hupd_ne (by omega), hupd_ne (by omega), hupd_ne (by omega), g0]
    · rw [hupd_ne (by omega), hupd_ne (by omega), hupd_ne (by omega), hupd_ne (by omega), g1]
  · repeat' (first | apply w_seq | apply w_ops0 | apply w_exit | apply w_ret | apply a_n | apply a_x | apply o_nil | (apply o_val rfl; (focus (first | rfl | (simp (disch := omega) only [dm2, oldP, newP, simB0, ZA, reduceEqDiff, ↓reduceIte, reduceAdd, reduceLeDiff, decide_eq_true_eq]; first | done | omega))); (focus ((try simp (disch := omega) only [simB2, ZA, reduceEqDiff, ↓reduceIte, reduceAdd, reduceLeDiff, ZV, reduceCtorEq, g0, g1, encCs_one, encCs_cells, alenS_encCs, aixS_encCs]); first | with_reducible rfl | (apply s_ite; (focus omega); with_reducible rfl)))) | (apply w_cond; (focus ((try simp (disch := omega) only [simB2, ZA, reduceEqDiff, ↓reduceIte, reduceAdd, reduceLeDiff, g0, g1, encCs_one, encCs_cells, alenS_encCs, aixS_encCs]); (try with_reducible rfl); done)); all_goals (intro _hg; (try simp (disch := omega) only [ZB] at _hg); try first | exact absurd trivial _hg | (exfalso; omega))) | (refine e_ends rfl ?_) | (apply r_1; (focus (simp (disch := omega) only [rv, simB2, ZA, reduceEqDiff, ↓reduceIte, reduceAdd, reduceLeDiff, g0, g1, encCs_one, encCs_cells, alenS_encCs, aixS_encCs]; with_reducible rfl))))
    exact .bool _

end Go.Proofs.YtbiikomnhkbblaaGreat

/- T12: contracts of functions and plain laws; for all inputs that the theorems name. -/
namespace Go.Proofs.YtbiikomnhkbblaaGreat
open Go Go.Abs
open Nat (reduceEqDiff reduceAdd reduceLeDiff)
theorem upI_snoc (l : List Nat) (k : Nat) : upI (l ++ [k]) = upI l ++ [(k : Int)] := by simp [upI]
attribute [local irreducible] awp2 aops2 ains aloop athen bbind obind gbind acond res1 Go.Abs.Fn PCall Go.Abs.Pure SnapArgs SnapL Yl

set_option maxHeartbeats 4000000 in
theorem law_restricts (t : TaskV) (w : Int) (hs : ∀ c ∈ t.cases, ShC c) (hsc : Sh t.cases) : Pure Tryz.prog 8 [encT t, .int .u16 w] (.bool true) := by
  refine Pure.of_c2 follows is8 (Nat.le_of_ble_eq_true rfl) ?_
  simp only [b8, O, G, N, M, D, F, B2, cFal, cTru]
  have haw := awake_c
  have hfw := fewR t hs hsc
  have hck := checkR t hs hsc
  have d2 := encT_dat t
  have hsc' : t.cases.length ≤ 17592186044416 := hsc
  generalize hA : [.int .i64 t.n, .int .i64 t.ins, .int .i64 t.outs, encCs t.cases] = A
  have hTA : encT t = .agg A := by rw [← hA]; rfl
  rw [hTA] at hfw hck d2 ⊢
  by_cases hF : fewT t = true ∧ checkE t = 0
  rotate_left
  · cases hf : fewT t with
    | false =>
      rw [hf] at hfw
      subst hA
      repeat' (first | apply w_seq | apply w_ops0 | apply w_ret | apply a_n | apply a_r | apply o_nil | (apply o_val rfl rfl; (focus ((try simp (disch := omega) only [simB0, ZA, reduceEqDiff, ↓reduceIte, reduceAdd, reduceLeDiff, ZV, reduceCtorEq, encCs_one, encCs_cells]); first | with_reducible rfl | (apply s_ite; (focus omega); with_reducible rfl)))) | (apply o_callD; (iterate 2 (focus ((try simp only [simB0, ZA, reduceEqDiff, ↓reduceIte, reduceAdd, reduceLeDiff, encCs_one, encCs_cells]); (try with_reducible rfl); done))); (focus (first | (exact haw) | (exact hfw))); (focus ((first | refine snap_plain ?_ rfl | apply snap_data); repeat' (first | exact snapL_nil | apply snapL_i | apply snapL_dat | exact d2)))) | (apply e_box rfl; (iterate 2 (focus ((try simp only [simB0, ZA, reduceEqDiff, ↓reduceIte, reduceAdd, reduceLeDiff, encCs_one, encCs_cells]); (try with_reducible rfl); done))); (focus (simp only [SO, Bool.and_self, one_encV, one_encVV, encCs_one, encCs_cells]))) | (apply o_gF; (focus (simp only [simB0, ZA, reduceEqDiff, ↓reduceIte, reduceAdd, reduceLeDiff, or_true, true_or, encCs_one, encCs_cells]; done))) | (apply w_condT; (focus (simp only [simB0, ZA, reduceEqDiff, ↓reduceIte, reduceAdd, reduceLeDiff, encCs_one, encCs_cells]; done))) | (refine e_ends rfl ?_) | (apply r_1; (focus (simp only [rv, simB0, ZA, reduceEqDiff, ↓reduceIte, reduceAdd, reduceLeDiff, encCs_one, encCs_cells]; with_reducible rfl))))
      all_goals exact snap_bool rfl
    | true =>
      rw [hf] at hfw
      have hne : checkE t ≠ 0 := fun h => hF ⟨hf, h⟩
      generalize checkE t = C at *
      subst hA
      repeat' (first | apply w_seq | apply w_ops0 | apply w_ret | apply a_n | apply a_r | apply o_nil | (apply o_val rfl rfl; (focus ((try simp (disch := omega) only [simB0, ZA, reduceEqDiff, ↓reduceIte, reduceAdd, reduceLeDiff, ZV, reduceCtorEq, encCs_one, encCs_cells, Bool.false_eq_true]); first | with_reducible rfl | (apply s_ite; (focus omega); with_reducible rfl)))) | (apply o_callD; (iterate 2 (focus ((try simp only [simB0, ZA, reduceEqDiff, ↓reduceIte, reduceAdd, reduceLeDiff, encCs_one, encCs_cells, Bool.false_eq_true]); (try with_reducible rfl); done))); (focus (first | (exact haw) | (exact hfw) | (exact hck))); (focus ((first | refine snap_plain ?_ rfl | apply snap_data); repeat' (first | exact snapL_nil | apply snapL_i | apply snapL_dat | exact d2)))) | (apply e_box rfl; (iterate 2 (focus ((try simp only [simB0, ZA, reduceEqDiff, ↓reduceIte, reduceAdd, reduceLeDiff, encCs_one, encCs_cells, Bool.false_eq_true]); (try with_reducible rfl); done))); (focus (simp only [SO, Bool.and_self, one_encV, one_encVV, encCs_one, encCs_cells, Bool.false_eq_true]))) | (apply o_gT; (focus (simp only [simB0, ZA, reduceEqDiff, ↓reduceIte, reduceAdd, reduceLeDiff, encCs_one, encCs_cells, Bool.false_eq_true]; done))) | (apply w_cond; (focus ((try simp only [simB0, ZA, reduceEqDiff, ↓reduceIte, reduceAdd, reduceLeDiff, encCs_one, encCs_cells, Bool.false_eq_true]); (try with_reducible rfl); done)); all_goals (intro _hg; (try simp only [ZB] at _hg); try first | exact absurd trivial _hg | (exfalso; omega))) | (refine e_ends rfl ?_) | (apply r_1; (focus (simp only [rv, simB0, ZA, reduceEqDiff, ↓reduceIte, reduceAdd, reduceLeDiff, encCs_one, encCs_cells, Bool.false_eq_true]; with_reducible rfl))))
      all_goals exact snap_bool rfl
  obtain ⟨hf, hc⟩ := hF
  rw [hf] at hfw
  rw [hc] at hck
  have hfc : t.cases.length ≤ 30 ∧ ∀ c ∈ t.cases, c.out.length ≤ 100000 ∧ c.calm.length ≤ 100000 := by
    unfold fewT at hf
    rw [Bool.and_eq_true, decide_eq_true_iff, List.all_eq_true] at hf
    refine ⟨hf.1, fun c hc => ?_⟩
    have := hf.2 c hc
    unfold fewC fewVs at this
    simp only [Bool.and_eq_true, decide_eq_true_iff] at this
    omega
  obtain ⟨hl30, hq⟩ := hfc
  have hcl1 : 1 ≤ t.cases.length := (check_parts hc).2.1.1
  have hR : ∀ S : List Nat, S.length ≤ 30 → Pure Tryz.prog 24 [.agg A, encV (upI S)] (.tup [encT (restrictT t (upI S)).1, .int .i64 (restrictT t (upI S)).2]) := fun S hS => by
    rw [← hTA]
    exact restrict_c t (upI S) hs hsc hq (by show (upI S).length ≤ _; rw [upI_len]; omega)
  have hall := hR (List.range t.cases.length) (by simp; omega)
  have hsome := hR (sm w t.cases.length) (Nat.le_trans (List.length_filter_le _ _) (by simp; omega))
  have pall : (List.range t.cases.length).Pairwise (· < ·) := List.pairwise_lt_range
  have psm : (sm w t.cases.length).Pairwise (· < ·) := pall.filter _
  have lall : ∀ i ∈ List.range t.cases.length, i < t.cases.length := fun i hi => List.mem_range.1 hi
  have lsm : ∀ i ∈ sm w t.cases.length, i < t.cases.length := fun i hi => List.mem_range.1 (List.mem_filter.1 hi).1
  rw [pick_restrict hc pall lall (by simpa using hcl1), pick_all, hTA] at hall
  dsimp only at hall
  refine w_seqC (fun T H nx => T 1 = .int .u16 w ∧ T 2 = .ptr 0 4 0 ∧ H = hupd noBoxes 0 A ∧ nx = 1) ?_ ?_
  · subst hA
    repeat' (first | apply w_ops0 | apply a_n | apply o_nil | (apply o_val rfl rfl; (focus ((try simp (disch := omega) only [simB0, ZA, reduceEqDiff, ↓reduceIte, reduceAdd, reduceLeDiff, ZV, reduceCtorEq, encCs_one, encCs_cells]); first | with_reducible rfl | (apply s_ite; (focus omega); with_reducible rfl)))) | (apply e_box rfl; (iterate 2 (focus ((try simp only [simB0, ZA, reduceEqDiff, ↓reduceIte, reduceAdd, reduceLeDiff, encCs_one, encCs_cells]); (try with_reducible rfl); done))); (focus (simp only [SO, Bool.and_self, one_encV, one_encVV, encCs_one, encCs_cells]))))
    exact ⟨rfl, rfl, rfl, rfl⟩
  rintro T H nx ⟨t1, t2, rfl, rfl⟩
  refine w_seqC (fun T H nx => T 1 = .int .u16 w ∧ T 2 = .ptr 0 4 0 ∧ H = hupd noBoxes 0 A ∧ nx = 1) ?_ ?_
  · subst hA
    repeat' (first | apply w_seq | apply w_ops0 | apply w_skip | apply a_n | apply o_nil | (apply o_val rfl rfl; (focus ((try simp (disch := omega) only [simB0, ZA, reduceEqDiff, ↓reduceIte, reduceAdd, reduceLeDiff, ZV, reduceCtorEq, t1, t2, Bool.false_eq_true]); first | with_reducible rfl | (apply s_ite; (focus omega); with_reducible rfl)))) | (apply o_callD; (iterate 2 (focus ((try simp only [simB0, ZA, reduceEqDiff, ↓reduceIte, reduceAdd, reduceLeDiff, t1, t2, Bool.false_eq_true]); (try with_reducible rfl); done))); (focus (first | (exact hfw) | (exact hck))); (focus ((first | refine snap_plain ?_ rfl | apply snap_data); repeat' (first | exact snapL_nil | apply snapL_i | apply snapL_dat | exact d2)))) | (apply o_gT; (focus (simp only [simB0, ZA, reduceEqDiff, ↓reduceIte, reduceAdd, reduceLeDiff, t1, t2, Bool.false_eq_true]; done))) | (apply w_cond; (focus ((try simp only [simB0, ZA, reduceEqDiff, ↓reduceIte, reduceAdd, reduceLeDiff, t1, t2, Bool.false_eq_true]); (try with_reducible rfl); done)); all_goals (intro _hg; (try simp only [ZB] at _hg); try first | exact absurd trivial _hg | (exfalso; omega))))
    all_goals exact ⟨by ((try simp only [simB0, ZA, reduceEqDiff, ↓reduceIte, reduceAdd, reduceLeDiff, t1]); (try with_reducible rfl)), by ((try simp only [simB0, ZA, reduceEqDiff, ↓reduceIte, reduceAdd, reduceLeDiff, t2]); (try with_reducible rfl)), rfl, rfl⟩
  clear t1 t2 hfw hck
  rintro T H nx ⟨t1, t2, rfl, rfl⟩
  refine w_seq ?_
  repeat' (first | apply w_ops0 | apply a_n | apply o_nil | (apply o_val rfl rfl; (focus ((try simp (disch := omega) only [simB0, ZA, reduceEqDiff, ↓reduceIte, reduceAdd, reduceLeDiff, ZV, reduceCtorEq]); first | with_reducible rfl | (apply s_ite; (focus omega); with_reducible rfl)))))
  refine w_seqC (fun T H nx => T 2 = .ptr 0 4 0 ∧ 1 ≤ nx ∧ H 0 = some A ∧ ∃ sv al, T 5 = sv ∧ T 6 = al ∧ Row H 1 sv ((upI (sm w t.cases.length)).map (AV.int .i64)) ∧ Row H 1 al ((upI (List.range t.cases.length)).map (AV.int .i64)) ∧ (∀ b, rowB sv = some b → 1 ≤ b) ∧ (∀ b, rowB al = some b → 1 ≤ b)) ?_ ?_
  · subst hA
    repeat' (first | apply w_seq | apply w_ops0 | apply w_block | apply a_n | apply o_nil | (apply o_val rfl rfl; (focus ((try simp (disch := omega) only [simB0, ZA, reduceEqDiff, ↓reduceIte, reduceAdd, reduceLeDiff, ZV, reduceCtorEq, t1, t2, alenS_encCs]); first | with_reducible rfl | (apply s_ite; (focus omega); with_reducible rfl)))) | apply w_loop)
    refine loopI (X := (AV × AV) × Nat) (fun x => [(1, .int .u16 w), (2, .ptr 0 4 0), (5, x.1.1), (6, x.1.2), (27, .int .i64 t.cases.length), (28, .int .i64 x.2)]) (fun x H nx => x.2 ≤ t.cases.length ∧ 1 ≤ nx ∧ H 0 = some [.int .i64 t.n, .int .i64 t.ins, .int .i64 t.outs, encCs t.cases] ∧ Row H 1 x.1.1 ((upI (sm w x.2)).map (AV.int .i64)) ∧ Row H 1 x.1.2 ((upI (List.range x.2)).map (AV.int .i64)) ∧ (∀ b, rowB x.1.1 = some b → 1 ≤ b ∧ b < nx) ∧ (∀ b, rowB x.1.2 = some b → 1 ≤ b ∧ b < nx) ∧ ∀ b, rowB x.1.1 = some b → rowB x.1.2 ≠ some b) (fun x => t.cases.length - x.2) ((.esl, .esl), 0)
      ⟨Nat.zero_le _, Nat.le_refl _, rfl, .nil, .nil, fun b hb => (by cases hb), fun b hb => (by cases hb), fun b hb => (by cases hb)⟩ (by simp (disch := omega) only [agr, ZG, reduceEqDiff, ↓reduceIte, t1, t2]) ?_
    rintro ⟨⟨sv, al⟩, k⟩ H nx ⟨h1, h2, g0, r1, r2, b1, b2, b3⟩
    dsimp only at *
    by_cases hk : k < t.cases.length
    rotate_left
    · obtain rfl : k = t.cases.length := by omega
      repeat' (first | apply w_seq | apply w_ops0 | apply w_exit | apply a_n | apply a_x | apply o_nil | (apply o_val rfl; (focus (first | rfl | (simp (disch := omega) only [dm2, oldP, newP, simB0, ZA, reduceEqDiff, ↓reduceIte, reduceAdd, reduceLeDiff, decide_eq_true_eq]; first | done | omega))); (focus ((try simp (disch := omega) only [simB2, ZA, reduceEqDiff, ↓reduceIte, reduceAdd, reduceLeDiff, ZV, reduceCtorEq, g0]); first | with_reducible rfl | (apply s_ite; (focus omega); with_reducible rfl)))) | (apply w_cond; (focus ((try simp (disch := omega) only [simB2, ZA, reduceEqDiff, ↓reduceIte, reduceAdd, reduceLeDiff, g0]); (try with_reducible rfl); done)); all_goals (intro _hg; (try simp (disch := omega) only [ZB] at _hg); try first | exact absurd trivial _hg | (exfalso; omega))))
      exact ⟨rfl, h2, g0, sv, al, rfl, rfl, r1, r2, fun b hb => (b1 b hb).1, fun b hb => (b2 b hb).1⟩
    have hsl : (upI (sm w k)).length ≤ 30 := by
      rw [upI_len]
      have := List.length_filter_le (selB w) (List.range k)
      simp only [List.length_range] at this
      show ((List.range k).filter (selB w)).length ≤ 30
      omega
    have hal : (upI (List.range k)).length ≤ 30 := by rw [upI_len]; simp; omega
    repeat' (first | apply w_seq | apply w_ops0 | apply w_block | apply w_skip | apply a_n | apply o_nil | (apply o_val rfl; (focus (first | rfl | (simp (disch := omega) only [dm2, oldP, newP, simB0, ZA, reduceEqDiff, ↓reduceIte, reduceAdd, reduceLeDiff, decide_eq_true_eq]; first | done | omega))); (focus ((try simp (disch := omega) only [simB2, ZA, reduceEqDiff, ↓reduceIte, reduceAdd, reduceLeDiff, ZV, reduceCtorEq, g0]); first | with_reducible rfl | (apply s_ite; (focus omega); with_reducible rfl)))) | (apply e_bld rfl; (focus (exact Nat.succ_ne_zero _)); (focus ((try simp (disch := omega) only [simB2, ZA, reduceEqDiff, ↓reduceIte, reduceAdd, reduceLeDiff, g0]); (try with_reducible rfl); done)); (focus ((try simp (disch := omega) only [simB2, ZA, reduceEqDiff, ↓reduceIte, reduceAdd, reduceLeDiff, SO, Bool.and_self, one_encV, one_encVV, g0]); (try with_reducible rfl); done))) | (apply w_cond; (focus ((try simp (disch := omega) only [simB2, ZA, reduceEqDiff, ↓reduceIte, reduceAdd, reduceLeDiff, g0]); (try with_reducible rfl); done)); all_goals (intro _hg; (try simp (disch := omega) only [ZB] at _hg); try first | exact absurd trivial _hg | (exfalso; omega))))
    refine e_row rfl (by ((try simp only [simB0, ZA, reduceEqDiff, ↓reduceIte, reduceAdd, reduceLeDiff]); (try with_reducible rfl))) (r2.same fun b hb => by have := b2 b hb; rw [hupd_ne (by omega)]) (by ((try simp only [simB0, ZA, reduceEqDiff, ↓reduceIte, reduceAdd, reduceLeDiff]); (try with_reducible rfl))) asrc_one rfl rfl Nat.one_pos (by simp; omega) (by simp; omega) ?_
    rintro al' H2 nx2 q1 q2 q3 q4 q5
    have z0 : H2 0 = some [.int .i64 t.n, .int .i64 t.ins, .int .i64 t.outs, encCs t.cases] := (q4 0 (by omega) (fun h => by have := b2 0 h; omega)).trans (by rw [hupd_ne (by omega)]; exact g0)
    have r1' : Row H2 1 sv ((upI (sm w k)).map (AV.int .i64)) := r1.same fun b hb => by
      have := b1 b hb
      rw [q4 b (by omega) (b3 b hb), hupd_ne (by omega)]
    have q1' : Row H2 1 al' ((upI (List.range (k + 1))).map (AV.int .i64)) := by
      rw [List.range_succ, upI_snoc, List.map_append]; exact q1
    have b2' : ∀ b, rowB al' = some b → 1 ≤ b ∧ b < nx2 := fun b hb => by
      rcases q5 b hb with e | ⟨e1, e2⟩
      · have := b2 b e; omega
      · omega
    have b3' : ∀ b, rowB sv = some b → rowB al' ≠ some b := fun b hb h => by
      have := b1 b hb
      rcases q5 b h with e | ⟨e1, e2⟩
      · exact b3 b hb e
      · omega
    have hsel : selB w k = decide (IntKind.wrap .u16 ((BitVec.ofInt 16 (w.fdiv (2 ^ (min (k % 16) 16))) &&& BitVec.ofInt 16 1).toNat : Int) = 1) := rfl
    cases hsb : selB w k with
    | false =>
      rw [hsb] at hsel
      repeat' (first | apply w_seq | apply w_ops0 | apply w_skip | apply a_n | apply o_nil | (apply o_val rfl; (focus (first | rfl | (simp (disch := omega) only [dm2, oldP, newP, simB0, ZA, reduceEqDiff, ↓reduceIte, reduceAdd, reduceLeDiff, decide_eq_true_eq]; first | done | omega))); (focus ((try simp (disch := omega) only [simB2, ZA, reduceEqDiff, ↓reduceIte, reduceAdd, reduceLeDiff, ZV, reduceCtorEq, z0, shr16, and16, rem16, ← hsel]); first | with_reducible rfl | (apply s_ite; (focus omega); with_reducible rfl)))) | (apply w_condF; (focus (simp (disch := omega) only [simB2, ZA, reduceEqDiff, ↓reduceIte, reduceAdd, reduceLeDiff, z0, shr16, and16, rem16, ← hsel]; done))))
      refine ⟨((sv, al'), k + 1), by dsimp only; omega, ⟨by dsimp only; omega, by omega, z0, ?_, q1', fun b hb => ⟨(b1 b hb).1, by have := b1 b hb; omega⟩, b2', b3'⟩, by simp (disch := omega) only [agr, ZG, reduceEqDiff, ↓reduceIte]⟩
      rw [sm_succ, hsb, if_neg (by simp)]
      exact r1'
    | true =>
      rw [hsb] at hsel
      repeat' (first | apply w_seq | apply w_ops0 | apply a_n | apply o_nil | (apply o_val rfl; (focus (first | rfl | (simp (disch := omega) only [dm2, oldP, newP, simB0, ZA, reduceEqDiff, ↓reduceIte, reduceAdd, reduceLeDiff, decide_eq_true_eq]; first | done | omega))); (focus ((try simp (disch := omega) only [simB2, ZA, reduceEqDiff, ↓reduceIte, reduceAdd, reduceLeDiff, ZV, reduceCtorEq, z0, shr16, and16, rem16, ← hsel]); first | with_reducible rfl | (apply s_ite; (focus omega); with_reducible rfl)))) | (apply e_bld rfl; (focus (exact Nat.succ_ne_zero _)); (focus ((try simp (disch := omega) only [simB2, ZA, reduceEqDiff, ↓reduceIte, reduceAdd, reduceLeDiff, z0, shr16, and16, rem16, ← hsel]); (try with_reducible rfl); done)); (focus ((try simp (disch := omega) only [simB2, ZA, reduceEqDiff, ↓reduceIte, reduceAdd, reduceLeDiff, SO, Bool.and_self, one_encV, one_encVV, z0, shr16, and16, rem16, ← hsel]); (try with_reducible rfl); done))) | (apply w_condT; (focus (simp (disch := omega) only [simB2, ZA, reduceEqDiff, ↓reduceIte, reduceAdd, reduceLeDiff, z0, shr16, and16, rem16, ← hsel]; done))))
      refine e_row rfl (by ((try simp only [simB0, ZA, reduceEqDiff, ↓reduceIte, reduceAdd, reduceLeDiff]); (try with_reducible rfl))) (r1'.same fun b hb => by have := b1 b hb; rw [hupd_ne (by omega)]) (by ((try simp only [simB0, ZA, reduceEqDiff, ↓reduceIte, reduceAdd, reduceLeDiff]); (try with_reducible rfl))) asrc_one rfl rfl Nat.one_pos (by simp; omega) (by simp; omega) ?_
      rintro sv' H3 nx3 p1 p2 p3 p4 p5
      repeat' (first | apply w_ops0 | apply a_n | apply o_nil | (apply o_val rfl rfl; (focus ((try simp (disch := omega) only [simB0, ZA, reduceEqDiff, ↓reduceIte, reduceAdd, reduceLeDiff, ZV, reduceCtorEq]); first | with_reducible rfl | (apply s_ite; (focus omega); with_reducible rfl)))))
      refine ⟨((sv', al'), k + 1), by dsimp only; omega, ⟨by dsimp only; omega, by omega, ?_, ?_, ?_, fun b hb => ?_, fun b hb => ⟨(b2' b hb).1, by have := b2' b hb; omega⟩, fun b hb h => ?_⟩, by simp (disch := omega) only [agr, ZG, reduceEqDiff, ↓reduceIte]⟩
      · rw [p4 0 (by omega) (fun h => by have := b1 0 h; omega), hupd_ne (by omega)]; exact z0
      · dsimp only
        rw [sm_succ, hsb, if_pos rfl, upI_snoc, List.map_append]; exact p1
      · exact q1'.same fun b hb => by
          have := b2' b hb
          rw [p4 b (by omega) (fun h => b3' b h hb), hupd_ne (by omega)]
      · rcases p5 b hb with e | ⟨e1, e2⟩
        · have := b1 b e; omega
        · omega
      · have := b2' b h
        rcases p5 b hb with e | ⟨e1, e2⟩
        · exact b3' b e h
        · omega
  clear t1 t2
  rintro T H nx ⟨t2, hnx, g0, sv, al, t5, t6, r1, r2, b1, b2⟩
  refine w_seqC (fun T H' nx' => T 2 = .ptr 0 4 0 ∧ T 5 = encV (upI (sm w t.cases.length)) ∧ T 9 = .int .i64 0 ∧ T 8 = .ptr nx 4 0 ∧ H' 0 = some A ∧ H' nx = some A ∧ nx' = nx + 1) ?_ ?_
  · refine w_ops0F (fun b => if b = 0 then none else H b) (only 0 A) [(2, .ptr 0 4 0), (5, encV (upI (sm w t.cases.length))), (6, encV (upI (List.range t.cases.length)))] ⟨fun b cs hb => ?_, fun b cs hb => ?_⟩ ⟨.inl t2, .inr ?_, .inr ?_, trivial⟩ ?_
    · split at hb
      · cases hb
      · exact hb
    · unfold only at hb
      split at hb
      · rename_i e; cases hb; rw [e]; exact ⟨_, g0, if_pos rfl, CellsTo.refl _ _⟩
      · cases hb
    · rw [t5]
      exact (r1.same fun b hb => if_neg (by have := b1 b hb; omega)).snapI
    · rw [t6]
      exact (r2.same fun b hb => if_neg (by have := b2 b hb; omega)).snapI
    have hon : only 0 A 0 = some A := only_at
    subst hA
    repeat' (first | apply a_n | apply o_nil | (apply o_val rfl; (focus (first | rfl | (simp (disch := omega) only [dm2, oldP, newP, simB0, ZA, reduceEqDiff, ↓reduceIte, reduceAdd, reduceLeDiff, decide_eq_true_eq]; first | done | omega))); (focus ((try simp (disch := omega) only [simB2, ZA, reduceEqDiff, ↓reduceIte, reduceAdd, reduceLeDiff, ZV, reduceCtorEq, hon, encCs_one, encCs_cells, acells]); first | with_reducible rfl | (apply s_ite; (focus omega); with_reducible rfl)))) | (apply o_callD; (iterate 2 (focus ((try simp (disch := omega) only [simB2, ZA, reduceEqDiff, ↓reduceIte, reduceAdd, reduceLeDiff, hon, encCs_one, encCs_cells, acells]); (try with_reducible rfl); done))); (focus (first | (exact hall))); (focus ((first | refine snap_plain ?_ rfl | apply snap_data); repeat' (first | exact snapL_nil | apply snapL_i | apply snapL_dat | exact d2)))) | (apply e_alloc rfl; (focus ((try simp (disch := omega) only [simB2, ZA, reduceEqDiff, ↓reduceIte, reduceAdd, reduceLeDiff, hon, encCs_one, encCs_cells, acells]); (try with_reducible rfl); done)); (focus (simp (disch := omega) only [SO, Bool.and_self, one_encV, one_encVV, hon, encCs_one, encCs_cells, acells]))) | (apply e_st; (focus (first | rfl | (simp (disch := omega) only [dm2, oldP, newP, simB0, ZA, reduceEqDiff, ↓reduceIte, reduceAdd, reduceLeDiff, decide_eq_true_eq]; first | done | omega))); (iterate 4 (focus ((try simp (disch := omega) only [simB2, ZA, reduceEqDiff, ↓reduceIte, reduceAdd, reduceLeDiff, hon, encCs_one, encCs_cells, acells]); (try with_reducible rfl); done))); (focus (simp (disch := omega) only [SO, Bool.and_self, one_encV, one_encVV, hon, encCs_one, encCs_cells, acells])); (iterate 3 (focus ((try simp (disch := omega) only [SL, reduceAdd, Nat.reduceMul, List.length_map]); first | done | omega)))))
    exact ⟨rfl, rfl, rfl, rfl, by rw [hupd_ne (by omega), hupd_ne (by omega)]; exact hon, by rw [hupd_self']; rfl, rfl⟩
  clear t2 t5 t6 r1 r2 b1 b2 g0
  rintro T H nx' ⟨t2, t5, t9, t8, g0, g1, rfl⟩
  obtain ⟨LF, hLF⟩ : ∃ LF, restrictT t (upI (sm w t.cases.length)) = LF := ⟨_, rfl⟩
  rw [hLF] at hsome
  refine w_seqC (fun T H' nx' => T 2 = .ptr 0 4 0 ∧ T 5 = encV (upI (sm w t.cases.length)) ∧ T 9 = .int .i64 0 ∧ T 8 = .ptr nx 4 0 ∧ T 10 = .ptr (nx + 1) 4 0 ∧ T 11 = .int .i64 LF.2 ∧ H' 0 = some A ∧ H' nx = some A ∧ H' (nx + 1) = some [.int .i64 LF.1.n, .int .i64 LF.1.ins, .int .i64 LF.1.outs, encCs LF.1.cases] ∧ nx' = nx + 1 + 1) ?_ ?_
  · subst hA
    repeat' (first | apply w_ops0 | apply a_n | apply o_nil | (apply o_val rfl; (focus (first | rfl | (simp (disch := omega) only [dm2, oldP, newP, simB0, ZA, reduceEqDiff, ↓reduceIte, reduceAdd, reduceLeDiff, decide_eq_true_eq]; first | done | omega))); (focus ((try simp (disch := omega) only [simB2, ZA, reduceEqDiff, ↓reduceIte, reduceAdd, reduceLeDiff, ZV, reduceCtorEq, t2, t5, t9, t8, g0, g1, encT_cells, encCs_one, encCs_cells, acells]); first | with_reducible rfl | (apply s_ite; (focus omega); with_reducible rfl)))) | (apply o_callD; (iterate 2 (focus ((try simp (disch := omega) only [simB2, ZA, reduceEqDiff, ↓reduceIte, reduceAdd, reduceLeDiff, t2, t5, t9, t8, g0, g1, encT_cells, encCs_one, encCs_cells, acells]); (try with_reducible rfl); done))); (focus (first | (exact hsome))); (focus ((first | refine snap_plain ?_ rfl | apply snap_data); repeat' (first | exact snapL_nil | apply snapL_i | apply snapL_dat | exact d2)))) | (apply e_alloc rfl; (focus ((try simp (disch := omega) only [simB2, ZA, reduceEqDiff, ↓reduceIte, reduceAdd, reduceLeDiff, t2, t5, t9, t8, g0, g1, encT_cells, encCs_one, encCs_cells, acells]); (try with_reducible rfl); done)); (focus (simp (disch := omega) only [SO, Bool.and_self, one_encV, one_encVV, t2, t5, t9, t8, g0, g1, encT_cells, encCs_one, encCs_cells, acells]))) | (apply e_st; (focus (first | rfl | (simp (disch := omega) only [dm2, oldP, newP, simB0, ZA, reduceEqDiff, ↓reduceIte, reduceAdd, reduceLeDiff, decide_eq_true_eq]; first | done | omega))); (iterate 4 (focus ((try simp (disch := omega) only [simB2, ZA, reduceEqDiff, ↓reduceIte, reduceAdd, reduceLeDiff, t2, t5, t9, t8, g0, g1, encT_cells, encCs_one, encCs_cells, acells]); (try with_reducible rfl); done))); (focus (simp (disch := omega) only [SO, Bool.and_self, one_encV, one_encVV, t2, t5, t9, t8, g0, g1, encT_cells, encCs_one, encCs_cells, acells])); (iterate 3 (focus ((try simp (disch := omega) only [SL, reduceAdd, Nat.reduceMul, List.length_map]); first | done | omega)))))
    exact ⟨by ((try simp (disch := omega) only [simB2, ZA, reduceEqDiff, ↓reduceIte, reduceAdd, reduceLeDiff, t2]); (try with_reducible rfl)), by ((try simp (disch := omega) only [simB2, ZA, reduceEqDiff, ↓reduceIte, reduceAdd, reduceLeDiff, t5]); (try with_reducible rfl)), by ((try simp (disch := omega) only [simB2, ZA, reduceEqDiff, ↓reduceIte, reduceAdd, reduceLeDiff, t9]); (try with_reducible rfl)), by ((try simp (disch := omega) only [simB2, ZA, reduceEqDiff, ↓reduceIte, reduceAdd, reduceLeDiff, t8]); (try with_reducible rfl)), by ((try simp only [simB0, ZA, reduceEqDiff, ↓reduceIte, reduceAdd, reduceLeDiff]); (try with_reducible rfl)), by ((try simp only [simB0, ZA, reduceEqDiff, ↓reduceIte, reduceAdd, reduceLeDiff]); (try with_reducible rfl)), by rw [hupd_ne (by omega), hupd_ne (by omega), g0], by rw [hupd_ne (by omega), hupd_ne (by omega), g1], by rw [hupd_self']; rfl, rfl⟩
  clear t2 t5 t9 t8 g0 g1
  rintro T H nx' ⟨t2, t5, t9, t8, t10, t11, g0, g1, g2, rfl⟩
  have hsame := same_r t hsc hs
  rw [hTA] at hsame
  refine w_seqC (fun T H' nx' => T 2 = .ptr 0 4 0 ∧ T 5 = encV (upI (sm w t.cases.length)) ∧ T 10 = .ptr (nx + 1) 4 0 ∧ T 11 = .int .i64 LF.2 ∧ H' 0 = some A ∧ H' (nx + 1) = some [.int .i64 LF.1.n, .int .i64 LF.1.ins, .int .i64 LF.1.outs, encCs LF.1.cases] ∧ nx' = nx + 1 + 1) ?_ ?_
  · subst hA
    repeat' (first | apply w_seq | apply w_ops0 | apply w_skip | apply a_n | apply o_nil | (apply o_val rfl; (focus (first | rfl | (simp (disch := omega) only [dm2, oldP, newP, simB0, ZA, reduceEqDiff, ↓reduceIte, reduceAdd, reduceLeDiff, decide_eq_true_eq]; first | done | omega))); (focus ((try simp (disch := omega) only [simB2, ZA, reduceEqDiff, ↓reduceIte, reduceAdd, reduceLeDiff, ZV, reduceCtorEq, t2, t5, t9, t8, t10, t11, g0, g1, g2, encCs_one, encCs_cells, acells, Bool.false_eq_true]); first | with_reducible rfl | (apply s_ite; (focus omega); with_reducible rfl)))) | (apply o_callD; (iterate 2 (focus ((try simp (disch := omega) only [simB2, ZA, reduceEqDiff, ↓reduceIte, reduceAdd, reduceLeDiff, t2, t5, t9, t8, t10, t11, g0, g1, g2, encCs_one, encCs_cells, acells, Bool.false_eq_true]); (try with_reducible rfl); done))); (focus (first | (exact hsame))); (focus ((first | refine snap_plain ?_ rfl | apply snap_data); repeat' (first | exact snapL_nil | apply snapL_i | apply snapL_dat | exact d2)))) | (apply o_gT; (focus (simp (disch := omega) only [simB2, ZA, reduceEqDiff, ↓reduceIte, reduceAdd, reduceLeDiff, t2, t5, t9, t8, t10, t11, g0, g1, g2, encCs_one, encCs_cells, acells, Bool.false_eq_true]; done))) | (apply o_gB; (focus ((try simp (disch := omega) only [simB2, ZA, reduceEqDiff, ↓reduceIte, reduceAdd, reduceLeDiff, t2, t5, t9, t8, t10, t11, g0, g1, g2, encCs_one, encCs_cells, acells, Bool.false_eq_true]); (try with_reducible rfl); done)); all_goals (intro _hg; (try simp (disch := omega) only [ZB] at _hg); try first | exact absurd trivial _hg | (exfalso; omega))) | (apply w_condF; (focus (simp (disch := omega) only [simB2, ZA, reduceEqDiff, ↓reduceIte, reduceAdd, reduceLeDiff, t2, t5, t9, t8, t10, t11, g0, g1, g2, encCs_one, encCs_cells, acells, Bool.false_eq_true]; done))))
    all_goals exact ⟨by ((try simp (disch := omega) only [simB2, ZA, reduceEqDiff, ↓reduceIte, reduceAdd, reduceLeDiff, t2]); (try with_reducible rfl)), by ((try simp (disch := omega) only [simB2, ZA, reduceEqDiff, ↓reduceIte, reduceAdd, reduceLeDiff, t5]); (try with_reducible rfl)), by ((try simp (disch := omega) only [simB2, ZA, reduceEqDiff, ↓reduceIte, reduceAdd, reduceLeDiff, t10]); (try with_reducible rfl)), by ((try simp (disch := omega) only [simB2, ZA, reduceEqDiff, ↓reduceIte, reduceAdd, reduceLeDiff, t11]); (try with_reducible rfl)), g0, g2, rfl⟩
  clear t2 t5 t9 t8 t10 t11 g0 g1 g2 hsame
  rintro T H nx' ⟨t2, t5, t10, t11, g0, g2, rfl⟩
  have hS30 : (sm w t.cases.length).length ≤ 30 := Nat.le_trans (List.length_filter_le _ _) (by simp; omega)
  have hlu : (upI (sm w t.cases.length)).length = (sm w t.cases.length).length := upI_len
  by_cases hS0 : (sm w t.cases.length).length = 0
  · have e0 : sm w t.cases.length = [] := List.length_eq_zero_iff.1 hS0
    have hLF5 : LF.2 = 5 := by rw [← hLF, e0]; show (restrictT t []).2 = 5; rw [restrict_none hc]
    rw [hLF5] at t11
    refine w_seqC (fun _ _ _ => False) ?_ (fun _ _ _ h => h.elim)
    repeat' (first | apply w_seq | apply w_ops0 | apply w_ret | apply a_n | apply a_r | apply o_nil | (apply o_val rfl; (focus (first | rfl | (simp (disch := omega) only [dm2, oldP, newP, simB0, ZA, reduceEqDiff, ↓reduceIte, reduceAdd, reduceLeDiff, decide_eq_true_eq]; first | done | omega))); (focus ((try simp (disch := omega) only [simB2, ZA, reduceEqDiff, ↓reduceIte, reduceAdd, reduceLeDiff, ZV, reduceCtorEq, t2, t5, t10, t11, hlu]); first | with_reducible rfl | (apply s_ite; (focus omega); with_reducible rfl)))) | (apply o_callD; (iterate 2 (focus ((try simp (disch := omega) only [simB2, ZA, reduceEqDiff, ↓reduceIte, reduceAdd, reduceLeDiff, t2, t5, t10, t11, hlu]); (try with_reducible rfl); done))); (focus (first | (exact haw))); (focus ((first | refine snap_plain ?_ rfl | apply snap_data); repeat' (first | exact snapL_nil | apply snapL_i | apply snapL_dat)))) | ((first | apply o_gB | apply w_cond); (focus ((try simp (disch := omega) only [simB2, ZA, reduceEqDiff, ↓reduceIte, reduceAdd, reduceLeDiff, t2, t5, t10, t11, hlu]); (try with_reducible rfl); done)); all_goals (intro _hg; (try simp (disch := omega) only [ZB] at _hg); try first | exact absurd trivial _hg | (exfalso; omega))) | (refine e_ends rfl ?_) | (apply r_1; (focus (simp (disch := omega) only [rv, simB2, ZA, reduceEqDiff, ↓reduceIte, reduceAdd, reduceLeDiff, t2, t5, t10, t11, hlu]; with_reducible rfl))))
    all_goals exact .bool _
  have hS1 : 1 ≤ (sm w t.cases.length).length := by omega
  rw [pick_restrict hc psm lsm hS1] at hLF
  subst hLF
  dsimp only at t11 g2
  refine w_seqC (fun T H' nx' => T 2 = .ptr 0 4 0 ∧ T 5 = encV (upI (sm w t.cases.length)) ∧ T 10 = .ptr (nx + 1) 4 0 ∧ T 11 = .int .i64 0 ∧ H' 0 = some A ∧ H' (nx + 1) = some [.int .i64 (pickT t (upI (sm w t.cases.length))).n, .int .i64 (pickT t (upI (sm w t.cases.length))).ins, .int .i64 (pickT t (upI (sm w t.cases.length))).outs, encCs (pickT t (upI (sm w t.cases.length))).cases] ∧ nx' = nx + 1 + 1) ?_ ?_
  · repeat' (first | apply w_seq | apply w_ops0 | apply w_skip | apply a_n | apply o_nil | (apply o_val rfl; (focus (first | rfl | (simp (disch := omega) only [dm2, oldP, newP, simB0, ZA, reduceEqDiff, ↓reduceIte, reduceAdd, reduceLeDiff, decide_eq_true_eq]; first | done | omega))); (focus ((try simp (disch := omega) only [simB2, ZA, reduceEqDiff, ↓reduceIte, reduceAdd, reduceLeDiff, ZV, reduceCtorEq, t2, t5, t10, t11, hlu]); first | with_reducible rfl | (apply s_ite; (focus omega); with_reducible rfl)))) | (apply w_cond; (focus ((try simp (disch := omega) only [simB2, ZA, reduceEqDiff, ↓reduceIte, reduceAdd, reduceLeDiff, t2, t5, t10, t11, hlu]); (try with_reducible rfl); done)); all_goals (intro _hg; (try simp (disch := omega) only [ZB] at _hg); try first | exact absurd trivial _hg | (exfalso; omega))))
    all_goals exact ⟨by ((try simp (disch := omega) only [simB2, ZA, reduceEqDiff, ↓reduceIte, reduceAdd, reduceLeDiff, t2]); (try with_reducible rfl)), by ((try simp (disch := omega) only [simB2, ZA, reduceEqDiff, ↓reduceIte, reduceAdd, reduceLeDiff, t5]); (try with_reducible rfl)), by ((try simp (disch := omega) only [simB2, ZA, reduceEqDiff, ↓reduceIte, reduceAdd, reduceLeDiff, t10]); (try with_reducible rfl)), by ((try simp (disch := omega) only [simB2, ZA, reduceEqDiff, ↓reduceIte, reduceAdd, reduceLeDiff, t11]); (try with_reducible rfl)), g0, g2, rfl⟩
  clear t2 t5 t10 t11 g0 g2
  rintro T H nx' ⟨t2, t5, t10, t11, g0, g2, rfl⟩
  have hfind := fun i (hi : i < t.cases.length) => pick_find hc psm lsm hS1 hi
  have hpg := fun k (hk : k < (sm w t.cases.length).length) => pick_getD (t := t) hk
  have hplen : (pickT t (upI (sm w t.cases.length))).cases.length = (sm w t.cases.length).length := by rw [pickT_cases]; simp
  have hpmem : ∀ c ∈ (pickT t (upI (sm w t.cases.length))).cases, ShC c := fun c hcm => by
    rw [pickT_cases] at hcm
    obtain ⟨i, hi, rfl⟩ := List.mem_map.1 hcm
    exact hs _ (mem_getD (lsm i hi))
  have hpsh : Sh (pickT t (upI (sm w t.cases.length))).cases := by show _ ≤ _; omega
  have hchk := check_c _ hpmem hpsh
  rw [pick_check hc psm lsm hS1] at hchk
  have hfd := fun v hv => find_c _ v hpmem hpsh hv
  have hct := fun (i : Nat) => contains_c (upI (sm w t.cases.length)) i (by show (upI (sm w t.cases.length)).length ≤ _; omega)
  have hmem : ∀ i : Nat, ((i : Int) ∈ upI (sm w t.cases.length)) ↔ i ∈ sm w t.cases.length := fun i => by
    unfold upI
    rw [List.mem_map]
    constructor
    · rintro ⟨j, hj, e⟩
      have : j = i := by omega
      exact this ▸ hj
    · intro h; exact ⟨i, h, rfl⟩
  have hug := fun k (hk : k < (sm w t.cases.length).length) => upI_getD hk
  have dL := encT_dat (pickT t (upI (sm w t.cases.length)))
  generalize hSS : sm w t.cases.length = S at *
  generalize hU : upI S = U at *
  generalize hLL : pickT t U = L at *
  unfold encT at hchk hfd dL
  refine w_seqC (fun T H' nx' => T 2 = .ptr 0 4 0 ∧ T 5 = encV U ∧ T 10 = .ptr (nx + 1) 4 0 ∧ H' 0 = some A ∧ H' (nx + 1) = some [.int .i64 L.n, .int .i64 L.ins, .int .i64 L.outs, encCs L.cases] ∧ nx' = nx + 1 + 1) ?_ ?_
  · repeat' (first | apply w_seq | apply w_ops0 | apply w_skip | apply a_n | apply o_nil | (apply o_val rfl; (focus (first | rfl | (simp (disch := omega) only [dm2, oldP, newP, simB0, ZA, reduceEqDiff, ↓reduceIte, reduceAdd, reduceLeDiff, decide_eq_true_eq]; first | done | omega))); (focus ((try simp (disch := omega) only [simB2, ZA, reduceEqDiff, ↓reduceIte, reduceAdd, reduceLeDiff, ZV, reduceCtorEq, t2, t5, t10, t11, g2, encCs_one, encCs_cells, alenS_encCs, acells, hplen, hlu, Bool.false_eq_true]); first | with_reducible rfl | (apply s_ite; (focus omega); with_reducible rfl)))) | (apply o_callD; (iterate 2 (focus ((try simp (disch := omega) only [simB2, ZA, reduceEqDiff, ↓reduceIte, reduceAdd, reduceLeDiff, t2, t5, t10, t11, g2, encCs_one, encCs_cells, alenS_encCs, acells, hplen, hlu, Bool.false_eq_true]); (try with_reducible rfl); done))); (focus (first | (exact hchk))); (focus ((first | refine snap_plain ?_ rfl | apply snap_data); repeat' (first | exact snapL_nil | apply snapL_i | apply snapL_dat | exact dL)))) | (apply o_gT; (focus (simp (disch := omega) only [simB2, ZA, reduceEqDiff, ↓reduceIte, reduceAdd, reduceLeDiff, t2, t5, t10, t11, g2, encCs_one, encCs_cells, alenS_encCs, acells, hplen, hlu, Bool.false_eq_true]; done))) | ((first | apply o_gB | apply w_cond); (focus ((try simp (disch := omega) only [simB2, ZA, reduceEqDiff, ↓reduceIte, reduceAdd, reduceLeDiff, t2, t5, t10, t11, g2, encCs_one, encCs_cells, alenS_encCs, acells, hplen, hlu, Bool.false_eq_true]); (try with_reducible rfl); done)); all_goals (intro _hg; (try simp (disch := omega) only [ZB] at _hg); try first | exact absurd trivial _hg | (exfalso; omega))))
    all_goals exact ⟨by ((try simp (disch := omega) only [simB2, ZA, reduceEqDiff, ↓reduceIte, reduceAdd, reduceLeDiff, t2]); (try with_reducible rfl)), by ((try simp (disch := omega) only [simB2, ZA, reduceEqDiff, ↓reduceIte, reduceAdd, reduceLeDiff, t5]); (try with_reducible rfl)), by ((try simp (disch := omega) only [simB2, ZA, reduceEqDiff, ↓reduceIte, reduceAdd, reduceLeDiff, t10]); (try with_reducible rfl)), g0, g2, rfl⟩
  clear t2 t5 t10 t11 hchk
  rintro T H' nx' ⟨t2, t5, t10, g0, g2, rfl⟩
  refine w_seqC (fun _ _ _ => True) ?_ ?_
  · subst hA
    repeat' (first | apply w_seq | apply w_ops0 | apply w_block | apply a_n | apply o_nil | (apply o_val rfl; (focus (first | rfl | (simp (disch := omega) only [dm2, oldP, newP, simB0, ZA, reduceEqDiff, ↓reduceIte, reduceAdd, reduceLeDiff, decide_eq_true_eq]; first | done | omega))); (focus ((try simp (disch := omega) only [simB2, ZA, reduceEqDiff, ↓reduceIte, reduceAdd, reduceLeDiff, ZV, reduceCtorEq, t2, t5, t10, g0, g2, alenS_encCs]); first | with_reducible rfl | (apply s_ite; (focus omega); with_reducible rfl)))) | apply w_loop)
    refine loopI (X := Nat) (fun k => [(2, .ptr 0 4 0), (5, encV U), (10, .ptr (nx + 1) 4 0), (90, encCs t.cases), (91, .int .i64 t.cases.length), (92, .int .i64 k)]) (fun k H nx' => k ≤ t.cases.length ∧ nx + 2 ≤ nx' ∧ H (nx + 1) = some [.int .i64 L.n, .int .i64 L.ins, .int .i64 L.outs, encCs L.cases]) (fun k => t.cases.length - k) 0 ⟨Nat.zero_le _, Nat.le_refl _, g2⟩ (by simp (disch := omega) only [agr, ZG, reduceEqDiff, ↓reduceIte, t2, t5, t10]) ?_
    clear g0 g2
    rintro k H nx' ⟨hk, hn, g2⟩
    by_cases hk2 : k < t.cases.length
    rotate_left
    · repeat' (first | apply w_seq | apply w_ops0 | apply w_exit | apply a_n | apply a_x | apply o_nil | (apply o_val rfl rfl; (focus ((try simp (disch := omega) only [simB0, ZA, reduceEqDiff, ↓reduceIte, reduceAdd, reduceLeDiff, ZV, reduceCtorEq]); first | with_reducible rfl | (apply s_ite; (focus omega); with_reducible rfl)))) | (apply w_cond; (focus ((try simp only [simB0, ZA, reduceEqDiff, ↓reduceIte, reduceAdd, reduceLeDiff]); (try with_reducible rfl); done)); all_goals (intro _hg; (try simp only [ZB] at _hg); try first | exact absurd trivial _hg | (exfalso; omega))))
      all_goals trivial
    have ix := aixS_encCs hk2
    have hsk := hs _ (mem_getD hk2)
    have hfdk := hfd (t.cases.getD k default).inp hsk.1
    have hctk := hct k
    have hsv := sameVs_r (t.cases.getD k default).out hsk.2.1 hsk.2.2.1
    obtain ⟨f1, f2⟩ := hfind k hk2
    by_cases hin : k ∈ S
    · obtain ⟨j, hj, hSj, hf⟩ := f1 hin
      rw [hf] at hfdk
      dsimp only at hfdk
      rw [decide_eq_true ((hmem k).2 hin)] at hctk
      have ixj := aixS_encCs (l := L.cases) (k := j) (by omega)
      rw [hpg j hj, hSj] at ixj
      have hUj := hug j hj
      rw [hSj] at hUj
      repeat' (first | apply w_seq | apply w_ops0 | apply w_mixS1 | apply w_block | apply w_skip | apply w_ret | apply a_n | apply a_r | apply o_nil | (apply o_val rfl; (focus (first | rfl | (simp (disch := omega) only [dm2, oldP, newP, simB0, ZA, reduceEqDiff, ↓reduceIte, reduceAdd, reduceLeDiff, decide_eq_true_eq]; first | done | omega))); (focus ((try simp (disch := omega) only [simB2, ZA, reduceEqDiff, ↓reduceIte, reduceAdd, reduceLeDiff, ZV, reduceCtorEq, g2, ix, ixj, hUj, hlu, encCs_one, encCs_cells, acells, Bool.false_eq_true]); first | with_reducible rfl | (apply s_ite; (focus omega); with_reducible rfl)))) | (apply o_callD; (iterate 2 (focus ((try simp (disch := omega) only [simB2, ZA, reduceEqDiff, ↓reduceIte, reduceAdd, reduceLeDiff, g2, ix, ixj, hUj, hlu, encCs_one, encCs_cells, acells, Bool.false_eq_true]); (try with_reducible rfl); done))); (focus (first | (exact hfdk) | (exact hctk) | (exact hsv))); (focus ((first | refine snap_plain ?_ rfl | apply snap_data); repeat' (first | exact snapL_nil | apply snapL_i | apply snapL_dat | exact dL)))) | (apply e_alloc rfl; (focus ((try simp (disch := omega) only [simB2, ZA, reduceEqDiff, ↓reduceIte, reduceAdd, reduceLeDiff, g2, ix, ixj, hUj, hlu, encCs_one, encCs_cells, acells, Bool.false_eq_true]); (try with_reducible rfl); done)); (focus (simp (disch := omega) only [SO, Bool.and_self, one_encV, one_encVV, g2, ix, ixj, hUj, hlu, encCs_one, encCs_cells, acells, Bool.false_eq_true]))) | (apply e_st; (focus (first | rfl | (simp (disch := omega) only [dm2, oldP, newP, simB0, ZA, reduceEqDiff, ↓reduceIte, reduceAdd, reduceLeDiff, decide_eq_true_eq]; first | done | omega))); (iterate 4 (focus ((try simp (disch := omega) only [simB2, ZA, reduceEqDiff, ↓reduceIte, reduceAdd, reduceLeDiff, g2, ix, ixj, hUj, hlu, encCs_one, encCs_cells, acells, Bool.false_eq_true]); (try with_reducible rfl); done))); (focus (simp (disch := omega) only [SO, Bool.and_self, one_encV, one_encVV, g2, ix, ixj, hUj, hlu, encCs_one, encCs_cells, acells, Bool.false_eq_true])); (iterate 3 (focus ((try simp (disch := omega) only [SL, reduceAdd, Nat.reduceMul, List.length_map]); first | done | omega)))) | (apply o_gT; (focus (simp (disch := omega) only [simB2, ZA, reduceEqDiff, ↓reduceIte, reduceAdd, reduceLeDiff, g2, ix, ixj, hUj, hlu, encCs_one, encCs_cells, acells, Bool.false_eq_true]; done))) | (apply o_gF; (focus (simp (disch := omega) only [simB2, ZA, reduceEqDiff, ↓reduceIte, reduceAdd, reduceLeDiff, or_true, true_or, g2, ix, ixj, hUj, hlu, encCs_one, encCs_cells, acells, Bool.false_eq_true]; done))) | (apply w_condT; (focus (simp (disch := omega) only [simB2, ZA, reduceEqDiff, ↓reduceIte, reduceAdd, reduceLeDiff, g2, ix, ixj, hUj, hlu, encCs_one, encCs_cells, acells, Bool.false_eq_true]; done))) | (apply w_condF; (focus (simp (disch := omega) only [simB2, ZA, reduceEqDiff, ↓reduceIte, reduceAdd, reduceLeDiff, g2, ix, ixj, hUj, hlu, encCs_one, encCs_cells, acells, Bool.false_eq_true]; done))) | ((first | apply o_gB | apply w_cond); (focus ((try simp (disch := omega) only [simB2, ZA, reduceEqDiff, ↓reduceIte, reduceAdd, reduceLeDiff, g2, ix, ixj, hUj, hlu, encCs_one, encCs_cells, acells, Bool.false_eq_true]); (try with_reducible rfl); done)); all_goals (intro _hg; (try simp (disch := omega) only [ZB] at _hg); try first | exact absurd trivial _hg | (exfalso; omega))) | (refine e_ends rfl ?_) | (apply r_1; (focus (simp (disch := omega) only [rv, simB2, ZA, reduceEqDiff, ↓reduceIte, reduceAdd, reduceLeDiff, g2, ix, ixj, hUj, hlu, encCs_one, encCs_cells, acells, Bool.false_eq_true]; with_reducible rfl))))
      all_goals first | exact ⟨k + 1, by omega, ⟨by omega, by omega, by rw [hupd_ne (by omega), hupd_ne (by omega), g2]⟩, by simp (disch := omega) only [agr, ZG, reduceEqDiff, ↓reduceIte]⟩ | (exfalso; simp_all; done)
    · rw [f2 hin] at hfdk
      dsimp only at hfdk
      rw [decide_eq_false (fun h => hin ((hmem k).1 h))] at hctk
      repeat' (first | apply w_seq | apply w_ops0 | apply w_mixS1 | apply w_block | apply w_skip | apply w_ret | apply a_n | apply a_r | apply o_nil | (apply o_val rfl; (focus (first | rfl | (simp (disch := omega) only [dm2, oldP, newP, simB0, ZA, reduceEqDiff, ↓reduceIte, reduceAdd, reduceLeDiff, decide_eq_true_eq]; first | done | omega))); (focus ((try simp (disch := omega) only [simB2, ZA, reduceEqDiff, ↓reduceIte, reduceAdd, reduceLeDiff, ZV, reduceCtorEq, g2, ix, hlu, encCs_one, encCs_cells, acells, Bool.false_eq_true]); first | with_reducible rfl | (apply s_ite; (focus omega); with_reducible rfl)))) | (apply o_callD; (iterate 2 (focus ((try simp (disch := omega) only [simB2, ZA, reduceEqDiff, ↓reduceIte, reduceAdd, reduceLeDiff, g2, ix, hlu, encCs_one, encCs_cells, acells, Bool.false_eq_true]); (try with_reducible rfl); done))); (focus (first | (exact hfdk) | (exact hctk))); (focus ((first | refine snap_plain ?_ rfl | apply snap_data); repeat' (first | exact snapL_nil | apply snapL_i | apply snapL_dat | exact dL)))) | (apply e_alloc rfl; (focus ((try simp (disch := omega) only [simB2, ZA, reduceEqDiff, ↓reduceIte, reduceAdd, reduceLeDiff, g2, ix, hlu, encCs_one, encCs_cells, acells, Bool.false_eq_true]); (try with_reducible rfl); done)); (focus (simp (disch := omega) only [SO, Bool.and_self, one_encV, one_encVV, g2, ix, hlu, encCs_one, encCs_cells, acells, Bool.false_eq_true]))) | (apply e_st; (focus (first | rfl | (simp (disch := omega) only [dm2, oldP, newP, simB0, ZA, reduceEqDiff, ↓reduceIte, reduceAdd, reduceLeDiff, decide_eq_true_eq]; first | done | omega))); (iterate 4 (focus ((try simp (disch := omega) only [simB2, ZA, reduceEqDiff, ↓reduceIte, reduceAdd, reduceLeDiff, g2, ix, hlu, encCs_one, encCs_cells, acells, Bool.false_eq_true]); (try with_reducible rfl); done))); (focus (simp (disch := omega) only [SO, Bool.and_self, one_encV, one_encVV, g2, ix, hlu, encCs_one, encCs_cells, acells, Bool.false_eq_true])); (iterate 3 (focus ((try simp (disch := omega) only [SL, reduceAdd, Nat.reduceMul, List.length_map]); first | done | omega)))) | (apply o_gT; (focus (simp (disch := omega) only [simB2, ZA, reduceEqDiff, ↓reduceIte, reduceAdd, reduceLeDiff, g2, ix, hlu, encCs_one, encCs_cells, acells, Bool.false_eq_true]; done))) | (apply o_gF; (focus (simp (disch := omega) only [simB2, ZA, reduceEqDiff, ↓reduceIte, reduceAdd, reduceLeDiff, or_true, true_or, g2, ix, hlu, encCs_one, encCs_cells, acells, Bool.false_eq_true]; done))) | (apply w_condT; (focus (simp (disch := omega) only [simB2, ZA, reduceEqDiff, ↓reduceIte, reduceAdd, reduceLeDiff, g2, ix, hlu, encCs_one, encCs_cells, acells, Bool.false_eq_true]; done))) | (apply w_condF; (focus (simp (disch := omega) only [simB2, ZA, reduceEqDiff, ↓reduceIte, reduceAdd, reduceLeDiff, g2, ix, hlu, encCs_one, encCs_cells, acells, Bool.false_eq_true]; done))) | ((first | apply o_gB | apply w_cond); (focus ((try simp (disch := omega) only [simB2, ZA, reduceEqDiff, ↓reduceIte, reduceAdd, reduceLeDiff, g2, ix, hlu, encCs_one, encCs_cells, acells, Bool.false_eq_true]); (try with_reducible rfl); done)); all_goals (intro _hg; (try simp (disch := omega) only [ZB] at _hg); try first | exact absurd trivial _hg | (exfalso; omega))) | (refine e_ends rfl ?_) | (apply r_1; (focus (simp (disch := omega) only [rv, simB2, ZA, reduceEqDiff, ↓reduceIte, reduceAdd, reduceLeDiff, g2, ix, hlu, encCs_one, encCs_cells, acells, Bool.false_eq_true]; with_reducible rfl))))
      all_goals first | exact ⟨k + 1, by omega, ⟨by omega, by omega, by rw [hupd_ne (by omega), hupd_ne (by omega), g2]⟩, by simp (disch := omega) only [agr, ZG, reduceEqDiff, ↓reduceIte]⟩ | (exfalso; simp_all; done)
  rintro T H nx' -
  repeat' (first | apply w_seq | apply w_ops0 | apply w_ret | apply a_n | apply o_nil | (apply o_val rfl rfl; (focus ((try simp (disch := omega) only [simB0, ZA, reduceEqDiff, ↓reduceIte, reduceAdd, reduceLeDiff, ZV, reduceCtorEq]); first | with_reducible rfl | (apply s_ite; (focus omega); with_reducible rfl)))) | (apply o_callD; (iterate 2 (focus ((try simp only [simB0, ZA, reduceEqDiff, ↓reduceIte, reduceAdd, reduceLeDiff]); (try with_reducible rfl); done))); (focus (first | (exact haw))); (focus ((first | refine snap_plain ?_ rfl | apply snap_data); repeat' (first | exact snapL_nil | apply snapL_i | apply snapL_dat)))) | (refine e_ends rfl ?_) | (apply r_1; (focus (simp only [rv, simB0, ZA, reduceEqDiff, ↓reduceIte, reduceAdd, reduceLeDiff]; with_reducible rfl))))
  all_goals exact .bool _
end Go.Proofs.YtbiikomnhkbblaaGreat
