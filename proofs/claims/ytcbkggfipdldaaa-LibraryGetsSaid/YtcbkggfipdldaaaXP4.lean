/- P4: contracts of functions and plain laws; for all inputs that the theorems name. -/
import Derived.Test.YtcbkggfipdldaaaXP3
set_option linter.unusedSimpArgs false
set_option linter.unusedVariables false
namespace Go.Proofs.Ytcbkggfipdldaaa
open Go Go.Abs
attribute [local irreducible] awp2 aops2 ains aloop athen bbind obind gbind acond res1 Go.Abs.Fn PCall Go.Abs.Pure SnapArgs SnapL Yl

/-! ### all vectors, in lexicographic order -/
def every : Nat → Nat → List (List Int)
  | 0, _ => [[]]
  | n + 1, v => (List.range v).flatMap fun (x : Nat) => (every n v).map fun r => (x : Int) :: r

/-- the next vector -/
def incF (v : Nat) : List Int → Option (List Int)
  | [] => none
  | x :: r => match incF v r with
    | some r' => some (x :: r')
    | none => if x + 1 < v then some ((x + 1) :: List.replicate r.length 0) else none

/-- a list of successors -/
def Run (v : Nat) : List (List Int) → Prop
  | [] => False
  | [x] => incF v x = none
  | x :: y :: l => incF v x = some y ∧ Run v (y :: l)

theorem every_len : ∀ (n v : Nat), ∀ x ∈ every n v, x.length = n
  | 0, v, x, h => by simp [every] at h; simp [h]
  | n + 1, v, x, h => by
    simp only [every, List.mem_flatMap, List.mem_map] at h
    obtain ⟨a, _, r, hr, rfl⟩ := h
    simp [every_len n v r hr]

theorem run_map {v : Nat} {x : Int} {n : Nat} {tail : List (List Int)} (ht : match tail with | [] => ¬ x + 1 < v | y :: _ => x + 1 < v ∧ y = (x + 1) :: List.replicate n 0) (hrt : tail = [] ∨ Run v tail) : ∀ (l : List (List Int)), Run v l → (∀ r ∈ l, r.length = n) → Run v ((l.map fun r => x :: r) ++ tail)
  | [], h, _ => h.elim
  | [r], h, hn => by
    have hr := hn r (by simp)
    have h : incF v r = none := h
    cases tail with
    | nil => simp only [List.map_cons, List.map_nil, List.append_nil, Run, incF, h]; rw [if_neg ht]
    | cons y t =>
      obtain ⟨h1, rfl⟩ := ht
      refine ⟨?_, hrt.resolve_left (by simp)⟩
      simp only [incF, h]; rw [if_pos h1, hr]
  | r :: r' :: l, h, hn => by
    refine ⟨?_, run_map ht hrt (r' :: l) h.2 (fun q hq => hn q (by simp [hq]))⟩
    simp only [incF, h.1]

theorem every_head (n v : Nat) (hv : 0 < v) : ∃ t, every n v = List.replicate n 0 :: t := by
  induction n with
  | zero => exact ⟨[], rfl⟩
  | succ n ih =>
    obtain ⟨t, ht⟩ := ih
    obtain ⟨m, rfl⟩ : ∃ m, v = m + 1 := ⟨v - 1, by omega⟩
    simp only [every, List.range_succ_eq_map, List.flatMap_cons, ht, List.map_cons, List.cons_append]
    exact ⟨_, rfl⟩

theorem run_every (n v : Nat) (hv : 0 < v) : Run v (every n v) := by
  induction n with
  | zero => show incF v [] = none; rfl
  | succ n ih =>
    -- from x on
    have key : ∀ m x, x + m = v → 0 < m → Run v ((List.range' x m).flatMap fun (x : Nat) => (every n v).map fun r => (x : Int) :: r) := by
      intro m
      induction m with
      | zero => intro x _ h; omega
      | succ m ihm =>
        intro x hx _
        rw [List.range'_succ, List.flatMap_cons]
        refine run_map (n := n) ?_ ?_ _ ih (every_len n v)
        · cases m with
          | zero => simp; omega
          | succ m =>
            obtain ⟨t, ht⟩ := every_head n v hv
            rw [List.range'_succ, List.flatMap_cons, ht]
            simp; omega
        · cases m with
          | zero => left; rfl
          | succ m => right; exact ihm (x + 1) (by omega) (by omega)
    have := key v 0 (by omega) hv
    rw [← List.range_eq_range'] at this
    exact this

theorem run_get {v : Nat} : ∀ (l : List (List Int)), Run v l → ∀ k, k < l.length → incF v (l.getD k []) = if k + 1 < l.length then some (l.getD (k + 1) []) else none
  | [], h, _, _ => h.elim
  | [x], h, k, hk => by
    have : k = 0 := by simp at hk; omega
    subst this
    have h : incF v x = none := h
    simp [h]
  | x :: y :: l, h, k, hk => by
    cases k with
    | zero => simp [h.1]
    | succ k =>
      have := run_get (y :: l) h.2 k (by simpa using hk)
      simp only [List.getD_cons_succ, this, List.length_cons]
      simp

theorem incF_last {v : Nat} (hv : 0 < v) : ∀ (m : Nat), incF v (List.replicate m ((v : Int) - 1)) = none
  | 0 => rfl
  | m + 1 => by
    rw [List.replicate_succ]
    simp only [incF, incF_last hv m]
    rw [if_neg (by omega)]

theorem incF_mid {v : Nat} (hv : 0 < v) (d : Int) (hd : d + 1 < v) (m : Nat) : ∀ pre : List Int, incF v (pre ++ d :: List.replicate m ((v : Int) - 1)) = some (pre ++ (d + 1) :: List.replicate m 0)
  | [] => by
    simp only [List.nil_append, incF, incF_last hv m]
    rw [if_pos hd]; simp
  | x :: pre => by
    simp only [List.cons_append, incF, incF_mid hv d hd m pre]

theorem every_mem : ∀ (n v : Nat), ∀ x ∈ every n v, ∀ a ∈ x, 0 ≤ a ∧ a < v
  | 0, v, x, h => by simp [every] at h; simp [h]
  | n + 1, v, x, h => by
    simp only [every, List.mem_flatMap, List.mem_map] at h
    obtain ⟨a, ha, r, hr, rfl⟩ := h
    intro b hb
    rcases List.mem_cons.1 hb with rfl | hb
    · have := List.mem_range.1 ha; omega
    · exact every_mem n v r hr b hb

theorem each_c (n v : Int) : Pure Try.prog 83 [.int .i64 n, .int .i64 v] (.func 113 [.iptr [.int .i64 n] 0, .iptr [.int .i64 v] 0]) := by
  refine Pure.of_c2 follows is83 (Nat.le_of_ble_eq_true rfl) ?_
  simp only [b83]
  repeat' (first | refine w_seq ?_ | refine w_ops0 ?_ | refine w_ret ?_ | refine a_n ?_ | refine o_nil ?_ | (apply o_val rfl rfl; (focus ((try simp (disch := omega) only [simB0, simB1, SA, SV, SN, SR, SL, pick_bool, Nat.reduceEqDiff, ↓reduceIte, Nat.reduceAdd, Nat.reduceLeDiff, SO, one_encV, one_encVV, Bool.and_self, Bool.false_eq_true, reduceCtorEq, wrap64, aixS_encV, aixS_encVV, alenS_encV, alenS_encVV, Int.toNat_natCast, List.length_map, aixS_msl, getElem?_map_lt, Nat.mul_one]); first | with_reducible rfl | (apply s_ite; (focus omega); with_reducible rfl)))) | (apply e_box rfl; (focus ((try simp only [simB0, simB1, SA, SV, SN, SR, SL, pick_bool, Nat.reduceEqDiff, ↓reduceIte, Nat.reduceAdd, Nat.reduceLeDiff]); (try with_reducible rfl); done)); (focus ((try simp only [simB0, simB1, SA, SV, SN, SR, SL, pick_bool, Nat.reduceEqDiff, ↓reduceIte, Nat.reduceAdd, Nat.reduceLeDiff]); (try with_reducible rfl); done)); (focus (simp only [SO, Bool.and_self, one_encV, one_encVV]))) | (refine e_ends rfl ?_) | (apply r_1; (focus (simp only [rv, simB0, simB1, SA, SV, SN, SR, SL, pick_bool, Nat.reduceEqDiff, ↓reduceIte, Nat.reduceAdd, Nat.reduceLeDiff]; with_reducible rfl))))
  refine snap_func ?_
  (repeat' (first | exact snapL_nil | exact Dat.snap Dat.int | exact Dat.snap Dat.bool | exact Dat.snap Dat.str | exact Dat.snap Dat.esl | exact Dat.snap Dat.nilf | exact Dat.snap (encV_dat _) | exact Dat.snap (encVV_dat _) | apply snapL_cons | apply snap_func | apply snap_iptr | (apply snap_ptr; (focus ((try simp only [simB0, simB1, SA, SV, SN, SR, SL, pick_bool, Nat.reduceEqDiff, ↓reduceIte, Nat.reduceAdd, Nat.reduceLeDiff]); with_reducible rfl)); (focus rfl))))

end Go.Proofs.Ytcbkggfipdldaaa
