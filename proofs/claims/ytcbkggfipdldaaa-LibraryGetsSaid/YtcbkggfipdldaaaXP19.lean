/- P19: contracts of functions and plain laws; for all inputs that the theorems name. -/
import Derived.Test.YtcbkggfipdldaaaXP17
set_option linter.unusedSimpArgs false
set_option linter.unusedVariables false
namespace Go.Proofs.Ytcbkggfipdldaaa
open Go Go.Abs

theorem min01 : ∀ (l : List Int) (a : Int), (∀ x ∈ l, 0 ≤ x ∧ x < 2) → (0 ≤ a ∧ a < 2) → l.foldl min a = if a = 0 ∨ 0 ∈ l then 0 else 1
  | [], a, _, ha => by
    simp only [List.foldl_nil, List.not_mem_nil, or_false]
    split <;> omega
  | x :: l, a, h, ha => by
    have hx := h x (by simp)
    rw [List.foldl_cons, min01 l (min a x) (fun y hy => h y (by simp [hy])) (by omega)]
    by_cases h0 : 0 ∈ l
    · rw [if_pos (.inr h0), if_pos (.inr (by simp [h0]))]
    · by_cases h1 : a = 0 ∨ x = 0
      · rw [if_pos (.inl (by omega)), if_pos (by rcases h1 with h1 | h1; exact .inl h1; exact .inr (by simp [h1]))]
      · rw [if_neg, if_neg]
        · rintro (h2 | h2)
          · omega
          · rw [List.mem_cons] at h2
            rcases h2 with h2 | h2
            · omega
            · exact h0 h2
        · rintro (h2 | h2)
          · omega
          · exact h0 h2
theorem min01' {l : List Int} (h : ∀ x ∈ l, 0 ≤ x ∧ x < 2) (h0 : l ≠ []) : l.foldl min (l.getD 0 default) = if 0 ∈ l then 0 else 1 := by
  have hm : l.getD 0 default ∈ l := mem_getD (List.length_pos_iff.2 h0)
  rw [min01 l _ h (h _ hm)]
  by_cases e : 0 ∈ l
  · rw [if_pos (.inr e), if_pos e]
  · rw [if_neg (fun h => by rcases h with h | h; exact e (h ▸ hm); exact e h), if_neg e]

theorem lead_eq (n : Int) : leadT n = makeT 4 n 1 2 0 := by
  unfold leadT taskI
  split
  · rename_i h
    unfold inR at h
    have h1 : ((kLead n).n : Int) = n := by show (n.toNat : Int) = n; omega
    have h2 : ((kLead n).ins : Int) = 1 := rfl
    have h3 : ((kLead n).outs : Int) = 2 := rfl
    rw [agree (kLead n) 4 0 (by omega) (by omega) (by omega) (by omega) (by omega) rfl (fun _ => rfl) (fun x hx y hy => ⟨?_, rfl⟩), h1, h2, h3]
    rfl
  · rename_i h
    unfold inR at h
    unfold makeT
    rw [if_pos (by omega)]

theorem com_eq (n : Int) : comT n = makeT 1 n 2 2 0 := by
  unfold comT taskI
  split
  · rename_i h
    unfold inR at h
    have h1 : ((kCom n).n : Int) = n := by show (n.toNat : Int) = n; omega
    have h2 : ((kCom n).ins : Int) = 2 := rfl
    have h3 : ((kCom n).outs : Int) = 2 := rfl
    rw [agree (kCom n) 1 0 (by omega) (by omega) (by omega) (by omega) (by omega) rfl (fun _ => rfl) (fun x hx y hy => ?_), h1, h2, h3]
    have hm := min01' (l := x) (fun a ha => by have := every_mem _ _ x hx a ha; omega) (every_ne (by omega) hx)
    show (eqv y 0 || eqv y 1 && decide (x.foldl min (x.getD 0 default) = 1)) = _ ∧ eqv y (x.foldl min (x.getD 0 default)) = _
    rw [hm]
    have e1 : ∀ u v, allowB 1 u v 0 x y = (eqv y 0 || (eqv y 1 && !decide (0 ∈ x))) := fun u v => by
      unfold allowB; rw [if_neg (by omega), if_pos rfl]
    have e2 : calmB 1 x y = ((decide (0 ∈ x) && eqv y 0) || (!decide (0 ∈ x) && eqv y 1)) := by
      unfold calmB; rw [if_pos rfl]
    rw [e1, e2]
    by_cases e : 0 ∈ x
    · simp [e]
    · simp [e]
  · rename_i h
    unfold inR at h
    unfold makeT
    rw [if_pos (by omega)]

def injB (l : List Int) : Bool := decide ((kinds l).length = l.length)
theorem inj_some : ∀ n < 6, ∀ v < 9, n ≤ v → (every n v).any injB = true := by decide +kernel
theorem inj_none : ∀ n < 6, ∀ v < n, (every n v).any injB = false := by decide +kernel

theorem fallL_pow {v : Nat} (hv : 1 ≤ v) : ∀ n, fallL v n ≤ v ^ n
  | 0 => Nat.le_refl _
  | n + 1 => by
    show (if fallL v n ≤ 1024 then fallL v n * (v - n) else fallL v n) ≤ _
    have ih := fallL_pow hv n
    split
    · rw [Nat.pow_succ]; exact Nat.mul_le_mul ih (Nat.sub_le _ _)
    · exact Nat.le_trans ih (Nat.pow_le_pow_right hv (Nat.le_succ n))

theorem few_pow {n v o : Nat} (hn : 1 ≤ n) (hv : 1 ≤ v ∧ v ≤ 8) (ho : n ≤ o) (h : powL v 1000 n * powL o 1000 n ≤ 3000) : v ^ n ≤ 1024 := by
  by_cases h1 : n = 1
  · subst h1; rw [Nat.pow_one]; omega
  · have h4 : 4 ≤ powL o 1000 n := by
      rcases powL_pow (b := o) (lim := 1000) (by omega) (by omega) n with e | ⟨e, _⟩
      · rw [e]
        exact Nat.le_trans (Nat.pow_le_pow_left (show 2 ≤ o by omega) 2) (Nat.pow_le_pow_right (by omega) (by omega))
      · omega
    have h5 : powL v 1000 n * 4 ≤ 3000 := Nat.le_trans (Nat.mul_le_mul_left _ h4) h
    rcases powL_pow (b := v) (lim := 1000) hv.1 (by omega) n with e | ⟨e, _⟩
    · rw [← e]; omega
    · omega

theorem ren_eq (n i o : Int) (hf : fewB n i o = true) : renT n i o = makeT 5 n i o 0 := by
  unfold renT taskI
  split
  · rename_i h
    unfold inR at h
    obtain ⟨N, rfl⟩ : ∃ N : Nat, n = N := ⟨n.toNat, by omega⟩
    obtain ⟨V, rfl⟩ : ∃ V : Nat, i = V := ⟨i.toNat, by omega⟩
    obtain ⟨O, rfl⟩ : ∃ O : Nat, o = O := ⟨o.toNat, by omega⟩
    unfold fewB at hf
    rw [decide_eq_false (by omega), Bool.false_or, decide_eq_true_iff] at hf
    simp only [Int.toNat_natCast] at hf
    have hk : kRen N V O = ⟨N, V, O, true, injB, fun _ m => decide ((kinds m).length = m.length), fun _ _ => false⟩ := by
      unfold kRen; simp only [Int.toNat_natCast]; rfl
    rw [hk]
    have hc0 : cnt (every N V) injB = 0 ↔ V < N := by
      unfold cnt
      rw [List.length_eq_zero_iff, List.filter_eq_nil_iff]
      constructor
      · intro h0
        refine Nat.lt_of_not_le fun hle => ?_
        have := inj_some N (by omega) V (by omega) hle
        rw [List.any_eq_true] at this
        obtain ⟨x, hx, hx2⟩ := this
        exact h0 x hx hx2
      · intro hlt x hx hx2
        have := inj_none N (by omega) V hlt
        rw [List.any_eq_false] at this
        exact this x hx hx2
    have hcs : casesOf ⟨N, V, O, true, injB, fun _ m => decide ((kinds m).length = m.length), fun _ _ => false⟩ (every N V) = rcases 5 V O 0 N O (every N V) := rfl
    have e1 : makeT 5 N V O 0 = if V < N ∨ O < N then (T00, 16) else if 1024 < fallL V N then (T00, 17) else if (rcases 5 V O 0 N O (every N V)).any (fun c => decide (1024 < c.out.length)) then (T00, 17) else (⟨N, V, O, rcases 5 V O 0 N O (every N V)⟩, 0) := by
      unfold makeT
      rw [if_neg (by omega), if_neg (by omega), if_neg (by omega)]
      by_cases hlt : V < N ∨ O < N
      · rw [if_pos (show (5 : Int) = 5 ∧ ((V : Int) < N ∨ (O : Int) < N) from ⟨rfl, by omega⟩), if_pos hlt]
      · rw [if_neg (show ¬ ((5 : Int) = 5 ∧ ((V : Int) < N ∨ (O : Int) < N)) from fun h => by omega), if_neg hlt]; rfl
    rw [e1]
    unfold taskOf
    dsimp only
    rw [hcs]
    by_cases hlt : V < N ∨ O < N
    · rw [if_pos hlt]
      by_cases h0 : V < N
      · rw [if_pos (hc0.2 h0)]
      · rw [if_neg (fun h => h0 (hc0.1 h)), if_pos ⟨rfl, by omega⟩]
    · have hp := few_pow (by omega) (by omega) (by omega) hf
      have hq := fallL_pow (v := V) (by omega) N
      have hr : cnt (every N V) injB ≤ V ^ N := by
        rw [← every_count]; exact List.length_filter_le _ _
      rw [if_neg hlt, if_neg (show ¬ cnt (every N V) injB = 0 from fun h => by have := hc0.1 h; omega), if_neg (show ¬ (true = true ∧ O < N) from fun h => by omega), if_neg (show ¬ 1024 < cnt (every N V) injB by omega), if_neg (show ¬ 1024 < fallL V N by omega)]
  · rename_i h
    unfold inR at h
    unfold makeT
    by_cases h1 : n < 1 ∨ 5 < n
    · rw [if_pos h1]
    · rw [if_neg h1, if_pos (by omega)]

end Go.Proofs.Ytcbkggfipdldaaa
