/- P16: contracts of functions and plain laws; for all inputs that the theorems name. -/
import Derived.Test.YtcbkggfipdldaaaXP15
set_option linter.unusedSimpArgs false
set_option linter.unusedVariables false
namespace Go.Proofs.Ytcbkggfipdldaaa
open Go Go.Abs

/-! ### the library's tasks are the reference's -/
theorem powL_pow {b lim : Nat} (hb : 1 ≤ b) (h1 : 1 ≤ lim) : ∀ n, powL b lim n = b ^ n ∨ (lim < powL b lim n ∧ lim < b ^ n)
  | 0 => .inl rfl
  | n + 1 => by
    show (if powL b lim n ≤ lim then powL b lim n * b else powL b lim n) = _ ∨ (lim < (if powL b lim n ≤ lim then powL b lim n * b else powL b lim n) ∧ _)
    have hp : b ^ n ≤ b ^ (n + 1) := Nat.pow_le_pow_right hb (Nat.le_succ n)
    rcases powL_pow hb h1 n with h | ⟨h2, h3⟩
    · split
      · left; rw [h, Nat.pow_succ]
      · right; rw [h] at *; omega
    · rw [if_neg (by omega)]
      right; omega
theorem powL_lim {b lim n : Nat} (hb : 1 ≤ b) (h1 : 1 ≤ lim) : lim < powL b lim n ↔ lim < b ^ n := by
  rcases powL_pow hb h1 n with h | ⟨h2, h3⟩
  · rw [h]
  · omega

theorem agree (k : KindV) (task kk : Int) (hn : 1 ≤ k.n ∧ k.n ≤ 5) (hi : 1 ≤ k.ins ∧ k.ins ≤ 8) (ho : 1 ≤ k.outs ∧ k.outs ≤ 8) (h5 : task ≠ 5) (h6 : task = 6 → 1 ≤ kk ∧ kk ≤ k.n) (hc : k.hasC = false) (hp : ∀ x, k.pc x = true)
    (ha : ∀ x ∈ every k.n k.ins, ∀ y ∈ every k.n k.outs, k.pa x y = allowB task k.ins k.outs kk x y ∧ k.pm x y = calmB task x y) : taskOf k = makeT task k.n k.ins k.outs kk := by
  have hcnt : cnt (every k.n k.ins) k.pc = k.ins ^ k.n := by
    unfold cnt
    rw [List.filter_eq_self.2 (fun x _ => hp x), every_count]
  have hpos : 0 < k.ins ^ k.n := Nat.pow_pos (by omega)
  have hcs : casesOf k (every k.n k.ins) = rcases task k.ins k.outs kk k.n k.outs (every k.n k.ins) := by
    unfold casesOf rcases
    rw [List.filter_eq_self.2 (fun x _ => hp x), List.filter_eq_self.2 (fun x _ => by simp [caseB, h5])]
    refine List.map_congr_left fun x hx => ?_
    unfold caseOf rcase
    have f1 : (every k.n k.outs).filter (k.pa x) = (every k.n k.outs).filter (allowB task k.ins k.outs kk x) := List.filter_congr (fun y hy => (ha x hx y hy).1)
    have f2 : (every k.n k.outs).filter (fun o => k.pa x o && k.pm x o) = (every k.n k.outs).filter (fun o => allowB task k.ins k.outs kk x o && calmB task x o) := List.filter_congr (fun y hy => by rw [(ha x hx y hy).1, (ha x hx y hy).2])
    rw [f1, f2]
  have e1 : taskOf k = if 1024 < cnt (every k.n k.ins) k.pc then (T00, 17) else if (casesOf k (every k.n k.ins)).any (fun c => decide (1024 < c.out.length)) then (T00, 17) else (⟨k.n, k.ins, k.outs, casesOf k (every k.n k.ins)⟩, 0) := by
    unfold taskOf
    rw [if_neg (by omega), if_neg (by simp [hc])]
  have e2 : makeT task k.n k.ins k.outs kk = if 1024 < casesN task k.n k.ins then (T00, 17) else if (rcases task k.ins k.outs kk k.n k.outs (every k.n k.ins)).any (fun c => decide (1024 < c.out.length)) then (T00, 17) else (⟨k.n, k.ins, k.outs, rcases task k.ins k.outs kk k.n k.outs (every k.n k.ins)⟩, 0) := by
    unfold makeT
    rw [if_neg (by omega), if_neg (by omega), if_neg (fun h => by have := h6 h.1; omega), if_neg (by omega)]
    simp only [Int.toNat_natCast]
  have : casesN task k.n k.ins = powL k.ins 1024 k.n := by unfold casesN; rw [if_neg h5]
  rw [e1, e2, hcs, hcnt, this]
  simp only [powL_lim hi.1 (show 1 ≤ 1024 by omega)]

theorem kinds_pos {l : List Int} (h : l ≠ []) : 1 ≤ (kinds l).length := by
  cases l with
  | nil => exact absurd rfl h
  | cons a l =>
    have : a ∈ kinds (a :: l) := mem_kinds.2 (by simp)
    cases hk : kinds (a :: l) with
    | nil => rw [hk] at this; cases this
    | cons _ _ => simp

theorem consensus_eq (n v : Int) : consensusT n v = makeT 2 n v v 0 := by
  unfold consensusT taskI
  split
  · rename_i h
    unfold inR at h
    have h1 : ((kAgree n v 1).n : Int) = n := by show (n.toNat : Int) = n; omega
    have h2 : ((kAgree n v 1).ins : Int) = v := by show (v.toNat : Int) = v; omega
    have h3 : ((kAgree n v 1).outs : Int) = v := by show (v.toNat : Int) = v; omega
    rw [agree (kAgree n v 1) 2 0 (by omega) (by omega) (by omega) (by omega) (by omega) rfl (fun _ => rfl) (fun x hx y hy => ⟨?_, rfl⟩), h1, h2, h3]
    have := kinds_pos (every_ne (by omega) hy)
    show (decide (((kinds y).length : Int) ≤ max 1 1) && y.all fun v => decide (v ∈ x)) = allowB 2 _ _ 0 x y
    unfold allowB
    rw [if_neg (by omega), if_neg (by omega), if_pos rfl]
    congr 1
    exact decide_eq_decide.2 (by omega)
  · rename_i h
    unfold inR at h
    unfold makeT
    by_cases h1 : n < 1 ∨ 5 < n
    · rw [if_pos h1]
    · rw [if_neg h1, if_pos (by omega)]

theorem set_eq (n v k : Int) : setT n v k = makeT 6 n v v k := by
  unfold setT taskI
  split
  · rename_i h
    unfold inR at h
    rw [show max k 0 = k by omega]
    have h1 : ((kAgree n v k).n : Int) = n := by show (n.toNat : Int) = n; omega
    have h2 : ((kAgree n v k).ins : Int) = v := by show (v.toNat : Int) = v; omega
    have h3 : ((kAgree n v k).outs : Int) = v := by show (v.toNat : Int) = v; omega
    rw [agree (kAgree n v k) 6 k (by omega) (by omega) (by omega) (by omega) (by omega) rfl (fun _ => rfl) (fun x hx y hy => ⟨?_, rfl⟩), h1, h2, h3]
    show (decide (((kinds y).length : Int) ≤ max k 1) && y.all fun v => decide (v ∈ x)) = allowB 6 _ _ k x y
    unfold allowB
    rw [if_neg (by omega), if_neg (by omega), if_neg (by omega), if_neg (by omega), if_neg (by omega), if_neg (by omega)]
    congr 1
    exact decide_eq_decide.2 (by omega)
  · rename_i h
    unfold inR at h
    unfold makeT
    by_cases h1 : n < 1 ∨ 5 < n
    · rw [if_pos h1]
    · rw [if_neg h1]
      by_cases h2 : v < 1 ∨ 8 < v ∨ v < 1 ∨ 8 < v
      · rw [if_pos h2]
      · rw [if_neg h2, if_pos (by omega)]

theorem approx_eq (n s : Int) (hs : -9223372036854775808 ≤ s ∧ s ≤ 9223372036854775807) : approxT n s = makeT 0 n 2 (plusI s) 0 := by
  unfold approxT taskI
  split
  · rename_i h
    unfold inR at h
    have hr : 0 ≤ s ∧ s ≤ 7 ∧ moreI s = s + 1 ∧ plusI s = s + 1 := by
      unfold moreI plusI at *; split at h <;> split <;> omega
    have h1 : ((kApprox n s).n : Int) = n := by show (n.toNat : Int) = n; omega
    have h2 : ((kApprox n s).ins : Int) = 2 := rfl
    have h3 : ((kApprox n s).outs : Int) = plusI s := by show ((moreI s).toNat : Int) = _; omega
    rw [agree (kApprox n s) 0 0 (by omega) (by omega) (by omega) (by omega) (by omega) rfl (fun _ => rfl) (fun x hx y hy => ⟨?_, rfl⟩), h1, h2, h3]
    rw [h3, hr.2.2.2]
    unfold allowB
    rw [if_pos rfl]
    unfold nearB
    have hw : IntKind.wrap .i64 s = s := wrap64 (by omega) (by omega)
    rw [show s + 1 - 1 = s by omega, hw]
    rfl
  · rename_i h
    unfold inR at h
    have hr : moreI s < 1 ∨ 8 < moreI s → plusI s < 1 ∨ 8 < plusI s := by
      unfold moreI plusI; split <;> split <;> omega
    unfold makeT
    by_cases h1 : n < 1 ∨ 5 < n
    · rw [if_pos h1]
    · rw [if_neg h1, if_pos (by omega)]

theorem kinds_one {l : List Int} : (kinds l).length ≤ 1 ↔ ∀ x ∈ l, ∀ y ∈ l, x = y := by
  constructor
  · intro h x hx y hy
    have hx := mem_kinds.2 hx
    have hy := mem_kinds.2 hy
    match hk : kinds l, h, hx, hy with
    | [], _, hx, _ => cases hx
    | [a], _, hx, hy => simp at hx hy; omega
    | a :: b :: r, h, _, _ => simp at h
  · intro h
    cases l with
    | nil => simp [kinds]
    | cons c l =>
      have key : ∀ (l ks : List Int), (∀ x ∈ l, x = c) → (ks = [] ∨ ks = [c]) → (l.foldl (fun ks v => if v ∈ ks then ks else ks ++ [v]) ks = [] ∨ l.foldl (fun ks v => if v ∈ ks then ks else ks ++ [v]) ks = [c]) := by
        intro l
        induction l with
        | nil => intro ks _ h; exact h
        | cons a l ih =>
          intro ks h1 h2
          rw [List.foldl_cons]
          refine ih _ (fun x hx => h1 x (by simp [hx])) ?_
          have : a = c := h1 a (by simp)
          subst this
          rcases h2 with rfl | rfl
          · simp
          · simp
      rcases key (c :: l) [] (fun x hx => h x hx c (by simp)) (.inl rfl) with h | h
      · unfold kinds; rw [h]; simp
      · unfold kinds; rw [h]; simp

theorem crus_eq (n v : Int) (hv : -9223372036854775808 ≤ v ∧ v ≤ 9223372036854775807) : crusT n v = makeT 3 n v (plusI v) 0 := by
  unfold crusT taskI
  split
  · rename_i h
    unfold inR at h
    have hr : 0 ≤ v ∧ v ≤ 7 ∧ moreI v = v + 1 ∧ plusI v = v + 1 := by
      unfold moreI plusI at *; split at h <;> split <;> omega
    have h1 : ((kCrus n v).n : Int) = n := by show (n.toNat : Int) = n; omega
    have h2 : ((kCrus n v).ins : Int) = v := by show (v.toNat : Int) = v; omega
    have h3 : ((kCrus n v).outs : Int) = plusI v := by show ((moreI v).toNat : Int) = _; omega
    rw [agree (kCrus n v) 3 0 (by omega) (by omega) (by omega) (by omega) (by omega) rfl (fun _ => rfl) (fun x hx y hy => ⟨?_, rfl⟩), h1, h2, h3]
    rw [h2]
    have hm := every_mem _ _ y hy
    show decide ((kinds (y.filter fun x => !decide (x = v))).length ≤ 1) = honestB v y
    rw [Bool.eq_iff_iff, decide_eq_true_iff, kinds_one]
    unfold honestB
    simp only [List.all_eq_true, List.mem_filter]
    constructor
    · intro h a ha b hb
      have q1 := hm a ha; have q2 := hm b hb
      by_cases e1 : a < v
      · by_cases e2 : b < v
        · have := h a ⟨ha, by simp; omega⟩ b ⟨hb, by simp; omega⟩
          simp [this]
        · simp [e2]
      · simp [e1]
    · rintro h a ⟨ha, ha2⟩ b ⟨hb, hb2⟩
      have q1 := hm a ha; have q2 := hm b hb
      have := h a ha b hb
      simp at this ha2 hb2
      omega
  · rename_i h
    unfold inR at h
    have hr : moreI v < 1 ∨ 8 < moreI v → plusI v < 1 ∨ 8 < plusI v := by
      unfold moreI plusI; split <;> split <;> omega
    unfold makeT
    by_cases h1 : n < 1 ∨ 5 < n
    · rw [if_pos h1]
    · rw [if_neg h1, if_pos (by omega)]

end Go.Proofs.Ytcbkggfipdldaaa
