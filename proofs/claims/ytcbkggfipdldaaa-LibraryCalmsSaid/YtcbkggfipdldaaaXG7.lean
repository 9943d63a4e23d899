/- Texts of this claim, one after the other: P16, P17, P18, P19, P23, P24, P25, P26, P27, P28, P29, P30. -/
import Derived.Test.YtcbkggfipdldaaaXG6
import Derived.Test.YtcbkggfipdldaaaRows
import Derived.WalkKit
import Derived.ProofKit
import Derived.OpenShut
import Derived.Test.YtcbkggfipdldaaaXG3

/- P16: contracts of functions and plain laws; for all inputs that the theorems name. -/
set_option linter.unusedSimpArgs false
set_option linter.unusedVariables false
namespace Go.Proofs.Ytcbkggfipdldaaa
open Go Go.Abs

/-! ### the library's tasks are the reference's -/
theorem powL_pow {b lim : Nat} (hb : 1 ≤ b) (h1 : 1 ≤ lim) : ∀ n, powL b lim n = b ^ n ∨ (lim < powL b lim n ∧ lim < b ^ n)
  | 0 => .inl rfl
  | n + 1 => by
    show (if powL b lim n ≤ lim then powL b lim n * b else powL b lim n) = _ ∨ (lim < (if powL b lim n ≤ lim then powL b lim n * b else powL b lim n) ∧ _)
    have hp : b ^ n ≤ b ^ (n + 1) := Nat.pow_le_pow_right hb (Nat.le_succ n)
    rcases powL_pow hb h1 n with h | ⟨h2, h3⟩
    · split
      · left; rw [h, Nat.pow_succ]
      · right; rw [h] at *; omega
    · rw [if_neg (by omega)]
      right; omega
theorem powL_lim {b lim n : Nat} (hb : 1 ≤ b) (h1 : 1 ≤ lim) : lim < powL b lim n ↔ lim < b ^ n := by
  rcases powL_pow hb h1 n with h | ⟨h2, h3⟩
  · rw [h]
  · omega

theorem agree (k : KindV) (task kk : Int) (hn : 1 ≤ k.n ∧ k.n ≤ 5) (hi : 1 ≤ k.ins ∧ k.ins ≤ 8) (ho : 1 ≤ k.outs ∧ k.outs ≤ 8) (h5 : task ≠ 5) (h6 : task = 6 → 1 ≤ kk ∧ kk ≤ k.n) (hc : k.hasC = false) (hp : ∀ x, k.pc x = true)
    (ha : ∀ x ∈ every k.n k.ins, ∀ y ∈ every k.n k.outs, k.pa x y = allowB task k.ins k.outs kk x y ∧ k.pm x y = calmB task x y) : taskOf k = makeT task k.n k.ins k.outs kk := by
  have hcnt : cnt (every k.n k.ins) k.pc = k.ins ^ k.n := by
    unfold cnt
    rw [List.filter_eq_self.2 (fun x _ => hp x), every_count]
  have hpos : 0 < k.ins ^ k.n := Nat.pow_pos (by omega)
  have hcs : casesOf k (every k.n k.ins) = rcases task k.ins k.outs kk k.n k.outs (every k.n k.ins) := by
    unfold casesOf rcases
    rw [List.filter_eq_self.2 (fun x _ => hp x), List.filter_eq_self.2 (fun x _ => by simp [caseB, h5])]
    refine List.map_congr_left fun x hx => ?_
    unfold caseOf rcase
    have f1 : (every k.n k.outs).filter (k.pa x) = (every k.n k.outs).filter (allowB task k.ins k.outs kk x) := List.filter_congr (fun y hy => (ha x hx y hy).1)
    have f2 : (every k.n k.outs).filter (fun o => k.pa x o && k.pm x o) = (every k.n k.outs).filter (fun o => allowB task k.ins k.outs kk x o && calmB task x o) := List.filter_congr (fun y hy => by rw [(ha x hx y hy).1, (ha x hx y hy).2])
    rw [f1, f2]
  have e1 : taskOf k = if 1024 < cnt (every k.n k.ins) k.pc then (T00, 17) else if (casesOf k (every k.n k.ins)).any (fun c => decide (1024 < c.out.length)) then (T00, 17) else (⟨k.n, k.ins, k.outs, casesOf k (every k.n k.ins)⟩, 0) := by
    unfold taskOf
    rw [if_neg (by omega), if_neg (by simp [hc])]
  have e2 : makeT task k.n k.ins k.outs kk = if 1024 < casesN task k.n k.ins then (T00, 17) else if (rcases task k.ins k.outs kk k.n k.outs (every k.n k.ins)).any (fun c => decide (1024 < c.out.length)) then (T00, 17) else (⟨k.n, k.ins, k.outs, rcases task k.ins k.outs kk k.n k.outs (every k.n k.ins)⟩, 0) := by
    unfold makeT
    rw [if_neg (by omega), if_neg (by omega), if_neg (fun h => by have := h6 h.1; omega), if_neg (by omega)]
    simp only [Int.toNat_natCast]
  have : casesN task k.n k.ins = powL k.ins 1024 k.n := by unfold casesN; rw [if_neg h5]
  rw [e1, e2, hcs, hcnt, this]
  simp only [powL_lim hi.1 (show 1 ≤ 1024 by omega)]

theorem kinds_pos {l : List Int} (h : l ≠ []) : 1 ≤ (kinds l).length := by
  cases l with
  | nil => exact absurd rfl h
  | cons a l =>
    have : a ∈ kinds (a :: l) := mem_kinds.2 (by simp)
    cases hk : kinds (a :: l) with
    | nil => rw [hk] at this; cases this
    | cons _ _ => simp

theorem consensus_eq (n v : Int) : consensusT n v = makeT 2 n v v 0 := by
  unfold consensusT taskI
  split
  · rename_i h
    unfold inR at h
    have h1 : ((kAgree n v 1).n : Int) = n := by show (n.toNat : Int) = n; omega
    have h2 : ((kAgree n v 1).ins : Int) = v := by show (v.toNat : Int) = v; omega
    have h3 : ((kAgree n v 1).outs : Int) = v := by show (v.toNat : Int) = v; omega
    rw [agree (kAgree n v 1) 2 0 (by omega) (by omega) (by omega) (by omega) (by omega) rfl (fun _ => rfl) (fun x hx y hy => ⟨?_, rfl⟩), h1, h2, h3]
    have := kinds_pos (every_ne (by omega) hy)
    show (decide (((kinds y).length : Int) ≤ max 1 1) && y.all fun v => decide (v ∈ x)) = allowB 2 _ _ 0 x y
    unfold allowB
    rw [if_neg (by omega), if_neg (by omega), if_pos rfl]
    congr 1
    exact decide_eq_decide.2 (by omega)
  · rename_i h
    unfold inR at h
    unfold makeT
    by_cases h1 : n < 1 ∨ 5 < n
    · rw [if_pos h1]
    · rw [if_neg h1, if_pos (by omega)]

theorem set_eq (n v k : Int) : setT n v k = makeT 6 n v v k := by
  unfold setT taskI
  split
  · rename_i h
    unfold inR at h
    rw [show max k 0 = k by omega]
    have h1 : ((kAgree n v k).n : Int) = n := by show (n.toNat : Int) = n; omega
    have h2 : ((kAgree n v k).ins : Int) = v := by show (v.toNat : Int) = v; omega
    have h3 : ((kAgree n v k).outs : Int) = v := by show (v.toNat : Int) = v; omega
    rw [agree (kAgree n v k) 6 k (by omega) (by omega) (by omega) (by omega) (by omega) rfl (fun _ => rfl) (fun x hx y hy => ⟨?_, rfl⟩), h1, h2, h3]
    show (decide (((kinds y).length : Int) ≤ max k 1) && y.all fun v => decide (v ∈ x)) = allowB 6 _ _ k x y
    unfold allowB
    rw [if_neg (by omega), if_neg (by omega), if_neg (by omega), if_neg (by omega), if_neg (by omega), if_neg (by omega)]
    congr 1
    exact decide_eq_decide.2 (by omega)
  · rename_i h
    unfold inR at h
    unfold makeT
    by_cases h1 : n < 1 ∨ 5 < n
    · rw [if_pos h1]
    · rw [if_neg h1]
      by_cases h2 : v < 1 ∨ 8 < v ∨ v < 1 ∨ 8 < v
      · rw [if_pos h2]
      · rw [if_neg h2, if_pos (by omega)]

theorem approx_eq (n s : Int) (hs : -9223372036854775808 ≤ s ∧ s ≤ 9223372036854775807) : approxT n s = makeT 0 n 2 (plusI s) 0 := by
  unfold approxT taskI
  split
  · rename_i h
    unfold inR at h
    have hr : 0 ≤ s ∧ s ≤ 7 ∧ moreI s = s + 1 ∧ plusI s = s + 1 := by
      unfold moreI plusI at *; split at h <;> split <;> omega
    have h1 : ((kApprox n s).n : Int) = n := by show (n.toNat : Int) = n; omega
    have h2 : ((kApprox n s).ins : Int) = 2 := rfl
    have h3 : ((kApprox n s).outs : Int) = plusI s := by show ((moreI s).toNat : Int) = _; omega
    rw [agree (kApprox n s) 0 0 (by omega) (by omega) (by omega) (by omega) (by omega) rfl (fun _ => rfl) (fun x hx y hy => ⟨?_, rfl⟩), h1, h2, h3]
    rw [h3, hr.2.2.2]
    unfold allowB
    rw [if_pos rfl]
    unfold nearB
    have hw : IntKind.wrap .i64 s = s := wrap64 (by omega) (by omega)
    rw [show s + 1 - 1 = s by omega, hw]
    rfl
  · rename_i h
    unfold inR at h
    have hr : moreI s < 1 ∨ 8 < moreI s → plusI s < 1 ∨ 8 < plusI s := by
      unfold moreI plusI; split <;> split <;> omega
    unfold makeT
    by_cases h1 : n < 1 ∨ 5 < n
    · rw [if_pos h1]
    · rw [if_neg h1, if_pos (by omega)]

theorem kinds_one {l : List Int} : (kinds l).length ≤ 1 ↔ ∀ x ∈ l, ∀ y ∈ l, x = y := by
  constructor
  · intro h x hx y hy
    have hx := mem_kinds.2 hx
    have hy := mem_kinds.2 hy
    match hk : kinds l, h, hx, hy with
    | [], _, hx, _ => cases hx
    | [a], _, hx, hy => simp at hx hy; omega
    | a :: b :: r, h, _, _ => simp at h
  · intro h
    cases l with
    | nil => simp [kinds]
    | cons c l =>
      have key : ∀ (l ks : List Int), (∀ x ∈ l, x = c) → (ks = [] ∨ ks = [c]) → (l.foldl (fun ks v => if v ∈ ks then ks else ks ++ [v]) ks = [] ∨ l.foldl (fun ks v => if v ∈ ks then ks else ks ++ [v]) ks = [c]) := by
        intro l
        induction l with
        | nil => intro ks _ h; exact h
        | cons a l ih =>
          intro ks h1 h2
          rw [List.foldl_cons]
          refine ih _ (fun x hx => h1 x (by simp [hx])) ?_
          have : a = c := h1 a (by simp)
          subst this
          rcases h2 with rfl | rfl
          · simp
          · simp
      rcases key (c :: l) [] (fun x hx => h x hx c (by simp)) (.inl rfl) with h | h
      · unfold kinds; rw [h]; simp
      · unfold kinds; rw [h]; simp

theorem crus_eq (n v : Int) (hv : -9223372036854775808 ≤ v ∧ v ≤ 9223372036854775807) : crusT n v = makeT 3 n v (plusI v) 0 := by
  unfold crusT taskI
  split
  · rename_i h
    unfold inR at h
    have hr : 0 ≤ v ∧ v ≤ 7 ∧ moreI v = v + 1 ∧ plusI v = v + 1 := by
      unfold moreI plusI at *; split at h <;> split <;> omega
    have h1 : ((kCrus n v).n : Int) = n := by show (n.toNat : Int) = n; omega
    have h2 : ((kCrus n v).ins : Int) = v := by show (v.toNat : Int) = v; omega
    have h3 : ((kCrus n v).outs : Int) = plusI v := by show ((moreI v).toNat : Int) = _; omega
    rw [agree (kCrus n v) 3 0 (by omega) (by omega) (by omega) (by omega) (by omega) rfl (fun _ => rfl) (fun x hx y hy => ⟨?_, rfl⟩), h1, h2, h3]
    rw [h2]
    have hm := every_mem _ _ y hy
    show decide ((kinds (y.filter fun x => !decide (x = v))).length ≤ 1) = honestB v y
    rw [Bool.eq_iff_iff, decide_eq_true_iff, kinds_one]
    unfold honestB
    simp only [List.all_eq_true, List.mem_filter]
    constructor
    · intro h a ha b hb
      have q1 := hm a ha; have q2 := hm b hb
      by_cases e1 : a < v
      · by_cases e2 : b < v
        · have := h a ⟨ha, by simp; omega⟩ b ⟨hb, by simp; omega⟩
          simp [this]
        · simp [e2]
      · simp [e1]
    · rintro h a ⟨ha, ha2⟩ b ⟨hb, hb2⟩
      have q1 := hm a ha; have q2 := hm b hb
      have := h a ha b hb
      simp at this ha2 hb2
      omega
  · rename_i h
    unfold inR at h
    have hr : moreI v < 1 ∨ 8 < moreI v → plusI v < 1 ∨ 8 < plusI v := by
      unfold moreI plusI; split <;> split <;> omega
    unfold makeT
    by_cases h1 : n < 1 ∨ 5 < n
    · rw [if_pos h1]
    · rw [if_neg h1, if_pos (by omega)]

end Go.Proofs.Ytcbkggfipdldaaa

/- P17: contracts of functions and plain laws; for all inputs that the theorems name. -/
set_option linter.unusedSimpArgs false
set_option linter.unusedVariables false
namespace Go.Proofs.Ytcbkggfipdldaaa
open Go Go.Abs

theorem every_lenB {n v : Nat} (hn : n ≤ 5) (hv : v ≤ 8) : (every n v).length ≤ 32768 := by
  rw [every_count]
  exact Nat.le_trans (Nat.pow_le_pow_left hv n) (show 8 ^ n ≤ 8 ^ 5 from Nat.pow_le_pow_right (by omega) hn)

theorem makeT_sh (task n ins outs k : Int) : Sh (makeT task n ins outs k).1.cases ∧ ∀ c ∈ (makeT task n ins outs k).1.cases, ShC c := by
  have h0 : Sh T00.cases ∧ ∀ c ∈ T00.cases, ShC c := ⟨Nat.zero_le _, fun c hc => (by cases hc)⟩
  unfold makeT
  by_cases c1 : n < 1 ∨ 5 < n
  · rw [if_pos c1]; exact h0
  rw [if_neg c1]
  by_cases c2 : ins < 1 ∨ 8 < ins ∨ outs < 1 ∨ 8 < outs
  · rw [if_pos c2]; exact h0
  rw [if_neg c2]
  split
  · exact h0
  split
  · exact h0
  split
  · exact h0
  split
  · exact h0
  have b1 := every_lenB (n := n.toNat) (v := ins.toNat) (by omega) (by omega)
  have b2 := every_lenB (n := n.toNat) (v := outs.toNat) (by omega) (by omega)
  have hn : n.toNat ≤ 5 := by omega
  dsimp only
  unfold rcases
  refine ⟨?_, fun c hc => ?_⟩
  · show _ ≤ _
    rw [List.length_map]
    have := List.length_filter_le (caseB task) (every n.toNat ins.toNat)
    omega
  · obtain ⟨x, hx, rfl⟩ := List.mem_map.1 hc
    have hx := (List.mem_filter.1 hx).1
    refine ⟨every_sh hn hx, ?_, fun y hy => every_sh hn (List.mem_filter.1 hy).1, ?_, fun y hy => every_sh hn (List.mem_filter.1 hy).1⟩
    · exact Nat.le_trans (List.length_filter_le _ _) (Nat.le_trans b2 (by omega))
    · exact Nat.le_trans (List.length_filter_le _ _) (Nat.le_trans b2 (by omega))

attribute [local irreducible] awp2 aops2 ains aloop athen bbind obind gbind acond res1 Go.Abs.Fn PCall Go.Abs.Pure SnapArgs SnapL Yl

theorem law3_c (n s v : Int) (hs : -9223372036854775808 ≤ s ∧ s ≤ 9223372036854775807) (hv : -9223372036854775808 ≤ v ∧ v ≤ 9223372036854775807) : Pure Try.prog 3 [.int .i64 n, .int .i64 s, .int .i64 v] (.bool true) := by
  refine Pure.of_c2 follows is3 (Nat.le_of_ble_eq_true rfl) ?_
  simp only [b3]
  have f1 := few_r n 2 (s + 1)
  have f2 := few_r n v (v + 1)
  generalize fewB n 2 (s + 1) = g1 at *
  generalize fewB n v (v + 1) = g2 at *
  refine w_seq ?_
  repeat' (first | refine w_ops0 ?_ | refine a_n ?_ | refine o_nil ?_ | (apply o_val rfl rfl; (focus ((try simp (disch := omega) only [simB0, simB1, SA, SV, SN, SR, SL, pick_bool, Nat.reduceEqDiff, ↓reduceIte, Nat.reduceAdd, Nat.reduceLeDiff, SO, one_encV, one_encVV, Bool.and_self, Bool.false_eq_true, reduceCtorEq, wrap64, aixS_encV, aixS_encVV, alenS_encV, alenS_encVV, Int.toNat_natCast, List.length_map, aixS_msl, getElem?_map_lt, Nat.mul_one]); first | with_reducible rfl | (apply s_ite; (focus omega); with_reducible rfl)))))
  refine w_seqC (fun T H nx => H = noBoxes ∧ nx = 0 ∧ T 0 = .int .i64 n ∧ T 1 = .int .i64 s ∧ T 2 = .int .i64 v) ?_ ?_
  · repeat' (first | refine w_seq ?_ | refine w_ops0 ?_ | refine w_skip ?_ | refine w_ret ?_ | refine a_n ?_ | refine a_r ?_ | refine o_nil ?_ | (apply o_val rfl rfl; (focus ((try simp (disch := omega) only [simB0, simB1, SA, SV, SN, SR, SL, pick_bool, Nat.reduceEqDiff, ↓reduceIte, Nat.reduceAdd, Nat.reduceLeDiff, SO, one_encV, one_encVV, Bool.and_self, Bool.false_eq_true, reduceCtorEq, wrap64, aixS_encV, aixS_encVV, alenS_encV, alenS_encVV, Int.toNat_natCast, List.length_map, aixS_msl, getElem?_map_lt, Nat.mul_one]); first | with_reducible rfl | (apply s_ite; (focus omega); with_reducible rfl)))) | (apply o_callD; (focus ((try simp only [simB0, simB1, SA, SV, SN, SR, SL, pick_bool, Nat.reduceEqDiff, ↓reduceIte, Nat.reduceAdd, Nat.reduceLeDiff]); (try with_reducible rfl); done)); (focus ((try simp only [simB0, simB1, SA, SV, SN, SR, SL, pick_bool, Nat.reduceEqDiff, ↓reduceIte, Nat.reduceAdd, Nat.reduceLeDiff]); (try with_reducible rfl); done)); (focus (first | (exact f1) | (exact f2) | (exact awake_c))); (focus (first | (apply snap_data; repeat' (first | exact snapL_nil | apply snapL_dat | exact Dat.int | exact Dat.bool | exact Dat.str | exact Dat.esl | exact Dat.nilf | exact encV_dat _ | exact encVV_dat _)) | (apply snap_plain; (focus (repeat' (first | exact snapL_nil | apply snapL_dat | exact Dat.int | exact Dat.bool | exact Dat.str | exact encV_dat _ | exact encVV_dat _))); rfl)))) | (apply o_gT; (focus (simp only [simB0, simB1, SA, SV, SN, SR, SL, pick_bool, Nat.reduceEqDiff, ↓reduceIte, Nat.reduceAdd, Nat.reduceLeDiff]; done))) | (apply o_gF; (focus (simp only [simB0, simB1, SA, SV, SN, SR, SL, pick_bool, Nat.reduceEqDiff, ↓reduceIte, Nat.reduceAdd, Nat.reduceLeDiff, or_true, true_or]; done))) | (apply o_gB; (focus ((try simp only [simB0, simB1, SA, SV, SN, SR, SL, pick_bool, Nat.reduceEqDiff, ↓reduceIte, Nat.reduceAdd, Nat.reduceLeDiff]); (try with_reducible rfl); done)); all_goals (intro _hg; (try simp only [Bool.not_true, Bool.not_false, Bool.not_eq_true', Bool.not_eq_false', Bool.not_not, decide_eq_true_eq, decide_eq_false_iff_not] at _hg); try (exfalso; omega))) | (apply w_condT; (focus (simp only [simB0, simB1, SA, SV, SN, SR, SL, pick_bool, Nat.reduceEqDiff, ↓reduceIte, Nat.reduceAdd, Nat.reduceLeDiff]; done))) | (apply w_condF; (focus (simp only [simB0, simB1, SA, SV, SN, SR, SL, pick_bool, Nat.reduceEqDiff, ↓reduceIte, Nat.reduceAdd, Nat.reduceLeDiff]; done))) | (apply w_cond; (focus ((try simp only [simB0, simB1, SA, SV, SN, SR, SL, pick_bool, Nat.reduceEqDiff, ↓reduceIte, Nat.reduceAdd, Nat.reduceLeDiff]); (try with_reducible rfl); done)); all_goals (intro _hg; (try simp only [Bool.not_eq_true', Bool.not_eq_false', Bool.not_not, decide_eq_true_eq, decide_eq_false_iff_not] at _hg); try (exfalso; omega))) | (refine e_ends rfl ?_) | (apply r_1; (focus (simp only [rv, simB0, simB1, SA, SV, SN, SR, SL, pick_bool, Nat.reduceEqDiff, ↓reduceIte, Nat.reduceAdd, Nat.reduceLeDiff]; with_reducible rfl))))
    all_goals first | exact .bool _ | exact ⟨rfl, rfl, rfl, rfl, rfl⟩
  rintro T H nx ⟨rfl, rfl, t0, t1, t2⟩
  have c1 := approx_c n s
  have c2 := rapprox_r n s
  have c3 := crus_c n v
  have c4 := rcrus_r n v
  rw [approx_eq n s hs] at c1
  rw [crus_eq n v hv] at c3
  obtain ⟨s1, s2⟩ := makeT_sh 0 n 2 (plusI s) 0
  obtain ⟨s3, s4⟩ := makeT_sh 3 n v (plusI v) 0
  generalize makeT 0 n 2 (plusI s) 0 = A at *
  generalize makeT 3 n v (plusI v) 0 = B at *
  have q1 := same_r _ s1 s2
  have q2 := same_r _ s3 s4
  have d1 := encT_dat A.1
  have d2 := encT_dat B.1
  unfold encT at q1 q2 d1 d2
  repeat' (first | refine w_seq ?_ | refine w_ops0 ?_ | refine w_ret ?_ | refine a_n ?_ | refine o_nil ?_ | (apply o_val rfl rfl; (focus ((try simp (disch := omega) only [simB0, simB1, SA, SV, SN, SR, SL, pick_bool, Nat.reduceEqDiff, ↓reduceIte, Nat.reduceAdd, Nat.reduceLeDiff, SO, one_encV, one_encVV, Bool.and_self, Bool.false_eq_true, reduceCtorEq, wrap64, aixS_encV, aixS_encVV, alenS_encV, alenS_encVV, Int.toNat_natCast, List.length_map, aixS_msl, getElem?_map_lt, Nat.mul_one, t0, t1, t2, encT_cells, encCs_one, encCs_cells]); first | with_reducible rfl | (apply s_ite; (focus omega); with_reducible rfl)))) | (apply o_callD; (focus ((try simp only [simB0, simB1, SA, SV, SN, SR, SL, pick_bool, Nat.reduceEqDiff, ↓reduceIte, Nat.reduceAdd, Nat.reduceLeDiff, t0, t1, t2, encT_cells, encCs_one, encCs_cells]); (try with_reducible rfl); done)); (focus ((try simp only [simB0, simB1, SA, SV, SN, SR, SL, pick_bool, Nat.reduceEqDiff, ↓reduceIte, Nat.reduceAdd, Nat.reduceLeDiff, t0, t1, t2, encT_cells, encCs_one, encCs_cells]); (try with_reducible rfl); done)); (focus (first | (exact c1) | (exact c2) | (exact c3) | (exact c4) | (exact q1) | (exact q2) | (exact awake_c))); (focus (first | (apply snap_data; repeat' (first | exact snapL_nil | apply snapL_dat | exact Dat.int | exact Dat.bool | exact Dat.str | exact Dat.esl | exact Dat.nilf | exact encV_dat _ | exact encVV_dat _ | exact d1 | exact d2)) | (apply snap_plain; (focus (repeat' (first | exact snapL_nil | apply snapL_dat | exact Dat.int | exact Dat.bool | exact Dat.str | exact encV_dat _ | exact encVV_dat _ | exact d1 | exact d2))); rfl)))) | (apply e_alloc rfl; (focus ((try simp only [simB0, simB1, SA, SV, SN, SR, SL, pick_bool, Nat.reduceEqDiff, ↓reduceIte, Nat.reduceAdd, Nat.reduceLeDiff, t0, t1, t2, encT_cells, encCs_one, encCs_cells]); (try with_reducible rfl); done)); (focus (simp only [SO, Bool.and_self, one_encV, one_encVV, t0, t1, t2, encT_cells, encCs_one, encCs_cells]))) | (apply e_st rfl; (focus ((try simp only [simB0, simB1, SA, SV, SN, SR, SL, pick_bool, Nat.reduceEqDiff, ↓reduceIte, Nat.reduceAdd, Nat.reduceLeDiff, t0, t1, t2, encT_cells, encCs_one, encCs_cells]); (try with_reducible rfl); done)); (focus ((try simp only [simB0, simB1, SA, SV, SN, SR, SL, pick_bool, Nat.reduceEqDiff, ↓reduceIte, Nat.reduceAdd, Nat.reduceLeDiff, t0, t1, t2, encT_cells, encCs_one, encCs_cells]); (try with_reducible rfl); done)); (focus ((try simp only [simB0, simB1, SA, SV, SN, SR, SL, pick_bool, Nat.reduceEqDiff, ↓reduceIte, Nat.reduceAdd, Nat.reduceLeDiff, t0, t1, t2, encT_cells, encCs_one, encCs_cells]); (try with_reducible rfl); done)); (focus ((try simp only [simB0, simB1, SA, SV, SN, SR, SL, pick_bool, Nat.reduceEqDiff, ↓reduceIte, Nat.reduceAdd, Nat.reduceLeDiff, t0, t1, t2, encT_cells, encCs_one, encCs_cells]); (try with_reducible rfl); done)); (focus (simp only [SO, Bool.and_self, one_encV, one_encVV, t0, t1, t2, encT_cells, encCs_one, encCs_cells])); (focus ((try simp only [SL, Nat.reduceAdd, Nat.reduceMul, List.length_map]); first | done | omega)); (focus ((try simp only [SL, Nat.reduceAdd, Nat.reduceMul, List.length_map]); first | done | omega)); (focus ((try simp only [SL, Nat.reduceAdd, Nat.reduceMul, List.length_map]); first | done | omega))) | (apply o_gT; (focus (simp only [simB0, simB1, SA, SV, SN, SR, SL, pick_bool, Nat.reduceEqDiff, ↓reduceIte, Nat.reduceAdd, Nat.reduceLeDiff, t0, t1, t2, encT_cells, encCs_one, encCs_cells]; done))) | (apply o_gF; (focus (simp only [simB0, simB1, SA, SV, SN, SR, SL, pick_bool, Nat.reduceEqDiff, ↓reduceIte, Nat.reduceAdd, Nat.reduceLeDiff, or_true, true_or, t0, t1, t2, encT_cells, encCs_one, encCs_cells]; done))) | (apply o_gB; (focus ((try simp only [simB0, simB1, SA, SV, SN, SR, SL, pick_bool, Nat.reduceEqDiff, ↓reduceIte, Nat.reduceAdd, Nat.reduceLeDiff, t0, t1, t2, encT_cells, encCs_one, encCs_cells]); (try with_reducible rfl); done)); all_goals (intro _hg; (try simp only [Bool.not_true, Bool.not_false, Bool.not_eq_true', Bool.not_eq_false', Bool.not_not, decide_eq_true_eq, decide_eq_false_iff_not] at _hg); try (exfalso; omega))) | (refine e_ends rfl ?_) | (apply r_1; (focus (simp only [rv, simB0, simB1, SA, SV, SN, SR, SL, pick_bool, Nat.reduceEqDiff, ↓reduceIte, Nat.reduceAdd, Nat.reduceLeDiff, t0, t1, t2, encT_cells, encCs_one, encCs_cells]; with_reducible rfl))))
  all_goals first | exact .bool _ | exact absurd rfl ‹_› | (exfalso; simp_all; done)

theorem law4_c (n v k : Int) : Pure Try.prog 4 [.int .i64 n, .int .i64 v, .int .i64 k] (.bool true) := by
  refine Pure.of_c2 follows is4 (Nat.le_of_ble_eq_true rfl) ?_
  simp only [b4]
  have f1 := few_r n v v
  generalize fewB n v v = g1 at *
  refine w_seq ?_
  repeat' (first | refine w_ops0 ?_ | refine a_n ?_ | refine o_nil ?_ | (apply o_val rfl rfl; (focus ((try simp (disch := omega) only [simB0, simB1, SA, SV, SN, SR, SL, pick_bool, Nat.reduceEqDiff, ↓reduceIte, Nat.reduceAdd, Nat.reduceLeDiff, SO, one_encV, one_encVV, Bool.and_self, Bool.false_eq_true, reduceCtorEq, wrap64, aixS_encV, aixS_encVV, alenS_encV, alenS_encVV, Int.toNat_natCast, List.length_map, aixS_msl, getElem?_map_lt, Nat.mul_one]); first | with_reducible rfl | (apply s_ite; (focus omega); with_reducible rfl)))))
  refine w_seqC (fun T H nx => H = noBoxes ∧ nx = 0 ∧ T 0 = .int .i64 n ∧ T 1 = .int .i64 v ∧ T 2 = .int .i64 k) ?_ ?_
  · repeat' (first | refine w_seq ?_ | refine w_ops0 ?_ | refine w_skip ?_ | refine w_ret ?_ | refine a_n ?_ | refine a_r ?_ | refine o_nil ?_ | (apply o_val rfl rfl; (focus ((try simp (disch := omega) only [simB0, simB1, SA, SV, SN, SR, SL, pick_bool, Nat.reduceEqDiff, ↓reduceIte, Nat.reduceAdd, Nat.reduceLeDiff, SO, one_encV, one_encVV, Bool.and_self, Bool.false_eq_true, reduceCtorEq, wrap64, aixS_encV, aixS_encVV, alenS_encV, alenS_encVV, Int.toNat_natCast, List.length_map, aixS_msl, getElem?_map_lt, Nat.mul_one]); first | with_reducible rfl | (apply s_ite; (focus omega); with_reducible rfl)))) | (apply o_callD; (focus ((try simp only [simB0, simB1, SA, SV, SN, SR, SL, pick_bool, Nat.reduceEqDiff, ↓reduceIte, Nat.reduceAdd, Nat.reduceLeDiff]); (try with_reducible rfl); done)); (focus ((try simp only [simB0, simB1, SA, SV, SN, SR, SL, pick_bool, Nat.reduceEqDiff, ↓reduceIte, Nat.reduceAdd, Nat.reduceLeDiff]); (try with_reducible rfl); done)); (focus (first | (exact f1) | (exact awake_c))); (focus (first | (apply snap_data; repeat' (first | exact snapL_nil | apply snapL_dat | exact Dat.int | exact Dat.bool | exact Dat.str | exact Dat.esl | exact Dat.nilf | exact encV_dat _ | exact encVV_dat _)) | (apply snap_plain; (focus (repeat' (first | exact snapL_nil | apply snapL_dat | exact Dat.int | exact Dat.bool | exact Dat.str | exact encV_dat _ | exact encVV_dat _))); rfl)))) | (apply w_cond; (focus ((try simp only [simB0, simB1, SA, SV, SN, SR, SL, pick_bool, Nat.reduceEqDiff, ↓reduceIte, Nat.reduceAdd, Nat.reduceLeDiff]); (try with_reducible rfl); done)); all_goals (intro _hg; (try simp only [Bool.not_eq_true', Bool.not_eq_false', Bool.not_not, decide_eq_true_eq, decide_eq_false_iff_not] at _hg); try (exfalso; omega))) | (refine e_ends rfl ?_) | (apply r_1; (focus (simp only [rv, simB0, simB1, SA, SV, SN, SR, SL, pick_bool, Nat.reduceEqDiff, ↓reduceIte, Nat.reduceAdd, Nat.reduceLeDiff]; with_reducible rfl))))
    all_goals first | exact .bool _ | exact ⟨rfl, rfl, rfl, rfl, rfl⟩
  rintro T H nx ⟨rfl, rfl, t0, t1, t2⟩
  have c1 := consensus_c n v
  have c2 := rconsensus_r n v
  have c3 := set_c n v k
  have c4 := rset_r n v k
  rw [consensus_eq n v] at c1
  rw [set_eq n v k] at c3
  obtain ⟨s1, s2⟩ := makeT_sh 2 n v v 0
  obtain ⟨s3, s4⟩ := makeT_sh 6 n v v k
  generalize makeT 2 n v v 0 = A at *
  generalize makeT 6 n v v k = B at *
  have q1 := same_r _ s1 s2
  have q2 := same_r _ s3 s4
  have d1 := encT_dat A.1
  have d2 := encT_dat B.1
  unfold encT at q1 q2 d1 d2
  repeat' (first | refine w_seq ?_ | refine w_ops0 ?_ | refine w_ret ?_ | refine a_n ?_ | refine o_nil ?_ | (apply o_val rfl rfl; (focus ((try simp (disch := omega) only [simB0, simB1, SA, SV, SN, SR, SL, pick_bool, Nat.reduceEqDiff, ↓reduceIte, Nat.reduceAdd, Nat.reduceLeDiff, SO, one_encV, one_encVV, Bool.and_self, Bool.false_eq_true, reduceCtorEq, wrap64, aixS_encV, aixS_encVV, alenS_encV, alenS_encVV, Int.toNat_natCast, List.length_map, aixS_msl, getElem?_map_lt, Nat.mul_one, t0, t1, t2, encT_cells, encCs_one, encCs_cells]); first | with_reducible rfl | (apply s_ite; (focus omega); with_reducible rfl)))) | (apply o_callD; (focus ((try simp only [simB0, simB1, SA, SV, SN, SR, SL, pick_bool, Nat.reduceEqDiff, ↓reduceIte, Nat.reduceAdd, Nat.reduceLeDiff, t0, t1, t2, encT_cells, encCs_one, encCs_cells]); (try with_reducible rfl); done)); (focus ((try simp only [simB0, simB1, SA, SV, SN, SR, SL, pick_bool, Nat.reduceEqDiff, ↓reduceIte, Nat.reduceAdd, Nat.reduceLeDiff, t0, t1, t2, encT_cells, encCs_one, encCs_cells]); (try with_reducible rfl); done)); (focus (first | (exact c1) | (exact c2) | (exact c3) | (exact c4) | (exact q1) | (exact q2) | (exact awake_c))); (focus (first | (apply snap_data; repeat' (first | exact snapL_nil | apply snapL_dat | exact Dat.int | exact Dat.bool | exact Dat.str | exact Dat.esl | exact Dat.nilf | exact encV_dat _ | exact encVV_dat _ | exact d1 | exact d2)) | (apply snap_plain; (focus (repeat' (first | exact snapL_nil | apply snapL_dat | exact Dat.int | exact Dat.bool | exact Dat.str | exact encV_dat _ | exact encVV_dat _ | exact d1 | exact d2))); rfl)))) | (apply e_alloc rfl; (focus ((try simp only [simB0, simB1, SA, SV, SN, SR, SL, pick_bool, Nat.reduceEqDiff, ↓reduceIte, Nat.reduceAdd, Nat.reduceLeDiff, t0, t1, t2, encT_cells, encCs_one, encCs_cells]); (try with_reducible rfl); done)); (focus (simp only [SO, Bool.and_self, one_encV, one_encVV, t0, t1, t2, encT_cells, encCs_one, encCs_cells]))) | (apply e_st rfl; (focus ((try simp only [simB0, simB1, SA, SV, SN, SR, SL, pick_bool, Nat.reduceEqDiff, ↓reduceIte, Nat.reduceAdd, Nat.reduceLeDiff, t0, t1, t2, encT_cells, encCs_one, encCs_cells]); (try with_reducible rfl); done)); (focus ((try simp only [simB0, simB1, SA, SV, SN, SR, SL, pick_bool, Nat.reduceEqDiff, ↓reduceIte, Nat.reduceAdd, Nat.reduceLeDiff, t0, t1, t2, encT_cells, encCs_one, encCs_cells]); (try with_reducible rfl); done)); (focus ((try simp only [simB0, simB1, SA, SV, SN, SR, SL, pick_bool, Nat.reduceEqDiff, ↓reduceIte, Nat.reduceAdd, Nat.reduceLeDiff, t0, t1, t2, encT_cells, encCs_one, encCs_cells]); (try with_reducible rfl); done)); (focus ((try simp only [simB0, simB1, SA, SV, SN, SR, SL, pick_bool, Nat.reduceEqDiff, ↓reduceIte, Nat.reduceAdd, Nat.reduceLeDiff, t0, t1, t2, encT_cells, encCs_one, encCs_cells]); (try with_reducible rfl); done)); (focus (simp only [SO, Bool.and_self, one_encV, one_encVV, t0, t1, t2, encT_cells, encCs_one, encCs_cells])); (focus ((try simp only [SL, Nat.reduceAdd, Nat.reduceMul, List.length_map]); first | done | omega)); (focus ((try simp only [SL, Nat.reduceAdd, Nat.reduceMul, List.length_map]); first | done | omega)); (focus ((try simp only [SL, Nat.reduceAdd, Nat.reduceMul, List.length_map]); first | done | omega))) | (apply o_gT; (focus (simp only [simB0, simB1, SA, SV, SN, SR, SL, pick_bool, Nat.reduceEqDiff, ↓reduceIte, Nat.reduceAdd, Nat.reduceLeDiff, t0, t1, t2, encT_cells, encCs_one, encCs_cells]; done))) | (apply o_gF; (focus (simp only [simB0, simB1, SA, SV, SN, SR, SL, pick_bool, Nat.reduceEqDiff, ↓reduceIte, Nat.reduceAdd, Nat.reduceLeDiff, or_true, true_or, t0, t1, t2, encT_cells, encCs_one, encCs_cells]; done))) | (apply o_gB; (focus ((try simp only [simB0, simB1, SA, SV, SN, SR, SL, pick_bool, Nat.reduceEqDiff, ↓reduceIte, Nat.reduceAdd, Nat.reduceLeDiff, t0, t1, t2, encT_cells, encCs_one, encCs_cells]); (try with_reducible rfl); done)); all_goals (intro _hg; (try simp only [Bool.not_true, Bool.not_false, Bool.not_eq_true', Bool.not_eq_false', Bool.not_not, decide_eq_true_eq, decide_eq_false_iff_not] at _hg); try (exfalso; omega))) | (refine e_ends rfl ?_) | (apply r_1; (focus (simp only [rv, simB0, simB1, SA, SV, SN, SR, SL, pick_bool, Nat.reduceEqDiff, ↓reduceIte, Nat.reduceAdd, Nat.reduceLeDiff, t0, t1, t2, encT_cells, encCs_one, encCs_cells]; with_reducible rfl))))
  all_goals first | exact .bool _ | exact absurd rfl ‹_› | (exfalso; simp_all; done)

end Go.Proofs.Ytcbkggfipdldaaa

/- P18: contracts of functions and plain laws; for all inputs that the theorems name. -/
set_option linter.unusedVariables false
namespace Go.Proofs.Ytcbkggfipdldaaa
open Go Go.Abs Go.RowKit Go.ChangeShapes Go.WideShapes Go.ChangeAt

/-- what a call that writes nothing older leaves -/
theorem post_of_below {H : Type} {enc : TypeId × Value → H} {P : Program} {f : Func} {s : ChangeSpec} {apart fresh handsOn again : Bool} {W W' : World} {args : Array Value} {v : Value} {ds gs : List (DataW H)} {before pa pv : List MemPlace}
    (hW : DataW.Whole enc P f.params.toList s.vars apart W args.toList ds gs before)
    (hres : ∀ (b : Nat) (sp : Nat → Bool) (hd : Bool), DataW.TrodAll enc P W' b sp hd f.resultTypes.toList (v.resultList f.resultTypes.size) (s.fn H (ds ++ gs)).results [])
    (hargs : ∀ sp : Nat → Bool, (∀ p ∈ before, sp p.block = true) → DataW.TrodAll enc P W' 0 sp true f.params.toList args.toList (s.fn H (ds ++ gs)).args pa)
    (hvars : ∀ sp : Nat → Bool, (∀ p ∈ before, sp p.block = true) → DataW.TrodVars enc P W' sp s.vars (s.fn H (ds ++ gs)).vars pv)
    (hps : before = pa ++ pv) (hb : Below W.heap.size W W')
    (hok : ∀ (j : Nat) (t : TypeId) (r : Value), f.resultTypes[j]? = some t → (v.resultList f.resultTypes.size)[j]? = some r → Value.okWide P W' .any 0 t r) :
    s.post enc P f apart fresh handsOn again W args v W' := by
  have hold : ∀ p ∈ before, (fun b => decide (b < W.heap.size)) p.block = true := fun p hp => by simpa using hW.lt p hp
  have hlt := fun p hp => hW.lt p hp
  refine ⟨ds, gs, before, [], pa, pv, hW, hres _ _ _, hargs _ hold, hvars _ hold, World.keptBut_mono (fun p hp => ⟨hp, ?_⟩) (hb.frame _), fun _ => ?_⟩
  · rw [hps, List.mem_append] at hp
    exact Or.inr hp
  · obtain ⟨_, _, _, _, _, hz, hn⟩ := hW
    refine ⟨hok, _, _, ([] ++ pa) ++ pv, ⟨[] ++ pa, pv, trodAll_append (hargs _ (fun _ _ => rfl)) (hres _ _ _), hvars _ (fun _ _ => rfl), rfl, ?_, ?_⟩, ?_⟩
    · intro b off hp
      have hp' : MemPlace.cell b off ∈ before := by rw [hps]; simpa using hp
      rw [hb.frozen (hlt _ hp')]
      exact hz b off hp'
    · intro ha
      have := hn ha
      rw [hps] at this
      simpa using this
    · intro p hp _
      rw [hps]
      simpa using hp

theorem relL_nil {E : Env} {w : World} : RelL E w [] [] := ⟨rfl, fun i x y h => (by cases h)⟩
theorem relL_cons {E : Env} {w : World} {x : AV} {y : Value} {xs : List AV} {ys : List Value} (h : Rel E w x y) (hs : RelL E w xs ys) : RelL E w (x :: xs) (y :: ys) := by
  refine ⟨by simp [hs.1], fun i a b ha hb => ?_⟩
  cases i with
  | zero => simp at ha hb; subst ha hb; exact h
  | succ i => simp at ha hb; exact hs.2 i a b ha hb
theorem wf64 {a : Int} (h : (Lit.int .i64 a).wf = true) : -9223372036854775808 ≤ a ∧ a ≤ 9223372036854775807 := by
  simp only [Lit.wf, Bool.and_eq_true, decide_eq_true_eq] at h
  have h1 : IntKind.min .i64 = -9223372036854775808 := by decide
  have h2 : IntKind.max .i64 = 9223372036854775807 := by decide
  omega

/-- the call of a law -/
theorem calls_of_pure {f : FuncId} {xs : List AV} {vs : List Value} (h : Go.Abs.Pure Try.prog f xs (.bool true)) (w : World) (hv : RelL (E0 fun _ => False) w xs vs) :
    Calls Try.prog f vs.toArray w fun e w' => e = .returned (.bool true) ∧ Below w.heap.size w w' := by
  refine (h.2 (fun _ => False) w vs (fun _ h => h.elim) hv).mono ?_
  rintro e w' ⟨v, imm', rfl, hb, _, _, _, hr⟩
  cases hr
  exact ⟨rfl, hb⟩

theorem own : ownKnob Try.prog.godebug = none := by kernel_rfl

end Go.Proofs.Ytcbkggfipdldaaa

/- P19: contracts of functions and plain laws; for all inputs that the theorems name. -/
set_option linter.unusedSimpArgs false
set_option linter.unusedVariables false
namespace Go.Proofs.Ytcbkggfipdldaaa
open Go Go.Abs

theorem min01 : ∀ (l : List Int) (a : Int), (∀ x ∈ l, 0 ≤ x ∧ x < 2) → (0 ≤ a ∧ a < 2) → l.foldl min a = if a = 0 ∨ 0 ∈ l then 0 else 1
  | [], a, _, ha => by
    simp only [List.foldl_nil, List.not_mem_nil, or_false]
    split <;> omega
  | x :: l, a, h, ha => by
    have hx := h x (by simp)
    rw [List.foldl_cons, min01 l (min a x) (fun y hy => h y (by simp [hy])) (by omega)]
    by_cases h0 : 0 ∈ l
    · rw [if_pos (.inr h0), if_pos (.inr (by simp [h0]))]
    · by_cases h1 : a = 0 ∨ x = 0
      · rw [if_pos (.inl (by omega)), if_pos (by rcases h1 with h1 | h1; exact .inl h1; exact .inr (by simp [h1]))]
      · rw [if_neg, if_neg]
        · rintro (h2 | h2)
          · omega
          · rw [List.mem_cons] at h2
            rcases h2 with h2 | h2
            · omega
            · exact h0 h2
        · rintro (h2 | h2)
          · omega
          · exact h0 h2
theorem min01' {l : List Int} (h : ∀ x ∈ l, 0 ≤ x ∧ x < 2) (h0 : l ≠ []) : l.foldl min (l.getD 0 default) = if 0 ∈ l then 0 else 1 := by
  have hm : l.getD 0 default ∈ l := mem_getD (List.length_pos_iff.2 h0)
  rw [min01 l _ h (h _ hm)]
  by_cases e : 0 ∈ l
  · rw [if_pos (.inr e), if_pos e]
  · rw [if_neg (fun h => by rcases h with h | h; exact e (h ▸ hm); exact e h), if_neg e]

theorem lead_eq (n : Int) : leadT n = makeT 4 n 1 2 0 := by
  unfold leadT taskI
  split
  · rename_i h
    unfold inR at h
    have h1 : ((kLead n).n : Int) = n := by show (n.toNat : Int) = n; omega
    have h2 : ((kLead n).ins : Int) = 1 := rfl
    have h3 : ((kLead n).outs : Int) = 2 := rfl
    rw [agree (kLead n) 4 0 (by omega) (by omega) (by omega) (by omega) (by omega) rfl (fun _ => rfl) (fun x hx y hy => ⟨?_, rfl⟩), h1, h2, h3]
    rfl
  · rename_i h
    unfold inR at h
    unfold makeT
    rw [if_pos (by omega)]

theorem com_eq (n : Int) : comT n = makeT 1 n 2 2 0 := by
  unfold comT taskI
  split
  · rename_i h
    unfold inR at h
    have h1 : ((kCom n).n : Int) = n := by show (n.toNat : Int) = n; omega
    have h2 : ((kCom n).ins : Int) = 2 := rfl
    have h3 : ((kCom n).outs : Int) = 2 := rfl
    rw [agree (kCom n) 1 0 (by omega) (by omega) (by omega) (by omega) (by omega) rfl (fun _ => rfl) (fun x hx y hy => ?_), h1, h2, h3]
    have hm := min01' (l := x) (fun a ha => by have := every_mem _ _ x hx a ha; omega) (every_ne (by omega) hx)
    show (eqv y 0 || eqv y 1 && decide (x.foldl min (x.getD 0 default) = 1)) = _ ∧ eqv y (x.foldl min (x.getD 0 default)) = _
    rw [hm]
    have e1 : ∀ u v, allowB 1 u v 0 x y = (eqv y 0 || (eqv y 1 && !decide (0 ∈ x))) := fun u v => by
      unfold allowB; rw [if_neg (by omega), if_pos rfl]
    have e2 : calmB 1 x y = ((decide (0 ∈ x) && eqv y 0) || (!decide (0 ∈ x) && eqv y 1)) := by
      unfold calmB; rw [if_pos rfl]
    rw [e1, e2]
    by_cases e : 0 ∈ x
    · simp [e]
    · simp [e]
  · rename_i h
    unfold inR at h
    unfold makeT
    rw [if_pos (by omega)]

def injB (l : List Int) : Bool := decide ((kinds l).length = l.length)
theorem inj_some : ∀ n < 6, ∀ v < 9, n ≤ v → (every n v).any injB = true := by decide +kernel
theorem inj_none : ∀ n < 6, ∀ v < n, (every n v).any injB = false := by decide +kernel

theorem fallL_pow {v : Nat} (hv : 1 ≤ v) : ∀ n, fallL v n ≤ v ^ n
  | 0 => Nat.le_refl _
  | n + 1 => by
    show (if fallL v n ≤ 1024 then fallL v n * (v - n) else fallL v n) ≤ _
    have ih := fallL_pow hv n
    split
    · rw [Nat.pow_succ]; exact Nat.mul_le_mul ih (Nat.sub_le _ _)
    · exact Nat.le_trans ih (Nat.pow_le_pow_right hv (Nat.le_succ n))

theorem few_pow {n v o : Nat} (hn : 1 ≤ n) (hv : 1 ≤ v ∧ v ≤ 8) (ho : n ≤ o) (h : powL v 1000 n * powL o 1000 n ≤ 3000) : v ^ n ≤ 1024 := by
  by_cases h1 : n = 1
  · subst h1; rw [Nat.pow_one]; omega
  · have h4 : 4 ≤ powL o 1000 n := by
      rcases powL_pow (b := o) (lim := 1000) (by omega) (by omega) n with e | ⟨e, _⟩
      · rw [e]
        exact Nat.le_trans (Nat.pow_le_pow_left (show 2 ≤ o by omega) 2) (Nat.pow_le_pow_right (by omega) (by omega))
      · omega
    have h5 : powL v 1000 n * 4 ≤ 3000 := Nat.le_trans (Nat.mul_le_mul_left _ h4) h
    rcases powL_pow (b := v) (lim := 1000) hv.1 (by omega) n with e | ⟨e, _⟩
    · rw [← e]; omega
    · omega

theorem ren_eq (n i o : Int) (hf : fewB n i o = true) : renT n i o = makeT 5 n i o 0 := by
  unfold renT taskI
  split
  · rename_i h
    unfold inR at h
    obtain ⟨N, rfl⟩ : ∃ N : Nat, n = N := ⟨n.toNat, by omega⟩
    obtain ⟨V, rfl⟩ : ∃ V : Nat, i = V := ⟨i.toNat, by omega⟩
    obtain ⟨O, rfl⟩ : ∃ O : Nat, o = O := ⟨o.toNat, by omega⟩
    unfold fewB at hf
    rw [decide_eq_false (by omega), Bool.false_or, decide_eq_true_iff] at hf
    simp only [Int.toNat_natCast] at hf
    have hk : kRen N V O = ⟨N, V, O, true, injB, fun _ m => decide ((kinds m).length = m.length), fun _ _ => false⟩ := by
      unfold kRen; simp only [Int.toNat_natCast]; rfl
    rw [hk]
    have hc0 : cnt (every N V) injB = 0 ↔ V < N := by
      unfold cnt
      rw [List.length_eq_zero_iff, List.filter_eq_nil_iff]
      constructor
      · intro h0
        refine Nat.lt_of_not_le fun hle => ?_
        have := inj_some N (by omega) V (by omega) hle
        rw [List.any_eq_true] at this
        obtain ⟨x, hx, hx2⟩ := this
        exact h0 x hx hx2
      · intro hlt x hx hx2
        have := inj_none N (by omega) V hlt
        rw [List.any_eq_false] at this
        exact this x hx hx2
    have hcs : casesOf ⟨N, V, O, true, injB, fun _ m => decide ((kinds m).length = m.length), fun _ _ => false⟩ (every N V) = rcases 5 V O 0 N O (every N V) := rfl
    have e1 : makeT 5 N V O 0 = if V < N ∨ O < N then (T00, 16) else if 1024 < fallL V N then (T00, 17) else if (rcases 5 V O 0 N O (every N V)).any (fun c => decide (1024 < c.out.length)) then (T00, 17) else (⟨N, V, O, rcases 5 V O 0 N O (every N V)⟩, 0) := by
      unfold makeT
      rw [if_neg (by omega), if_neg (by omega), if_neg (by omega)]
      by_cases hlt : V < N ∨ O < N
      · rw [if_pos (show (5 : Int) = 5 ∧ ((V : Int) < N ∨ (O : Int) < N) from ⟨rfl, by omega⟩), if_pos hlt]
      · rw [if_neg (show ¬ ((5 : Int) = 5 ∧ ((V : Int) < N ∨ (O : Int) < N)) from fun h => by omega), if_neg hlt]; rfl
    rw [e1]
    unfold taskOf
    dsimp only
    rw [hcs]
    by_cases hlt : V < N ∨ O < N
    · rw [if_pos hlt]
      by_cases h0 : V < N
      · rw [if_pos (hc0.2 h0)]
      · rw [if_neg (fun h => h0 (hc0.1 h)), if_pos ⟨rfl, by omega⟩]
    · have hp := few_pow (by omega) (by omega) (by omega) hf
      have hq := fallL_pow (v := V) (by omega) N
      have hr : cnt (every N V) injB ≤ V ^ N := by
        rw [← every_count]; exact List.length_filter_le _ _
      rw [if_neg hlt, if_neg (show ¬ cnt (every N V) injB = 0 from fun h => by have := hc0.1 h; omega), if_neg (show ¬ (true = true ∧ O < N) from fun h => by omega), if_neg (show ¬ 1024 < cnt (every N V) injB by omega), if_neg (show ¬ 1024 < fallL V N by omega)]
  · rename_i h
    unfold inR at h
    unfold makeT
    by_cases h1 : n < 1 ∨ 5 < n
    · rw [if_pos h1]
    · rw [if_neg h1, if_pos (by omega)]

end Go.Proofs.Ytcbkggfipdldaaa

/- P23: contracts of functions and plain laws; for all inputs that the theorems name. -/
set_option linter.unusedSimpArgs false
set_option linter.unusedVariables false
namespace Go.Proofs.Ytcbkggfipdldaaa
open Go Go.Abs

/-! ### comparisons of vectors -/
def order : List Int → List Int → Int
  | [], [] => 0
  | [], _ :: _ => -1
  | _ :: _, [] => 1
  | a :: l, b :: m => if a < b then -1 else if a > b then 1 else order l m

attribute [local irreducible] awp2 aops2 ains aloop athen bbind obind gbind acond res1 Go.Abs.Fn PCall Go.Abs.Pure SnapArgs SnapL Yl
theorem equalV_c (l m : List Int) (hl : Sh l) (hm : Sh m) : Pure Try.prog 27 [encV l, encV m] (.bool (decide (l = m))) := by
  refine Pure.of_c2 follows is27 (Nat.le_of_ble_eq_true rfl) ?_
  simp only [b27]
  repeat' (first | refine w_seq ?_ | refine w_ops0 ?_ | refine w_block ?_ | refine w_skip ?_ | refine w_ret ?_ | refine a_n ?_ | refine a_r ?_ | refine o_nil ?_ | (apply o_val rfl rfl; (focus ((try simp (disch := omega) only [simB0, simB1, SA, SV, SN, SR, SL, pick_bool, Nat.reduceEqDiff, ↓reduceIte, Nat.reduceAdd, Nat.reduceLeDiff, SO, one_encV, one_encVV, Bool.and_self, Bool.false_eq_true, reduceCtorEq, wrap64, aixS_encV, aixS_encVV, alenS_encV, alenS_encVV, Int.toNat_natCast, List.length_map, aixS_msl, getElem?_map_lt, Nat.mul_one]); first | with_reducible rfl | (apply s_ite; (focus omega); with_reducible rfl)))) | (apply w_cond; (focus ((try simp only [simB0, simB1, SA, SV, SN, SR, SL, pick_bool, Nat.reduceEqDiff, ↓reduceIte, Nat.reduceAdd, Nat.reduceLeDiff]); (try with_reducible rfl); done)); all_goals (intro _hg; (try simp only [Bool.not_eq_true', Bool.not_eq_false', Bool.not_not, decide_eq_true_eq, decide_eq_false_iff_not] at _hg); try (exfalso; omega))) | (refine e_ends rfl ?_) | (apply r_1; (focus (simp only [rv, simB0, simB1, SA, SV, SN, SR, SL, pick_bool, Nat.reduceEqDiff, ↓reduceIte, Nat.reduceAdd, Nat.reduceLeDiff]; with_reducible rfl))) | refine w_loop ?_)
  · refine snap_bool ?_
    symm; rw [decide_eq_false_iff_not]; rintro rfl; omega
  refine loop0 (X := Nat) (fun k => [(0, encV l), (1, encV m), (12, .int .i64 l.length), (13, .int .i64 k)]) (fun k => k ≤ l.length ∧ ∀ i, i < k → l.getD i default = m.getD i default) (fun k => l.length - k) 0 ⟨Nat.zero_le _, by simp⟩ (by simp (disch := omega) only [agr, SA, Nat.reduceEqDiff, ↓reduceIte, wrap64, Int.natCast_add, Int.natCast_one, Int.natCast_zero, and_true, and_self]) ?_
  rintro k ⟨h1, h2⟩
  repeat' (first | refine w_seq ?_ | refine w_ops0 ?_ | refine w_ops1 ?_ | refine w_block ?_ | refine w_skip ?_ | refine w_exit ?_ | refine w_ret ?_ | refine a_n ?_ | refine a_x ?_ | refine a_r ?_ | refine o_nil ?_ | (apply o_val rfl rfl; (focus ((try simp (disch := omega) only [simB0, simB1, SA, SV, SN, SR, SL, pick_bool, Nat.reduceEqDiff, ↓reduceIte, Nat.reduceAdd, Nat.reduceLeDiff, SO, one_encV, one_encVV, Bool.and_self, Bool.false_eq_true, reduceCtorEq, wrap64, aixS_encV, aixS_encVV, alenS_encV, alenS_encVV, Int.toNat_natCast, List.length_map, aixS_msl, getElem?_map_lt, Nat.mul_one]); first | with_reducible rfl | (apply s_ite; (focus omega); with_reducible rfl)))) | (apply w_cond; (focus ((try simp only [simB0, simB1, SA, SV, SN, SR, SL, pick_bool, Nat.reduceEqDiff, ↓reduceIte, Nat.reduceAdd, Nat.reduceLeDiff]); (try with_reducible rfl); done)); all_goals (intro _hg; (try simp only [Bool.not_eq_true', Bool.not_eq_false', Bool.not_not, decide_eq_true_eq, decide_eq_false_iff_not] at _hg); try (exfalso; omega))) | (refine e_ends rfl ?_) | (apply r_1; (focus (simp only [rv, simB0, simB1, SA, SV, SN, SR, SL, pick_bool, Nat.reduceEqDiff, ↓reduceIte, Nat.reduceAdd, Nat.reduceLeDiff]; with_reducible rfl))))
  · refine snap_bool ?_
    symm; rw [decide_eq_false_iff_not]; rintro rfl; exact absurd rfl ‹_›
  · refine ⟨k + 1, ⟨by omega, fun i hi => ?_⟩, by omega, by simp (disch := omega) only [agr, SA, Nat.reduceEqDiff, ↓reduceIte, wrap64, Int.natCast_add, Int.natCast_one, Int.natCast_zero, and_true, and_self], rfl, rfl⟩
    rcases Nat.lt_succ_iff_lt_or_eq.1 hi with h | rfl
    · exact h2 i h
    · omega
  · refine snap_bool ?_
    symm; rw [decide_eq_true_iff]
    refine List.ext_getElem (by omega) (fun i h3 h4 => ?_)
    have := h2 i (by omega)
    simpa [List.getD, h3, h4] using this

theorem isNaN_c (n : Int) : Pure Try.prog 126 [.int .i64 n] (.bool false) := by
  refine Pure.of_c2 follows is126 (Nat.le_of_ble_eq_true rfl) ?_
  simp only [b126]
  repeat' (first | refine w_seq ?_ | refine w_ops0 ?_ | refine w_ret ?_ | refine a_n ?_ | refine o_nil ?_ | (apply o_val rfl rfl; (focus ((try simp (disch := omega) only [simB0, simB1, SA, SV, SN, SR, SL, pick_bool, Nat.reduceEqDiff, ↓reduceIte, Nat.reduceAdd, Nat.reduceLeDiff, SO, one_encV, one_encVV, Bool.and_self, Bool.false_eq_true, reduceCtorEq, wrap64, aixS_encV, aixS_encVV, alenS_encV, alenS_encVV, Int.toNat_natCast, List.length_map, aixS_msl, getElem?_map_lt, Nat.mul_one]); first | with_reducible rfl | (apply s_ite; (focus omega); with_reducible rfl)))) | (refine e_ends rfl ?_) | (apply r_1; (focus (simp only [rv, simB0, simB1, SA, SV, SN, SR, SL, pick_bool, Nat.reduceEqDiff, ↓reduceIte, Nat.reduceAdd, Nat.reduceLeDiff]; with_reducible rfl))))
  exact snap_bool (by simp)

theorem cmp_c (a b : Int) : Pure Try.prog 135 [.int .i64 a, .int .i64 b] (.int .i64 (if a < b then -1 else if a > b then 1 else 0)) := by
  refine Pure.of_c2 follows is135 (Nat.le_of_ble_eq_true rfl) ?_
  simp only [b135]
  repeat' (first | refine w_seq ?_ | refine w_ops0 ?_ | refine w_skip ?_ | refine w_ret ?_ | refine a_n ?_ | refine a_r ?_ | refine o_nil ?_ | (apply o_val rfl rfl; (focus ((try simp (disch := omega) only [simB0, simB1, SA, SV, SN, SR, SL, pick_bool, Nat.reduceEqDiff, ↓reduceIte, Nat.reduceAdd, Nat.reduceLeDiff, SO, one_encV, one_encVV, Bool.and_self, Bool.false_eq_true, reduceCtorEq, wrap64, aixS_encV, aixS_encVV, alenS_encV, alenS_encVV, Int.toNat_natCast, List.length_map, aixS_msl, getElem?_map_lt, Nat.mul_one, Bool.false_eq_true]); first | with_reducible rfl | (apply s_ite; (focus omega); with_reducible rfl)))) | (apply o_callD; (focus ((try simp only [simB0, simB1, SA, SV, SN, SR, SL, pick_bool, Nat.reduceEqDiff, ↓reduceIte, Nat.reduceAdd, Nat.reduceLeDiff, Bool.false_eq_true]); (try with_reducible rfl); done)); (focus ((try simp only [simB0, simB1, SA, SV, SN, SR, SL, pick_bool, Nat.reduceEqDiff, ↓reduceIte, Nat.reduceAdd, Nat.reduceLeDiff, Bool.false_eq_true]); (try with_reducible rfl); done)); (focus (first | (exact isNaN_c _))); (focus (first | (apply snap_data; repeat' (first | exact snapL_nil | apply snapL_dat | exact Dat.int | exact Dat.bool | exact Dat.str | exact Dat.esl | exact Dat.nilf | exact encV_dat _ | exact encVV_dat _)) | (apply snap_plain; (focus (repeat' (first | exact snapL_nil | apply snapL_dat | exact Dat.int | exact Dat.bool | exact Dat.str | exact encV_dat _ | exact encVV_dat _))); rfl)))) | (apply w_condF; (focus (simp only [simB0, simB1, SA, SV, SN, SR, SL, pick_bool, Nat.reduceEqDiff, ↓reduceIte, Nat.reduceAdd, Nat.reduceLeDiff, Bool.false_eq_true]; done))) | (apply w_cond; (focus ((try simp only [simB0, simB1, SA, SV, SN, SR, SL, pick_bool, Nat.reduceEqDiff, ↓reduceIte, Nat.reduceAdd, Nat.reduceLeDiff, Bool.false_eq_true]); (try with_reducible rfl); done)); all_goals (intro _hg; (try simp only [Bool.not_eq_true', Bool.not_eq_false', Bool.not_not, decide_eq_true_eq, decide_eq_false_iff_not] at _hg); try (exfalso; omega))) | (refine e_ends rfl ?_) | (apply r_1; (focus (simp only [rv, simB0, simB1, SA, SV, SN, SR, SL, pick_bool, Nat.reduceEqDiff, ↓reduceIte, Nat.reduceAdd, Nat.reduceLeDiff, Bool.false_eq_true]; with_reducible rfl))))
  all_goals (refine snap_int ?_)
  · rw [if_pos ‹_›]
  · rw [if_neg ‹_›, if_pos ‹_›]
  · rw [if_neg (by omega), if_neg (by omega)]

theorem compare_c (a b : List Int) (ha : Sh a) (hb : Sh b) : Pure Try.prog 119 [encV a, encV b] (.int .i64 (order a b)) := by
  refine Pure.of_c2 follows is119 (Nat.le_of_ble_eq_true rfl) ?_
  simp only [b119]
  repeat' (first | refine w_seq ?_ | refine w_ops0 ?_ | refine w_block ?_ | refine a_n ?_ | refine o_nil ?_ | (apply o_val rfl rfl; (focus ((try simp (disch := omega) only [simB0, simB1, SA, SV, SN, SR, SL, pick_bool, Nat.reduceEqDiff, ↓reduceIte, Nat.reduceAdd, Nat.reduceLeDiff, SO, one_encV, one_encVV, Bool.and_self, Bool.false_eq_true, reduceCtorEq, wrap64, aixS_encV, aixS_encVV, alenS_encV, alenS_encVV, Int.toNat_natCast, List.length_map, aixS_msl, getElem?_map_lt, Nat.mul_one]); first | with_reducible rfl | (apply s_ite; (focus omega); with_reducible rfl)))) | refine w_loop ?_)
  refine loop0 (X := Nat) (fun k => [(0, encV a), (1, encV b), (9, encV a), (10, .int .i64 a.length), (11, .int .i64 k)]) (fun k => k ≤ a.length ∧ k ≤ b.length ∧ order a b = order (a.drop k) (b.drop k)) (fun k => a.length - k) 0 ⟨Nat.zero_le _, Nat.zero_le _, rfl⟩ (by simp (disch := omega) only [agr, SA, Nat.reduceEqDiff, ↓reduceIte, wrap64, Int.natCast_add, Int.natCast_one, Int.natCast_zero, and_true, and_self]) ?_
  rintro k ⟨h1, h2, h3⟩
  repeat' (first | refine w_seq ?_ | refine w_ops0 ?_ | refine w_block ?_ | refine w_skip ?_ | refine w_exit ?_ | refine w_ret ?_ | refine a_n ?_ | refine a_x ?_ | refine a_r ?_ | refine o_nil ?_ | (apply o_val rfl rfl; (focus ((try simp (disch := omega) only [simB0, simB1, SA, SV, SN, SR, SL, pick_bool, Nat.reduceEqDiff, ↓reduceIte, Nat.reduceAdd, Nat.reduceLeDiff, SO, one_encV, one_encVV, Bool.and_self, Bool.false_eq_true, reduceCtorEq, wrap64, aixS_encV, aixS_encVV, alenS_encV, alenS_encVV, Int.toNat_natCast, List.length_map, aixS_msl, getElem?_map_lt, Nat.mul_one]); first | with_reducible rfl | (apply s_ite; (focus omega); with_reducible rfl)))) | (apply o_callD; (focus ((try simp only [simB0, simB1, SA, SV, SN, SR, SL, pick_bool, Nat.reduceEqDiff, ↓reduceIte, Nat.reduceAdd, Nat.reduceLeDiff]); (try with_reducible rfl); done)); (focus ((try simp only [simB0, simB1, SA, SV, SN, SR, SL, pick_bool, Nat.reduceEqDiff, ↓reduceIte, Nat.reduceAdd, Nat.reduceLeDiff]); (try with_reducible rfl); done)); (focus (first | (exact cmp_c _ _))); (focus (first | (apply snap_data; repeat' (first | exact snapL_nil | apply snapL_dat | exact Dat.int | exact Dat.bool | exact Dat.str | exact Dat.esl | exact Dat.nilf | exact encV_dat _ | exact encVV_dat _)) | (apply snap_plain; (focus (repeat' (first | exact snapL_nil | apply snapL_dat | exact Dat.int | exact Dat.bool | exact Dat.str | exact encV_dat _ | exact encVV_dat _))); rfl)))) | (apply w_cond; (focus ((try simp only [simB0, simB1, SA, SV, SN, SR, SL, pick_bool, Nat.reduceEqDiff, ↓reduceIte, Nat.reduceAdd, Nat.reduceLeDiff]); (try with_reducible rfl); done)); all_goals (intro _hg; (try simp only [Bool.not_eq_true', Bool.not_eq_false', Bool.not_not, decide_eq_true_eq, decide_eq_false_iff_not] at _hg); try (exfalso; omega))) | (refine e_ends rfl ?_) | (apply r_1; (focus (simp only [rv, simB0, simB1, SA, SV, SN, SR, SL, pick_bool, Nat.reduceEqDiff, ↓reduceIte, Nat.reduceAdd, Nat.reduceLeDiff]; with_reducible rfl))))
  · refine snap_int ?_
    rw [h3, List.drop_eq_nil_of_le (show b.length ≤ k by omega), drop_cons (l := a) (by omega)]; rfl
  · refine snap_int ?_
    rw [h3, drop_cons (l := a) (by omega), drop_cons (l := b) (by omega), order]
    split
    · rfl
    · rename_i h
      split
      · rfl
      · rename_i h'
        exact absurd (show (if a.getD k default < b.getD k default then (-1 : Int) else if a.getD k default > b.getD k default then 1 else 0) = 0 by rw [if_neg h, if_neg h']) ‹_›
  · refine ⟨k + 1, ⟨by omega, by omega, ?_⟩, by omega, by simp (disch := omega) only [agr, SA, Nat.reduceEqDiff, ↓reduceIte, wrap64, Int.natCast_add, Int.natCast_one, Int.natCast_zero, and_true, and_self], rfl, rfl⟩
    rw [h3, drop_cons (l := a) (by omega), drop_cons (l := b) (by omega), order]
    by_cases h : a.getD k default < b.getD k default
    · rw [if_pos h] at _hg; exact absurd (by decide) _hg
    · by_cases h' : a.getD k default > b.getD k default
      · rw [if_neg h, if_pos h'] at _hg; exact absurd (by decide) _hg
      · rw [if_neg h, if_neg h']
  · refine snap_int ?_
    rw [h3, List.drop_eq_nil_of_le (show a.length ≤ k by omega), drop_cons (l := b) (by omega)]; rfl
  · refine snap_int ?_
    rw [h3, List.drop_eq_nil_of_le (show a.length ≤ k by omega), List.drop_eq_nil_of_le (show b.length ≤ k by omega)]; rfl

end Go.Proofs.Ytcbkggfipdldaaa

/- P24: contracts of functions and plain laws; for all inputs that the theorems name. -/
set_option linter.unusedSimpArgs false
set_option linter.unusedVariables false
namespace Go.Proofs.Ytcbkggfipdldaaa
open Go Go.Abs
attribute [local irreducible] awp2 aops2 ains aloop athen bbind obind gbind acond res1 Go.Abs.Fn PCall Go.Abs.Pure SnapArgs SnapL Yl

/-! ### checks of tasks that are well-formed -/
theorem indexFV_c (l : List (List Int)) (p : List Int → Bool) (g : Nat) (caps : List AV) (hd : ∀ x ∈ caps, Dat x) (hg : ∀ x ∈ l, Pure Try.prog g (encV x :: caps) (.bool (p x))) (hl : Sh l) : Pure Try.prog 73 [encVV l, .func g caps] (.int .i64 (if l.any p then (l.findIdx p : Nat) else -1)) := by
  refine Pure.of_c2 follows is73 (Nat.le_of_ble_eq_true rfl) ?_
  simp only [b73]
  repeat' (first | refine w_seq ?_ | refine w_ops0 ?_ | refine w_block ?_ | refine a_n ?_ | refine o_nil ?_ | (apply o_val rfl rfl; (focus ((try simp (disch := omega) only [simB0, simB1, SA, SV, SN, SR, SL, pick_bool, Nat.reduceEqDiff, ↓reduceIte, Nat.reduceAdd, Nat.reduceLeDiff, SO, one_encV, one_encVV, Bool.and_self, Bool.false_eq_true, reduceCtorEq, wrap64, aixS_encV, aixS_encVV, alenS_encV, alenS_encVV, Int.toNat_natCast, List.length_map, aixS_msl, getElem?_map_lt, Nat.mul_one]); first | with_reducible rfl | (apply s_ite; (focus omega); with_reducible rfl)))) | refine w_loop ?_)
  refine loop0 (X := Nat) (fun k => [(0, encVV l), (1, .func g caps), (7, .int .i64 l.length), (8, .int .i64 k)]) (fun k => k ≤ l.length ∧ ∀ i, i < k → p (l.getD i default) = false) (fun k => l.length - k) 0 ⟨Nat.zero_le _, by simp⟩ (by simp (disch := omega) only [agr, SA, Nat.reduceEqDiff, ↓reduceIte, wrap64, Int.natCast_add, Int.natCast_one, Int.natCast_zero, and_true, and_self]) ?_
  rintro k ⟨h1, h2⟩
  repeat' (first | refine w_seq ?_ | refine w_ops0 ?_ | refine w_block ?_ | refine w_skip ?_ | refine w_exit ?_ | refine w_ret ?_ | refine a_n ?_ | refine a_x ?_ | refine a_r ?_ | refine o_nil ?_ | (apply o_val rfl rfl; (focus ((try simp (disch := omega) only [simB0, simB1, SA, SV, SN, SR, SL, pick_bool, Nat.reduceEqDiff, ↓reduceIte, Nat.reduceAdd, Nat.reduceLeDiff, SO, one_encV, one_encVV, Bool.and_self, Bool.false_eq_true, reduceCtorEq, wrap64, aixS_encV, aixS_encVV, alenS_encV, alenS_encVV, Int.toNat_natCast, List.length_map, aixS_msl, getElem?_map_lt, Nat.mul_one]); first | with_reducible rfl | (apply s_ite; (focus omega); with_reducible rfl)))) | (apply o_callD; (focus ((try simp only [simB0, simB1, SA, SV, SN, SR, SL, pick_bool, Nat.reduceEqDiff, ↓reduceIte, Nat.reduceAdd, Nat.reduceLeDiff]); (try with_reducible rfl); done)); (focus ((try simp only [simB0, simB1, SA, SV, SN, SR, SL, pick_bool, Nat.reduceEqDiff, ↓reduceIte, Nat.reduceAdd, Nat.reduceLeDiff]); (try with_reducible rfl); done)); (focus (first | (exact hg _ (mem_getD (by omega))))); (focus (first | (apply snap_data; repeat' (first | exact snapL_nil | apply snapL_dat | exact Dat.int | exact Dat.bool | exact Dat.str | exact Dat.esl | exact Dat.nilf | exact encV_dat _ | exact encVV_dat _ | exact snapL_datL hd)) | (apply snap_plain; (focus (repeat' (first | exact snapL_nil | apply snapL_dat | exact Dat.int | exact Dat.bool | exact Dat.str | exact encV_dat _ | exact encVV_dat _ | exact snapL_datL hd))); rfl)))) | (apply w_cond; (focus ((try simp only [simB0, simB1, SA, SV, SN, SR, SL, pick_bool, Nat.reduceEqDiff, ↓reduceIte, Nat.reduceAdd, Nat.reduceLeDiff]); (try with_reducible rfl); done)); all_goals (intro _hg; (try simp only [Bool.not_eq_true', Bool.not_eq_false', Bool.not_not, decide_eq_true_eq, decide_eq_false_iff_not] at _hg); try (exfalso; omega))) | (refine e_ends rfl ?_) | (apply r_1; (focus (simp only [rv, simB0, simB1, SA, SV, SN, SR, SL, pick_bool, Nat.reduceEqDiff, ↓reduceIte, Nat.reduceAdd, Nat.reduceLeDiff]; with_reducible rfl))))
  · refine snap_int ?_
    have hk : k < l.length := by omega
    have e : l.getD k default = l[k] := by simp [List.getD, hk]
    rw [e] at _hg
    have hm : l.any p = true := List.any_eq_true.2 ⟨l[k], List.getElem_mem hk, _hg⟩
    rw [if_pos hm, (List.findIdx_eq hk).2 ⟨_hg, fun j hj => by have := h2 j hj; rwa [show l.getD j default = l[j] by simp [List.getD, show j < l.length by omega]] at this⟩]
  · refine ⟨k + 1, ⟨by omega, fun i hi => ?_⟩, by omega, by simp (disch := omega) only [agr, SA, Nat.reduceEqDiff, ↓reduceIte, wrap64, Int.natCast_add, Int.natCast_one, Int.natCast_zero, and_true, and_self], rfl, rfl⟩
    rcases Nat.lt_succ_iff_lt_or_eq.1 hi with h | rfl
    · exact h2 i h
    · exact _hg
  · refine snap_int ?_
    rw [if_neg]
    rw [Bool.not_eq_true, List.any_eq_false]
    intro x hx
    obtain ⟨i, hi, e⟩ := List.getElem_of_mem hx
    have := h2 i (by omega)
    rw [show l.getD i default = x by simp [List.getD, hi, e]] at this
    simp [this]

theorem containsFV_c (l : List (List Int)) (p : List Int → Bool) (g : Nat) (caps : List AV) (hd : ∀ x ∈ caps, Dat x) (hg : ∀ x ∈ l, Pure Try.prog g (encV x :: caps) (.bool (p x))) (hl : Sh l) : Pure Try.prog 29 [encVV l, .func g caps] (.bool (l.any p)) := by
  refine Pure.of_c2 follows is29 (Nat.le_of_ble_eq_true rfl) ?_
  simp only [b29]
  repeat' (first | refine w_seq ?_ | refine w_ops0 ?_ | refine w_ret ?_ | refine a_n ?_ | refine o_nil ?_ | (apply o_val rfl rfl; (focus ((try simp (disch := omega) only [simB0, simB1, SA, SV, SN, SR, SL, pick_bool, Nat.reduceEqDiff, ↓reduceIte, Nat.reduceAdd, Nat.reduceLeDiff, SO, one_encV, one_encVV, Bool.and_self, Bool.false_eq_true, reduceCtorEq, wrap64, aixS_encV, aixS_encVV, alenS_encV, alenS_encVV, Int.toNat_natCast, List.length_map, aixS_msl, getElem?_map_lt, Nat.mul_one]); first | with_reducible rfl | (apply s_ite; (focus omega); with_reducible rfl)))) | (apply o_callD; (focus ((try simp only [simB0, simB1, SA, SV, SN, SR, SL, pick_bool, Nat.reduceEqDiff, ↓reduceIte, Nat.reduceAdd, Nat.reduceLeDiff]); (try with_reducible rfl); done)); (focus ((try simp only [simB0, simB1, SA, SV, SN, SR, SL, pick_bool, Nat.reduceEqDiff, ↓reduceIte, Nat.reduceAdd, Nat.reduceLeDiff]); (try with_reducible rfl); done)); (focus (first | (exact indexFV_c l p g caps hd hg hl))); (focus (first | (apply snap_data; repeat' (first | exact snapL_nil | apply snapL_dat | exact Dat.int | exact Dat.bool | exact Dat.str | exact Dat.esl | exact Dat.nilf | exact encV_dat _ | exact encVV_dat _ | exact Dat.func hd)) | (apply snap_plain; (focus (repeat' (first | exact snapL_nil | apply snapL_dat | exact Dat.int | exact Dat.bool | exact Dat.str | exact encV_dat _ | exact encVV_dat _ | exact Dat.func hd))); rfl)))) | (refine e_ends rfl ?_) | (apply r_1; (focus (simp only [rv, simB0, simB1, SA, SV, SN, SR, SL, pick_bool, Nat.reduceEqDiff, ↓reduceIte, Nat.reduceAdd, Nat.reduceLeDiff]; with_reducible rfl))))
  refine snap_bool ?_
  split <;> simp_all

theorem has1_c (v x : List Int) (hv : Sh v) (hx : Sh x) : Pure Try.prog 149 [encV x, .iptr [encV v] 0] (.bool (decide (x = v))) := by
  refine Pure.of_c2 follows is149 (Nat.le_of_ble_eq_true rfl) ?_
  simp only [b149]
  repeat' (first | refine w_seq ?_ | refine w_ops0 ?_ | refine w_ret ?_ | refine a_n ?_ | refine o_nil ?_ | (apply o_val rfl rfl; (focus ((try simp (disch := omega) only [simB0, simB1, SA, SV, SN, SR, SL, pick_bool, Nat.reduceEqDiff, ↓reduceIte, Nat.reduceAdd, Nat.reduceLeDiff, SO, one_encV, one_encVV, Bool.and_self, Bool.false_eq_true, reduceCtorEq, wrap64, aixS_encV, aixS_encVV, alenS_encV, alenS_encVV, Int.toNat_natCast, List.length_map, aixS_msl, getElem?_map_lt, Nat.mul_one]); first | with_reducible rfl | (apply s_ite; (focus omega); with_reducible rfl)))) | (apply o_callD; (focus ((try simp only [simB0, simB1, SA, SV, SN, SR, SL, pick_bool, Nat.reduceEqDiff, ↓reduceIte, Nat.reduceAdd, Nat.reduceLeDiff]); (try with_reducible rfl); done)); (focus ((try simp only [simB0, simB1, SA, SV, SN, SR, SL, pick_bool, Nat.reduceEqDiff, ↓reduceIte, Nat.reduceAdd, Nat.reduceLeDiff]); (try with_reducible rfl); done)); (focus (first | (exact equalV_c _ _ hx hv))); (focus (first | (apply snap_data; repeat' (first | exact snapL_nil | apply snapL_dat | exact Dat.int | exact Dat.bool | exact Dat.str | exact Dat.esl | exact Dat.nilf | exact encV_dat _ | exact encVV_dat _)) | (apply snap_plain; (focus (repeat' (first | exact snapL_nil | apply snapL_dat | exact Dat.int | exact Dat.bool | exact Dat.str | exact encV_dat _ | exact encVV_dat _))); rfl)))) | (refine e_ends rfl ?_) | (apply r_1; (focus (simp only [rv, simB0, simB1, SA, SV, SN, SR, SL, pick_bool, Nat.reduceEqDiff, ↓reduceIte, Nat.reduceAdd, Nat.reduceLeDiff]; with_reducible rfl))))
  exact .bool _

theorem has_c (l : List (List Int)) (v : List Int) (hl : Sh l) (hs : ∀ x ∈ l, Sh x) (hv : Sh v) : Pure Try.prog 137 [encVV l, encV v] (.bool (l.any fun x => decide (x = v))) := by
  refine Pure.of_c2 follows is137 (Nat.le_of_ble_eq_true rfl) ?_
  simp only [b137]
  repeat' (first | refine w_seq ?_ | refine w_ops0 ?_ | refine a_n ?_ | refine o_nil ?_ | (apply o_val rfl rfl; (focus ((try simp (disch := omega) only [simB0, simB1, SA, SV, SN, SR, SL, pick_bool, Nat.reduceEqDiff, ↓reduceIte, Nat.reduceAdd, Nat.reduceLeDiff, SO, one_encV, one_encVV, Bool.and_self, Bool.false_eq_true, reduceCtorEq, wrap64, aixS_encV, aixS_encVV, alenS_encV, alenS_encVV, Int.toNat_natCast, List.length_map, aixS_msl, getElem?_map_lt, Nat.mul_one]); first | with_reducible rfl | (apply s_ite; (focus omega); with_reducible rfl)))) | (apply e_box rfl; (focus ((try simp only [simB0, simB1, SA, SV, SN, SR, SL, pick_bool, Nat.reduceEqDiff, ↓reduceIte, Nat.reduceAdd, Nat.reduceLeDiff]); (try with_reducible rfl); done)); (focus ((try simp only [simB0, simB1, SA, SV, SN, SR, SL, pick_bool, Nat.reduceEqDiff, ↓reduceIte, Nat.reduceAdd, Nat.reduceLeDiff]); (try with_reducible rfl); done)); (focus (simp only [SO, Bool.and_self, one_encV, one_encVV]))))
  refine o_callP (by ((try simp only [simB0, simB1, SA, SV, SN, SR, SL, pick_bool, Nat.reduceEqDiff, ↓reduceIte, Nat.reduceAdd, Nat.reduceLeDiff]); (try with_reducible rfl))) (by ((try simp only [simB0, simB1, SA, SV, SN, SR, SL, pick_bool, Nat.reduceEqDiff, ↓reduceIte, Nat.reduceAdd, Nat.reduceLeDiff]); (try with_reducible rfl))) (containsFV_c l (fun x => decide (x = v)) 149 [.iptr [encV v] 0] (DatL.cons (Dat.iptr (DatL.cons (encV_dat _) DatL.nil)) DatL.nil) (fun x hx => has1_c v x hv (hs x hx)) hl) (snap_plain (by (repeat' (first | exact snapL_nil | exact Dat.snap Dat.int | exact Dat.snap Dat.bool | exact Dat.snap Dat.str | exact Dat.snap Dat.esl | exact Dat.snap Dat.nilf | exact Dat.snap (encV_dat _) | exact Dat.snap (encVV_dat _) | apply snapL_cons | apply snap_func | apply snap_iptr | (apply snap_ptr; (focus ((try simp only [simB0, simB1, SA, SV, SN, SR, SL, pick_bool, Nat.reduceEqDiff, ↓reduceIte, Nat.reduceAdd, Nat.reduceLeDiff]); with_reducible rfl)); (focus rfl))))) rfl) ?_
  repeat' (first | refine w_ret ?_ | refine a_n ?_ | refine o_nil ?_ | (apply o_val rfl rfl; (focus ((try simp (disch := omega) only [simB0, simB1, SA, SV, SN, SR, SL, pick_bool, Nat.reduceEqDiff, ↓reduceIte, Nat.reduceAdd, Nat.reduceLeDiff, SO, one_encV, one_encVV, Bool.and_self, Bool.false_eq_true, reduceCtorEq, wrap64, aixS_encV, aixS_encVV, alenS_encV, alenS_encVV, Int.toNat_natCast, List.length_map, aixS_msl, getElem?_map_lt, Nat.mul_one]); first | with_reducible rfl | (apply s_ite; (focus omega); with_reducible rfl)))) | (refine e_ends rfl ?_) | (apply r_1; (focus (simp only [rv, simB0, simB1, SA, SV, SN, SR, SL, pick_bool, Nat.reduceEqDiff, ↓reduceIte, Nat.reduceAdd, Nat.reduceLeDiff]; with_reducible rfl))))
  exact .bool _

theorem vector1_c (x most : Int) : Pure Try.prog 134 [.int .i64 x, .iptr [.int .i64 most] 0] (.bool (decide (x < 0 ∨ most ≤ x))) := by
  refine Pure.of_c2 follows is134 (Nat.le_of_ble_eq_true rfl) ?_
  simp only [b134]
  repeat' (first | refine w_seq ?_ | refine w_ops0 ?_ | refine w_ret ?_ | refine a_n ?_ | refine o_nil ?_ | (apply o_val rfl rfl; (focus ((try simp (disch := omega) only [simB0, simB1, SA, SV, SN, SR, SL, pick_bool, Nat.reduceEqDiff, ↓reduceIte, Nat.reduceAdd, Nat.reduceLeDiff, SO, one_encV, one_encVV, Bool.and_self, Bool.false_eq_true, reduceCtorEq, wrap64, aixS_encV, aixS_encVV, alenS_encV, alenS_encVV, Int.toNat_natCast, List.length_map, aixS_msl, getElem?_map_lt, Nat.mul_one]); first | with_reducible rfl | (apply s_ite; (focus omega); with_reducible rfl)))) | (apply o_gT; (focus (simp only [simB0, simB1, SA, SV, SN, SR, SL, pick_bool, Nat.reduceEqDiff, ↓reduceIte, Nat.reduceAdd, Nat.reduceLeDiff]; done))) | (apply o_gF; (focus (simp only [simB0, simB1, SA, SV, SN, SR, SL, pick_bool, Nat.reduceEqDiff, ↓reduceIte, Nat.reduceAdd, Nat.reduceLeDiff, or_true, true_or]; done))) | (apply o_gB; (focus ((try simp only [simB0, simB1, SA, SV, SN, SR, SL, pick_bool, Nat.reduceEqDiff, ↓reduceIte, Nat.reduceAdd, Nat.reduceLeDiff]); (try with_reducible rfl); done)); all_goals (intro _hg; (try simp only [Bool.not_true, Bool.not_false, Bool.not_eq_true', Bool.not_eq_false', Bool.not_not, decide_eq_true_eq, decide_eq_false_iff_not] at _hg); try (exfalso; omega))) | (refine e_ends rfl ?_) | (apply r_1; (focus (simp only [rv, simB0, simB1, SA, SV, SN, SR, SL, pick_bool, Nat.reduceEqDiff, ↓reduceIte, Nat.reduceAdd, Nat.reduceLeDiff]; with_reducible rfl))))
  all_goals (refine snap_bool ?_)
  · exact decide_eq_decide.2 (by omega)
  · rw [decide_eq_true (by omega)]

def goodV (n most : Int) (v : List Int) : Bool := decide ((v.length : Int) = n) && v.all fun x => decide (0 ≤ x ∧ x < most)
theorem vector_c (v : List Int) (n most : Int) (hv : Sh v) (hg : goodV n most v = true) : Pure Try.prog 118 [encV v, .int .i64 n, .int .i64 most] (.int .i64 0) := by
  refine Pure.of_c2 follows is118 (Nat.le_of_ble_eq_true rfl) ?_
  simp only [b118]
  unfold goodV at hg
  rw [Bool.and_eq_true, decide_eq_true_iff, List.all_eq_true] at hg
  obtain ⟨h1, h2⟩ := hg
  repeat' (first | refine w_seq ?_ | refine w_ops0 ?_ | refine w_skip ?_ | refine a_n ?_ | refine o_nil ?_ | (apply o_val rfl rfl; (focus ((try simp (disch := omega) only [simB0, simB1, SA, SV, SN, SR, SL, pick_bool, Nat.reduceEqDiff, ↓reduceIte, Nat.reduceAdd, Nat.reduceLeDiff, SO, one_encV, one_encVV, Bool.and_self, Bool.false_eq_true, reduceCtorEq, wrap64, aixS_encV, aixS_encVV, alenS_encV, alenS_encVV, Int.toNat_natCast, List.length_map, aixS_msl, getElem?_map_lt, Nat.mul_one]); first | with_reducible rfl | (apply s_ite; (focus omega); with_reducible rfl)))) | (apply e_box rfl; (focus ((try simp only [simB0, simB1, SA, SV, SN, SR, SL, pick_bool, Nat.reduceEqDiff, ↓reduceIte, Nat.reduceAdd, Nat.reduceLeDiff]); (try with_reducible rfl); done)); (focus ((try simp only [simB0, simB1, SA, SV, SN, SR, SL, pick_bool, Nat.reduceEqDiff, ↓reduceIte, Nat.reduceAdd, Nat.reduceLeDiff]); (try with_reducible rfl); done)); (focus (simp only [SO, Bool.and_self, one_encV, one_encVV]))) | (apply w_cond; (focus ((try simp only [simB0, simB1, SA, SV, SN, SR, SL, pick_bool, Nat.reduceEqDiff, ↓reduceIte, Nat.reduceAdd, Nat.reduceLeDiff]); (try with_reducible rfl); done)); all_goals (intro _hg; (try simp only [Bool.not_eq_true', Bool.not_eq_false', Bool.not_not, decide_eq_true_eq, decide_eq_false_iff_not] at _hg); try (exfalso; omega))))
  refine o_callP (by ((try simp only [simB0, simB1, SA, SV, SN, SR, SL, pick_bool, Nat.reduceEqDiff, ↓reduceIte, Nat.reduceAdd, Nat.reduceLeDiff]); (try with_reducible rfl))) (by ((try simp only [simB0, simB1, SA, SV, SN, SR, SL, pick_bool, Nat.reduceEqDiff, ↓reduceIte, Nat.reduceAdd, Nat.reduceLeDiff]); (try with_reducible rfl))) (containsF_c v (fun x => decide (x < 0 ∨ most ≤ x)) 134 [.iptr [.int .i64 most] 0] (DatL.cons (Dat.iptr (DatL.cons .int DatL.nil)) DatL.nil) (fun x _ => vector1_c x most) hv) (snap_plain (by (repeat' (first | exact snapL_nil | exact Dat.snap Dat.int | exact Dat.snap Dat.bool | exact Dat.snap Dat.str | exact Dat.snap Dat.esl | exact Dat.snap Dat.nilf | exact Dat.snap (encV_dat _) | exact Dat.snap (encVV_dat _) | apply snapL_cons | apply snap_func | apply snap_iptr | (apply snap_ptr; (focus ((try simp only [simB0, simB1, SA, SV, SN, SR, SL, pick_bool, Nat.reduceEqDiff, ↓reduceIte, Nat.reduceAdd, Nat.reduceLeDiff]); with_reducible rfl)); (focus rfl))))) rfl) ?_
  have hn : (v.any fun x => decide (x < 0 ∨ most ≤ x)) = false := by
    rw [List.any_eq_false]
    intro x hx
    have := h2 x hx
    rw [decide_eq_true_iff] at this ⊢
    omega
  rw [hn]
  repeat' (first | refine w_seq ?_ | refine w_ops0 ?_ | refine w_skip ?_ | refine w_ret ?_ | refine a_n ?_ | refine o_nil ?_ | (apply o_val rfl rfl; (focus ((try simp (disch := omega) only [simB0, simB1, SA, SV, SN, SR, SL, pick_bool, Nat.reduceEqDiff, ↓reduceIte, Nat.reduceAdd, Nat.reduceLeDiff, SO, one_encV, one_encVV, Bool.and_self, Bool.false_eq_true, reduceCtorEq, wrap64, aixS_encV, aixS_encVV, alenS_encV, alenS_encVV, Int.toNat_natCast, List.length_map, aixS_msl, getElem?_map_lt, Nat.mul_one, Bool.false_eq_true]); first | with_reducible rfl | (apply s_ite; (focus omega); with_reducible rfl)))) | (apply w_condF; (focus (simp only [simB0, simB1, SA, SV, SN, SR, SL, pick_bool, Nat.reduceEqDiff, ↓reduceIte, Nat.reduceAdd, Nat.reduceLeDiff, Bool.false_eq_true]; done))) | (refine e_ends rfl ?_) | (apply r_1; (focus (simp only [rv, simB0, simB1, SA, SV, SN, SR, SL, pick_bool, Nat.reduceEqDiff, ↓reduceIte, Nat.reduceAdd, Nat.reduceLeDiff, Bool.false_eq_true]; with_reducible rfl))))
  all_goals exact .int _ _

theorem unordered_c (l : List (List Int)) (i : Nat) (hi : i < l.length) (hl : Sh l) (hs : ∀ x ∈ l, Sh x) : Pure Try.prog 136 [encVV l, .int .i64 i] (.bool (decide (0 < i) && decide (0 ≤ order (l.getD (i - 1) default) (l.getD i default)))) := by
  refine Pure.of_c2 follows is136 (Nat.le_of_ble_eq_true rfl) ?_
  simp only [b136]
  by_cases h0 : i = 0
  · subst h0
    repeat' (first | refine w_seq ?_ | refine w_ops0 ?_ | refine w_ops1 ?_ | refine w_ret ?_ | refine a_n ?_ | refine o_nil ?_ | (apply o_val rfl rfl; (focus ((try simp (disch := omega) only [simB0, simB1, SA, SV, SN, SR, SL, pick_bool, Nat.reduceEqDiff, ↓reduceIte, Nat.reduceAdd, Nat.reduceLeDiff, SO, one_encV, one_encVV, Bool.and_self, Bool.false_eq_true, reduceCtorEq, wrap64, aixS_encV, aixS_encVV, alenS_encV, alenS_encVV, Int.toNat_natCast, List.length_map, aixS_msl, getElem?_map_lt, Nat.mul_one, show ((0 : Nat) : Int) = 0 from rfl]); first | with_reducible rfl | (apply s_ite; (focus omega); with_reducible rfl)))) | (apply o_gF; (focus (simp only [simB0, simB1, SA, SV, SN, SR, SL, pick_bool, Nat.reduceEqDiff, ↓reduceIte, Nat.reduceAdd, Nat.reduceLeDiff, or_true, true_or, show ((0 : Nat) : Int) = 0 from rfl]; done))) | (apply o_gB; (focus ((try simp only [simB0, simB1, SA, SV, SN, SR, SL, pick_bool, Nat.reduceEqDiff, ↓reduceIte, Nat.reduceAdd, Nat.reduceLeDiff, show ((0 : Nat) : Int) = 0 from rfl]); (try with_reducible rfl); done)); all_goals (intro _hg; (try simp only [Bool.not_true, Bool.not_false, Bool.not_eq_true', Bool.not_eq_false', Bool.not_not, decide_eq_true_eq, decide_eq_false_iff_not] at _hg); try (exfalso; omega))) | (refine e_ends rfl ?_) | (apply r_1; (focus (simp only [rv, simB0, simB1, SA, SV, SN, SR, SL, pick_bool, Nat.reduceEqDiff, ↓reduceIte, Nat.reduceAdd, Nat.reduceLeDiff, show ((0 : Nat) : Int) = 0 from rfl]; with_reducible rfl))))
    exact snap_bool (by simp)
  · have e : ((i : Int) - 1).toNat = i - 1 := by omega
    have hc := compare_c (l.getD (i - 1) default) (l.getD i default) (hs _ (mem_getD (by omega))) (hs _ (mem_getD (by omega)))
    repeat' (first | refine w_seq ?_ | refine w_ops0 ?_ | refine w_ops1 ?_ | refine w_ret ?_ | refine a_n ?_ | refine o_nil ?_ | (apply o_val rfl rfl; (focus ((try simp (disch := omega) only [simB0, simB1, SA, SV, SN, SR, SL, pick_bool, Nat.reduceEqDiff, ↓reduceIte, Nat.reduceAdd, Nat.reduceLeDiff, SO, one_encV, one_encVV, Bool.and_self, Bool.false_eq_true, reduceCtorEq, wrap64, aixS_encV, aixS_encVV, alenS_encV, alenS_encVV, Int.toNat_natCast, List.length_map, aixS_msl, getElem?_map_lt, Nat.mul_one, e]); first | with_reducible rfl | (apply s_ite; (focus omega); with_reducible rfl)))) | (apply o_callD; (focus ((try simp only [simB0, simB1, SA, SV, SN, SR, SL, pick_bool, Nat.reduceEqDiff, ↓reduceIte, Nat.reduceAdd, Nat.reduceLeDiff, e]); (try with_reducible rfl); done)); (focus ((try simp only [simB0, simB1, SA, SV, SN, SR, SL, pick_bool, Nat.reduceEqDiff, ↓reduceIte, Nat.reduceAdd, Nat.reduceLeDiff, e]); (try with_reducible rfl); done)); (focus (first | (exact hc))); (focus (first | (apply snap_data; repeat' (first | exact snapL_nil | apply snapL_dat | exact Dat.int | exact Dat.bool | exact Dat.str | exact Dat.esl | exact Dat.nilf | exact encV_dat _ | exact encVV_dat _)) | (apply snap_plain; (focus (repeat' (first | exact snapL_nil | apply snapL_dat | exact Dat.int | exact Dat.bool | exact Dat.str | exact encV_dat _ | exact encVV_dat _))); rfl)))) | (apply o_gT; (focus (simp only [simB0, simB1, SA, SV, SN, SR, SL, pick_bool, Nat.reduceEqDiff, ↓reduceIte, Nat.reduceAdd, Nat.reduceLeDiff, e]; done))) | (apply o_gB; (focus ((try simp only [simB0, simB1, SA, SV, SN, SR, SL, pick_bool, Nat.reduceEqDiff, ↓reduceIte, Nat.reduceAdd, Nat.reduceLeDiff, e]); (try with_reducible rfl); done)); all_goals (intro _hg; (try simp only [Bool.not_true, Bool.not_false, Bool.not_eq_true', Bool.not_eq_false', Bool.not_not, decide_eq_true_eq, decide_eq_false_iff_not] at _hg); try (exfalso; omega))) | (refine e_ends rfl ?_) | (apply r_1; (focus (simp only [rv, simB0, simB1, SA, SV, SN, SR, SL, pick_bool, Nat.reduceEqDiff, ↓reduceIte, Nat.reduceAdd, Nat.reduceLeDiff, e]; with_reducible rfl))))
    refine snap_bool ?_
    rw [decide_eq_true (show 0 < i by omega), Bool.true_and]

def sortedB (l : List (List Int)) : Bool := (List.range l.length).all fun i => !(decide (0 < i) && decide (0 ≤ order (l.getD (i - 1) default) (l.getD i default)))
theorem sortedB_at {l : List (List Int)} (h : sortedB l = true) {i : Nat} (hi : i < l.length) : (decide (0 < i) && decide (0 ≤ order (l.getD (i - 1) default) (l.getD i default))) = false := by
  unfold sortedB at h
  rw [List.all_eq_true] at h
  have := h i (List.mem_range.2 hi)
  rwa [Bool.not_eq_true'] at this
def goodC (n outs : Int) (c : CaseV) : Bool := decide (1 ≤ c.out.length ∧ c.out.length ≤ 1024) && c.out.all (goodV n outs) && sortedB c.out && c.calm.all (fun v => c.out.any fun x => decide (x = v)) && sortedB c.calm
theorem vectorsK_c (n ins outs : Int) (cs : AV) (hcs : Dat cs ∧ cs.cells = [cs] ∧ cs.one = true) (c : CaseV) (hs : ShC c) (hg : goodC n outs c = true) : Pure Try.prog 120 [.agg [.int .i64 n, .int .i64 ins, .int .i64 outs, cs], .agg [encV c.inp, encVV c.out, encVV c.calm]] (.int .i64 0) := by
  refine Pure.of_c2 follows is120 (Nat.le_of_ble_eq_true rfl) ?_
  simp only [b120]
  obtain ⟨hc1, hc2, hc3⟩ := hcs
  obtain ⟨s1, s2, s3, s4, s5⟩ := hs
  unfold goodC at hg
  simp only [Bool.and_eq_true, decide_eq_true_iff, List.all_eq_true] at hg
  obtain ⟨⟨⟨⟨g1, g2⟩, g3⟩, g4⟩, g5⟩ := hg
  repeat' (first | refine w_seq ?_ | refine w_ops0 ?_ | refine w_block ?_ | refine w_skip ?_ | refine a_n ?_ | refine o_nil ?_ | (apply o_val rfl rfl; (focus ((try simp (disch := omega) only [simB0, simB1, SA, SV, SN, SR, SL, pick_bool, Nat.reduceEqDiff, ↓reduceIte, Nat.reduceAdd, Nat.reduceLeDiff, SO, one_encV, one_encVV, Bool.and_self, Bool.false_eq_true, reduceCtorEq, wrap64, aixS_encV, aixS_encVV, alenS_encV, alenS_encVV, Int.toNat_natCast, List.length_map, aixS_msl, getElem?_map_lt, Nat.mul_one, hc2, hc3]); first | with_reducible rfl | (apply s_ite; (focus omega); with_reducible rfl)))) | (apply e_box rfl; (focus ((try simp only [simB0, simB1, SA, SV, SN, SR, SL, pick_bool, Nat.reduceEqDiff, ↓reduceIte, Nat.reduceAdd, Nat.reduceLeDiff, hc2, hc3]); (try with_reducible rfl); done)); (focus ((try simp only [simB0, simB1, SA, SV, SN, SR, SL, pick_bool, Nat.reduceEqDiff, ↓reduceIte, Nat.reduceAdd, Nat.reduceLeDiff, hc2, hc3]); (try with_reducible rfl); done)); (focus (simp only [SO, Bool.and_self, one_encV, one_encVV, hc2, hc3]))) | (apply o_gT; (focus (simp only [simB0, simB1, SA, SV, SN, SR, SL, pick_bool, Nat.reduceEqDiff, ↓reduceIte, Nat.reduceAdd, Nat.reduceLeDiff, hc2, hc3]; done))) | (apply o_gB; (focus ((try simp only [simB0, simB1, SA, SV, SN, SR, SL, pick_bool, Nat.reduceEqDiff, ↓reduceIte, Nat.reduceAdd, Nat.reduceLeDiff, hc2, hc3]); (try with_reducible rfl); done)); all_goals (intro _hg; (try simp only [Bool.not_true, Bool.not_false, Bool.not_eq_true', Bool.not_eq_false', Bool.not_not, decide_eq_true_eq, decide_eq_false_iff_not] at _hg); try (exfalso; omega))) | (apply w_cond; (focus ((try simp only [simB0, simB1, SA, SV, SN, SR, SL, pick_bool, Nat.reduceEqDiff, ↓reduceIte, Nat.reduceAdd, Nat.reduceLeDiff, hc2, hc3]); (try with_reducible rfl); done)); all_goals (intro _hg; (try simp only [Bool.not_eq_true', Bool.not_eq_false', Bool.not_not, decide_eq_true_eq, decide_eq_false_iff_not] at _hg); try (exfalso; omega))) | refine w_loop ?_)
  refine loop0 (X := Nat) (fun k => [(2, .ptr 0 4 0), (3, .ptr 1 3 0), (21, encVV c.out), (22, .int .i64 c.out.length), (23, .int .i64 k)]) (fun k => k ≤ c.out.length) (fun k => c.out.length - k) 0 (Nat.zero_le _) (by simp (disch := omega) only [agr, SA, Nat.reduceEqDiff, ↓reduceIte, wrap64, Int.natCast_add, Int.natCast_one, Int.natCast_zero, and_true, and_self, List.length_cons, List.length_nil, Nat.reduceAdd, Nat.zero_add]) ?_
  rintro k hk
  by_cases hj : k < c.out.length
  · have hm := mem_getD hj
    have hv := vector_c (c.out.getD k default) n outs (s3 _ hm) (g2 _ hm)
    have hu := unordered_c c.out k hj s2 s3
    rw [sortedB_at g3 hj] at hu
    repeat' (first | refine w_seq ?_ | refine w_ops0 ?_ | refine w_block ?_ | refine w_skip ?_ | refine a_n ?_ | refine o_nil ?_ | (apply o_val rfl rfl; (focus ((try simp (disch := omega) only [simB0, simB1, SA, SV, SN, SR, SL, pick_bool, Nat.reduceEqDiff, ↓reduceIte, Nat.reduceAdd, Nat.reduceLeDiff, SO, one_encV, one_encVV, Bool.and_self, Bool.false_eq_true, reduceCtorEq, wrap64, aixS_encV, aixS_encVV, alenS_encV, alenS_encVV, Int.toNat_natCast, List.length_map, aixS_msl, getElem?_map_lt, Nat.mul_one, hc2, hc3, Bool.false_eq_true]); first | with_reducible rfl | (apply s_ite; (focus omega); with_reducible rfl)))) | (apply o_callD; (focus ((try simp only [simB0, simB1, SA, SV, SN, SR, SL, pick_bool, Nat.reduceEqDiff, ↓reduceIte, Nat.reduceAdd, Nat.reduceLeDiff, hc2, hc3, Bool.false_eq_true]); (try with_reducible rfl); done)); (focus ((try simp only [simB0, simB1, SA, SV, SN, SR, SL, pick_bool, Nat.reduceEqDiff, ↓reduceIte, Nat.reduceAdd, Nat.reduceLeDiff, hc2, hc3, Bool.false_eq_true]); (try with_reducible rfl); done)); (focus (first | (exact hv) | (exact hu))); (focus (first | (apply snap_data; repeat' (first | exact snapL_nil | apply snapL_dat | exact Dat.int | exact Dat.bool | exact Dat.str | exact Dat.esl | exact Dat.nilf | exact encV_dat _ | exact encVV_dat _)) | (apply snap_plain; (focus (repeat' (first | exact snapL_nil | apply snapL_dat | exact Dat.int | exact Dat.bool | exact Dat.str | exact encV_dat _ | exact encVV_dat _))); rfl)))) | (apply w_condF; (focus (simp only [simB0, simB1, SA, SV, SN, SR, SL, pick_bool, Nat.reduceEqDiff, ↓reduceIte, Nat.reduceAdd, Nat.reduceLeDiff, hc2, hc3, Bool.false_eq_true]; done))) | (apply w_cond; (focus ((try simp only [simB0, simB1, SA, SV, SN, SR, SL, pick_bool, Nat.reduceEqDiff, ↓reduceIte, Nat.reduceAdd, Nat.reduceLeDiff, hc2, hc3, Bool.false_eq_true]); (try with_reducible rfl); done)); all_goals (intro _hg; (try simp only [Bool.not_eq_true', Bool.not_eq_false', Bool.not_not, decide_eq_true_eq, decide_eq_false_iff_not] at _hg); try (exfalso; omega))))
    exact ⟨k + 1, by omega, by omega, by simp (disch := omega) only [agr, SA, Nat.reduceEqDiff, ↓reduceIte, wrap64, Int.natCast_add, Int.natCast_one, Int.natCast_zero, and_true, and_self], rfl, rfl⟩
  · repeat' (first | refine w_seq ?_ | refine w_ops0 ?_ | refine w_block ?_ | refine w_exit ?_ | refine a_n ?_ | refine a_x ?_ | refine o_nil ?_ | (apply o_val rfl rfl; (focus ((try simp (disch := omega) only [simB0, simB1, SA, SV, SN, SR, SL, pick_bool, Nat.reduceEqDiff, ↓reduceIte, Nat.reduceAdd, Nat.reduceLeDiff, SO, one_encV, one_encVV, Bool.and_self, Bool.false_eq_true, reduceCtorEq, wrap64, aixS_encV, aixS_encVV, alenS_encV, alenS_encVV, Int.toNat_natCast, List.length_map, aixS_msl, getElem?_map_lt, Nat.mul_one, hc2, hc3]); first | with_reducible rfl | (apply s_ite; (focus omega); with_reducible rfl)))) | (apply w_cond; (focus ((try simp only [simB0, simB1, SA, SV, SN, SR, SL, pick_bool, Nat.reduceEqDiff, ↓reduceIte, Nat.reduceAdd, Nat.reduceLeDiff, hc2, hc3]); (try with_reducible rfl); done)); all_goals (intro _hg; (try simp only [Bool.not_eq_true', Bool.not_eq_false', Bool.not_not, decide_eq_true_eq, decide_eq_false_iff_not] at _hg); try (exfalso; omega))) | refine w_loop ?_)
    refine loop0 (X := Nat) (fun k => [(2, .ptr 0 4 0), (3, .ptr 1 3 0), (43, encVV c.calm), (44, .int .i64 c.calm.length), (45, .int .i64 k)]) (fun k => k ≤ c.calm.length) (fun k => c.calm.length - k) 0 (Nat.zero_le _) (by simp (disch := omega) only [agr, SA, Nat.reduceEqDiff, ↓reduceIte, wrap64, Int.natCast_add, Int.natCast_one, Int.natCast_zero, and_true, and_self]) ?_
    rintro k hk
    by_cases hj : k < c.calm.length
    · have hm := mem_getD hj
      have hv := has_c c.out (c.calm.getD k default) s2 s3 (s5 _ hm)
      rw [g4 _ hm] at hv
      have hu := unordered_c c.calm k hj s4 s5
      rw [sortedB_at g5 hj] at hu
      repeat' (first | refine w_seq ?_ | refine w_ops0 ?_ | refine w_block ?_ | refine w_skip ?_ | refine a_n ?_ | refine o_nil ?_ | (apply o_val rfl rfl; (focus ((try simp (disch := omega) only [simB0, simB1, SA, SV, SN, SR, SL, pick_bool, Nat.reduceEqDiff, ↓reduceIte, Nat.reduceAdd, Nat.reduceLeDiff, SO, one_encV, one_encVV, Bool.and_self, Bool.false_eq_true, reduceCtorEq, wrap64, aixS_encV, aixS_encVV, alenS_encV, alenS_encVV, Int.toNat_natCast, List.length_map, aixS_msl, getElem?_map_lt, Nat.mul_one, hc2, hc3, Bool.false_eq_true]); first | with_reducible rfl | (apply s_ite; (focus omega); with_reducible rfl)))) | (apply o_callD; (focus ((try simp only [simB0, simB1, SA, SV, SN, SR, SL, pick_bool, Nat.reduceEqDiff, ↓reduceIte, Nat.reduceAdd, Nat.reduceLeDiff, hc2, hc3, Bool.false_eq_true]); (try with_reducible rfl); done)); (focus ((try simp only [simB0, simB1, SA, SV, SN, SR, SL, pick_bool, Nat.reduceEqDiff, ↓reduceIte, Nat.reduceAdd, Nat.reduceLeDiff, hc2, hc3, Bool.false_eq_true]); (try with_reducible rfl); done)); (focus (first | (exact hv) | (exact hu))); (focus (first | (apply snap_data; repeat' (first | exact snapL_nil | apply snapL_dat | exact Dat.int | exact Dat.bool | exact Dat.str | exact Dat.esl | exact Dat.nilf | exact encV_dat _ | exact encVV_dat _)) | (apply snap_plain; (focus (repeat' (first | exact snapL_nil | apply snapL_dat | exact Dat.int | exact Dat.bool | exact Dat.str | exact encV_dat _ | exact encVV_dat _))); rfl)))) | (apply w_condF; (focus (simp only [simB0, simB1, SA, SV, SN, SR, SL, pick_bool, Nat.reduceEqDiff, ↓reduceIte, Nat.reduceAdd, Nat.reduceLeDiff, hc2, hc3, Bool.false_eq_true]; done))) | (apply w_cond; (focus ((try simp only [simB0, simB1, SA, SV, SN, SR, SL, pick_bool, Nat.reduceEqDiff, ↓reduceIte, Nat.reduceAdd, Nat.reduceLeDiff, hc2, hc3, Bool.false_eq_true]); (try with_reducible rfl); done)); all_goals (intro _hg; (try simp only [Bool.not_eq_true', Bool.not_eq_false', Bool.not_not, decide_eq_true_eq, decide_eq_false_iff_not] at _hg); try (exfalso; omega))))
      exact ⟨k + 1, by omega, by omega, by simp (disch := omega) only [agr, SA, Nat.reduceEqDiff, ↓reduceIte, wrap64, Int.natCast_add, Int.natCast_one, Int.natCast_zero, and_true, and_self], rfl, rfl⟩
    · repeat' (first | refine w_seq ?_ | refine w_ops0 ?_ | refine w_exit ?_ | refine w_ret ?_ | refine a_n ?_ | refine a_x ?_ | refine o_nil ?_ | (apply o_val rfl rfl; (focus ((try simp (disch := omega) only [simB0, simB1, SA, SV, SN, SR, SL, pick_bool, Nat.reduceEqDiff, ↓reduceIte, Nat.reduceAdd, Nat.reduceLeDiff, SO, one_encV, one_encVV, Bool.and_self, Bool.false_eq_true, reduceCtorEq, wrap64, aixS_encV, aixS_encVV, alenS_encV, alenS_encVV, Int.toNat_natCast, List.length_map, aixS_msl, getElem?_map_lt, Nat.mul_one, hc2, hc3]); first | with_reducible rfl | (apply s_ite; (focus omega); with_reducible rfl)))) | (apply w_cond; (focus ((try simp only [simB0, simB1, SA, SV, SN, SR, SL, pick_bool, Nat.reduceEqDiff, ↓reduceIte, Nat.reduceAdd, Nat.reduceLeDiff, hc2, hc3]); (try with_reducible rfl); done)); all_goals (intro _hg; (try simp only [Bool.not_eq_true', Bool.not_eq_false', Bool.not_not, decide_eq_true_eq, decide_eq_false_iff_not] at _hg); try (exfalso; omega))) | (refine e_ends rfl ?_) | (apply r_1; (focus (simp only [rv, simB0, simB1, SA, SV, SN, SR, SL, pick_bool, Nat.reduceEqDiff, ↓reduceIte, Nat.reduceAdd, Nat.reduceLeDiff, hc2, hc3]; with_reducible rfl))))
      exact .int _ _

def goodT (t : TaskV) : Bool := decide (1 ≤ t.n ∧ t.n ≤ 5 ∧ 1 ≤ t.ins ∧ t.ins ≤ 8 ∧ 1 ≤ t.outs ∧ t.outs ≤ 8 ∧ 1 ≤ t.cases.length ∧ t.cases.length ≤ 1024) && t.cases.all (fun c => goodV t.n t.ins c.inp && goodC t.n t.outs c) && sortedB (t.cases.map CaseV.inp)
theorem check_c (t : TaskV) (hs : ∀ c ∈ t.cases, ShC c) (hg : goodT t = true) : Pure Try.prog 96 [encT t] (.int .i64 0) := by
  refine Pure.of_c2 follows is96 (Nat.le_of_ble_eq_true rfl) ?_
  simp only [b96]
  unfold goodT at hg
  simp only [Bool.and_eq_true, decide_eq_true_iff, List.all_eq_true] at hg
  obtain ⟨⟨⟨g1, g2, g3, g4, g5, g6, g7, g8⟩, g9⟩, g10⟩ := hg
  unfold encT
  repeat' (first | refine w_seq ?_ | refine w_ops0 ?_ | refine w_block ?_ | refine w_skip ?_ | refine a_n ?_ | refine o_nil ?_ | (apply o_val rfl rfl; (focus ((try simp (disch := omega) only [simB0, simB1, SA, SV, SN, SR, SL, pick_bool, Nat.reduceEqDiff, ↓reduceIte, Nat.reduceAdd, Nat.reduceLeDiff, SO, one_encV, one_encVV, Bool.and_self, Bool.false_eq_true, reduceCtorEq, wrap64, aixS_encV, aixS_encVV, alenS_encV, alenS_encVV, Int.toNat_natCast, List.length_map, aixS_msl, getElem?_map_lt, Nat.mul_one, encCs_one, encCs_cells, alenS_encCs]); first | with_reducible rfl | (apply s_ite; (focus omega); with_reducible rfl)))) | (apply e_box rfl; (focus ((try simp only [simB0, simB1, SA, SV, SN, SR, SL, pick_bool, Nat.reduceEqDiff, ↓reduceIte, Nat.reduceAdd, Nat.reduceLeDiff, encCs_one, encCs_cells, alenS_encCs]); (try with_reducible rfl); done)); (focus ((try simp only [simB0, simB1, SA, SV, SN, SR, SL, pick_bool, Nat.reduceEqDiff, ↓reduceIte, Nat.reduceAdd, Nat.reduceLeDiff, encCs_one, encCs_cells, alenS_encCs]); (try with_reducible rfl); done)); (focus (simp only [SO, Bool.and_self, one_encV, one_encVV, encCs_one, encCs_cells, alenS_encCs]))) | (apply o_gT; (focus (simp only [simB0, simB1, SA, SV, SN, SR, SL, pick_bool, Nat.reduceEqDiff, ↓reduceIte, Nat.reduceAdd, Nat.reduceLeDiff, encCs_one, encCs_cells, alenS_encCs]; done))) | (apply o_gB; (focus ((try simp only [simB0, simB1, SA, SV, SN, SR, SL, pick_bool, Nat.reduceEqDiff, ↓reduceIte, Nat.reduceAdd, Nat.reduceLeDiff, encCs_one, encCs_cells, alenS_encCs]); (try with_reducible rfl); done)); all_goals (intro _hg; (try simp only [Bool.not_true, Bool.not_false, Bool.not_eq_true', Bool.not_eq_false', Bool.not_not, decide_eq_true_eq, decide_eq_false_iff_not] at _hg); try (exfalso; omega))) | (apply w_cond; (focus ((try simp only [simB0, simB1, SA, SV, SN, SR, SL, pick_bool, Nat.reduceEqDiff, ↓reduceIte, Nat.reduceAdd, Nat.reduceLeDiff, encCs_one, encCs_cells, alenS_encCs]); (try with_reducible rfl); done)); all_goals (intro _hg; (try simp only [Bool.not_eq_true', Bool.not_eq_false', Bool.not_not, decide_eq_true_eq, decide_eq_false_iff_not] at _hg); try (exfalso; omega))) | refine w_loop ?_)
  refine loopI (X := Nat) (fun k => [(1, .ptr 0 4 0), (44, encCs t.cases), (45, .int .i64 t.cases.length), (46, .int .i64 k)]) (fun k H nx => k ≤ t.cases.length ∧ 1 ≤ nx ∧ H 0 = some [.int .i64 t.n, .int .i64 t.ins, .int .i64 t.outs, encCs t.cases]) (fun k => t.cases.length - k) 0 ⟨Nat.zero_le _, Nat.le_refl _, rfl⟩ (by simp (disch := omega) only [agr, SA, Nat.reduceEqDiff, ↓reduceIte, wrap64, Int.natCast_add, Int.natCast_one, Int.natCast_zero, and_true, and_self, List.length_cons, List.length_nil, Nat.reduceAdd]) ?_
  rintro k H nx ⟨hk, hn, h0⟩
  by_cases hj : k < t.cases.length
  · have hm := mem_getD hj
    have hsh := hs _ hm
    obtain ⟨q1, q2⟩ := g9 _ hm
    have hv := vector_c _ _ _ hsh.1 q1
    have hvs := vectorsK_c t.n t.ins t.outs (encCs t.cases) ⟨encCs_dat _, rfl, rfl⟩ _ hsh q2
    have d1 : Dat (encC (t.cases.getD k default)) := Dat.agg (DatL.cons (encV_dat _) (DatL.cons (encVV_dat _) (DatL.cons (encVV_dat _) DatL.nil)))
    have d2 := encT_dat t
    unfold encC at d1
    unfold encT at d2
    by_cases hz : k = 0
    · subst hz
      have hi0 : aixS 3 (encCs t.cases) (.int .i64 0) = _ := aixS_encCs (l := t.cases) (k := 0) hj
      repeat' (first | refine w_seq ?_ | refine w_ops0 ?_ | refine w_ops1 ?_ | refine w_block ?_ | refine w_skip ?_ | refine a_n ?_ | refine o_nil ?_ | (apply o_val rfl; (focus (first | rfl | (simp (disch := omega) only [dm2, oldP, newP, simB0, simB1, SA, SV, SN, SR, SL, pick_bool, Nat.reduceEqDiff, ↓reduceIte, Nat.reduceAdd, Nat.reduceLeDiff, decide_eq_true_eq]; first | done | omega))); (focus ((try simp (disch := omega) only [simB2, simB1, SA, SV, SN, SR, SL, pick_bool, Nat.reduceEqDiff, ↓reduceIte, Nat.reduceAdd, Nat.reduceLeDiff, SO, one_encV, one_encVV, Bool.and_self, Bool.false_eq_true, reduceCtorEq, wrap64, aixS_encV, aixS_encVV, alenS_encV, alenS_encVV, Int.toNat_natCast, List.length_map, aixS_msl, getElem?_map_lt, Nat.mul_one, h0, encCs_one, encCs_cells, alenS_encCs, aixS_encCs, Bool.false_eq_true, show ((0 : Nat) : Int) = 0 from rfl, hi0]); first | with_reducible rfl | (apply s_ite; (focus omega); with_reducible rfl)))) | (apply o_callD; (focus ((try simp (disch := omega) only [simB2, simB1, SA, SV, SN, SR, SL, pick_bool, Nat.reduceEqDiff, ↓reduceIte, Nat.reduceAdd, Nat.reduceLeDiff, h0, encCs_one, encCs_cells, alenS_encCs, aixS_encCs, Bool.false_eq_true, show ((0 : Nat) : Int) = 0 from rfl, hi0]); (try with_reducible rfl); done)); (focus ((try simp (disch := omega) only [simB2, simB1, SA, SV, SN, SR, SL, pick_bool, Nat.reduceEqDiff, ↓reduceIte, Nat.reduceAdd, Nat.reduceLeDiff, h0, encCs_one, encCs_cells, alenS_encCs, aixS_encCs, Bool.false_eq_true, show ((0 : Nat) : Int) = 0 from rfl, hi0]); (try with_reducible rfl); done)); (focus (first | (exact hv) | (exact hvs))); (focus (first | (apply snap_data; repeat' (first | exact snapL_nil | apply snapL_dat | exact Dat.int | exact Dat.bool | exact Dat.str | exact Dat.esl | exact Dat.nilf | exact encV_dat _ | exact encVV_dat _ | exact d1 | exact d2)) | (apply snap_plain; (focus (repeat' (first | exact snapL_nil | apply snapL_dat | exact Dat.int | exact Dat.bool | exact Dat.str | exact encV_dat _ | exact encVV_dat _ | exact d1 | exact d2))); rfl)))) | (apply e_alloc rfl; (focus ((try simp (disch := omega) only [simB2, simB1, SA, SV, SN, SR, SL, pick_bool, Nat.reduceEqDiff, ↓reduceIte, Nat.reduceAdd, Nat.reduceLeDiff, h0, encCs_one, encCs_cells, alenS_encCs, aixS_encCs, Bool.false_eq_true, show ((0 : Nat) : Int) = 0 from rfl, hi0]); (try with_reducible rfl); done)); (focus (simp (disch := omega) only [SO, Bool.and_self, one_encV, one_encVV, h0, encCs_one, encCs_cells, alenS_encCs, aixS_encCs, Bool.false_eq_true, show ((0 : Nat) : Int) = 0 from rfl, hi0]))) | (apply e_st; (focus (first | rfl | (simp (disch := omega) only [dm2, oldP, newP, simB0, simB1, SA, SV, SN, SR, SL, pick_bool, Nat.reduceEqDiff, ↓reduceIte, Nat.reduceAdd, Nat.reduceLeDiff, decide_eq_true_eq]; first | done | omega))); (focus ((try simp (disch := omega) only [simB2, simB1, SA, SV, SN, SR, SL, pick_bool, Nat.reduceEqDiff, ↓reduceIte, Nat.reduceAdd, Nat.reduceLeDiff, h0, encCs_one, encCs_cells, alenS_encCs, aixS_encCs, Bool.false_eq_true, show ((0 : Nat) : Int) = 0 from rfl, hi0]); (try with_reducible rfl); done)); (focus ((try simp (disch := omega) only [simB2, simB1, SA, SV, SN, SR, SL, pick_bool, Nat.reduceEqDiff, ↓reduceIte, Nat.reduceAdd, Nat.reduceLeDiff, h0, encCs_one, encCs_cells, alenS_encCs, aixS_encCs, Bool.false_eq_true, show ((0 : Nat) : Int) = 0 from rfl, hi0]); (try with_reducible rfl); done)); (focus ((try simp (disch := omega) only [simB2, simB1, SA, SV, SN, SR, SL, pick_bool, Nat.reduceEqDiff, ↓reduceIte, Nat.reduceAdd, Nat.reduceLeDiff, h0, encCs_one, encCs_cells, alenS_encCs, aixS_encCs, Bool.false_eq_true, show ((0 : Nat) : Int) = 0 from rfl, hi0]); (try with_reducible rfl); done)); (focus ((try simp (disch := omega) only [simB2, simB1, SA, SV, SN, SR, SL, pick_bool, Nat.reduceEqDiff, ↓reduceIte, Nat.reduceAdd, Nat.reduceLeDiff, h0, encCs_one, encCs_cells, alenS_encCs, aixS_encCs, Bool.false_eq_true, show ((0 : Nat) : Int) = 0 from rfl, hi0]); (try with_reducible rfl); done)); (focus (simp (disch := omega) only [SO, Bool.and_self, one_encV, one_encVV, h0, encCs_one, encCs_cells, alenS_encCs, aixS_encCs, Bool.false_eq_true, show ((0 : Nat) : Int) = 0 from rfl, hi0])); (focus ((try simp (disch := omega) only [SL, Nat.reduceAdd, Nat.reduceMul, List.length_map]); first | done | omega)); (focus ((try simp (disch := omega) only [SL, Nat.reduceAdd, Nat.reduceMul, List.length_map]); first | done | omega)); (focus ((try simp (disch := omega) only [SL, Nat.reduceAdd, Nat.reduceMul, List.length_map]); first | done | omega))) | (apply o_gF; (focus (simp (disch := omega) only [simB2, simB1, SA, SV, SN, SR, SL, pick_bool, Nat.reduceEqDiff, ↓reduceIte, Nat.reduceAdd, Nat.reduceLeDiff, or_true, true_or, h0, encCs_one, encCs_cells, alenS_encCs, aixS_encCs, Bool.false_eq_true, show ((0 : Nat) : Int) = 0 from rfl, hi0]; done))) | (apply o_gB; (focus ((try simp (disch := omega) only [simB2, simB1, SA, SV, SN, SR, SL, pick_bool, Nat.reduceEqDiff, ↓reduceIte, Nat.reduceAdd, Nat.reduceLeDiff, h0, encCs_one, encCs_cells, alenS_encCs, aixS_encCs, Bool.false_eq_true, show ((0 : Nat) : Int) = 0 from rfl, hi0]); (try with_reducible rfl); done)); all_goals (intro _hg; (try simp (disch := omega) only [Bool.not_true, Bool.not_false, Bool.not_eq_true', Bool.not_eq_false', Bool.not_not, decide_eq_true_eq, decide_eq_false_iff_not] at _hg); try (exfalso; omega))) | (apply w_condF; (focus (simp (disch := omega) only [simB2, simB1, SA, SV, SN, SR, SL, pick_bool, Nat.reduceEqDiff, ↓reduceIte, Nat.reduceAdd, Nat.reduceLeDiff, h0, encCs_one, encCs_cells, alenS_encCs, aixS_encCs, Bool.false_eq_true, show ((0 : Nat) : Int) = 0 from rfl, hi0]; done))) | (apply w_cond; (focus ((try simp (disch := omega) only [simB2, simB1, SA, SV, SN, SR, SL, pick_bool, Nat.reduceEqDiff, ↓reduceIte, Nat.reduceAdd, Nat.reduceLeDiff, h0, encCs_one, encCs_cells, alenS_encCs, aixS_encCs, Bool.false_eq_true, show ((0 : Nat) : Int) = 0 from rfl, hi0]); (try with_reducible rfl); done)); all_goals (intro _hg; (try simp (disch := omega) only [Bool.not_eq_true', Bool.not_eq_false', Bool.not_not, decide_eq_true_eq, decide_eq_false_iff_not] at _hg); try (exfalso; omega))))
      refine ⟨0 + 1, by omega, ⟨by omega, by omega, ?_⟩, by simp (disch := omega) only [agr, SA, Nat.reduceEqDiff, ↓reduceIte, wrap64, Int.natCast_add, Int.natCast_one, Int.natCast_zero, and_true, and_self]⟩
      rw [hupd_ne (by omega), hupd_ne (by omega), h0]
    · have e1 : (k : Int) - 1 = ((k - 1 : Nat) : Int) := by omega
      have hso := sortedB_at g10 (i := k) (by simpa using hj)
      have ho := compare_c (t.cases.getD (k - 1) default).inp (t.cases.getD k default).inp (hs _ (mem_getD (by omega))).1 hsh.1
      have hi1 := aixS_encCs (l := t.cases) (k := k - 1) (by omega)
      rw [← e1] at hi1
      repeat' (first | refine w_seq ?_ | refine w_ops0 ?_ | refine w_ops1 ?_ | refine w_block ?_ | refine w_skip ?_ | refine w_ret ?_ | refine a_n ?_ | refine a_r ?_ | refine o_nil ?_ | (apply o_val rfl; (focus (first | rfl | (simp (disch := omega) only [dm2, oldP, newP, simB0, simB1, SA, SV, SN, SR, SL, pick_bool, Nat.reduceEqDiff, ↓reduceIte, Nat.reduceAdd, Nat.reduceLeDiff, decide_eq_true_eq]; first | done | omega))); (focus ((try simp (disch := omega) only [simB2, simB1, SA, SV, SN, SR, SL, pick_bool, Nat.reduceEqDiff, ↓reduceIte, Nat.reduceAdd, Nat.reduceLeDiff, SO, one_encV, one_encVV, Bool.and_self, Bool.false_eq_true, reduceCtorEq, wrap64, aixS_encV, aixS_encVV, alenS_encV, alenS_encVV, Int.toNat_natCast, List.length_map, aixS_msl, getElem?_map_lt, Nat.mul_one, h0, encCs_one, encCs_cells, alenS_encCs, aixS_encCs, Bool.false_eq_true, hi1]); first | with_reducible rfl | (apply s_ite; (focus omega); with_reducible rfl)))) | (apply o_callD; (focus ((try simp (disch := omega) only [simB2, simB1, SA, SV, SN, SR, SL, pick_bool, Nat.reduceEqDiff, ↓reduceIte, Nat.reduceAdd, Nat.reduceLeDiff, h0, encCs_one, encCs_cells, alenS_encCs, aixS_encCs, Bool.false_eq_true, hi1]); (try with_reducible rfl); done)); (focus ((try simp (disch := omega) only [simB2, simB1, SA, SV, SN, SR, SL, pick_bool, Nat.reduceEqDiff, ↓reduceIte, Nat.reduceAdd, Nat.reduceLeDiff, h0, encCs_one, encCs_cells, alenS_encCs, aixS_encCs, Bool.false_eq_true, hi1]); (try with_reducible rfl); done)); (focus (first | (exact hv) | (exact hvs) | (exact ho))); (focus (first | (apply snap_data; repeat' (first | exact snapL_nil | apply snapL_dat | exact Dat.int | exact Dat.bool | exact Dat.str | exact Dat.esl | exact Dat.nilf | exact encV_dat _ | exact encVV_dat _ | exact d1 | exact d2)) | (apply snap_plain; (focus (repeat' (first | exact snapL_nil | apply snapL_dat | exact Dat.int | exact Dat.bool | exact Dat.str | exact encV_dat _ | exact encVV_dat _ | exact d1 | exact d2))); rfl)))) | (apply e_alloc rfl; (focus ((try simp (disch := omega) only [simB2, simB1, SA, SV, SN, SR, SL, pick_bool, Nat.reduceEqDiff, ↓reduceIte, Nat.reduceAdd, Nat.reduceLeDiff, h0, encCs_one, encCs_cells, alenS_encCs, aixS_encCs, Bool.false_eq_true, hi1]); (try with_reducible rfl); done)); (focus (simp (disch := omega) only [SO, Bool.and_self, one_encV, one_encVV, h0, encCs_one, encCs_cells, alenS_encCs, aixS_encCs, Bool.false_eq_true, hi1]))) | (apply e_st; (focus (first | rfl | (simp (disch := omega) only [dm2, oldP, newP, simB0, simB1, SA, SV, SN, SR, SL, pick_bool, Nat.reduceEqDiff, ↓reduceIte, Nat.reduceAdd, Nat.reduceLeDiff, decide_eq_true_eq]; first | done | omega))); (focus ((try simp (disch := omega) only [simB2, simB1, SA, SV, SN, SR, SL, pick_bool, Nat.reduceEqDiff, ↓reduceIte, Nat.reduceAdd, Nat.reduceLeDiff, h0, encCs_one, encCs_cells, alenS_encCs, aixS_encCs, Bool.false_eq_true, hi1]); (try with_reducible rfl); done)); (focus ((try simp (disch := omega) only [simB2, simB1, SA, SV, SN, SR, SL, pick_bool, Nat.reduceEqDiff, ↓reduceIte, Nat.reduceAdd, Nat.reduceLeDiff, h0, encCs_one, encCs_cells, alenS_encCs, aixS_encCs, Bool.false_eq_true, hi1]); (try with_reducible rfl); done)); (focus ((try simp (disch := omega) only [simB2, simB1, SA, SV, SN, SR, SL, pick_bool, Nat.reduceEqDiff, ↓reduceIte, Nat.reduceAdd, Nat.reduceLeDiff, h0, encCs_one, encCs_cells, alenS_encCs, aixS_encCs, Bool.false_eq_true, hi1]); (try with_reducible rfl); done)); (focus ((try simp (disch := omega) only [simB2, simB1, SA, SV, SN, SR, SL, pick_bool, Nat.reduceEqDiff, ↓reduceIte, Nat.reduceAdd, Nat.reduceLeDiff, h0, encCs_one, encCs_cells, alenS_encCs, aixS_encCs, Bool.false_eq_true, hi1]); (try with_reducible rfl); done)); (focus (simp (disch := omega) only [SO, Bool.and_self, one_encV, one_encVV, h0, encCs_one, encCs_cells, alenS_encCs, aixS_encCs, Bool.false_eq_true, hi1])); (focus ((try simp (disch := omega) only [SL, Nat.reduceAdd, Nat.reduceMul, List.length_map]); first | done | omega)); (focus ((try simp (disch := omega) only [SL, Nat.reduceAdd, Nat.reduceMul, List.length_map]); first | done | omega)); (focus ((try simp (disch := omega) only [SL, Nat.reduceAdd, Nat.reduceMul, List.length_map]); first | done | omega))) | (apply o_gT; (focus (simp (disch := omega) only [simB2, simB1, SA, SV, SN, SR, SL, pick_bool, Nat.reduceEqDiff, ↓reduceIte, Nat.reduceAdd, Nat.reduceLeDiff, h0, encCs_one, encCs_cells, alenS_encCs, aixS_encCs, Bool.false_eq_true, hi1]; done))) | (apply o_gB; (focus ((try simp (disch := omega) only [simB2, simB1, SA, SV, SN, SR, SL, pick_bool, Nat.reduceEqDiff, ↓reduceIte, Nat.reduceAdd, Nat.reduceLeDiff, h0, encCs_one, encCs_cells, alenS_encCs, aixS_encCs, Bool.false_eq_true, hi1]); (try with_reducible rfl); done)); all_goals (intro _hg; (try simp (disch := omega) only [Bool.not_true, Bool.not_false, Bool.not_eq_true', Bool.not_eq_false', Bool.not_not, decide_eq_true_eq, decide_eq_false_iff_not] at _hg); try (exfalso; omega))) | (apply w_cond; (focus ((try simp (disch := omega) only [simB2, simB1, SA, SV, SN, SR, SL, pick_bool, Nat.reduceEqDiff, ↓reduceIte, Nat.reduceAdd, Nat.reduceLeDiff, h0, encCs_one, encCs_cells, alenS_encCs, aixS_encCs, Bool.false_eq_true, hi1]); (try with_reducible rfl); done)); all_goals (intro _hg; (try simp (disch := omega) only [Bool.not_eq_true', Bool.not_eq_false', Bool.not_not, decide_eq_true_eq, decide_eq_false_iff_not] at _hg); try (exfalso; omega))) | (refine e_ends rfl ?_) | (apply r_1; (focus (simp (disch := omega) only [rv, simB2, simB1, SA, SV, SN, SR, SL, pick_bool, Nat.reduceEqDiff, ↓reduceIte, Nat.reduceAdd, Nat.reduceLeDiff, h0, encCs_one, encCs_cells, alenS_encCs, aixS_encCs, Bool.false_eq_true, hi1]; with_reducible rfl))))
      · exfalso
        have e3 : (t.cases.map CaseV.inp).getD k default = (t.cases.getD k default).inp := by simp [List.getD, hj]
        have e4 : (t.cases.map CaseV.inp).getD (k - 1) default = (t.cases.getD (k - 1) default).inp := by simp [List.getD, show k - 1 < t.cases.length by omega]
        rw [e3, e4, decide_eq_true (show 0 < k by omega), Bool.true_and, decide_eq_false_iff_not] at hso
        exact hso ‹_›
      · refine ⟨k + 1, by omega, ⟨by omega, by omega, ?_⟩, by simp (disch := omega) only [agr, SA, Nat.reduceEqDiff, ↓reduceIte, wrap64, Int.natCast_add, Int.natCast_one, Int.natCast_zero, and_true, and_self]⟩
        rw [hupd_ne (by omega), hupd_ne (by omega), h0]
  · repeat' (first | refine w_seq ?_ | refine w_ops0 ?_ | refine w_exit ?_ | refine w_ret ?_ | refine a_n ?_ | refine a_x ?_ | refine o_nil ?_ | (apply o_val rfl; (focus (first | rfl | (simp (disch := omega) only [dm2, oldP, newP, simB0, simB1, SA, SV, SN, SR, SL, pick_bool, Nat.reduceEqDiff, ↓reduceIte, Nat.reduceAdd, Nat.reduceLeDiff, decide_eq_true_eq]; first | done | omega))); (focus ((try simp (disch := omega) only [simB2, simB1, SA, SV, SN, SR, SL, pick_bool, Nat.reduceEqDiff, ↓reduceIte, Nat.reduceAdd, Nat.reduceLeDiff, SO, one_encV, one_encVV, Bool.and_self, Bool.false_eq_true, reduceCtorEq, wrap64, aixS_encV, aixS_encVV, alenS_encV, alenS_encVV, Int.toNat_natCast, List.length_map, aixS_msl, getElem?_map_lt, Nat.mul_one, h0, encCs_one, encCs_cells, alenS_encCs, aixS_encCs, Bool.false_eq_true]); first | with_reducible rfl | (apply s_ite; (focus omega); with_reducible rfl)))) | (apply w_cond; (focus ((try simp (disch := omega) only [simB2, simB1, SA, SV, SN, SR, SL, pick_bool, Nat.reduceEqDiff, ↓reduceIte, Nat.reduceAdd, Nat.reduceLeDiff, h0, encCs_one, encCs_cells, alenS_encCs, aixS_encCs, Bool.false_eq_true]); (try with_reducible rfl); done)); all_goals (intro _hg; (try simp (disch := omega) only [Bool.not_eq_true', Bool.not_eq_false', Bool.not_not, decide_eq_true_eq, decide_eq_false_iff_not] at _hg); try (exfalso; omega))) | (refine e_ends rfl ?_) | (apply r_1; (focus (simp (disch := omega) only [rv, simB2, simB1, SA, SV, SN, SR, SL, pick_bool, Nat.reduceEqDiff, ↓reduceIte, Nat.reduceAdd, Nat.reduceLeDiff, h0, encCs_one, encCs_cells, alenS_encCs, aixS_encCs, Bool.false_eq_true]; with_reducible rfl))))
    exact .int _ _

end Go.Proofs.Ytcbkggfipdldaaa

/- P25: contracts of functions and plain laws; for all inputs that the theorems name. -/
set_option linter.unusedSimpArgs false
set_option linter.unusedVariables false
namespace Go.Proofs.Ytcbkggfipdldaaa
open Go Go.Abs
attribute [local irreducible] awp2 aops2 ains aloop athen bbind obind gbind acond res1 Go.Abs.Fn PCall Go.Abs.Pure SnapArgs SnapL Yl

theorem allowed_c (c : CaseV) (faulty : Int) : Pure Try.prog 66 [.agg [encV c.inp, encVV c.out, encVV c.calm], .int .i64 faulty] (encVV (if faulty = 0 ∧ 0 < c.calm.length then c.calm else c.out)) := by
  refine Pure.of_c2 follows is66 (Nat.le_of_ble_eq_true rfl) ?_
  simp only [b66]
  repeat' (first | refine w_seq ?_ | refine w_ops0 ?_ | refine w_skip ?_ | refine w_ret ?_ | refine a_n ?_ | refine a_r ?_ | refine o_nil ?_ | (apply o_val rfl rfl; (focus ((try simp (disch := omega) only [simB0, simB1, SA, SV, SN, SR, SL, pick_bool, Nat.reduceEqDiff, ↓reduceIte, Nat.reduceAdd, Nat.reduceLeDiff, SO, one_encV, one_encVV, Bool.and_self, Bool.false_eq_true, reduceCtorEq, wrap64, aixS_encV, aixS_encVV, alenS_encV, alenS_encVV, Int.toNat_natCast, List.length_map, aixS_msl, getElem?_map_lt, Nat.mul_one]); first | with_reducible rfl | (apply s_ite; (focus omega); with_reducible rfl)))) | (apply e_box rfl; (focus ((try simp only [simB0, simB1, SA, SV, SN, SR, SL, pick_bool, Nat.reduceEqDiff, ↓reduceIte, Nat.reduceAdd, Nat.reduceLeDiff]); (try with_reducible rfl); done)); (focus ((try simp only [simB0, simB1, SA, SV, SN, SR, SL, pick_bool, Nat.reduceEqDiff, ↓reduceIte, Nat.reduceAdd, Nat.reduceLeDiff]); (try with_reducible rfl); done)); (focus (simp only [SO, Bool.and_self, one_encV, one_encVV]))) | (apply o_gT; (focus (simp only [simB0, simB1, SA, SV, SN, SR, SL, pick_bool, Nat.reduceEqDiff, ↓reduceIte, Nat.reduceAdd, Nat.reduceLeDiff]; done))) | (apply o_gF; (focus (simp only [simB0, simB1, SA, SV, SN, SR, SL, pick_bool, Nat.reduceEqDiff, ↓reduceIte, Nat.reduceAdd, Nat.reduceLeDiff, or_true, true_or]; done))) | (apply o_gB; (focus ((try simp only [simB0, simB1, SA, SV, SN, SR, SL, pick_bool, Nat.reduceEqDiff, ↓reduceIte, Nat.reduceAdd, Nat.reduceLeDiff]); (try with_reducible rfl); done)); all_goals (intro _hg; (try simp only [Bool.not_true, Bool.not_false, Bool.not_eq_true', Bool.not_eq_false', Bool.not_not, decide_eq_true_eq, decide_eq_false_iff_not] at _hg); try (exfalso; omega))) | (apply w_condF; (focus (simp only [simB0, simB1, SA, SV, SN, SR, SL, pick_bool, Nat.reduceEqDiff, ↓reduceIte, Nat.reduceAdd, Nat.reduceLeDiff]; done))) | (apply w_cond; (focus ((try simp only [simB0, simB1, SA, SV, SN, SR, SL, pick_bool, Nat.reduceEqDiff, ↓reduceIte, Nat.reduceAdd, Nat.reduceLeDiff]); (try with_reducible rfl); done)); all_goals (intro _hg; (try simp only [Bool.not_eq_true', Bool.not_eq_false', Bool.not_not, decide_eq_true_eq, decide_eq_false_iff_not] at _hg); try (exfalso; omega))) | (refine e_ends rfl ?_) | (apply r_1; (focus (simp only [rv, simB0, simB1, SA, SV, SN, SR, SL, pick_bool, Nat.reduceEqDiff, ↓reduceIte, Nat.reduceAdd, Nat.reduceLeDiff]; with_reducible rfl))))
  · rw [if_pos (by omega)]; exact encVV_dat _ _
  · rw [if_neg (by omega)]; exact encVV_dat _ _
  · rw [if_neg (by omega)]; exact encVV_dat _ _

theorem copied_c (l : List (List Int)) (hl : l.length ≤ 100000) (hs : ∀ x ∈ l, Sh x) : Pure Try.prog 65 [encVV l] (encVV l) := by
  refine Pure.of_c2 follows is65 (Nat.le_of_ble_eq_true rfl) ?_
  simp only [b65]
  repeat' (first | refine w_seq ?_ | refine w_ops0 ?_ | refine w_block ?_ | refine a_n ?_ | refine o_nil ?_ | (apply o_val rfl rfl; (focus ((try simp (disch := omega) only [simB0, simB1, SA, SV, SN, SR, SL, pick_bool, Nat.reduceEqDiff, ↓reduceIte, Nat.reduceAdd, Nat.reduceLeDiff, SO, one_encV, one_encVV, Bool.and_self, Bool.false_eq_true, reduceCtorEq, wrap64, aixS_encV, aixS_encVV, alenS_encV, alenS_encVV, Int.toNat_natCast, List.length_map, aixS_msl, getElem?_map_lt, Nat.mul_one]); first | with_reducible rfl | (apply s_ite; (focus omega); with_reducible rfl)))) | refine w_loop ?_)
  refine loopI (X := AV × Nat) (fun x => [(3, x.1), (6, encVV l), (7, .int .i64 l.length), (8, .int .i64 x.2)]) (fun x H nx => x.2 ≤ l.length ∧ Row H 1 x.1 ((l.take x.2).map encV) ∧ ∀ b, rowB x.1 = some b → b < nx) (fun x => l.length - x.2) (.esl, 0) ⟨Nat.zero_le _, Row.nil, fun b hb => (by cases hb)⟩ (by simp (disch := omega) only [agr, SA, Nat.reduceEqDiff, ↓reduceIte, wrap64, Int.natCast_add, Int.natCast_one, Int.natCast_zero, and_true, and_self]) ?_
  rintro ⟨s, j⟩ H nx ⟨h1, h2, h3⟩
  dsimp only at h1 h2 h3 ⊢
  by_cases hj : j < l.length
  · have hw := mem_getD hj
    have hcl := cloneF_c _ (hs _ hw)
    repeat' (first | refine w_seq ?_ | refine w_ops0 ?_ | refine w_block ?_ | refine w_skip ?_ | refine a_n ?_ | refine o_nil ?_ | (apply o_val rfl; (focus (first | rfl | (simp (disch := omega) only [dm2, oldP, newP, simB0, simB1, SA, SV, SN, SR, SL, pick_bool, Nat.reduceEqDiff, ↓reduceIte, Nat.reduceAdd, Nat.reduceLeDiff, decide_eq_true_eq]; first | done | omega))); (focus ((try simp (disch := omega) only [simB2, simB1, SA, SV, SN, SR, SL, pick_bool, Nat.reduceEqDiff, ↓reduceIte, Nat.reduceAdd, Nat.reduceLeDiff, SO, one_encV, one_encVV, Bool.and_self, Bool.false_eq_true, reduceCtorEq, wrap64, aixS_encV, aixS_encVV, alenS_encV, alenS_encVV, Int.toNat_natCast, List.length_map, aixS_msl, getElem?_map_lt, Nat.mul_one, h1]); first | with_reducible rfl | (apply s_ite; (focus omega); with_reducible rfl)))) | (apply w_cond; (focus ((try simp (disch := omega) only [simB2, simB1, SA, SV, SN, SR, SL, pick_bool, Nat.reduceEqDiff, ↓reduceIte, Nat.reduceAdd, Nat.reduceLeDiff, h1]); (try with_reducible rfl); done)); all_goals (intro _hg; (try simp (disch := omega) only [Bool.not_eq_true', Bool.not_eq_false', Bool.not_not, decide_eq_true_eq, decide_eq_false_iff_not] at _hg); try (exfalso; omega))))
    refine o_callF (by ((try simp only [simB0, simB1, SA, SV, SN, SR, SL, pick_bool, Nat.reduceEqDiff, ↓reduceIte, Nat.reduceAdd, Nat.reduceLeDiff]); (try with_reducible rfl))) (by ((try simp only [simB0, simB1, SA, SV, SN, SR, SL, pick_bool, Nat.reduceEqDiff, ↓reduceIte, Nat.reduceAdd, Nat.reduceLeDiff]); (try with_reducible rfl))) hcl (snapL_cons (encV_dat _ _) snapL_nil) ?_
    repeat' (first | (apply e_bld rfl; (focus (exact Nat.succ_ne_zero _)); (focus ((try simp (disch := omega) only [simB2, simB1, SA, SV, SN, SR, SL, pick_bool, Nat.reduceEqDiff, ↓reduceIte, Nat.reduceAdd, Nat.reduceLeDiff, h1]); (try with_reducible rfl); done)); (focus ((try simp (disch := omega) only [simB2, simB1, SA, SV, SN, SR, SL, pick_bool, Nat.reduceEqDiff, ↓reduceIte, Nat.reduceAdd, Nat.reduceLeDiff, SO, Bool.and_self, one_encV, one_encVV, h1]); (try with_reducible rfl); done))))
    refine e_row rfl (by ((try simp only [simB0, simB1, SA, SV, SN, SR, SL, pick_bool, Nat.reduceEqDiff, ↓reduceIte, Nat.reduceAdd, Nat.reduceLeDiff]); (try with_reducible rfl))) (h2.same fun b hb => ?_) (by ((try simp only [simB0, simB1, SA, SV, SN, SR, SL, pick_bool, Nat.reduceEqDiff, ↓reduceIte, Nat.reduceAdd, Nat.reduceLeDiff]); (try with_reducible rfl))) asrc_one rfl rfl Nat.one_pos (by simp; omega) (by simp; omega) ?_
    · have := h3 b hb
      rw [hupd_ne (by omega)]
    rintro s2 E e hrow hle1 hle2 hsame hb2
    repeat' (first | refine w_ops0 ?_ | refine a_n ?_ | refine o_nil ?_ | (apply o_val rfl rfl; (focus ((try simp (disch := omega) only [simB0, simB1, SA, SV, SN, SR, SL, pick_bool, Nat.reduceEqDiff, ↓reduceIte, Nat.reduceAdd, Nat.reduceLeDiff, SO, one_encV, one_encVV, Bool.and_self, Bool.false_eq_true, reduceCtorEq, wrap64, aixS_encV, aixS_encVV, alenS_encV, alenS_encVV, Int.toNat_natCast, List.length_map, aixS_msl, getElem?_map_lt, Nat.mul_one]); first | with_reducible rfl | (apply s_ite; (focus omega); with_reducible rfl)))))
    refine ⟨(s2, j + 1), by dsimp only; omega, ⟨by dsimp only; omega, ?_, fun b hb => ?_⟩, by simp (disch := omega) only [agr, SA, Nat.reduceEqDiff, ↓reduceIte, wrap64, Int.natCast_add, Int.natCast_one, Int.natCast_zero, and_true, and_self]⟩
    · dsimp only
      rw [take_succ' hj, List.map_append]
      exact hrow
    · rcases hb2 b hb with h | h
      · have := h3 b h; omega
      · omega
  · repeat' (first | refine w_seq ?_ | refine w_ops0 ?_ | refine w_exit ?_ | refine w_ret ?_ | refine a_n ?_ | refine a_x ?_ | refine o_nil ?_ | (apply o_val rfl; (focus (first | rfl | (simp (disch := omega) only [dm2, oldP, newP, simB0, simB1, SA, SV, SN, SR, SL, pick_bool, Nat.reduceEqDiff, ↓reduceIte, Nat.reduceAdd, Nat.reduceLeDiff, decide_eq_true_eq]; first | done | omega))); (focus ((try simp (disch := omega) only [simB2, simB1, SA, SV, SN, SR, SL, pick_bool, Nat.reduceEqDiff, ↓reduceIte, Nat.reduceAdd, Nat.reduceLeDiff, SO, one_encV, one_encVV, Bool.and_self, Bool.false_eq_true, reduceCtorEq, wrap64, aixS_encV, aixS_encVV, alenS_encV, alenS_encVV, Int.toNat_natCast, List.length_map, aixS_msl, getElem?_map_lt, Nat.mul_one, h1]); first | with_reducible rfl | (apply s_ite; (focus omega); with_reducible rfl)))) | (apply w_cond; (focus ((try simp (disch := omega) only [simB2, simB1, SA, SV, SN, SR, SL, pick_bool, Nat.reduceEqDiff, ↓reduceIte, Nat.reduceAdd, Nat.reduceLeDiff, h1]); (try with_reducible rfl); done)); all_goals (intro _hg; (try simp (disch := omega) only [Bool.not_eq_true', Bool.not_eq_false', Bool.not_not, decide_eq_true_eq, decide_eq_false_iff_not] at _hg); try (exfalso; omega))) | (refine e_ends rfl ?_) | (apply r_1; (focus (simp (disch := omega) only [rv, simB2, simB1, SA, SV, SN, SR, SL, pick_bool, Nat.reduceEqDiff, ↓reduceIte, Nat.reduceAdd, Nat.reduceLeDiff, h1]; with_reducible rfl))))
    rw [List.take_of_length_le (by omega)] at h2
    exact h2.snapV

theorem shl1 (tb tf : Bool) (n : Int) (h0 : 0 ≤ n) (h1 : n ≤ 5) : abin2 .shl tb tf (.int .i64 1) (.int .i64 n) = some (.int .i64 (2 ^ n.toNat : Nat)) := by
  have : n = 0 ∨ n = 1 ∨ n = 2 ∨ n = 3 ∨ n = 4 ∨ n = 5 := by omega
  rcases this with rfl | rfl | rfl | rfl | rfl | rfl <;> rfl

theorem place_c (t : TaskV) (index faulty : Int) (hs : ∀ c ∈ t.cases, ShC c) (hg : goodT t = true) (hi : 0 ≤ index ∧ index < t.cases.length) (hf : 0 ≤ faulty ∧ faulty < (2 ^ t.n.toNat : Nat)) : Pure Try.prog 64 [encT t, .int .i64 index, .int .i64 faulty] (.int .i64 0) := by
  refine Pure.of_c2 follows is64 (Nat.le_of_ble_eq_true rfl) ?_
  simp only [b64]
  have hc := check_c t hs hg
  have d2 := encT_dat t
  have hn : 1 ≤ t.n ∧ t.n ≤ 5 := by
    unfold goodT at hg
    simp only [Bool.and_eq_true, decide_eq_true_iff] at hg
    exact ⟨hg.1.1.1, hg.1.1.2.1⟩
  have hsh : ∀ tb tf, abin2 .shl tb tf (.int .i64 1) (.int .i64 t.n) = some (.int .i64 (2 ^ t.n.toNat : Nat)) := fun tb tf => shl1 tb tf t.n (by omega) hn.2
  generalize 2 ^ t.n.toNat = P at *
  unfold encT at hc d2 ⊢
  repeat' (first | refine w_seq ?_ | refine w_ops0 ?_ | refine w_block ?_ | refine w_skip ?_ | refine w_ret ?_ | refine a_n ?_ | refine o_nil ?_ | (apply o_val rfl rfl; (focus ((try simp (disch := omega) only [simB0, simB1, SA, SV, SN, SR, SL, pick_bool, Nat.reduceEqDiff, ↓reduceIte, Nat.reduceAdd, Nat.reduceLeDiff, SO, one_encV, one_encVV, Bool.and_self, Bool.false_eq_true, reduceCtorEq, wrap64, aixS_encV, aixS_encVV, alenS_encV, alenS_encVV, Int.toNat_natCast, List.length_map, aixS_msl, getElem?_map_lt, Nat.mul_one, encCs_one, encCs_cells, alenS_encCs, hsh]); first | with_reducible rfl | (apply s_ite; (focus omega); with_reducible rfl)))) | (apply o_callD; (focus ((try simp only [simB0, simB1, SA, SV, SN, SR, SL, pick_bool, Nat.reduceEqDiff, ↓reduceIte, Nat.reduceAdd, Nat.reduceLeDiff, encCs_one, encCs_cells, alenS_encCs, hsh]); (try with_reducible rfl); done)); (focus ((try simp only [simB0, simB1, SA, SV, SN, SR, SL, pick_bool, Nat.reduceEqDiff, ↓reduceIte, Nat.reduceAdd, Nat.reduceLeDiff, encCs_one, encCs_cells, alenS_encCs, hsh]); (try with_reducible rfl); done)); (focus (first | (exact hc))); (focus (first | (apply snap_data; repeat' (first | exact snapL_nil | apply snapL_dat | exact Dat.int | exact Dat.bool | exact Dat.str | exact Dat.esl | exact Dat.nilf | exact encV_dat _ | exact encVV_dat _ | exact d2)) | (apply snap_plain; (focus (repeat' (first | exact snapL_nil | apply snapL_dat | exact Dat.int | exact Dat.bool | exact Dat.str | exact encV_dat _ | exact encVV_dat _ | exact d2))); rfl)))) | (apply e_box rfl; (focus ((try simp only [simB0, simB1, SA, SV, SN, SR, SL, pick_bool, Nat.reduceEqDiff, ↓reduceIte, Nat.reduceAdd, Nat.reduceLeDiff, encCs_one, encCs_cells, alenS_encCs, hsh]); (try with_reducible rfl); done)); (focus ((try simp only [simB0, simB1, SA, SV, SN, SR, SL, pick_bool, Nat.reduceEqDiff, ↓reduceIte, Nat.reduceAdd, Nat.reduceLeDiff, encCs_one, encCs_cells, alenS_encCs, hsh]); (try with_reducible rfl); done)); (focus (simp only [SO, Bool.and_self, one_encV, one_encVV, encCs_one, encCs_cells, alenS_encCs, hsh]))) | (apply o_gT; (focus (simp only [simB0, simB1, SA, SV, SN, SR, SL, pick_bool, Nat.reduceEqDiff, ↓reduceIte, Nat.reduceAdd, Nat.reduceLeDiff, encCs_one, encCs_cells, alenS_encCs, hsh]; done))) | (apply o_gB; (focus ((try simp only [simB0, simB1, SA, SV, SN, SR, SL, pick_bool, Nat.reduceEqDiff, ↓reduceIte, Nat.reduceAdd, Nat.reduceLeDiff, encCs_one, encCs_cells, alenS_encCs, hsh]); (try with_reducible rfl); done)); all_goals (intro _hg; (try simp only [Bool.not_true, Bool.not_false, Bool.not_eq_true', Bool.not_eq_false', Bool.not_not, decide_eq_true_eq, decide_eq_false_iff_not] at _hg); try (exfalso; omega))) | (apply w_cond; (focus ((try simp only [simB0, simB1, SA, SV, SN, SR, SL, pick_bool, Nat.reduceEqDiff, ↓reduceIte, Nat.reduceAdd, Nat.reduceLeDiff, encCs_one, encCs_cells, alenS_encCs, hsh]); (try with_reducible rfl); done)); all_goals (intro _hg; (try simp only [Bool.not_eq_true', Bool.not_eq_false', Bool.not_not, decide_eq_true_eq, decide_eq_false_iff_not] at _hg); try (exfalso; omega))) | (refine e_ends rfl ?_) | (apply r_1; (focus (simp only [rv, simB0, simB1, SA, SV, SN, SR, SL, pick_bool, Nat.reduceEqDiff, ↓reduceIte, Nat.reduceAdd, Nat.reduceLeDiff, encCs_one, encCs_cells, alenS_encCs, hsh]; with_reducible rfl))))
  exact .int _ _

def allowV (c : CaseV) (faulty : Int) : List (List Int) := if faulty = 0 ∧ 0 < c.calm.length then c.calm else c.out
theorem allowedT_c (t : TaskV) (index : Nat) (faulty : Int) (hs : ∀ c ∈ t.cases, ShC c) (hg : goodT t = true) (hi : index < t.cases.length) (hf : 0 ≤ faulty ∧ faulty < (2 ^ t.n.toNat : Nat)) (hl : (allowV (t.cases.getD index default) faulty).length ≤ 100000) :
    Pure Try.prog 24 [encT t, .int .i64 index, .int .i64 faulty] (.tup [encVV (allowV (t.cases.getD index default) faulty), .int .i64 0]) := by
  refine Pure.of_c2 follows is24 (Nat.le_of_ble_eq_true rfl) ?_
  simp only [b24]
  have hp := place_c t index faulty hs hg ⟨by omega, by omega⟩ hf
  have d2 := encT_dat t
  have d1 : Dat (encC (t.cases.getD index default)) := Dat.agg (DatL.cons (encV_dat _) (DatL.cons (encVV_dat _) (DatL.cons (encVV_dat _) DatL.nil)))
  have ha := allowed_c (t.cases.getD index default) faulty
  have hsh := hs _ (mem_getD hi)
  have hcp := copied_c (allowV (t.cases.getD index default) faulty) hl (fun x hx => by
    unfold allowV at hx
    split at hx
    · exact hsh.2.2.2.2 x hx
    · exact hsh.2.2.1 x hx)
  have ix := aixS_encCs hi
  change Pure Try.prog 66 _ (encVV (allowV (t.cases.getD index default) faulty)) at ha
  unfold encT at hp d2 ⊢
  unfold encC at d1
  repeat' (first | refine w_seq ?_ | refine w_ops0 ?_ | refine w_skip ?_ | refine w_ret ?_ | refine a_n ?_ | refine o_nil ?_ | (apply o_val rfl rfl; (focus ((try simp (disch := omega) only [simB0, simB1, SA, SV, SN, SR, SL, pick_bool, Nat.reduceEqDiff, ↓reduceIte, Nat.reduceAdd, Nat.reduceLeDiff, SO, one_encV, one_encVV, Bool.and_self, Bool.false_eq_true, reduceCtorEq, wrap64, aixS_encV, aixS_encVV, alenS_encV, alenS_encVV, Int.toNat_natCast, List.length_map, aixS_msl, getElem?_map_lt, Nat.mul_one, encCs_one, encCs_cells, alenS_encCs, ix]); first | with_reducible rfl | (apply s_ite; (focus omega); with_reducible rfl)))) | (apply o_callD; (focus ((try simp only [simB0, simB1, SA, SV, SN, SR, SL, pick_bool, Nat.reduceEqDiff, ↓reduceIte, Nat.reduceAdd, Nat.reduceLeDiff, encCs_one, encCs_cells, alenS_encCs, ix]); (try with_reducible rfl); done)); (focus ((try simp only [simB0, simB1, SA, SV, SN, SR, SL, pick_bool, Nat.reduceEqDiff, ↓reduceIte, Nat.reduceAdd, Nat.reduceLeDiff, encCs_one, encCs_cells, alenS_encCs, ix]); (try with_reducible rfl); done)); (focus (first | (exact hp) | (exact ha) | (exact hcp))); (focus (first | (apply snap_data; repeat' (first | exact snapL_nil | apply snapL_dat | exact Dat.int | exact Dat.bool | exact Dat.str | exact Dat.esl | exact Dat.nilf | exact encV_dat _ | exact encVV_dat _ | exact d2 | exact d1)) | (apply snap_plain; (focus (repeat' (first | exact snapL_nil | apply snapL_dat | exact Dat.int | exact Dat.bool | exact Dat.str | exact encV_dat _ | exact encVV_dat _ | exact d2 | exact d1))); rfl)))) | (apply e_box rfl; (focus ((try simp only [simB0, simB1, SA, SV, SN, SR, SL, pick_bool, Nat.reduceEqDiff, ↓reduceIte, Nat.reduceAdd, Nat.reduceLeDiff, encCs_one, encCs_cells, alenS_encCs, ix]); (try with_reducible rfl); done)); (focus ((try simp only [simB0, simB1, SA, SV, SN, SR, SL, pick_bool, Nat.reduceEqDiff, ↓reduceIte, Nat.reduceAdd, Nat.reduceLeDiff, encCs_one, encCs_cells, alenS_encCs, ix]); (try with_reducible rfl); done)); (focus (simp only [SO, Bool.and_self, one_encV, one_encVV, encCs_one, encCs_cells, alenS_encCs, ix]))) | (apply w_cond; (focus ((try simp only [simB0, simB1, SA, SV, SN, SR, SL, pick_bool, Nat.reduceEqDiff, ↓reduceIte, Nat.reduceAdd, Nat.reduceLeDiff, encCs_one, encCs_cells, alenS_encCs, ix]); (try with_reducible rfl); done)); all_goals (intro _hg; (try simp only [Bool.not_eq_true', Bool.not_eq_false', Bool.not_not, decide_eq_true_eq, decide_eq_false_iff_not] at _hg); try (exfalso; omega))) | (refine e_ends rfl ?_) | (apply r_2; (focus (simp only [rv, simB0, simB1, SA, SV, SN, SR, SL, pick_bool, Nat.reduceEqDiff, ↓reduceIte, Nat.reduceAdd, Nat.reduceLeDiff, encCs_one, encCs_cells, alenS_encCs, ix]; with_reducible rfl)); (focus (simp only [rv, simB0, simB1, SA, SV, SN, SR, SL, pick_bool, Nat.reduceEqDiff, ↓reduceIte, Nat.reduceAdd, Nat.reduceLeDiff, encCs_one, encCs_cells, alenS_encCs, ix]; with_reducible rfl))))
  exact (Dat.tup (DatL.cons (encVV_dat _) (DatL.cons .int DatL.nil))) _

theorem permitted1_c (x : Int) (t : TaskV) : Pure Try.prog 68 [.int .i64 x, .iptr [.int .i64 t.n, .int .i64 t.ins, .int .i64 t.outs, encCs t.cases] 0] (.bool (decide (x < -1 ∨ t.outs ≤ x))) := by
  refine Pure.of_c2 follows is68 (Nat.le_of_ble_eq_true rfl) ?_
  simp only [b68]
  repeat' (first | refine w_seq ?_ | refine w_ops0 ?_ | refine w_ret ?_ | refine a_n ?_ | refine o_nil ?_ | (apply o_val rfl rfl; (focus ((try simp (disch := omega) only [simB0, simB1, SA, SV, SN, SR, SL, pick_bool, Nat.reduceEqDiff, ↓reduceIte, Nat.reduceAdd, Nat.reduceLeDiff, SO, one_encV, one_encVV, Bool.and_self, Bool.false_eq_true, reduceCtorEq, wrap64, aixS_encV, aixS_encVV, alenS_encV, alenS_encVV, Int.toNat_natCast, List.length_map, aixS_msl, getElem?_map_lt, Nat.mul_one, encCs_one, encCs_cells]); first | with_reducible rfl | (apply s_ite; (focus omega); with_reducible rfl)))) | (apply o_gT; (focus (simp only [simB0, simB1, SA, SV, SN, SR, SL, pick_bool, Nat.reduceEqDiff, ↓reduceIte, Nat.reduceAdd, Nat.reduceLeDiff, encCs_one, encCs_cells]; done))) | (apply o_gF; (focus (simp only [simB0, simB1, SA, SV, SN, SR, SL, pick_bool, Nat.reduceEqDiff, ↓reduceIte, Nat.reduceAdd, Nat.reduceLeDiff, or_true, true_or, encCs_one, encCs_cells]; done))) | (apply o_gB; (focus ((try simp only [simB0, simB1, SA, SV, SN, SR, SL, pick_bool, Nat.reduceEqDiff, ↓reduceIte, Nat.reduceAdd, Nat.reduceLeDiff, encCs_one, encCs_cells]); (try with_reducible rfl); done)); all_goals (intro _hg; (try simp only [Bool.not_true, Bool.not_false, Bool.not_eq_true', Bool.not_eq_false', Bool.not_not, decide_eq_true_eq, decide_eq_false_iff_not] at _hg); try (exfalso; omega))) | (refine e_ends rfl ?_) | (apply r_1; (focus (simp only [rv, simB0, simB1, SA, SV, SN, SR, SL, pick_bool, Nat.reduceEqDiff, ↓reduceIte, Nat.reduceAdd, Nat.reduceLeDiff, encCs_one, encCs_cells]; with_reducible rfl))))
  all_goals (refine snap_bool ?_)
  · exact decide_eq_decide.2 (by omega)
  · rw [decide_eq_true (by omega)]

end Go.Proofs.Ytcbkggfipdldaaa

/- P26: contracts of functions and plain laws; for all inputs that the theorems name. -/
set_option linter.unusedSimpArgs false
set_option linter.unusedVariables false
namespace Go.Proofs.Ytcbkggfipdldaaa
open Go Go.Abs
attribute [local irreducible] awp2 aops2 ains aloop athen bbind obind gbind acond res1 Go.Abs.Fn PCall Go.Abs.Pure SnapArgs SnapL Yl

def and1 (a : Int) : Int := IntKind.wrap .i64 (BitVec.ofInt 64 a &&& BitVec.ofInt 64 1).toNat
def shrN (f : Int) (p : Nat) : Int := f.fdiv (2 ^ (min p 64))
theorem shr_eq (tb tf : Bool) (f : Int) (p : Nat) : abin2 .shr tb tf (.int .i64 f) (.int .i64 p) = some (.int .i64 (shrN f p)) := by
  have h : ¬ ((p : Int) < 0) := by omega
  simp only [abin2, ashift, h, if_false, or_true, if_true]
  rfl
theorem and_eq1 (tb tf : Bool) (a : Int) : abin2 .and tb tf (.int .i64 a) (.int .i64 1) = some (.int .i64 (and1 a)) := rfl

def agreesB (v outs : List Int) (f : Int) : Bool := (List.range v.length).all fun p => !(decide (and1 (shrN f p) = 0) && decide (outs.getD p default ≠ v.getD p default))
theorem agrees_c (v outs : List Int) (f : Int) (hv : Sh v) (ho : Sh outs) (hl : v.length ≤ outs.length) : Pure Try.prog 70 [encV v, encV outs, .int .i64 f] (.bool (agreesB v outs f)) := by
  refine Pure.of_c2 follows is70 (Nat.le_of_ble_eq_true rfl) ?_
  simp only [b70]
  repeat' (first | refine w_seq ?_ | refine w_ops0 ?_ | refine w_block ?_ | refine a_n ?_ | refine o_nil ?_ | (apply o_val rfl rfl; (focus ((try simp (disch := omega) only [simB0, simB1, SA, SV, SN, SR, SL, pick_bool, Nat.reduceEqDiff, ↓reduceIte, Nat.reduceAdd, Nat.reduceLeDiff, SO, one_encV, one_encVV, Bool.and_self, Bool.false_eq_true, reduceCtorEq, wrap64, aixS_encV, aixS_encVV, alenS_encV, alenS_encVV, Int.toNat_natCast, List.length_map, aixS_msl, getElem?_map_lt, Nat.mul_one]); first | with_reducible rfl | (apply s_ite; (focus omega); with_reducible rfl)))) | refine w_loop ?_)
  refine loop0 (X := Nat) (fun k => [(1, encV outs), (2, .int .i64 f), (9, encV v), (10, .int .i64 v.length), (11, .int .i64 k)]) (fun k => k ≤ v.length ∧ ∀ i, i < k → (decide (and1 (shrN f i) = 0) && decide (outs.getD i default ≠ v.getD i default)) = false) (fun k => v.length - k) 0 ⟨Nat.zero_le _, by simp⟩ (by simp (disch := omega) only [agr, SA, Nat.reduceEqDiff, ↓reduceIte, wrap64, Int.natCast_add, Int.natCast_one, Int.natCast_zero, and_true, and_self]) ?_
  rintro k ⟨h1, h2⟩
  repeat' (first | refine w_seq ?_ | refine w_ops0 ?_ | refine w_block ?_ | refine w_skip ?_ | refine w_exit ?_ | refine w_ret ?_ | refine a_n ?_ | refine a_x ?_ | refine a_r ?_ | refine o_nil ?_ | (apply o_val rfl rfl; (focus ((try simp (disch := omega) only [simB0, simB1, SA, SV, SN, SR, SL, pick_bool, Nat.reduceEqDiff, ↓reduceIte, Nat.reduceAdd, Nat.reduceLeDiff, SO, one_encV, one_encVV, Bool.and_self, Bool.false_eq_true, reduceCtorEq, wrap64, aixS_encV, aixS_encVV, alenS_encV, alenS_encVV, Int.toNat_natCast, List.length_map, aixS_msl, getElem?_map_lt, Nat.mul_one, shr_eq, and_eq1]); first | with_reducible rfl | (apply s_ite; (focus omega); with_reducible rfl)))) | (apply o_gT; (focus (simp only [simB0, simB1, SA, SV, SN, SR, SL, pick_bool, Nat.reduceEqDiff, ↓reduceIte, Nat.reduceAdd, Nat.reduceLeDiff, shr_eq, and_eq1]; done))) | (apply o_gF; (focus (simp only [simB0, simB1, SA, SV, SN, SR, SL, pick_bool, Nat.reduceEqDiff, ↓reduceIte, Nat.reduceAdd, Nat.reduceLeDiff, or_true, true_or, shr_eq, and_eq1]; done))) | (apply o_gB; (focus ((try simp only [simB0, simB1, SA, SV, SN, SR, SL, pick_bool, Nat.reduceEqDiff, ↓reduceIte, Nat.reduceAdd, Nat.reduceLeDiff, shr_eq, and_eq1]); (try with_reducible rfl); done)); all_goals (intro _hg; (try simp only [Bool.not_true, Bool.not_false, Bool.not_eq_true', Bool.not_eq_false', Bool.not_not, decide_eq_true_eq, decide_eq_false_iff_not] at _hg); try (exfalso; omega))) | (apply w_condF; (focus (simp only [simB0, simB1, SA, SV, SN, SR, SL, pick_bool, Nat.reduceEqDiff, ↓reduceIte, Nat.reduceAdd, Nat.reduceLeDiff, shr_eq, and_eq1]; done))) | (apply w_cond; (focus ((try simp only [simB0, simB1, SA, SV, SN, SR, SL, pick_bool, Nat.reduceEqDiff, ↓reduceIte, Nat.reduceAdd, Nat.reduceLeDiff, shr_eq, and_eq1]); (try with_reducible rfl); done)); all_goals (intro _hg; (try simp only [Bool.not_eq_true', Bool.not_eq_false', Bool.not_not, decide_eq_true_eq, decide_eq_false_iff_not] at _hg); try (exfalso; omega))) | (refine e_ends rfl ?_) | (apply r_1; (focus (simp only [rv, simB0, simB1, SA, SV, SN, SR, SL, pick_bool, Nat.reduceEqDiff, ↓reduceIte, Nat.reduceAdd, Nat.reduceLeDiff, shr_eq, and_eq1]; with_reducible rfl))))
  · refine snap_bool ?_
    symm
    unfold agreesB
    rw [Bool.eq_false_iff, ne_eq, List.all_eq_true]
    intro h
    have := h k (List.mem_range.2 (by omega))
    simp_all
  · refine ⟨k + 1, ⟨by omega, fun i hi => ?_⟩, by omega, by simp (disch := omega) only [agr, SA, Nat.reduceEqDiff, ↓reduceIte, wrap64, Int.natCast_add, Int.natCast_one, Int.natCast_zero, and_true, and_self], rfl, rfl⟩
    rcases Nat.lt_succ_iff_lt_or_eq.1 hi with h | rfl
    · exact h2 i h
    · simp_all
  · refine ⟨k + 1, ⟨by omega, fun i hi => ?_⟩, by omega, by simp (disch := omega) only [agr, SA, Nat.reduceEqDiff, ↓reduceIte, wrap64, Int.natCast_add, Int.natCast_one, Int.natCast_zero, and_true, and_self], rfl, rfl⟩
    rcases Nat.lt_succ_iff_lt_or_eq.1 hi with h | rfl
    · exact h2 i h
    · simp_all
  · refine snap_bool ?_
    symm
    unfold agreesB
    rw [List.all_eq_true]
    intro i hi
    rw [h2 i (by have := List.mem_range.1 hi; omega)]
    rfl

theorem permitted2_c (v outs : List Int) (f : Int) (hv : Sh v) (ho : Sh outs) (hl : v.length ≤ outs.length) : Pure Try.prog 69 [encV v, .iptr [encV outs] 0, .iptr [.int .i64 f] 0] (.bool (agreesB v outs f)) := by
  refine Pure.of_c2 follows is69 (Nat.le_of_ble_eq_true rfl) ?_
  simp only [b69]
  repeat' (first | refine w_seq ?_ | refine w_ops0 ?_ | refine w_ret ?_ | refine a_n ?_ | refine o_nil ?_ | (apply o_val rfl rfl; (focus ((try simp (disch := omega) only [simB0, simB1, SA, SV, SN, SR, SL, pick_bool, Nat.reduceEqDiff, ↓reduceIte, Nat.reduceAdd, Nat.reduceLeDiff, SO, one_encV, one_encVV, Bool.and_self, Bool.false_eq_true, reduceCtorEq, wrap64, aixS_encV, aixS_encVV, alenS_encV, alenS_encVV, Int.toNat_natCast, List.length_map, aixS_msl, getElem?_map_lt, Nat.mul_one]); first | with_reducible rfl | (apply s_ite; (focus omega); with_reducible rfl)))) | (apply o_callD; (focus ((try simp only [simB0, simB1, SA, SV, SN, SR, SL, pick_bool, Nat.reduceEqDiff, ↓reduceIte, Nat.reduceAdd, Nat.reduceLeDiff]); (try with_reducible rfl); done)); (focus ((try simp only [simB0, simB1, SA, SV, SN, SR, SL, pick_bool, Nat.reduceEqDiff, ↓reduceIte, Nat.reduceAdd, Nat.reduceLeDiff]); (try with_reducible rfl); done)); (focus (first | (exact agrees_c v outs f hv ho hl))); (focus (first | (apply snap_data; repeat' (first | exact snapL_nil | apply snapL_dat | exact Dat.int | exact Dat.bool | exact Dat.str | exact Dat.esl | exact Dat.nilf | exact encV_dat _ | exact encVV_dat _)) | (apply snap_plain; (focus (repeat' (first | exact snapL_nil | apply snapL_dat | exact Dat.int | exact Dat.bool | exact Dat.str | exact encV_dat _ | exact encVV_dat _))); rfl)))) | (refine e_ends rfl ?_) | (apply r_1; (focus (simp only [rv, simB0, simB1, SA, SV, SN, SR, SL, pick_bool, Nat.reduceEqDiff, ↓reduceIte, Nat.reduceAdd, Nat.reduceLeDiff]; with_reducible rfl))))
  exact .bool _

end Go.Proofs.Ytcbkggfipdldaaa

/- P27: contracts of functions and plain laws; for all inputs that the theorems name. -/
set_option linter.unusedSimpArgs false
set_option linter.unusedVariables false
namespace Go.Proofs.Ytcbkggfipdldaaa
open Go Go.Abs
attribute [local irreducible] awp2 aops2 ains aloop athen bbind obind gbind acond res1 Go.Abs.Fn PCall Go.Abs.Pure SnapArgs SnapL Yl

theorem allowV_len {t : TaskV} (hg : goodT t = true) {c : CaseV} (hc : c ∈ t.cases) (f : Int) : ∀ v ∈ allowV c f, (v.length : Int) = t.n := by
  unfold goodT at hg
  simp only [Bool.and_eq_true, List.all_eq_true] at hg
  have h := (hg.1.2 c hc).2
  unfold goodC at h
  simp only [Bool.and_eq_true, List.all_eq_true, decide_eq_true_iff] at h
  obtain ⟨⟨⟨⟨g1, g2⟩, g3⟩, g4⟩, g5⟩ := h
  have ho : ∀ v ∈ c.out, (v.length : Int) = t.n := fun v hv => by
    have := g2 v hv
    unfold goodV at this
    simp only [Bool.and_eq_true, decide_eq_true_iff] at this
    exact this.1
  intro v hv
  unfold allowV at hv
  split at hv
  · have := g4 v hv
    rw [List.any_eq_true] at this
    obtain ⟨x, hx, e⟩ := this
    rw [decide_eq_true_iff] at e
    subst e
    exact ho _ hx
  · exact ho v hv

theorem permitted_c (t : TaskV) (index : Nat) (faulty : Int) (outs : List Int) (hs : ∀ c ∈ t.cases, ShC c) (hg : goodT t = true) (hi : index < t.cases.length) (hf : 0 ≤ faulty ∧ faulty < (2 ^ t.n.toNat : Nat)) (ho : (outs.length : Int) = t.n) (hso : Sh outs) (hr : ∀ x ∈ outs, -1 ≤ x ∧ x < t.outs) :
    Pure Try.prog 25 [encT t, .int .i64 index, .int .i64 faulty, encV outs] (.tup [.bool ((allowV (t.cases.getD index default) faulty).any fun v => agreesB v outs faulty), .int .i64 0]) := by
  refine Pure.of_c2 follows is25 (Nat.le_of_ble_eq_true rfl) ?_
  simp only [b25]
  have hp := place_c t index faulty hs hg ⟨by omega, by omega⟩ hf
  have d2 := encT_dat t
  have hmc := mem_getD hi
  have hlen := allowV_len hg hmc faulty
  have hsh := hs _ hmc
  have ha := allowed_c (t.cases.getD index default) faulty
  change Pure Try.prog 66 _ (encVV (allowV (t.cases.getD index default) faulty)) at ha
  unfold encT at hp d2 ⊢
  repeat' (first | refine w_seq ?_ | refine w_ops0 ?_ | refine w_skip ?_ | refine a_n ?_ | refine o_nil ?_ | (apply o_val rfl rfl; (focus ((try simp (disch := omega) only [simB0, simB1, SA, SV, SN, SR, SL, pick_bool, Nat.reduceEqDiff, ↓reduceIte, Nat.reduceAdd, Nat.reduceLeDiff, SO, one_encV, one_encVV, Bool.and_self, Bool.false_eq_true, reduceCtorEq, wrap64, aixS_encV, aixS_encVV, alenS_encV, alenS_encVV, Int.toNat_natCast, List.length_map, aixS_msl, getElem?_map_lt, Nat.mul_one, encCs_one, encCs_cells, alenS_encCs]); first | with_reducible rfl | (apply s_ite; (focus omega); with_reducible rfl)))) | (apply o_callD; (focus ((try simp only [simB0, simB1, SA, SV, SN, SR, SL, pick_bool, Nat.reduceEqDiff, ↓reduceIte, Nat.reduceAdd, Nat.reduceLeDiff, encCs_one, encCs_cells, alenS_encCs]); (try with_reducible rfl); done)); (focus ((try simp only [simB0, simB1, SA, SV, SN, SR, SL, pick_bool, Nat.reduceEqDiff, ↓reduceIte, Nat.reduceAdd, Nat.reduceLeDiff, encCs_one, encCs_cells, alenS_encCs]); (try with_reducible rfl); done)); (focus (first | (exact hp))); (focus (first | (apply snap_data; repeat' (first | exact snapL_nil | apply snapL_dat | exact Dat.int | exact Dat.bool | exact Dat.str | exact Dat.esl | exact Dat.nilf | exact encV_dat _ | exact encVV_dat _ | exact d2)) | (apply snap_plain; (focus (repeat' (first | exact snapL_nil | apply snapL_dat | exact Dat.int | exact Dat.bool | exact Dat.str | exact encV_dat _ | exact encVV_dat _ | exact d2))); rfl)))) | (apply e_box rfl; (focus ((try simp only [simB0, simB1, SA, SV, SN, SR, SL, pick_bool, Nat.reduceEqDiff, ↓reduceIte, Nat.reduceAdd, Nat.reduceLeDiff, encCs_one, encCs_cells, alenS_encCs]); (try with_reducible rfl); done)); (focus ((try simp only [simB0, simB1, SA, SV, SN, SR, SL, pick_bool, Nat.reduceEqDiff, ↓reduceIte, Nat.reduceAdd, Nat.reduceLeDiff, encCs_one, encCs_cells, alenS_encCs]); (try with_reducible rfl); done)); (focus (simp only [SO, Bool.and_self, one_encV, one_encVV, encCs_one, encCs_cells, alenS_encCs]))) | (apply w_cond; (focus ((try simp only [simB0, simB1, SA, SV, SN, SR, SL, pick_bool, Nat.reduceEqDiff, ↓reduceIte, Nat.reduceAdd, Nat.reduceLeDiff, encCs_one, encCs_cells, alenS_encCs]); (try with_reducible rfl); done)); all_goals (intro _hg; (try simp only [Bool.not_eq_true', Bool.not_eq_false', Bool.not_not, decide_eq_true_eq, decide_eq_false_iff_not] at _hg); try (exfalso; omega))))
  have hno : (outs.any fun x => decide (x < -1 ∨ t.outs ≤ x)) = false := by
    rw [List.any_eq_false]
    intro x hx
    have := hr x hx
    rw [decide_eq_true_iff]; omega
  have hcf := containsF_c outs (fun x => decide (x < -1 ∨ t.outs ≤ x)) 68 [.iptr [.int .i64 t.n, .int .i64 t.ins, .int .i64 t.outs, encCs t.cases] 0] (DatL.cons (Dat.iptr (DatL.cons .int (DatL.cons .int (DatL.cons .int (DatL.cons (encCs_dat _) DatL.nil))))) DatL.nil) (fun x _ => permitted1_c x t) hso
  rw [hno] at hcf
  refine o_callP (by ((try simp only [simB0, simB1, SA, SV, SN, SR, SL, pick_bool, Nat.reduceEqDiff, ↓reduceIte, Nat.reduceAdd, Nat.reduceLeDiff]); (try with_reducible rfl))) (by ((try simp only [simB0, simB1, SA, SV, SN, SR, SL, pick_bool, Nat.reduceEqDiff, ↓reduceIte, Nat.reduceAdd, Nat.reduceLeDiff]); (try with_reducible rfl))) hcf (snap_plain (by (repeat' (first | exact snapL_nil | exact Dat.snap Dat.int | exact Dat.snap Dat.bool | exact Dat.snap Dat.str | exact Dat.snap Dat.esl | exact Dat.snap Dat.nilf | exact Dat.snap (encV_dat _) | exact Dat.snap (encVV_dat _) | exact Dat.snap (encCs_dat _) | apply snapL_cons | apply snap_func | apply snap_iptr | (apply snap_ptr; (focus ((try simp only [simB0, simB1, SA, SV, SN, SR, SL, pick_bool, Nat.reduceEqDiff, ↓reduceIte, Nat.reduceAdd, Nat.reduceLeDiff]); with_reducible rfl)); (focus rfl))))) rfl) ?_
  have ix := aixS_encCs hi
  have d1 : Dat (encC (t.cases.getD index default)) := Dat.agg (DatL.cons (encV_dat _) (DatL.cons (encVV_dat _) (DatL.cons (encVV_dat _) DatL.nil)))
  unfold encC at d1
  have hsv : ∀ v ∈ allowV (t.cases.getD index default) faulty, Sh v := fun v hv => by
    have := hlen v hv
    have hq : outs.length ≤ 1000000000 := hso
    show _ ≤ _; omega
  have hsl : Sh (allowV (t.cases.getD index default) faulty) := by
    unfold allowV; split
    · exact hsh.2.2.2.1
    · exact hsh.2.1
  repeat' (first | refine w_seq ?_ | refine w_ops1 ?_ | refine w_skip ?_ | refine a_n ?_ | refine o_nil ?_ | (apply o_val rfl rfl; (focus ((try simp (disch := omega) only [simB0, simB1, SA, SV, SN, SR, SL, pick_bool, Nat.reduceEqDiff, ↓reduceIte, Nat.reduceAdd, Nat.reduceLeDiff, SO, one_encV, one_encVV, Bool.and_self, Bool.false_eq_true, reduceCtorEq, wrap64, aixS_encV, aixS_encVV, alenS_encV, alenS_encVV, Int.toNat_natCast, List.length_map, aixS_msl, getElem?_map_lt, Nat.mul_one, encCs_one, encCs_cells, alenS_encCs, ix, Bool.false_eq_true]); first | with_reducible rfl | (apply s_ite; (focus omega); with_reducible rfl)))) | (apply o_callD; (focus ((try simp only [simB0, simB1, SA, SV, SN, SR, SL, pick_bool, Nat.reduceEqDiff, ↓reduceIte, Nat.reduceAdd, Nat.reduceLeDiff, encCs_one, encCs_cells, alenS_encCs, ix, Bool.false_eq_true]); (try with_reducible rfl); done)); (focus ((try simp only [simB0, simB1, SA, SV, SN, SR, SL, pick_bool, Nat.reduceEqDiff, ↓reduceIte, Nat.reduceAdd, Nat.reduceLeDiff, encCs_one, encCs_cells, alenS_encCs, ix, Bool.false_eq_true]); (try with_reducible rfl); done)); (focus (first | (exact ha))); (focus (first | (apply snap_data; repeat' (first | exact snapL_nil | apply snapL_dat | exact Dat.int | exact Dat.bool | exact Dat.str | exact Dat.esl | exact Dat.nilf | exact encV_dat _ | exact encVV_dat _ | exact d1)) | (apply snap_plain; (focus (repeat' (first | exact snapL_nil | apply snapL_dat | exact Dat.int | exact Dat.bool | exact Dat.str | exact encV_dat _ | exact encVV_dat _ | exact d1))); rfl)))) | (apply w_condF; (focus (simp only [simB0, simB1, SA, SV, SN, SR, SL, pick_bool, Nat.reduceEqDiff, ↓reduceIte, Nat.reduceAdd, Nat.reduceLeDiff, encCs_one, encCs_cells, alenS_encCs, ix, Bool.false_eq_true]; done))))
  refine o_callP (by ((try simp only [simB0, simB1, SA, SV, SN, SR, SL, pick_bool, Nat.reduceEqDiff, ↓reduceIte, Nat.reduceAdd, Nat.reduceLeDiff]); (try with_reducible rfl))) (by ((try simp only [simB0, simB1, SA, SV, SN, SR, SL, pick_bool, Nat.reduceEqDiff, ↓reduceIte, Nat.reduceAdd, Nat.reduceLeDiff]); (try with_reducible rfl))) (containsFV_c (allowV (t.cases.getD index default) faulty) (fun v => agreesB v outs faulty) 69 [.iptr [encV outs] 0, .iptr [.int .i64 faulty] 0] (DatL.cons (Dat.iptr (DatL.cons (encV_dat _) DatL.nil)) (DatL.cons (Dat.iptr (DatL.cons .int DatL.nil)) DatL.nil)) (fun v hv => permitted2_c v outs faulty (hsv v hv) hso (by have := hlen v hv; omega)) hsl) (snap_plain (by (repeat' (first | exact snapL_nil | exact Dat.snap Dat.int | exact Dat.snap Dat.bool | exact Dat.snap Dat.str | exact Dat.snap Dat.esl | exact Dat.snap Dat.nilf | exact Dat.snap (encV_dat _) | exact Dat.snap (encVV_dat _) | apply snapL_cons | apply snap_func | apply snap_iptr | (apply snap_ptr; (focus ((try simp only [simB0, simB1, SA, SV, SN, SR, SL, pick_bool, Nat.reduceEqDiff, ↓reduceIte, Nat.reduceAdd, Nat.reduceLeDiff]); with_reducible rfl)); (focus rfl))))) rfl) ?_
  repeat' (first | refine w_ret ?_ | refine a_n ?_ | refine o_nil ?_ | (apply o_val rfl rfl; (focus ((try simp (disch := omega) only [simB0, simB1, SA, SV, SN, SR, SL, pick_bool, Nat.reduceEqDiff, ↓reduceIte, Nat.reduceAdd, Nat.reduceLeDiff, SO, one_encV, one_encVV, Bool.and_self, Bool.false_eq_true, reduceCtorEq, wrap64, aixS_encV, aixS_encVV, alenS_encV, alenS_encVV, Int.toNat_natCast, List.length_map, aixS_msl, getElem?_map_lt, Nat.mul_one]); first | with_reducible rfl | (apply s_ite; (focus omega); with_reducible rfl)))) | (refine e_ends rfl ?_) | (apply r_2; (focus (simp only [rv, simB0, simB1, SA, SV, SN, SR, SL, pick_bool, Nat.reduceEqDiff, ↓reduceIte, Nat.reduceAdd, Nat.reduceLeDiff]; with_reducible rfl)); (focus (simp only [rv, simB0, simB1, SA, SV, SN, SR, SL, pick_bool, Nat.reduceEqDiff, ↓reduceIte, Nat.reduceAdd, Nat.reduceLeDiff]; with_reducible rfl))))
  exact (Dat.tup (DatL.cons .bool (DatL.cons .int DatL.nil))) _

end Go.Proofs.Ytcbkggfipdldaaa

/- P28: contracts of functions and plain laws; for all inputs that the theorems name. -/
set_option linter.unusedSimpArgs false
set_option linter.unusedVariables false
namespace Go.Proofs.Ytcbkggfipdldaaa
open Go Go.Abs
attribute [local irreducible] awp2 aops2 ains aloop athen bbind obind gbind acond res1 Go.Abs.Fn PCall Go.Abs.Pure SnapArgs SnapL Yl

theorem mul64_c (a b : Nat) (ha : a < 65536) (hb : b < 65536) : Pure Try.prog 98 [.int .u64 a, .int .u64 b] (.tup [.int .u64 0, .int .u64 ((a * b : Nat) : Int)]) := by
  refine Pure.of_c2 follows is98 (Nat.le_of_ble_eq_true rfl) ?_
  simp only [b98]
  have hab : a * b ≤ 65535 * 65535 := Nat.mul_le_mul (by omega) (by omega)
  have hA : ∀ (n : Nat) (tb tf : Bool), n < 65536 → abin2 .and tb tf (.int .u64 n) (.int .u64 4294967295) = some (.int .u64 n) := fun n tb tf h => by
    have := and_nat (k := .u64) (a := n) (b := 4294967295) (tb := tb) (tf := tf) (by simp [IntKind.bits]; omega) (by simp [IntKind.bits])
    rw [show ((4294967295 : Nat) : Int) = 4294967295 from rfl] at this
    rw [this, show (4294967295 : Nat) = 2 ^ 32 - 1 from rfl, mask_nat, Nat.mod_eq_of_lt (by omega)]
  have hS : ∀ (n : Nat) (tb tf : Bool), n < 4294967296 → abin2 .shr tb tf (.int .u64 n) (.int .u64 32) = some (.int .u64 0) := fun n tb tf h => by
    have := shr_nat (k := .u64) (k' := .u64) (a := n) (b := 32) (tb := tb) (tf := tf) (by simp [IntKind.bits])
    rw [show ((32 : Nat) : Int) = 32 from rfl] at this
    rw [this, Nat.div_eq_of_lt (by omega)]; rfl
  have hS0 : ∀ (tb tf : Bool), abin2 .shr tb tf (.int .u64 0) (.int .u64 32) = some (.int .u64 0) := fun tb tf => hS 0 tb tf (by omega)
  have hA0 : ∀ (tb tf : Bool), abin2 .and tb tf (.int .u64 0) (.int .u64 4294967295) = some (.int .u64 0) := fun tb tf => hA 0 tb tf (by omega)
  have hM : IntKind.wrap .u64 ((a : Int) * b) = ((a * b : Nat) : Int) := by
    rw [← Int.natCast_mul]; exact wrapU64 (by omega) (by omega)
  have w0 : IntKind.wrap .u64 0 = 0 := by decide
  repeat' (first | refine w_seq ?_ | refine w_ops0 ?_ | refine w_ret ?_ | refine a_n ?_ | refine o_nil ?_ | (apply o_val rfl rfl; (focus ((try simp (disch := omega) only [simB0, simB1, SA, SV, SN, SR, SL, pick_bool, Nat.reduceEqDiff, ↓reduceIte, Nat.reduceAdd, Nat.reduceLeDiff, SO, one_encV, one_encVV, Bool.and_self, Bool.false_eq_true, reduceCtorEq, wrap64, aixS_encV, aixS_encVV, alenS_encV, alenS_encVV, Int.toNat_natCast, List.length_map, aixS_msl, getElem?_map_lt, Nat.mul_one, hA a _ _ ha, hA b _ _ hb, hS a _ _ (by omega), hS b _ _ (by omega), hM, hS (a * b) _ _ (by omega), Int.zero_mul, Int.mul_zero, Int.add_zero, Int.zero_add, w0, hS0, hA0]); first | with_reducible rfl | (apply s_ite; (focus omega); with_reducible rfl)))) | (refine e_ends rfl ?_) | (apply r_2; (focus (simp only [rv, simB0, simB1, SA, SV, SN, SR, SL, pick_bool, Nat.reduceEqDiff, ↓reduceIte, Nat.reduceAdd, Nat.reduceLeDiff, hA a _ _ ha, hA b _ _ hb, hS a _ _ (by omega), hS b _ _ (by omega), hM, hS (a * b) _ _ (by omega), Int.zero_mul, Int.mul_zero, Int.add_zero, Int.zero_add, w0, hS0, hA0]; with_reducible rfl)); (focus (simp only [rv, simB0, simB1, SA, SV, SN, SR, SL, pick_bool, Nat.reduceEqDiff, ↓reduceIte, Nat.reduceAdd, Nat.reduceLeDiff, hA a _ _ ha, hA b _ _ hb, hS a _ _ (by omega), hS b _ _ (by omega), hM, hS (a * b) _ _ (by omega), Int.zero_mul, Int.mul_zero, Int.add_zero, Int.zero_add, w0, hS0, hA0]; with_reducible rfl))))
  refine snap_tup (snapL_cons (snap_int rfl) (snapL_cons (snap_int rfl) snapL_nil))

theorem mul_c (a b : Nat) (ha : a < 65536) (hb : b < 65536) : Pure Try.prog 71 [.int .u64 a, .int .u64 b] (.tup [.int .u64 0, .int .u64 ((a * b : Nat) : Int)]) := by
  refine Pure.of_c2 follows is71 (Nat.le_of_ble_eq_true rfl) ?_
  simp only [b71]
  repeat' (first | refine w_seq ?_ | refine w_ops0 ?_ | refine w_skip ?_ | refine w_ret ?_ | refine a_n ?_ | refine o_nil ?_ | (apply o_val rfl rfl; (focus ((try simp (disch := omega) only [simB0, simB1, SA, SV, SN, SR, SL, pick_bool, Nat.reduceEqDiff, ↓reduceIte, Nat.reduceAdd, Nat.reduceLeDiff, SO, one_encV, one_encVV, Bool.and_self, Bool.false_eq_true, reduceCtorEq, wrap64, aixS_encV, aixS_encVV, alenS_encV, alenS_encVV, Int.toNat_natCast, List.length_map, aixS_msl, getElem?_map_lt, Nat.mul_one, Bool.false_eq_true]); first | with_reducible rfl | (apply s_ite; (focus omega); with_reducible rfl)))) | (apply o_callD; (focus ((try simp only [simB0, simB1, SA, SV, SN, SR, SL, pick_bool, Nat.reduceEqDiff, ↓reduceIte, Nat.reduceAdd, Nat.reduceLeDiff, Bool.false_eq_true]); (try with_reducible rfl); done)); (focus ((try simp only [simB0, simB1, SA, SV, SN, SR, SL, pick_bool, Nat.reduceEqDiff, ↓reduceIte, Nat.reduceAdd, Nat.reduceLeDiff, Bool.false_eq_true]); (try with_reducible rfl); done)); (focus (first | (exact mul64_c a b ha hb))); (focus (first | (apply snap_data; repeat' (first | exact snapL_nil | apply snapL_dat | exact Dat.int | exact Dat.bool | exact Dat.str | exact Dat.esl | exact Dat.nilf | exact encV_dat _ | exact encVV_dat _ | exact Dat.int)) | (apply snap_plain; (focus (repeat' (first | exact snapL_nil | apply snapL_dat | exact Dat.int | exact Dat.bool | exact Dat.str | exact encV_dat _ | exact encVV_dat _ | exact Dat.int))); rfl)))) | (apply w_condF; (focus (simp only [simB0, simB1, SA, SV, SN, SR, SL, pick_bool, Nat.reduceEqDiff, ↓reduceIte, Nat.reduceAdd, Nat.reduceLeDiff, Bool.false_eq_true]; done))) | (refine e_ends rfl ?_) | (apply r_2; (focus (simp only [rv, simB0, simB1, SA, SV, SN, SR, SL, pick_bool, Nat.reduceEqDiff, ↓reduceIte, Nat.reduceAdd, Nat.reduceLeDiff, Bool.false_eq_true]; with_reducible rfl)); (focus (simp only [rv, simB0, simB1, SA, SV, SN, SR, SL, pick_bool, Nat.reduceEqDiff, ↓reduceIte, Nat.reduceAdd, Nat.reduceLeDiff, Bool.false_eq_true]; with_reducible rfl))))
  refine snap_tup (snapL_cons (snap_int rfl) (snapL_cons (snap_int rfl) snapL_nil))

theorem repeat_c (v : Int) (n : Nat) (h1 : 1 ≤ n) (h2 : n ≤ 1000) : PureF Try.prog 26 [encV [v], .int .i64 n] (encV (List.replicate n v)) := by
  refine PureF.of_c2 follows is26 (Nat.le_of_ble_eq_true rfl) ?_
  simp only [b26]
  have e1 : IntKind.wrap .u64 (([v].length : Nat) : Int) = ((1 : Nat) : Int) := wrapU64 (by simp) (by simp)
  have e2 : IntKind.wrap .u64 (n : Int) = n := wrapU64 (by omega) (by omega)
  have e3 : IntKind.wrap .i64 ((1 * n : Nat) : Int) = n := by rw [wrap64] <;> omega
  repeat' (first | refine w_seq ?_ | refine w_ops0 ?_ | refine w_skip ?_ | refine a_n ?_ | refine o_nil ?_ | (apply o_val rfl rfl; (focus ((try simp (disch := omega) only [simB0, simB1, SA, SV, SN, SR, SL, pick_bool, Nat.reduceEqDiff, ↓reduceIte, Nat.reduceAdd, Nat.reduceLeDiff, SO, one_encV, one_encVV, Bool.and_self, Bool.false_eq_true, reduceCtorEq, wrap64, aixS_encV, aixS_encVV, alenS_encV, alenS_encVV, Int.toNat_natCast, List.length_map, aixS_msl, getElem?_map_lt, Nat.mul_one, e1, e2]); first | with_reducible rfl | (apply s_ite; (focus omega); with_reducible rfl)))) | (apply o_callD; (focus ((try simp only [simB0, simB1, SA, SV, SN, SR, SL, pick_bool, Nat.reduceEqDiff, ↓reduceIte, Nat.reduceAdd, Nat.reduceLeDiff, e1, e2]); (try with_reducible rfl); done)); (focus ((try simp only [simB0, simB1, SA, SV, SN, SR, SL, pick_bool, Nat.reduceEqDiff, ↓reduceIte, Nat.reduceAdd, Nat.reduceLeDiff, e1, e2]); (try with_reducible rfl); done)); (focus (first | (exact mul_c 1 n (by omega) (by omega)))); (focus (first | (apply snap_data; repeat' (first | exact snapL_nil | apply snapL_dat | exact Dat.int | exact Dat.bool | exact Dat.str | exact Dat.esl | exact Dat.nilf | exact encV_dat _ | exact encVV_dat _ | exact Dat.int)) | (apply snap_plain; (focus (repeat' (first | exact snapL_nil | apply snapL_dat | exact Dat.int | exact Dat.bool | exact Dat.str | exact encV_dat _ | exact encVV_dat _ | exact Dat.int))); rfl)))) | (apply o_gT; (focus (simp only [simB0, simB1, SA, SV, SN, SR, SL, pick_bool, Nat.reduceEqDiff, ↓reduceIte, Nat.reduceAdd, Nat.reduceLeDiff, e1, e2]; done))) | (apply o_gB; (focus ((try simp only [simB0, simB1, SA, SV, SN, SR, SL, pick_bool, Nat.reduceEqDiff, ↓reduceIte, Nat.reduceAdd, Nat.reduceLeDiff, e1, e2]); (try with_reducible rfl); done)); all_goals (intro _hg; (try simp only [Bool.not_true, Bool.not_false, Bool.not_eq_true', Bool.not_eq_false', Bool.not_not, decide_eq_true_eq, decide_eq_false_iff_not] at _hg); try (exfalso; omega))) | (apply w_cond; (focus ((try simp only [simB0, simB1, SA, SV, SN, SR, SL, pick_bool, Nat.reduceEqDiff, ↓reduceIte, Nat.reduceAdd, Nat.reduceLeDiff, e1, e2]); (try with_reducible rfl); done)); all_goals (intro _hg; (try simp only [Bool.not_eq_true', Bool.not_eq_false', Bool.not_not, decide_eq_true_eq, decide_eq_false_iff_not] at _hg); try (exfalso; omega))))
  refine e_mks rfl (by ((try simp only [simB0, simB1, SA, SV, SN, SR, SL, pick_bool, Nat.reduceEqDiff, ↓reduceIte, Nat.reduceAdd, Nat.reduceLeDiff]); (try with_reducible rfl))) (by ((try simp only [simB0, simB1, SA, SV, SN, SR, SL, pick_bool, Nat.reduceEqDiff, ↓reduceIte, Nat.reduceAdd, Nat.reduceLeDiff]); (try with_reducible rfl))) (by omega) (by omega) (by omega) (by omega) ?_
  have e4 : ((1 * n : Nat) : Int).toNat = n := by omega
  rw [e4, zcells_int, Nat.mul_one]
  repeat' (first | refine w_seq ?_ | refine w_ops0 ?_ | refine a_n ?_ | refine o_nil ?_ | (apply o_val rfl rfl; (focus ((try simp (disch := omega) only [simB0, simB1, SA, SV, SN, SR, SL, pick_bool, Nat.reduceEqDiff, ↓reduceIte, Nat.reduceAdd, Nat.reduceLeDiff, SO, one_encV, one_encVV, Bool.and_self, Bool.false_eq_true, reduceCtorEq, wrap64, aixS_encV, aixS_encVV, alenS_encV, alenS_encVV, Int.toNat_natCast, List.length_map, aixS_msl, getElem?_map_lt, Nat.mul_one]); first | with_reducible rfl | (apply s_ite; (focus omega); with_reducible rfl)))))
  refine o_cpy (n := 1) (by ((try simp only [simB0, simB1, SA, SV, SN, SR, SL, pick_bool, Nat.reduceEqDiff, ↓reduceIte, Nat.reduceAdd, Nat.reduceLeDiff]); (try with_reducible rfl)); exact acopy_msl (m := 1) (new := [.int .i64 v]) (k := 1) alenN_encV (by simp; omega) (by omega) hupd_self' (by simp) rfl (by omega) rfl) ?_
  have hrow : ∀ k : Nat, 1 ≤ k → k ≤ n → (List.replicate k v ++ List.replicate (n - k) (0 : Int)).length = n := fun k h1 h2 => by simp; omega
  have hst : lput ((List.replicate n (0 : Int)).map (AV.int .i64)) 0 [.int .i64 v] = (List.replicate 1 v ++ List.replicate (n - 1) (0 : Int)).map (AV.int .i64) := by
    obtain ⟨m, rfl⟩ : ∃ m, n = m + 1 := ⟨n - 1, by omega⟩
    simp [lput, List.replicate_succ]
  rw [hst]
  repeat' (first | refine w_seq ?_ | refine w_block ?_ | refine a_n ?_ | refine o_nil ?_ | (apply o_val rfl rfl; (focus ((try simp (disch := omega) only [simB0, simB1, SA, SV, SN, SR, SL, pick_bool, Nat.reduceEqDiff, ↓reduceIte, Nat.reduceAdd, Nat.reduceLeDiff, SO, one_encV, one_encVV, Bool.and_self, Bool.false_eq_true, reduceCtorEq, wrap64, aixS_encV, aixS_encVV, alenS_encV, alenS_encVV, Int.toNat_natCast, List.length_map, aixS_msl, getElem?_map_lt, Nat.mul_one]); first | with_reducible rfl | (apply s_ite; (focus omega); with_reducible rfl)))) | refine w_loop ?_)
  refine loopI (X := Nat) (fun k => [(7, .msl 0 n 1 0 n), (8, .int .i64 k)]) (fun k H nx => 1 ≤ k ∧ k ≤ n ∧ H 0 = some ((List.replicate k v ++ List.replicate (n - k) (0 : Int)).map (AV.int .i64))) (fun k => n - k) 1 ⟨Nat.le_refl _, h1, hupd_self'⟩ (by simp (disch := omega) only [agr, SA, Nat.reduceEqDiff, ↓reduceIte, wrap64, Int.natCast_add, Int.natCast_one, Int.natCast_zero, and_true, and_self]) ?_
  rintro k H nx ⟨k1, k2, hH⟩
  by_cases hk : k < n
  · have s1 : asls 1 (.msl 0 n 1 0 n) (some (.int .i64 k)) none none = some (.msl 0 n 1 k (n - k)) := by
      simp [asls, abound]; omega
    have s2 : asls 1 (.msl 0 n 1 0 n) none (some (.int .i64 k)) none = some (.msl 0 n 1 0 k) := by
      simp [asls, abound]; omega
    have hcp : acopy 1 (.msl 0 n 1 k (n - k)) (.msl 0 n 1 0 k) H = some (min k (n - k), hupd H 0 (lput ((List.replicate k v ++ List.replicate (n - k) (0 : Int)).map (AV.int .i64)) k ((List.replicate (min k (n - k)) v).map (AV.int .i64)))) := by
      refine acopy_msl (m := min k (n - k)) (ls := k) (k := min k (n - k)) rfl rfl (by omega) hH (by simp; omega) ?_ (by omega) ones_int
      have h := asrc_msl (H := H) (sz := 1) (b := 0) (n := n) (off := 0) (len := min k (n - k)) hH (by simp; omega) (by omega)
      refine h.trans ?_
      congr 2
      simp only [List.drop_zero, Nat.mul_one, List.map_append, List.map_replicate]
      rw [List.take_append_of_le_length (by simp; omega), List.take_replicate]
      congr 1; omega
    repeat' (first | refine w_seq ?_ | refine w_ops0 ?_ | (apply w_mix9 rfl; (focus rfl)) | refine w_block ?_ | refine w_skip ?_ | refine a_n ?_ | refine o_nil ?_ | (apply o_val rfl rfl; (focus ((try simp (disch := omega) only [simB0, simB1, SA, SV, SN, SR, SL, pick_bool, Nat.reduceEqDiff, ↓reduceIte, Nat.reduceAdd, Nat.reduceLeDiff, SO, one_encV, one_encVV, Bool.and_self, Bool.false_eq_true, reduceCtorEq, wrap64, aixS_encV, aixS_encVV, alenS_encV, alenS_encVV, Int.toNat_natCast, List.length_map, aixS_msl, getElem?_map_lt, Nat.mul_one, s1, s2]); first | with_reducible rfl | (apply s_ite; (focus omega); with_reducible rfl)))) | (apply w_cond; (focus ((try simp only [simB0, simB1, SA, SV, SN, SR, SL, pick_bool, Nat.reduceEqDiff, ↓reduceIte, Nat.reduceAdd, Nat.reduceLeDiff, s1, s2]); (try with_reducible rfl); done)); all_goals (intro _hg; (try simp only [Bool.not_eq_true', Bool.not_eq_false', Bool.not_not, decide_eq_true_eq, decide_eq_false_iff_not] at _hg); try (exfalso; omega))))
    refine o_cpy (by ((try simp only [simB0, simB1, SA, SV, SN, SR, SL, pick_bool, Nat.reduceEqDiff, ↓reduceIte, Nat.reduceAdd, Nat.reduceLeDiff]); (try with_reducible rfl)); exact hcp) ?_
    have e5 : lput ((List.replicate k v ++ List.replicate (n - k) (0 : Int)).map (AV.int .i64)) k ((List.replicate (min k (n - k)) v).map (AV.int .i64)) = (List.replicate (k + min k (n - k)) v ++ List.replicate (n - (k + min k (n - k))) (0 : Int)).map (AV.int .i64) := by
      simp only [lput, List.map_append, List.map_replicate, List.length_replicate]
      rw [List.take_append_of_le_length (by simp), List.take_replicate, Nat.min_self, List.drop_append]
      simp only [List.drop_replicate, List.length_replicate]
      rw [show k - (k + min k (n - k)) = 0 by omega, show n - k - (k + min k (n - k) - k) = n - (k + min k (n - k)) by omega, List.replicate_zero, List.nil_append, List.replicate_append_replicate.symm]
      try simp
    rw [e5]
    repeat' (first | refine a_n ?_ | refine o_nil ?_ | (apply o_val rfl rfl; (focus ((try simp (disch := omega) only [simB0, simB1, SA, SV, SN, SR, SL, pick_bool, Nat.reduceEqDiff, ↓reduceIte, Nat.reduceAdd, Nat.reduceLeDiff, SO, one_encV, one_encVV, Bool.and_self, Bool.false_eq_true, reduceCtorEq, wrap64, aixS_encV, aixS_encVV, alenS_encV, alenS_encVV, Int.toNat_natCast, List.length_map, aixS_msl, getElem?_map_lt, Nat.mul_one]); first | with_reducible rfl | (apply s_ite; (focus omega); with_reducible rfl)))))
    refine ⟨k + min k (n - k), by omega, ⟨by omega, by omega, hupd_self'⟩, by simp (disch := omega) only [agr, SA, Nat.reduceEqDiff, ↓reduceIte, wrap64, Int.natCast_add, Int.natCast_one, Int.natCast_zero, and_true, and_self]⟩
  · have hkn : k = n := by omega
    subst hkn
    repeat' (first | refine w_seq ?_ | refine w_ops0 ?_ | refine w_exit ?_ | refine w_ret ?_ | refine a_n ?_ | refine a_x ?_ | refine o_nil ?_ | (apply o_val rfl rfl; (focus ((try simp (disch := omega) only [simB0, simB1, SA, SV, SN, SR, SL, pick_bool, Nat.reduceEqDiff, ↓reduceIte, Nat.reduceAdd, Nat.reduceLeDiff, SO, one_encV, one_encVV, Bool.and_self, Bool.false_eq_true, reduceCtorEq, wrap64, aixS_encV, aixS_encVV, alenS_encV, alenS_encVV, Int.toNat_natCast, List.length_map, aixS_msl, getElem?_map_lt, Nat.mul_one]); first | with_reducible rfl | (apply s_ite; (focus omega); with_reducible rfl)))) | (apply w_cond; (focus ((try simp only [simB0, simB1, SA, SV, SN, SR, SL, pick_bool, Nat.reduceEqDiff, ↓reduceIte, Nat.reduceAdd, Nat.reduceLeDiff]); (try with_reducible rfl); done)); all_goals (intro _hg; (try simp only [Bool.not_eq_true', Bool.not_eq_false', Bool.not_not, decide_eq_true_eq, decide_eq_false_iff_not] at _hg); try (exfalso; omega))) | (refine e_ends rfl ?_) | (apply r_1; (focus (simp only [rv, simB0, simB1, SA, SV, SN, SR, SL, pick_bool, Nat.reduceEqDiff, ↓reduceIte, Nat.reduceAdd, Nat.reduceLeDiff]; with_reducible rfl))))
    rw [Nat.sub_self, List.replicate_zero, List.append_nil] at hH
    exact snapF_row hH rfl (by simp)

end Go.Proofs.Ytcbkggfipdldaaa

/- P29: contracts of functions and plain laws; for all inputs that the theorems name. -/
set_option linter.unusedSimpArgs false
set_option linter.unusedVariables false
namespace Go.Proofs.Ytcbkggfipdldaaa
open Go Go.Abs
attribute [local irreducible] awp2 aops2 ains aloop athen bbind obind gbind acond res1 Go.Abs.Fn PCall Go.Abs.Pure SnapArgs SnapL Yl

theorem law6_out (n v : Int) (h : n < 2 ∨ 3 < n ∨ v < 1 ∨ 3 < v) : Pure Try.prog 6 [.int .i64 n, .int .i64 v] (.bool true) := by
  refine Pure.of_c2 follows is6 (Nat.le_of_ble_eq_true rfl) ?_
  simp only [b6]
  refine w_seq ?_
  repeat' (first | refine w_ops0 ?_ | refine a_n ?_ | refine o_nil ?_ | (apply o_val rfl rfl; (focus ((try simp (disch := omega) only [simB0, simB1, SA, SV, SN, SR, SL, pick_bool, Nat.reduceEqDiff, ↓reduceIte, Nat.reduceAdd, Nat.reduceLeDiff, SO, one_encV, one_encVV, Bool.and_self, Bool.false_eq_true, reduceCtorEq, wrap64, aixS_encV, aixS_encVV, alenS_encV, alenS_encVV, Int.toNat_natCast, List.length_map, aixS_msl, getElem?_map_lt, Nat.mul_one]); first | with_reducible rfl | (apply s_ite; (focus omega); with_reducible rfl)))))
  refine w_seqC (fun T H nx => False) ?_ (fun _ _ _ h => h.elim)
  repeat' (first | refine w_seq ?_ | refine w_ops0 ?_ | refine w_ret ?_ | refine a_n ?_ | refine a_r ?_ | refine o_nil ?_ | (apply o_val rfl rfl; (focus ((try simp (disch := omega) only [simB0, simB1, SA, SV, SN, SR, SL, pick_bool, Nat.reduceEqDiff, ↓reduceIte, Nat.reduceAdd, Nat.reduceLeDiff, SO, one_encV, one_encVV, Bool.and_self, Bool.false_eq_true, reduceCtorEq, wrap64, aixS_encV, aixS_encVV, alenS_encV, alenS_encVV, Int.toNat_natCast, List.length_map, aixS_msl, getElem?_map_lt, Nat.mul_one]); first | with_reducible rfl | (apply s_ite; (focus omega); with_reducible rfl)))) | (apply o_callD; (focus ((try simp only [simB0, simB1, SA, SV, SN, SR, SL, pick_bool, Nat.reduceEqDiff, ↓reduceIte, Nat.reduceAdd, Nat.reduceLeDiff]); (try with_reducible rfl); done)); (focus ((try simp only [simB0, simB1, SA, SV, SN, SR, SL, pick_bool, Nat.reduceEqDiff, ↓reduceIte, Nat.reduceAdd, Nat.reduceLeDiff]); (try with_reducible rfl); done)); (focus (first | (exact awake_c))); (focus (first | (apply snap_data; repeat' (first | exact snapL_nil | apply snapL_dat | exact Dat.int | exact Dat.bool | exact Dat.str | exact Dat.esl | exact Dat.nilf | exact encV_dat _ | exact encVV_dat _)) | (apply snap_plain; (focus (repeat' (first | exact snapL_nil | apply snapL_dat | exact Dat.int | exact Dat.bool | exact Dat.str | exact encV_dat _ | exact encVV_dat _))); rfl)))) | (apply o_gT; (focus (simp only [simB0, simB1, SA, SV, SN, SR, SL, pick_bool, Nat.reduceEqDiff, ↓reduceIte, Nat.reduceAdd, Nat.reduceLeDiff]; done))) | (apply o_gF; (focus (simp only [simB0, simB1, SA, SV, SN, SR, SL, pick_bool, Nat.reduceEqDiff, ↓reduceIte, Nat.reduceAdd, Nat.reduceLeDiff, or_true, true_or]; done))) | (apply o_gB; (focus ((try simp only [simB0, simB1, SA, SV, SN, SR, SL, pick_bool, Nat.reduceEqDiff, ↓reduceIte, Nat.reduceAdd, Nat.reduceLeDiff]); (try with_reducible rfl); done)); all_goals (intro _hg; (try simp only [Bool.not_true, Bool.not_false, Bool.not_eq_true', Bool.not_eq_false', Bool.not_not, decide_eq_true_eq, decide_eq_false_iff_not] at _hg); try (exfalso; omega))) | (apply w_condT; (focus (simp only [simB0, simB1, SA, SV, SN, SR, SL, pick_bool, Nat.reduceEqDiff, ↓reduceIte, Nat.reduceAdd, Nat.reduceLeDiff]; done))) | (apply w_cond; (focus ((try simp only [simB0, simB1, SA, SV, SN, SR, SL, pick_bool, Nat.reduceEqDiff, ↓reduceIte, Nat.reduceAdd, Nat.reduceLeDiff]); (try with_reducible rfl); done)); all_goals (intro _hg; (try simp only [Bool.not_eq_true', Bool.not_eq_false', Bool.not_not, decide_eq_true_eq, decide_eq_false_iff_not] at _hg); try (exfalso; omega))) | (refine e_ends rfl ?_) | (apply r_1; (focus (simp only [rv, simB0, simB1, SA, SV, SN, SR, SL, pick_bool, Nat.reduceEqDiff, ↓reduceIte, Nat.reduceAdd, Nat.reduceLeDiff]; with_reducible rfl))))
  all_goals exact .bool _

theorem len_good {t : TaskV} (hg : goodT t = true) {c : CaseV} (hc : c ∈ t.cases) : (c.inp.length : Int) = t.n := by
  unfold goodT at hg
  simp only [Bool.and_eq_true, decide_eq_true_iff, List.all_eq_true] at hg
  have := (hg.1.2 c hc).1
  unfold goodV at this
  simp only [Bool.and_eq_true, decide_eq_true_iff] at this
  exact this.1

theorem law6_in (n v : Nat) (A C : TaskV) (hn : 2 ≤ n ∧ n ≤ 3) (hv : 1 ≤ v ∧ v ≤ 3) (cA : Pure Try.prog 13 [.int .i64 n, .int .i64 v] (.tup [encT A, .int .i64 0])) (cC : Pure Try.prog 23 [.int .i64 n] (.tup [encT C, .int .i64 0]))
    (sA : ∀ c ∈ A.cases, ShC c) (sC : ∀ c ∈ C.cases, ShC c) (lA : Sh A.cases) (lC : Sh C.cases) (gA : goodT A = true) (gC : goodT C = true) (nA : A.n = n) (nC : C.n = n) (oA : (v : Int) < A.outs) (oC : 1 ≤ C.outs)
    (fA : ∀ c ∈ A.cases, allowV c 0 = [List.replicate n (c.inp.getD 0 default)] ∧ ((allowV c 1).any fun w => agreesB w (List.replicate n (v : Int)) 1) = true)
    (fC : ∀ c ∈ C.cases, allowV c 0 = [List.replicate n (if 0 ∈ c.inp then 0 else 1)] ∧ ((allowV c 2).any fun w => agreesB w (List.replicate n 0) 2) = true) : Pure Try.prog 6 [.int .i64 n, .int .i64 v] (.bool true) := by
  refine Pure.of_c2 follows is6 (Nat.le_of_ble_eq_true rfl) ?_
  simp only [b6]
  have dA := encT_dat A
  have dC := encT_dat C
  have hnA : 4 ≤ 2 ^ A.n.toNat := by
    rw [nA, Int.toNat_natCast]
    have := Nat.pow_le_pow_right (n := 2) (by omega) hn.1
    omega
  have hnC : 4 ≤ 2 ^ C.n.toNat := by
    rw [nC, Int.toNat_natCast]
    have := Nat.pow_le_pow_right (n := 2) (by omega) hn.1
    omega
  refine w_seq ?_
  repeat' (first | refine w_ops0 ?_ | refine a_n ?_ | refine o_nil ?_ | (apply o_val rfl rfl; (focus ((try simp (disch := omega) only [simB0, simB1, SA, SV, SN, SR, SL, pick_bool, Nat.reduceEqDiff, ↓reduceIte, Nat.reduceAdd, Nat.reduceLeDiff, SO, one_encV, one_encVV, Bool.and_self, Bool.false_eq_true, reduceCtorEq, wrap64, aixS_encV, aixS_encVV, alenS_encV, alenS_encVV, Int.toNat_natCast, List.length_map, aixS_msl, getElem?_map_lt, Nat.mul_one]); first | with_reducible rfl | (apply s_ite; (focus omega); with_reducible rfl)))))
  refine w_seqC (fun T H nx => H = noBoxes ∧ nx = 0 ∧ T 0 = .int .i64 n ∧ T 1 = .int .i64 v) ?_ ?_
  · repeat' (first | refine w_seq ?_ | refine w_ops0 ?_ | refine w_skip ?_ | refine a_n ?_ | refine o_nil ?_ | (apply o_val rfl rfl; (focus ((try simp (disch := omega) only [simB0, simB1, SA, SV, SN, SR, SL, pick_bool, Nat.reduceEqDiff, ↓reduceIte, Nat.reduceAdd, Nat.reduceLeDiff, SO, one_encV, one_encVV, Bool.and_self, Bool.false_eq_true, reduceCtorEq, wrap64, aixS_encV, aixS_encVV, alenS_encV, alenS_encVV, Int.toNat_natCast, List.length_map, aixS_msl, getElem?_map_lt, Nat.mul_one]); first | with_reducible rfl | (apply s_ite; (focus omega); with_reducible rfl)))) | (apply o_gT; (focus (simp only [simB0, simB1, SA, SV, SN, SR, SL, pick_bool, Nat.reduceEqDiff, ↓reduceIte, Nat.reduceAdd, Nat.reduceLeDiff]; done))) | (apply o_gB; (focus ((try simp only [simB0, simB1, SA, SV, SN, SR, SL, pick_bool, Nat.reduceEqDiff, ↓reduceIte, Nat.reduceAdd, Nat.reduceLeDiff]); (try with_reducible rfl); done)); all_goals (intro _hg; (try simp only [Bool.not_true, Bool.not_false, Bool.not_eq_true', Bool.not_eq_false', Bool.not_not, decide_eq_true_eq, decide_eq_false_iff_not] at _hg); try (exfalso; omega))) | (apply w_cond; (focus ((try simp only [simB0, simB1, SA, SV, SN, SR, SL, pick_bool, Nat.reduceEqDiff, ↓reduceIte, Nat.reduceAdd, Nat.reduceLeDiff]); (try with_reducible rfl); done)); all_goals (intro _hg; (try simp only [Bool.not_eq_true', Bool.not_eq_false', Bool.not_not, decide_eq_true_eq, decide_eq_false_iff_not] at _hg); try (exfalso; omega))))
    exact ⟨rfl, rfl, rfl, rfl⟩
  rintro T H nx ⟨rfl, rfl, t0, t1⟩
  unfold encT at cA cC dA dC
  repeat' (first | refine w_seq ?_ | refine w_ops0 ?_ | refine w_block ?_ | refine w_skip ?_ | refine a_n ?_ | refine o_nil ?_ | (apply o_val rfl rfl; (focus ((try simp (disch := omega) only [simB0, simB1, SA, SV, SN, SR, SL, pick_bool, Nat.reduceEqDiff, ↓reduceIte, Nat.reduceAdd, Nat.reduceLeDiff, SO, one_encV, one_encVV, Bool.and_self, Bool.false_eq_true, reduceCtorEq, wrap64, aixS_encV, aixS_encVV, alenS_encV, alenS_encVV, Int.toNat_natCast, List.length_map, aixS_msl, getElem?_map_lt, Nat.mul_one, t0, t1, encCs_one, encCs_cells, alenS_encCs]); first | with_reducible rfl | (apply s_ite; (focus omega); with_reducible rfl)))) | (apply o_callD; (focus ((try simp only [simB0, simB1, SA, SV, SN, SR, SL, pick_bool, Nat.reduceEqDiff, ↓reduceIte, Nat.reduceAdd, Nat.reduceLeDiff, t0, t1, encCs_one, encCs_cells, alenS_encCs]); (try with_reducible rfl); done)); (focus ((try simp only [simB0, simB1, SA, SV, SN, SR, SL, pick_bool, Nat.reduceEqDiff, ↓reduceIte, Nat.reduceAdd, Nat.reduceLeDiff, t0, t1, encCs_one, encCs_cells, alenS_encCs]); (try with_reducible rfl); done)); (focus (first | (exact cA) | (exact cC))); (focus (first | (apply snap_data; repeat' (first | exact snapL_nil | apply snapL_dat | exact Dat.int | exact Dat.bool | exact Dat.str | exact Dat.esl | exact Dat.nilf | exact encV_dat _ | exact encVV_dat _ | exact dA | exact dC)) | (apply snap_plain; (focus (repeat' (first | exact snapL_nil | apply snapL_dat | exact Dat.int | exact Dat.bool | exact Dat.str | exact encV_dat _ | exact encVV_dat _ | exact dA | exact dC))); rfl)))) | (apply e_alloc rfl; (focus ((try simp only [simB0, simB1, SA, SV, SN, SR, SL, pick_bool, Nat.reduceEqDiff, ↓reduceIte, Nat.reduceAdd, Nat.reduceLeDiff, t0, t1, encCs_one, encCs_cells, alenS_encCs]); (try with_reducible rfl); done)); (focus (simp only [SO, Bool.and_self, one_encV, one_encVV, t0, t1, encCs_one, encCs_cells, alenS_encCs]))) | (apply e_st rfl; (focus ((try simp only [simB0, simB1, SA, SV, SN, SR, SL, pick_bool, Nat.reduceEqDiff, ↓reduceIte, Nat.reduceAdd, Nat.reduceLeDiff, t0, t1, encCs_one, encCs_cells, alenS_encCs]); (try with_reducible rfl); done)); (focus ((try simp only [simB0, simB1, SA, SV, SN, SR, SL, pick_bool, Nat.reduceEqDiff, ↓reduceIte, Nat.reduceAdd, Nat.reduceLeDiff, t0, t1, encCs_one, encCs_cells, alenS_encCs]); (try with_reducible rfl); done)); (focus ((try simp only [simB0, simB1, SA, SV, SN, SR, SL, pick_bool, Nat.reduceEqDiff, ↓reduceIte, Nat.reduceAdd, Nat.reduceLeDiff, t0, t1, encCs_one, encCs_cells, alenS_encCs]); (try with_reducible rfl); done)); (focus ((try simp only [simB0, simB1, SA, SV, SN, SR, SL, pick_bool, Nat.reduceEqDiff, ↓reduceIte, Nat.reduceAdd, Nat.reduceLeDiff, t0, t1, encCs_one, encCs_cells, alenS_encCs]); (try with_reducible rfl); done)); (focus (simp only [SO, Bool.and_self, one_encV, one_encVV, t0, t1, encCs_one, encCs_cells, alenS_encCs])); (focus ((try simp only [SL, Nat.reduceAdd, Nat.reduceMul, List.length_map]); first | done | omega)); (focus ((try simp only [SL, Nat.reduceAdd, Nat.reduceMul, List.length_map]); first | done | omega)); (focus ((try simp only [SL, Nat.reduceAdd, Nat.reduceMul, List.length_map]); first | done | omega))) | (apply o_gT; (focus (simp only [simB0, simB1, SA, SV, SN, SR, SL, pick_bool, Nat.reduceEqDiff, ↓reduceIte, Nat.reduceAdd, Nat.reduceLeDiff, t0, t1, encCs_one, encCs_cells, alenS_encCs]; done))) | (apply o_gB; (focus ((try simp only [simB0, simB1, SA, SV, SN, SR, SL, pick_bool, Nat.reduceEqDiff, ↓reduceIte, Nat.reduceAdd, Nat.reduceLeDiff, t0, t1, encCs_one, encCs_cells, alenS_encCs]); (try with_reducible rfl); done)); all_goals (intro _hg; (try simp only [Bool.not_true, Bool.not_false, Bool.not_eq_true', Bool.not_eq_false', Bool.not_not, decide_eq_true_eq, decide_eq_false_iff_not] at _hg); try (exfalso; omega))) | (apply w_cond; (focus ((try simp only [simB0, simB1, SA, SV, SN, SR, SL, pick_bool, Nat.reduceEqDiff, ↓reduceIte, Nat.reduceAdd, Nat.reduceLeDiff, t0, t1, encCs_one, encCs_cells, alenS_encCs]); (try with_reducible rfl); done)); all_goals (intro _hg; (try simp only [Bool.not_eq_true', Bool.not_eq_false', Bool.not_not, decide_eq_true_eq, decide_eq_false_iff_not] at _hg); try (exfalso; omega))) | refine w_loop ?_)
  refine loopI (X := Nat) (fun k => [(0, .int .i64 n), (1, .int .i64 v), (5, .ptr 0 4 0), (7, .ptr 1 4 0), (55, encCs A.cases), (56, .int .i64 A.cases.length), (57, .int .i64 k)])
    (fun k H nx => k ≤ A.cases.length ∧ 2 ≤ nx ∧ H 0 = some [.int .i64 A.n, .int .i64 A.ins, .int .i64 A.outs, encCs A.cases] ∧ H 1 = some [.int .i64 C.n, .int .i64 C.ins, .int .i64 C.outs, encCs C.cases]) (fun k => A.cases.length - k) 0 ⟨Nat.zero_le _, Nat.le_refl _, rfl, rfl⟩ (by simp (disch := omega) only [agr, SA, Nat.reduceEqDiff, ↓reduceIte, wrap64, Int.natCast_add, Int.natCast_one, Int.natCast_zero, and_true, and_self, t0, t1, alenS_encCs, List.length_cons, List.length_nil, Nat.reduceAdd, Nat.zero_add]) ?_
  rintro k H nx ⟨h1, h2, g0, g1⟩
  by_cases hk : k < A.cases.length
  · have ix := aixS_encCs hk
    have hm := mem_getD hk
    obtain ⟨f1, f2⟩ := fA _ hm
    have hs := sA _ hm
    have hlen := len_good gA hm
    have al := allowedT_c A k 0 sA gA hk (by omega) (by rw [f1]; simp)
    have pe := permitted_c A k 1 (List.replicate n (v : Int)) sA gA hk (by omega) (by rw [nA]; simp) (by show _ ≤ _; simp; omega) (fun x hx => by rw [List.eq_of_mem_replicate hx]; omega)
    rw [f1] at al
    rw [f2] at pe
    have rp1 := repeat_c (v : Int) n (by omega) (by omega)
    have rp2 := repeat_c ((A.cases.getD k default).inp.getD 0 default) n (by omega) (by omega)
    have eq1 := equalV_c (List.replicate n ((A.cases.getD k default).inp.getD 0 default)) (List.replicate n ((A.cases.getD k default).inp.getD 0 default)) (by show _ ≤ _; simp; omega) (by show _ ≤ _; simp; omega)
    rw [decide_eq_true rfl] at eq1
    unfold encT at al pe
    have d1 : Dat (encC (A.cases.getD k default)) := Dat.agg (DatL.cons (encV_dat _) (DatL.cons (encVV_dat _) (DatL.cons (encVV_dat _) DatL.nil)))
    unfold encC at d1
    generalize hc : A.cases.getD k default = c at *
    have hsl := asls_encV_hi (l := c.inp) (k := 1) (by omega)
    rw [take_one (by omega), show ((1 : Nat) : Int) = 1 from rfl] at hsl
    repeat' (first | refine w_seq ?_ | refine w_ops0 ?_ | refine w_ops1 ?_ | refine w_block ?_ | refine w_skip ?_ | refine a_n ?_ | refine o_nil ?_ | (apply o_val rfl; (focus (first | rfl | (simp (disch := omega) only [dm2, oldP, newP, simB0, simB1, SA, SV, SN, SR, SL, pick_bool, Nat.reduceEqDiff, ↓reduceIte, Nat.reduceAdd, Nat.reduceLeDiff, decide_eq_true_eq]; first | done | omega))); (focus ((try simp (disch := omega) only [simB2, simB1, SA, SV, SN, SR, SL, pick_bool, Nat.reduceEqDiff, ↓reduceIte, Nat.reduceAdd, Nat.reduceLeDiff, SO, one_encV, one_encVV, Bool.and_self, Bool.false_eq_true, reduceCtorEq, wrap64, aixS_encV, aixS_encVV, alenS_encV, alenS_encVV, Int.toNat_natCast, List.length_map, aixS_msl, getElem?_map_lt, Nat.mul_one, t0, t1, g0, g1, encCs_one, encCs_cells, alenS_encCs, ix, hc]); first | with_reducible rfl | (apply s_ite; (focus omega); with_reducible rfl)))) | (apply o_callD; (focus ((try simp (disch := omega) only [simB2, simB1, SA, SV, SN, SR, SL, pick_bool, Nat.reduceEqDiff, ↓reduceIte, Nat.reduceAdd, Nat.reduceLeDiff, t0, t1, g0, g1, encCs_one, encCs_cells, alenS_encCs, ix, hc]); (try with_reducible rfl); done)); (focus ((try simp (disch := omega) only [simB2, simB1, SA, SV, SN, SR, SL, pick_bool, Nat.reduceEqDiff, ↓reduceIte, Nat.reduceAdd, Nat.reduceLeDiff, t0, t1, g0, g1, encCs_one, encCs_cells, alenS_encCs, ix, hc]); (try with_reducible rfl); done)); (focus (first | (exact al))); (focus (first | (apply snap_data; repeat' (first | exact snapL_nil | apply snapL_dat | exact Dat.int | exact Dat.bool | exact Dat.str | exact Dat.esl | exact Dat.nilf | exact encV_dat _ | exact encVV_dat _ | exact dA | exact d1)) | (apply snap_plain; (focus (repeat' (first | exact snapL_nil | apply snapL_dat | exact Dat.int | exact Dat.bool | exact Dat.str | exact encV_dat _ | exact encVV_dat _ | exact dA | exact d1))); rfl)))) | (apply e_alloc rfl; (focus ((try simp (disch := omega) only [simB2, simB1, SA, SV, SN, SR, SL, pick_bool, Nat.reduceEqDiff, ↓reduceIte, Nat.reduceAdd, Nat.reduceLeDiff, t0, t1, g0, g1, encCs_one, encCs_cells, alenS_encCs, ix, hc]); (try with_reducible rfl); done)); (focus (simp (disch := omega) only [SO, Bool.and_self, one_encV, one_encVV, t0, t1, g0, g1, encCs_one, encCs_cells, alenS_encCs, ix, hc]))) | (apply e_st; (focus (first | rfl | (simp (disch := omega) only [dm2, oldP, newP, simB0, simB1, SA, SV, SN, SR, SL, pick_bool, Nat.reduceEqDiff, ↓reduceIte, Nat.reduceAdd, Nat.reduceLeDiff, decide_eq_true_eq]; first | done | omega))); (focus ((try simp (disch := omega) only [simB2, simB1, SA, SV, SN, SR, SL, pick_bool, Nat.reduceEqDiff, ↓reduceIte, Nat.reduceAdd, Nat.reduceLeDiff, t0, t1, g0, g1, encCs_one, encCs_cells, alenS_encCs, ix, hc]); (try with_reducible rfl); done)); (focus ((try simp (disch := omega) only [simB2, simB1, SA, SV, SN, SR, SL, pick_bool, Nat.reduceEqDiff, ↓reduceIte, Nat.reduceAdd, Nat.reduceLeDiff, t0, t1, g0, g1, encCs_one, encCs_cells, alenS_encCs, ix, hc]); (try with_reducible rfl); done)); (focus ((try simp (disch := omega) only [simB2, simB1, SA, SV, SN, SR, SL, pick_bool, Nat.reduceEqDiff, ↓reduceIte, Nat.reduceAdd, Nat.reduceLeDiff, t0, t1, g0, g1, encCs_one, encCs_cells, alenS_encCs, ix, hc]); (try with_reducible rfl); done)); (focus ((try simp (disch := omega) only [simB2, simB1, SA, SV, SN, SR, SL, pick_bool, Nat.reduceEqDiff, ↓reduceIte, Nat.reduceAdd, Nat.reduceLeDiff, t0, t1, g0, g1, encCs_one, encCs_cells, alenS_encCs, ix, hc]); (try with_reducible rfl); done)); (focus (simp (disch := omega) only [SO, Bool.and_self, one_encV, one_encVV, t0, t1, g0, g1, encCs_one, encCs_cells, alenS_encCs, ix, hc])); (focus ((try simp (disch := omega) only [SL, Nat.reduceAdd, Nat.reduceMul, List.length_map]); first | done | omega)); (focus ((try simp (disch := omega) only [SL, Nat.reduceAdd, Nat.reduceMul, List.length_map]); first | done | omega)); (focus ((try simp (disch := omega) only [SL, Nat.reduceAdd, Nat.reduceMul, List.length_map]); first | done | omega))) | (apply e_bld rfl; (focus (exact Nat.succ_ne_zero _)); (focus ((try simp (disch := omega) only [simB2, simB1, SA, SV, SN, SR, SL, pick_bool, Nat.reduceEqDiff, ↓reduceIte, Nat.reduceAdd, Nat.reduceLeDiff, t0, t1, g0, g1, encCs_one, encCs_cells, alenS_encCs, ix, hc]); (try with_reducible rfl); done)); (focus ((try simp (disch := omega) only [simB2, simB1, SA, SV, SN, SR, SL, pick_bool, Nat.reduceEqDiff, ↓reduceIte, Nat.reduceAdd, Nat.reduceLeDiff, SO, Bool.and_self, one_encV, one_encVV, t0, t1, g0, g1, encCs_one, encCs_cells, alenS_encCs, ix, hc]); (try with_reducible rfl); done))) | (apply w_cond; (focus ((try simp (disch := omega) only [simB2, simB1, SA, SV, SN, SR, SL, pick_bool, Nat.reduceEqDiff, ↓reduceIte, Nat.reduceAdd, Nat.reduceLeDiff, t0, t1, g0, g1, encCs_one, encCs_cells, alenS_encCs, ix, hc]); (try with_reducible rfl); done)); all_goals (intro _hg; (try simp (disch := omega) only [Bool.not_eq_true', Bool.not_eq_false', Bool.not_not, decide_eq_true_eq, decide_eq_false_iff_not] at _hg); try (exfalso; omega))))
    refine o_callF (xs := [.msl (nx + 1) 1 1 0 1, .int .i64 n]) (by ((try simp only [simB0, simB1, SA, SV, SN, SR, SL, pick_bool, Nat.reduceEqDiff, ↓reduceIte, Nat.reduceAdd, Nat.reduceLeDiff]); (try with_reducible rfl))) (by ((try simp only [simB0, simB1, SA, SV, SN, SR, SL, pick_bool, Nat.reduceEqDiff, ↓reduceIte, Nat.reduceAdd, Nat.reduceLeDiff]); (try with_reducible rfl))) rp1 (snapL_cons (snap_row (l := [(v : Int)]) hupd_self' rfl rfl) (snapL_cons (.int _ _) snapL_nil)) ?_
    repeat' (first | refine w_seq ?_ | refine w_ops0 ?_ | refine w_ops1 ?_ | refine w_ret ?_ | refine a_n ?_ | refine a_r ?_ | refine o_nil ?_ | (apply o_val rfl; (focus (first | rfl | (simp (disch := omega) only [dm2, oldP, newP, simB0, simB1, SA, SV, SN, SR, SL, pick_bool, Nat.reduceEqDiff, ↓reduceIte, Nat.reduceAdd, Nat.reduceLeDiff, decide_eq_true_eq]; first | done | omega))); (focus ((try simp (disch := omega) only [simB2, simB1, SA, SV, SN, SR, SL, pick_bool, Nat.reduceEqDiff, ↓reduceIte, Nat.reduceAdd, Nat.reduceLeDiff, SO, one_encV, one_encVV, Bool.and_self, Bool.false_eq_true, reduceCtorEq, wrap64, aixS_encV, aixS_encVV, alenS_encV, alenS_encVV, Int.toNat_natCast, List.length_map, aixS_msl, getElem?_map_lt, Nat.mul_one, t0, t1, g0, g1, encCs_one, encCs_cells, alenS_encCs, ix, hc, hsl]); first | with_reducible rfl | (apply s_ite; (focus omega); with_reducible rfl)))) | (apply o_callD; (focus ((try simp (disch := omega) only [simB2, simB1, SA, SV, SN, SR, SL, pick_bool, Nat.reduceEqDiff, ↓reduceIte, Nat.reduceAdd, Nat.reduceLeDiff, t0, t1, g0, g1, encCs_one, encCs_cells, alenS_encCs, ix, hc, hsl]); (try with_reducible rfl); done)); (focus ((try simp (disch := omega) only [simB2, simB1, SA, SV, SN, SR, SL, pick_bool, Nat.reduceEqDiff, ↓reduceIte, Nat.reduceAdd, Nat.reduceLeDiff, t0, t1, g0, g1, encCs_one, encCs_cells, alenS_encCs, ix, hc, hsl]); (try with_reducible rfl); done)); (focus (first | (exact pe))); (focus (first | (apply snap_data; repeat' (first | exact snapL_nil | apply snapL_dat | exact Dat.int | exact Dat.bool | exact Dat.str | exact Dat.esl | exact Dat.nilf | exact encV_dat _ | exact encVV_dat _ | exact dA | exact d1)) | (apply snap_plain; (focus (repeat' (first | exact snapL_nil | apply snapL_dat | exact Dat.int | exact Dat.bool | exact Dat.str | exact encV_dat _ | exact encVV_dat _ | exact dA | exact d1))); rfl)))) | (apply o_gT; (focus (simp (disch := omega) only [simB2, simB1, SA, SV, SN, SR, SL, pick_bool, Nat.reduceEqDiff, ↓reduceIte, Nat.reduceAdd, Nat.reduceLeDiff, t0, t1, g0, g1, encCs_one, encCs_cells, alenS_encCs, ix, hc, hsl]; done))) | (apply o_gF; (focus (simp (disch := omega) only [simB2, simB1, SA, SV, SN, SR, SL, pick_bool, Nat.reduceEqDiff, ↓reduceIte, Nat.reduceAdd, Nat.reduceLeDiff, or_true, true_or, t0, t1, g0, g1, encCs_one, encCs_cells, alenS_encCs, ix, hc, hsl]; done))) | (apply o_gB; (focus ((try simp (disch := omega) only [simB2, simB1, SA, SV, SN, SR, SL, pick_bool, Nat.reduceEqDiff, ↓reduceIte, Nat.reduceAdd, Nat.reduceLeDiff, t0, t1, g0, g1, encCs_one, encCs_cells, alenS_encCs, ix, hc, hsl]); (try with_reducible rfl); done)); all_goals (intro _hg; (try simp (disch := omega) only [Bool.not_true, Bool.not_false, Bool.not_eq_true', Bool.not_eq_false', Bool.not_not, decide_eq_true_eq, decide_eq_false_iff_not] at _hg); try (exfalso; omega))) | (apply w_condT; (focus (simp (disch := omega) only [simB2, simB1, SA, SV, SN, SR, SL, pick_bool, Nat.reduceEqDiff, ↓reduceIte, Nat.reduceAdd, Nat.reduceLeDiff, t0, t1, g0, g1, encCs_one, encCs_cells, alenS_encCs, ix, hc, hsl]; done))) | (refine e_ends rfl ?_) | (apply r_1; (focus (simp (disch := omega) only [rv, simB2, simB1, SA, SV, SN, SR, SL, pick_bool, Nat.reduceEqDiff, ↓reduceIte, Nat.reduceAdd, Nat.reduceLeDiff, t0, t1, g0, g1, encCs_one, encCs_cells, alenS_encCs, ix, hc, hsl]; with_reducible rfl))))
    rotate_left
    · exfalso; simp_all
    refine o_callF (xs := [encV [c.inp.getD 0 default], .int .i64 n]) (by ((try simp only [simB0, simB1, SA, SV, SN, SR, SL, pick_bool, Nat.reduceEqDiff, ↓reduceIte, Nat.reduceAdd, Nat.reduceLeDiff]); (try with_reducible rfl))) (by ((try simp only [simB0, simB1, SA, SV, SN, SR, SL, pick_bool, Nat.reduceEqDiff, ↓reduceIte, Nat.reduceAdd, Nat.reduceLeDiff]); (try with_reducible rfl))) rp2 (snapL_cons (encV_dat _ _) (snapL_cons (.int _ _) snapL_nil)) ?_
    repeat' (first | refine w_ops0 ?_ | refine w_skip ?_ | refine a_n ?_ | refine o_nil ?_ | (apply o_val rfl; (focus (first | rfl | (simp (disch := omega) only [dm2, oldP, newP, simB0, simB1, SA, SV, SN, SR, SL, pick_bool, Nat.reduceEqDiff, ↓reduceIte, Nat.reduceAdd, Nat.reduceLeDiff, decide_eq_true_eq]; first | done | omega))); (focus ((try simp (disch := omega) only [simB2, simB1, SA, SV, SN, SR, SL, pick_bool, Nat.reduceEqDiff, ↓reduceIte, Nat.reduceAdd, Nat.reduceLeDiff, SO, one_encV, one_encVV, Bool.and_self, Bool.false_eq_true, reduceCtorEq, wrap64, aixS_encV, aixS_encVV, alenS_encV, alenS_encVV, Int.toNat_natCast, List.length_map, aixS_msl, getElem?_map_lt, Nat.mul_one, t0, t1, g0, g1, encCs_one, encCs_cells, alenS_encCs, ix, hc, Bool.false_eq_true]); first | with_reducible rfl | (apply s_ite; (focus omega); with_reducible rfl)))) | (apply o_callD; (focus ((try simp (disch := omega) only [simB2, simB1, SA, SV, SN, SR, SL, pick_bool, Nat.reduceEqDiff, ↓reduceIte, Nat.reduceAdd, Nat.reduceLeDiff, t0, t1, g0, g1, encCs_one, encCs_cells, alenS_encCs, ix, hc, Bool.false_eq_true]); (try with_reducible rfl); done)); (focus ((try simp (disch := omega) only [simB2, simB1, SA, SV, SN, SR, SL, pick_bool, Nat.reduceEqDiff, ↓reduceIte, Nat.reduceAdd, Nat.reduceLeDiff, t0, t1, g0, g1, encCs_one, encCs_cells, alenS_encCs, ix, hc, Bool.false_eq_true]); (try with_reducible rfl); done)); (focus (first | (exact eq1))); (focus (first | (apply snap_data; repeat' (first | exact snapL_nil | apply snapL_dat | exact Dat.int | exact Dat.bool | exact Dat.str | exact Dat.esl | exact Dat.nilf | exact encV_dat _ | exact encVV_dat _ | exact dA | exact d1)) | (apply snap_plain; (focus (repeat' (first | exact snapL_nil | apply snapL_dat | exact Dat.int | exact Dat.bool | exact Dat.str | exact encV_dat _ | exact encVV_dat _ | exact dA | exact d1))); rfl)))) | (apply o_gT; (focus (simp (disch := omega) only [simB2, simB1, SA, SV, SN, SR, SL, pick_bool, Nat.reduceEqDiff, ↓reduceIte, Nat.reduceAdd, Nat.reduceLeDiff, t0, t1, g0, g1, encCs_one, encCs_cells, alenS_encCs, ix, hc, Bool.false_eq_true]; done))) | (apply w_condF; (focus (simp (disch := omega) only [simB2, simB1, SA, SV, SN, SR, SL, pick_bool, Nat.reduceEqDiff, ↓reduceIte, Nat.reduceAdd, Nat.reduceLeDiff, t0, t1, g0, g1, encCs_one, encCs_cells, alenS_encCs, ix, hc, Bool.false_eq_true]; done))))
    refine ⟨k + 1, by omega, ⟨by omega, by omega, ?_, ?_⟩, by simp (disch := omega) only [agr, SA, Nat.reduceEqDiff, ↓reduceIte, wrap64, Int.natCast_add, Int.natCast_one, Int.natCast_zero, and_true, and_self]⟩
    · rw [hupd_ne (by omega), hupd_ne (by omega), hupd_ne (by omega), g0]
    · rw [hupd_ne (by omega), hupd_ne (by omega), hupd_ne (by omega), g1]
  · repeat' (first | refine w_seq ?_ | refine w_ops0 ?_ | refine w_block ?_ | refine w_exit ?_ | refine a_n ?_ | refine a_x ?_ | refine o_nil ?_ | (apply o_val rfl; (focus (first | rfl | (simp (disch := omega) only [dm2, oldP, newP, simB0, simB1, SA, SV, SN, SR, SL, pick_bool, Nat.reduceEqDiff, ↓reduceIte, Nat.reduceAdd, Nat.reduceLeDiff, decide_eq_true_eq]; first | done | omega))); (focus ((try simp (disch := omega) only [simB2, simB1, SA, SV, SN, SR, SL, pick_bool, Nat.reduceEqDiff, ↓reduceIte, Nat.reduceAdd, Nat.reduceLeDiff, SO, one_encV, one_encVV, Bool.and_self, Bool.false_eq_true, reduceCtorEq, wrap64, aixS_encV, aixS_encVV, alenS_encV, alenS_encVV, Int.toNat_natCast, List.length_map, aixS_msl, getElem?_map_lt, Nat.mul_one, t0, t1, g0, g1, encCs_one, encCs_cells, alenS_encCs]); first | with_reducible rfl | (apply s_ite; (focus omega); with_reducible rfl)))) | (apply w_cond; (focus ((try simp (disch := omega) only [simB2, simB1, SA, SV, SN, SR, SL, pick_bool, Nat.reduceEqDiff, ↓reduceIte, Nat.reduceAdd, Nat.reduceLeDiff, t0, t1, g0, g1, encCs_one, encCs_cells, alenS_encCs]); (try with_reducible rfl); done)); all_goals (intro _hg; (try simp (disch := omega) only [Bool.not_eq_true', Bool.not_eq_false', Bool.not_not, decide_eq_true_eq, decide_eq_false_iff_not] at _hg); try (exfalso; omega))) | refine w_loop ?_)
    refine loopI (X := Nat) (fun k => [(0, .int .i64 n), (1, .int .i64 v), (7, .ptr 1 4 0), (107, encCs C.cases), (108, .int .i64 C.cases.length), (109, .int .i64 k)])
      (fun k H nx => k ≤ C.cases.length ∧ 2 ≤ nx ∧ H 1 = some [.int .i64 C.n, .int .i64 C.ins, .int .i64 C.outs, encCs C.cases]) (fun k => C.cases.length - k) 0 ⟨Nat.zero_le _, h2, g1⟩ (by simp (disch := omega) only [agr, SA, Nat.reduceEqDiff, ↓reduceIte, wrap64, Int.natCast_add, Int.natCast_one, Int.natCast_zero, and_true, and_self]) ?_
    clear h1 h2 g0 g1 hk H nx
    rintro k H nx ⟨h1, h2, g1⟩
    by_cases hk : k < C.cases.length
    · have ix := aixS_encCs hk
      have hm := mem_getD hk
      obtain ⟨f1, f2⟩ := fC _ hm
      have hs := sC _ hm
      have al := allowedT_c C k 0 sC gC hk (by omega) (by rw [f1]; simp)
      have pe := permitted_c C k 2 (List.replicate n 0) sC gC hk (by omega) (by rw [nC]; simp) (by show _ ≤ _; simp; omega) (fun x hx => by rw [List.eq_of_mem_replicate hx]; omega)
      rw [f1] at al
      rw [f2] at pe
      have rp2 := fun w : Int => repeat_c w n (by omega) (by omega)
      have cn := contains_c (C.cases.getD k default).inp 0 hs.1
      have eq1 : ∀ w : Int, Pure Try.prog 27 [encV (List.replicate n w), encV (List.replicate n w)] (.bool true) := fun w => by
        have := equalV_c (List.replicate n w) (List.replicate n w) (by show _ ≤ _; simp; omega) (by show _ ≤ _; simp; omega)
        rwa [decide_eq_true rfl] at this
      unfold encT at al pe
      have d1 : Dat (encC (C.cases.getD k default)) := Dat.agg (DatL.cons (encV_dat _) (DatL.cons (encVV_dat _) (DatL.cons (encVV_dat _) DatL.nil)))
      unfold encC at d1
      generalize hc : C.cases.getD k default = c at *
      repeat' (first | refine w_seq ?_ | refine w_ops0 ?_ | refine w_ops1 ?_ | refine w_block ?_ | refine w_skip ?_ | refine a_n ?_ | refine o_nil ?_ | (apply o_val rfl; (focus (first | rfl | (simp (disch := omega) only [dm2, oldP, newP, simB0, simB1, SA, SV, SN, SR, SL, pick_bool, Nat.reduceEqDiff, ↓reduceIte, Nat.reduceAdd, Nat.reduceLeDiff, decide_eq_true_eq]; first | done | omega))); (focus ((try simp (disch := omega) only [simB2, simB1, SA, SV, SN, SR, SL, pick_bool, Nat.reduceEqDiff, ↓reduceIte, Nat.reduceAdd, Nat.reduceLeDiff, SO, one_encV, one_encVV, Bool.and_self, Bool.false_eq_true, reduceCtorEq, wrap64, aixS_encV, aixS_encVV, alenS_encV, alenS_encVV, Int.toNat_natCast, List.length_map, aixS_msl, getElem?_map_lt, Nat.mul_one, t0, t1, g1, encCs_one, encCs_cells, alenS_encCs, ix, hc]); first | with_reducible rfl | (apply s_ite; (focus omega); with_reducible rfl)))) | (apply o_callD; (focus ((try simp (disch := omega) only [simB2, simB1, SA, SV, SN, SR, SL, pick_bool, Nat.reduceEqDiff, ↓reduceIte, Nat.reduceAdd, Nat.reduceLeDiff, t0, t1, g1, encCs_one, encCs_cells, alenS_encCs, ix, hc]); (try with_reducible rfl); done)); (focus ((try simp (disch := omega) only [simB2, simB1, SA, SV, SN, SR, SL, pick_bool, Nat.reduceEqDiff, ↓reduceIte, Nat.reduceAdd, Nat.reduceLeDiff, t0, t1, g1, encCs_one, encCs_cells, alenS_encCs, ix, hc]); (try with_reducible rfl); done)); (focus (first | (exact al))); (focus (first | (apply snap_data; repeat' (first | exact snapL_nil | apply snapL_dat | exact Dat.int | exact Dat.bool | exact Dat.str | exact Dat.esl | exact Dat.nilf | exact encV_dat _ | exact encVV_dat _ | exact dC | exact d1)) | (apply snap_plain; (focus (repeat' (first | exact snapL_nil | apply snapL_dat | exact Dat.int | exact Dat.bool | exact Dat.str | exact encV_dat _ | exact encVV_dat _ | exact dC | exact d1))); rfl)))) | (apply e_alloc rfl; (focus ((try simp (disch := omega) only [simB2, simB1, SA, SV, SN, SR, SL, pick_bool, Nat.reduceEqDiff, ↓reduceIte, Nat.reduceAdd, Nat.reduceLeDiff, t0, t1, g1, encCs_one, encCs_cells, alenS_encCs, ix, hc]); (try with_reducible rfl); done)); (focus (simp (disch := omega) only [SO, Bool.and_self, one_encV, one_encVV, t0, t1, g1, encCs_one, encCs_cells, alenS_encCs, ix, hc]))) | (apply e_st; (focus (first | rfl | (simp (disch := omega) only [dm2, oldP, newP, simB0, simB1, SA, SV, SN, SR, SL, pick_bool, Nat.reduceEqDiff, ↓reduceIte, Nat.reduceAdd, Nat.reduceLeDiff, decide_eq_true_eq]; first | done | omega))); (focus ((try simp (disch := omega) only [simB2, simB1, SA, SV, SN, SR, SL, pick_bool, Nat.reduceEqDiff, ↓reduceIte, Nat.reduceAdd, Nat.reduceLeDiff, t0, t1, g1, encCs_one, encCs_cells, alenS_encCs, ix, hc]); (try with_reducible rfl); done)); (focus ((try simp (disch := omega) only [simB2, simB1, SA, SV, SN, SR, SL, pick_bool, Nat.reduceEqDiff, ↓reduceIte, Nat.reduceAdd, Nat.reduceLeDiff, t0, t1, g1, encCs_one, encCs_cells, alenS_encCs, ix, hc]); (try with_reducible rfl); done)); (focus ((try simp (disch := omega) only [simB2, simB1, SA, SV, SN, SR, SL, pick_bool, Nat.reduceEqDiff, ↓reduceIte, Nat.reduceAdd, Nat.reduceLeDiff, t0, t1, g1, encCs_one, encCs_cells, alenS_encCs, ix, hc]); (try with_reducible rfl); done)); (focus ((try simp (disch := omega) only [simB2, simB1, SA, SV, SN, SR, SL, pick_bool, Nat.reduceEqDiff, ↓reduceIte, Nat.reduceAdd, Nat.reduceLeDiff, t0, t1, g1, encCs_one, encCs_cells, alenS_encCs, ix, hc]); (try with_reducible rfl); done)); (focus (simp (disch := omega) only [SO, Bool.and_self, one_encV, one_encVV, t0, t1, g1, encCs_one, encCs_cells, alenS_encCs, ix, hc])); (focus ((try simp (disch := omega) only [SL, Nat.reduceAdd, Nat.reduceMul, List.length_map]); first | done | omega)); (focus ((try simp (disch := omega) only [SL, Nat.reduceAdd, Nat.reduceMul, List.length_map]); first | done | omega)); (focus ((try simp (disch := omega) only [SL, Nat.reduceAdd, Nat.reduceMul, List.length_map]); first | done | omega))) | (apply w_cond; (focus ((try simp (disch := omega) only [simB2, simB1, SA, SV, SN, SR, SL, pick_bool, Nat.reduceEqDiff, ↓reduceIte, Nat.reduceAdd, Nat.reduceLeDiff, t0, t1, g1, encCs_one, encCs_cells, alenS_encCs, ix, hc]); (try with_reducible rfl); done)); all_goals (intro _hg; (try simp (disch := omega) only [Bool.not_eq_true', Bool.not_eq_false', Bool.not_not, decide_eq_true_eq, decide_eq_false_iff_not] at _hg); try (exfalso; omega))))
      refine e_mks rfl (by ((try simp only [simB0, simB1, SA, SV, SN, SR, SL, pick_bool, Nat.reduceEqDiff, ↓reduceIte, Nat.reduceAdd, Nat.reduceLeDiff]); (try with_reducible rfl))) (by ((try simp only [simB0, simB1, SA, SV, SN, SR, SL, pick_bool, Nat.reduceEqDiff, ↓reduceIte, Nat.reduceAdd, Nat.reduceLeDiff]); (try with_reducible rfl))) (by omega) (by omega) (by omega) (by omega) ?_
      rw [zcells_int, Int.toNat_natCast, Nat.mul_one]
      skip
      refine o_callP (xs := [.agg [.int .i64 C.n, .int .i64 C.ins, .int .i64 C.outs, encCs C.cases], .int .i64 k, .int .i64 2, .msl (nx + 1) n 1 0 n]) (by ((try simp only [simB0, simB1, SA, SV, SN, SR, SL, pick_bool, Nat.reduceEqDiff, ↓reduceIte, Nat.reduceAdd, Nat.reduceLeDiff]); (try with_reducible rfl))) (by ((try simp only [simB0, simB1, SA, SV, SN, SR, SL, pick_bool, Nat.reduceEqDiff, ↓reduceIte, Nat.reduceAdd, Nat.reduceLeDiff]); (try with_reducible rfl))) pe (snap_plain (snapL_cons (dC _) (snapL_cons (.int _ _) (snapL_cons (.int _ _) (snapL_cons (snap_row (l := List.replicate n 0) hupd_self' rfl (by simp)) snapL_nil)))) rfl) ?_
      by_cases h0 : (0 : Int) ∈ c.inp
      all_goals
        simp only [h0, if_true, if_false] at *
        repeat' (first | refine w_seq ?_ | refine w_ops0 ?_ | refine w_ops1 ?_ | refine w_skip ?_ | refine w_ret ?_ | refine a_n ?_ | refine a_r ?_ | refine o_nil ?_ | (apply o_val rfl; (focus (first | rfl | (simp (disch := omega) only [dm2, oldP, newP, simB0, simB1, SA, SV, SN, SR, SL, pick_bool, Nat.reduceEqDiff, ↓reduceIte, Nat.reduceAdd, Nat.reduceLeDiff, decide_eq_true_eq]; first | done | omega))); (focus ((try simp (disch := omega) only [simB2, simB1, SA, SV, SN, SR, SL, pick_bool, Nat.reduceEqDiff, ↓reduceIte, Nat.reduceAdd, Nat.reduceLeDiff, SO, one_encV, one_encVV, Bool.and_self, Bool.false_eq_true, reduceCtorEq, wrap64, aixS_encV, aixS_encVV, alenS_encV, alenS_encVV, Int.toNat_natCast, List.length_map, aixS_msl, getElem?_map_lt, Nat.mul_one, t0, t1, g1, encCs_one, encCs_cells, alenS_encCs, ix, hc, h0, decide_true, decide_false]); first | with_reducible rfl | (apply s_ite; (focus omega); with_reducible rfl)))) | (apply o_callD; (focus ((try simp (disch := omega) only [simB2, simB1, SA, SV, SN, SR, SL, pick_bool, Nat.reduceEqDiff, ↓reduceIte, Nat.reduceAdd, Nat.reduceLeDiff, t0, t1, g1, encCs_one, encCs_cells, alenS_encCs, ix, hc, h0, decide_true, decide_false]); (try with_reducible rfl); done)); (focus ((try simp (disch := omega) only [simB2, simB1, SA, SV, SN, SR, SL, pick_bool, Nat.reduceEqDiff, ↓reduceIte, Nat.reduceAdd, Nat.reduceLeDiff, t0, t1, g1, encCs_one, encCs_cells, alenS_encCs, ix, hc, h0, decide_true, decide_false]); (try with_reducible rfl); done)); (focus (first | (exact cn))); (focus (first | (apply snap_data; repeat' (first | exact snapL_nil | apply snapL_dat | exact Dat.int | exact Dat.bool | exact Dat.str | exact Dat.esl | exact Dat.nilf | exact encV_dat _ | exact encVV_dat _ | exact dC | exact d1)) | (apply snap_plain; (focus (repeat' (first | exact snapL_nil | apply snapL_dat | exact Dat.int | exact Dat.bool | exact Dat.str | exact encV_dat _ | exact encVV_dat _ | exact dC | exact d1))); rfl)))) | (apply e_bld rfl; (focus (exact Nat.succ_ne_zero _)); (focus ((try simp (disch := omega) only [simB2, simB1, SA, SV, SN, SR, SL, pick_bool, Nat.reduceEqDiff, ↓reduceIte, Nat.reduceAdd, Nat.reduceLeDiff, t0, t1, g1, encCs_one, encCs_cells, alenS_encCs, ix, hc, h0, decide_true, decide_false]); (try with_reducible rfl); done)); (focus ((try simp (disch := omega) only [simB2, simB1, SA, SV, SN, SR, SL, pick_bool, Nat.reduceEqDiff, ↓reduceIte, Nat.reduceAdd, Nat.reduceLeDiff, SO, Bool.and_self, one_encV, one_encVV, t0, t1, g1, encCs_one, encCs_cells, alenS_encCs, ix, hc, h0, decide_true, decide_false]); (try with_reducible rfl); done))) | (apply o_gT; (focus (simp (disch := omega) only [simB2, simB1, SA, SV, SN, SR, SL, pick_bool, Nat.reduceEqDiff, ↓reduceIte, Nat.reduceAdd, Nat.reduceLeDiff, t0, t1, g1, encCs_one, encCs_cells, alenS_encCs, ix, hc, h0, decide_true, decide_false]; done))) | (apply o_gF; (focus (simp (disch := omega) only [simB2, simB1, SA, SV, SN, SR, SL, pick_bool, Nat.reduceEqDiff, ↓reduceIte, Nat.reduceAdd, Nat.reduceLeDiff, or_true, true_or, t0, t1, g1, encCs_one, encCs_cells, alenS_encCs, ix, hc, h0, decide_true, decide_false]; done))) | (apply o_gB; (focus ((try simp (disch := omega) only [simB2, simB1, SA, SV, SN, SR, SL, pick_bool, Nat.reduceEqDiff, ↓reduceIte, Nat.reduceAdd, Nat.reduceLeDiff, t0, t1, g1, encCs_one, encCs_cells, alenS_encCs, ix, hc, h0, decide_true, decide_false]); (try with_reducible rfl); done)); all_goals (intro _hg; (try simp (disch := omega) only [Bool.not_true, Bool.not_false, Bool.not_eq_true', Bool.not_eq_false', Bool.not_not, decide_eq_true_eq, decide_eq_false_iff_not] at _hg); try (exfalso; omega))) | (apply w_condT; (focus (simp (disch := omega) only [simB2, simB1, SA, SV, SN, SR, SL, pick_bool, Nat.reduceEqDiff, ↓reduceIte, Nat.reduceAdd, Nat.reduceLeDiff, t0, t1, g1, encCs_one, encCs_cells, alenS_encCs, ix, hc, h0, decide_true, decide_false]; done))) | (apply w_condF; (focus (simp (disch := omega) only [simB2, simB1, SA, SV, SN, SR, SL, pick_bool, Nat.reduceEqDiff, ↓reduceIte, Nat.reduceAdd, Nat.reduceLeDiff, t0, t1, g1, encCs_one, encCs_cells, alenS_encCs, ix, hc, h0, decide_true, decide_false]; done))) | (refine e_ends rfl ?_) | (apply r_1; (focus (simp (disch := omega) only [rv, simB2, simB1, SA, SV, SN, SR, SL, pick_bool, Nat.reduceEqDiff, ↓reduceIte, Nat.reduceAdd, Nat.reduceLeDiff, t0, t1, g1, encCs_one, encCs_cells, alenS_encCs, ix, hc, h0, decide_true, decide_false]; with_reducible rfl))))
      all_goals try (exfalso; simp_all; done)
      · refine o_callF (xs := [.msl (nx + 1 + 1) 1 1 0 1, .int .i64 n]) (by ((try simp only [simB0, simB1, SA, SV, SN, SR, SL, pick_bool, Nat.reduceEqDiff, ↓reduceIte, Nat.reduceAdd, Nat.reduceLeDiff]); (try with_reducible rfl))) (by ((try simp only [simB0, simB1, SA, SV, SN, SR, SL, pick_bool, Nat.reduceEqDiff, ↓reduceIte, Nat.reduceAdd, Nat.reduceLeDiff]); (try with_reducible rfl))) (rp2 0) (snapL_cons (snap_row (l := [(0 : Int)]) hupd_self' rfl rfl) (snapL_cons (.int _ _) snapL_nil)) ?_
        repeat' (first | refine w_ops0 ?_ | refine w_skip ?_ | refine a_n ?_ | refine o_nil ?_ | (apply o_val rfl; (focus (first | rfl | (simp (disch := omega) only [dm2, oldP, newP, simB0, simB1, SA, SV, SN, SR, SL, pick_bool, Nat.reduceEqDiff, ↓reduceIte, Nat.reduceAdd, Nat.reduceLeDiff, decide_eq_true_eq]; first | done | omega))); (focus ((try simp (disch := omega) only [simB2, simB1, SA, SV, SN, SR, SL, pick_bool, Nat.reduceEqDiff, ↓reduceIte, Nat.reduceAdd, Nat.reduceLeDiff, SO, one_encV, one_encVV, Bool.and_self, Bool.false_eq_true, reduceCtorEq, wrap64, aixS_encV, aixS_encVV, alenS_encV, alenS_encVV, Int.toNat_natCast, List.length_map, aixS_msl, getElem?_map_lt, Nat.mul_one, t0, t1, g1, encCs_one, encCs_cells, alenS_encCs, ix, hc, Bool.false_eq_true]); first | with_reducible rfl | (apply s_ite; (focus omega); with_reducible rfl)))) | (apply o_callD; (focus ((try simp (disch := omega) only [simB2, simB1, SA, SV, SN, SR, SL, pick_bool, Nat.reduceEqDiff, ↓reduceIte, Nat.reduceAdd, Nat.reduceLeDiff, t0, t1, g1, encCs_one, encCs_cells, alenS_encCs, ix, hc, Bool.false_eq_true]); (try with_reducible rfl); done)); (focus ((try simp (disch := omega) only [simB2, simB1, SA, SV, SN, SR, SL, pick_bool, Nat.reduceEqDiff, ↓reduceIte, Nat.reduceAdd, Nat.reduceLeDiff, t0, t1, g1, encCs_one, encCs_cells, alenS_encCs, ix, hc, Bool.false_eq_true]); (try with_reducible rfl); done)); (focus (first | (exact eq1 _))); (focus (first | (apply snap_data; repeat' (first | exact snapL_nil | apply snapL_dat | exact Dat.int | exact Dat.bool | exact Dat.str | exact Dat.esl | exact Dat.nilf | exact encV_dat _ | exact encVV_dat _ | exact dC | exact d1)) | (apply snap_plain; (focus (repeat' (first | exact snapL_nil | apply snapL_dat | exact Dat.int | exact Dat.bool | exact Dat.str | exact encV_dat _ | exact encVV_dat _ | exact dC | exact d1))); rfl)))) | (apply o_gT; (focus (simp (disch := omega) only [simB2, simB1, SA, SV, SN, SR, SL, pick_bool, Nat.reduceEqDiff, ↓reduceIte, Nat.reduceAdd, Nat.reduceLeDiff, t0, t1, g1, encCs_one, encCs_cells, alenS_encCs, ix, hc, Bool.false_eq_true]; done))) | (apply w_condF; (focus (simp (disch := omega) only [simB2, simB1, SA, SV, SN, SR, SL, pick_bool, Nat.reduceEqDiff, ↓reduceIte, Nat.reduceAdd, Nat.reduceLeDiff, t0, t1, g1, encCs_one, encCs_cells, alenS_encCs, ix, hc, Bool.false_eq_true]; done))))
        refine ⟨k + 1, by omega, ⟨by omega, by omega, ?_⟩, by simp (disch := omega) only [agr, SA, Nat.reduceEqDiff, ↓reduceIte, wrap64, Int.natCast_add, Int.natCast_one, Int.natCast_zero, and_true, and_self]⟩
        rw [hupd_ne (by omega), hupd_ne (by omega), hupd_ne (by omega), hupd_ne (by omega), g1]
      · refine o_callF (xs := [.msl (nx + 1 + 1) 1 1 0 1, .int .i64 n]) (by ((try simp only [simB0, simB1, SA, SV, SN, SR, SL, pick_bool, Nat.reduceEqDiff, ↓reduceIte, Nat.reduceAdd, Nat.reduceLeDiff]); (try with_reducible rfl))) (by ((try simp only [simB0, simB1, SA, SV, SN, SR, SL, pick_bool, Nat.reduceEqDiff, ↓reduceIte, Nat.reduceAdd, Nat.reduceLeDiff]); (try with_reducible rfl))) (rp2 1) (snapL_cons (snap_row (l := [(1 : Int)]) hupd_self' rfl rfl) (snapL_cons (.int _ _) snapL_nil)) ?_
        repeat' (first | refine w_ops0 ?_ | refine w_skip ?_ | refine a_n ?_ | refine o_nil ?_ | (apply o_val rfl; (focus (first | rfl | (simp (disch := omega) only [dm2, oldP, newP, simB0, simB1, SA, SV, SN, SR, SL, pick_bool, Nat.reduceEqDiff, ↓reduceIte, Nat.reduceAdd, Nat.reduceLeDiff, decide_eq_true_eq]; first | done | omega))); (focus ((try simp (disch := omega) only [simB2, simB1, SA, SV, SN, SR, SL, pick_bool, Nat.reduceEqDiff, ↓reduceIte, Nat.reduceAdd, Nat.reduceLeDiff, SO, one_encV, one_encVV, Bool.and_self, Bool.false_eq_true, reduceCtorEq, wrap64, aixS_encV, aixS_encVV, alenS_encV, alenS_encVV, Int.toNat_natCast, List.length_map, aixS_msl, getElem?_map_lt, Nat.mul_one, t0, t1, g1, encCs_one, encCs_cells, alenS_encCs, ix, hc, Bool.false_eq_true]); first | with_reducible rfl | (apply s_ite; (focus omega); with_reducible rfl)))) | (apply o_callD; (focus ((try simp (disch := omega) only [simB2, simB1, SA, SV, SN, SR, SL, pick_bool, Nat.reduceEqDiff, ↓reduceIte, Nat.reduceAdd, Nat.reduceLeDiff, t0, t1, g1, encCs_one, encCs_cells, alenS_encCs, ix, hc, Bool.false_eq_true]); (try with_reducible rfl); done)); (focus ((try simp (disch := omega) only [simB2, simB1, SA, SV, SN, SR, SL, pick_bool, Nat.reduceEqDiff, ↓reduceIte, Nat.reduceAdd, Nat.reduceLeDiff, t0, t1, g1, encCs_one, encCs_cells, alenS_encCs, ix, hc, Bool.false_eq_true]); (try with_reducible rfl); done)); (focus (first | (exact eq1 _))); (focus (first | (apply snap_data; repeat' (first | exact snapL_nil | apply snapL_dat | exact Dat.int | exact Dat.bool | exact Dat.str | exact Dat.esl | exact Dat.nilf | exact encV_dat _ | exact encVV_dat _ | exact dC | exact d1)) | (apply snap_plain; (focus (repeat' (first | exact snapL_nil | apply snapL_dat | exact Dat.int | exact Dat.bool | exact Dat.str | exact encV_dat _ | exact encVV_dat _ | exact dC | exact d1))); rfl)))) | (apply o_gT; (focus (simp (disch := omega) only [simB2, simB1, SA, SV, SN, SR, SL, pick_bool, Nat.reduceEqDiff, ↓reduceIte, Nat.reduceAdd, Nat.reduceLeDiff, t0, t1, g1, encCs_one, encCs_cells, alenS_encCs, ix, hc, Bool.false_eq_true]; done))) | (apply w_condF; (focus (simp (disch := omega) only [simB2, simB1, SA, SV, SN, SR, SL, pick_bool, Nat.reduceEqDiff, ↓reduceIte, Nat.reduceAdd, Nat.reduceLeDiff, t0, t1, g1, encCs_one, encCs_cells, alenS_encCs, ix, hc, Bool.false_eq_true]; done))))
        refine ⟨k + 1, by omega, ⟨by omega, by omega, ?_⟩, by simp (disch := omega) only [agr, SA, Nat.reduceEqDiff, ↓reduceIte, wrap64, Int.natCast_add, Int.natCast_one, Int.natCast_zero, and_true, and_self]⟩
        rw [hupd_ne (by omega), hupd_ne (by omega), hupd_ne (by omega), hupd_ne (by omega), g1]
    · repeat' (first | refine w_seq ?_ | refine w_ops0 ?_ | refine w_exit ?_ | refine w_ret ?_ | refine a_n ?_ | refine a_x ?_ | refine o_nil ?_ | (apply o_val rfl; (focus (first | rfl | (simp (disch := omega) only [dm2, oldP, newP, simB0, simB1, SA, SV, SN, SR, SL, pick_bool, Nat.reduceEqDiff, ↓reduceIte, Nat.reduceAdd, Nat.reduceLeDiff, decide_eq_true_eq]; first | done | omega))); (focus ((try simp (disch := omega) only [simB2, simB1, SA, SV, SN, SR, SL, pick_bool, Nat.reduceEqDiff, ↓reduceIte, Nat.reduceAdd, Nat.reduceLeDiff, SO, one_encV, one_encVV, Bool.and_self, Bool.false_eq_true, reduceCtorEq, wrap64, aixS_encV, aixS_encVV, alenS_encV, alenS_encVV, Int.toNat_natCast, List.length_map, aixS_msl, getElem?_map_lt, Nat.mul_one, t0, t1, g1, encCs_one, encCs_cells, alenS_encCs]); first | with_reducible rfl | (apply s_ite; (focus omega); with_reducible rfl)))) | (apply o_callD; (focus ((try simp (disch := omega) only [simB2, simB1, SA, SV, SN, SR, SL, pick_bool, Nat.reduceEqDiff, ↓reduceIte, Nat.reduceAdd, Nat.reduceLeDiff, t0, t1, g1, encCs_one, encCs_cells, alenS_encCs]); (try with_reducible rfl); done)); (focus ((try simp (disch := omega) only [simB2, simB1, SA, SV, SN, SR, SL, pick_bool, Nat.reduceEqDiff, ↓reduceIte, Nat.reduceAdd, Nat.reduceLeDiff, t0, t1, g1, encCs_one, encCs_cells, alenS_encCs]); (try with_reducible rfl); done)); (focus (first | (exact awake_c))); (focus (first | (apply snap_data; repeat' (first | exact snapL_nil | apply snapL_dat | exact Dat.int | exact Dat.bool | exact Dat.str | exact Dat.esl | exact Dat.nilf | exact encV_dat _ | exact encVV_dat _ | exact dC)) | (apply snap_plain; (focus (repeat' (first | exact snapL_nil | apply snapL_dat | exact Dat.int | exact Dat.bool | exact Dat.str | exact encV_dat _ | exact encVV_dat _ | exact dC))); rfl)))) | (apply w_cond; (focus ((try simp (disch := omega) only [simB2, simB1, SA, SV, SN, SR, SL, pick_bool, Nat.reduceEqDiff, ↓reduceIte, Nat.reduceAdd, Nat.reduceLeDiff, t0, t1, g1, encCs_one, encCs_cells, alenS_encCs]); (try with_reducible rfl); done)); all_goals (intro _hg; (try simp (disch := omega) only [Bool.not_eq_true', Bool.not_eq_false', Bool.not_not, decide_eq_true_eq, decide_eq_false_iff_not] at _hg); try (exfalso; omega))) | (refine e_ends rfl ?_) | (apply r_1; (focus (simp (disch := omega) only [rv, simB2, simB1, SA, SV, SN, SR, SL, pick_bool, Nat.reduceEqDiff, ↓reduceIte, Nat.reduceAdd, Nat.reduceLeDiff, t0, t1, g1, encCs_one, encCs_cells, alenS_encCs]; with_reducible rfl))))
      exact .bool _

end Go.Proofs.Ytcbkggfipdldaaa

/- P30: contracts of functions and plain laws; for all inputs that the theorems name. -/
set_option linter.unusedSimpArgs false
set_option linter.unusedVariables false
namespace Go.Proofs.Ytcbkggfipdldaaa
open Go Go.Abs

def calmsB (n v : Nat) : Bool :=
  decide ((crusT n v).2 = 0) && decide ((comT n).2 = 0) && goodT (crusT n v).1 && goodT (comT n).1 && decide ((crusT n v).1.n = n) && decide ((comT n).1.n = n) && decide ((v : Int) < (crusT n v).1.outs) && decide (1 ≤ (comT n).1.outs) &&
  ((crusT n v).1.cases.all fun c => decide (allowV c 0 = [List.replicate n (c.inp.getD 0 default)]) && ((allowV c 1).any fun w => agreesB w (List.replicate n (v : Int)) 1)) &&
  ((comT n).1.cases.all fun c => decide (allowV c 0 = [List.replicate n (if 0 ∈ c.inp then 0 else 1)]) && ((allowV c 2).any fun w => agreesB w (List.replicate n 0) 2))

theorem calms21 : calmsB 2 1 = true := by decide +kernel
theorem calms22 : calmsB 2 2 = true := by decide +kernel
theorem calms23 : calmsB 2 3 = true := by decide +kernel
theorem calms31 : calmsB 3 1 = true := by decide +kernel
theorem calms32 : calmsB 3 2 = true := by decide +kernel
theorem calms33 : calmsB 3 3 = true := by decide +kernel

theorem law6_c (n v : Int) : Pure Try.prog 6 [.int .i64 n, .int .i64 v] (.bool true) := by
  by_cases h : n < 2 ∨ 3 < n ∨ v < 1 ∨ 3 < v
  · exact law6_out n v h
  obtain ⟨N, rfl⟩ : ∃ N : Nat, n = N := ⟨n.toNat, by omega⟩
  obtain ⟨V, rfl⟩ : ∃ V : Nat, v = V := ⟨v.toNat, by omega⟩
  have hb : calmsB N V = true := by
    have h1 : N = 2 ∨ N = 3 := by omega
    have h2 : V = 1 ∨ V = 2 ∨ V = 3 := by omega
    rcases h1 with rfl | rfl <;> rcases h2 with rfl | rfl | rfl
    · exact calms21
    · exact calms22
    · exact calms23
    · exact calms31
    · exact calms32
    · exact calms33
  unfold calmsB at hb
  simp only [Bool.and_eq_true, decide_eq_true_iff, List.all_eq_true] at hb
  obtain ⟨⟨⟨⟨⟨⟨⟨⟨⟨b1, b2⟩, b3⟩, b4⟩, b5⟩, b6⟩, b7⟩, b8⟩, b9⟩, b10⟩ := hb
  have c1 := crus_c N V
  have c2 := com_c N
  rw [b1] at c1
  rw [b2] at c2
  obtain ⟨s1, s2⟩ := makeT_sh 3 N V (plusI V) 0
  obtain ⟨s3, s4⟩ := makeT_sh 1 N 2 2 0
  rw [← crus_eq N V (by omega)] at s1 s2
  rw [← com_eq N] at s3 s4
  exact law6_in N V _ _ (by omega) (by omega) c1 c2 s2 s4 s1 s3 b3 b4 b5 b6 b7 b8 b9 b10

end Go.Proofs.Ytcbkggfipdldaaa
