/- Texts of this claim, one after the other: Q29, Q30, Q31, Q32, Q33, Q34. -/
import Derived.Test.YtpbjhjkfobapeaaXG6
import Derived.Test.YtpbjhjkfobapeaaXG4

/- Q29: contracts of functions and plain laws; for all inputs that the theorems name. -/
set_option linter.unusedSimpArgs false
set_option linter.unusedVariables false
namespace Go.Proofs.Ytpbjhjkfobapeaa
open Go Go.Abs

/-! ### what is written is read -/
theorem numP_vint : ∀ (k : Nat) (f : Bool) (u a n : Nat) (rest : List UInt8), n < 128 ^ (k + 1) → k ≤ 8 → (f = false → n ≠ 0) → numP f (k + 1) u a (vint n ++ rest) = some (a + n * u, rest)
  | k, f, u, a, n, rest, h, hk, hf => by
    by_cases hs : 127 < n
    · have hb : n < 128 ^ 9 := Nat.lt_of_lt_of_le h (Nat.pow_le_pow_right (by omega) (by omega))
      rw [vint_big hs hb, List.cons_append]
      have hc : (UInt8.ofNat (n % 128 + 128)).toNat = n % 128 + 128 := by rw [UInt8.toNat_ofNat']; omega
      simp only [numP, hc]
      rw [if_neg (by omega)]
      have e1 : (n % 128 + 128) % 128 = n % 128 := by omega
      rw [e1]
      have e2 : a + n % 128 * u + n / 128 * (u * 128) = a + n * u := by
        have := Nat.div_add_mod n 128
        have h3 : n * u = (128 * (n / 128) + n % 128) * u := by rw [this]
        rw [h3, Nat.add_mul]
        have h4 : n / 128 * (u * 128) = 128 * (n / 128) * u := by rw [Nat.mul_comm u 128, ← Nat.mul_assoc, Nat.mul_comm (n / 128) 128]
        omega
      cases k with
      | zero => simp at h; omega
      | succ k =>
        have h1 : n / 128 < 128 ^ (k + 1) := by
          rw [Nat.pow_succ] at h
          exact Nat.div_lt_of_lt_mul (by rw [Nat.mul_comm]; exact h)
        rw [numP_vint k false (u * 128) (a + n % 128 * u) (n / 128) rest h1 (by omega) (fun _ => by omega), e2]
    · rw [vint_small hs]
      have hc : (UInt8.ofNat n).toNat = n := by rw [UInt8.toNat_ofNat']; omega
      simp only [List.singleton_append, numP, hc]
      rw [if_pos (by omega), if_neg (fun h => hf h.1 h.2)]
theorem nextR_vint (n : Nat) (rest : List UInt8) (h : n < 268435456) : nextR (vint n ++ rest) false = ((n : Int), rest, false) := by
  have : numR (vint n ++ rest) = some (n, rest) := by
    have := numP_vint 3 true 1 0 n rest (by simpa using h) (by omega) (fun h => by cases h)
    simpa [numR] using this
  unfold nextR
  rw [this]; rfl
theorem nextR_int (x : Int) (rest : List UInt8) (h0 : 0 ≤ x) (h : x < 268435456) : nextR (vint x.toNat ++ rest) false = (x, rest, false) := by
  rw [nextR_vint _ _ (by omega)]
  congr 1; omega
theorem vints_cons (add x : Int) (l : List Int) : vints add (x :: l) = vint (x + add).toNat ++ vints add l := by simp [vints]
theorem repS_vints (sub : Int) (rest : List UInt8) : ∀ l : List Int, (∀ x ∈ l, 0 ≤ x + sub ∧ x + sub < 2097152) → repS sub l.length (vints sub l ++ rest) false = (l, rest, false)
  | [], _ => rfl
  | x :: l, h => by
    have hx := h x (List.mem_cons_self ..)
    rw [List.length_cons, repS_succ, vints_cons, List.append_assoc, nextR_int _ _ hx.1 (by omega)]
    dsimp only
    rw [repS_vints sub rest l (fun y hy => h y (List.mem_cons_of_mem _ hy))]
    rw [show x + sub - sub = x by omega]
theorem repI_codec {α : Type} (f : Nat → List UInt8 → Bool → α × List UInt8 × Bool) (g : α → List UInt8) (l : List α) (rest : List UInt8) (h : ∀ (i : Nat) (a : α) (r : List UInt8), l[i]? = some a → f i (g a ++ r) false = (a, r, false)) :
    ∀ k, k ≤ l.length → repI f k (l.flatMap g ++ rest) false = (l.take k, (l.drop k).flatMap g ++ rest, false)
  | 0, _ => by simp [repI]
  | k + 1, hk => by
    have hlt : k < l.length := hk
    rw [repI_succ, repI_codec f g l rest h k (by omega)]
    dsimp only
    rw [List.drop_eq_getElem_cons hlt, List.flatMap_cons, List.append_assoc, h k l[k] _ (by simp [hlt])]
    dsimp only
    rw [List.take_succ_eq_append_getElem hlt]
theorem repI_all {α : Type} (f : Nat → List UInt8 → Bool → α × List UInt8 × Bool) (g : α → List UInt8) (l : List α) (rest : List UInt8) (n : Nat) (hn : n = l.length) (h : ∀ (i : Nat) (a : α) (r : List UInt8), l[i]? = some a → f i (g a ++ r) false = (a, r, false)) :
    repI f n (l.flatMap g ++ rest) false = (l, rest, false) := by
  subst hn
  rw [repI_codec f g l rest h _ (Nat.le_refl _), List.take_length, List.drop_length]; rfl

/-! ### a machine -/
theorem getD_of {α : Type} [Inhabited α] {l : List α} {i : Nat} {a : α} (h : l[i]? = some a) : i < l.length ∧ l.getD i default = a := by
  have h1 := (List.getElem?_eq_some_iff.1 h).1
  exact ⟨h1, by simp [List.getD, h]⟩
theorem first_vals {m : MachV} (h : GoodM m) {l : List Int} (hl : l ∈ m.first) : ∀ x ∈ l, 0 ≤ x + 1 ∧ x + 1 < 2097152 := fun x hx => by
  have h1 := good_fv h hl hx
  have h2 := h.rg
  unfold rangedB at h2
  simp only [Bool.and_eq_true, List.all_eq_true, List.mem_range] at h2
  obtain ⟨i, hi, e⟩ := mem_idx hl
  have h3 := h2.1 i hi
  unfold firstB allB at h3
  rw [List.all_eq_true, e] at h3
  have h4 := of_decide_eq_true (h3 x hx)
  have hg := good_len h
  have h0 : 0 < m.out.length := by have := shaped_len h.sh; have := h.r; omega
  have ho := good_out h (mem_getD h0)
  have hlen : ((m.out.getD 0 default).getD i default).length ≤ 8192 := by
    by_cases hi2 : i < (m.out.getD 0 default).length
    · exact ho.2 _ (mem_getD hi2)
    · have e : (m.out.getD 0 default).getD i default = default := by rw [List.getD, List.getElem?_eq_none (Nat.le_of_not_lt hi2)]; rfl
      rw [e]; exact Nat.zero_le _
  omega
theorem out_vals {m : MachV} (h : GoodM m) {r : List (List Int)} (hr : r ∈ m.out) {l : List Int} (hl : l ∈ r) : ∀ x ∈ l, 0 ≤ x + 1 ∧ x + 1 < 2097152 := fun x hx => by
  have h2 := h.rg
  unfold rangedB at h2
  simp only [Bool.and_eq_true, List.all_eq_true] at h2
  have h3 := h2.2.1 r hr l hl
  unfold allB at h3
  rw [List.all_eq_true] at h3
  have h4 := of_decide_eq_true (h3 x hx)
  have := h.o
  omega
theorem sym_vals {m : MachV} (h : GoodM m) {s : List (List (List Int))} (hs : s ∈ m.symbols) {r : List (List Int)} (hr : r ∈ s) {l : List Int} (hl : l ∈ r) : ∀ x ∈ l, 0 ≤ x + 0 ∧ x + 0 < 2097152 := fun x hx => by
  have := ranged_sym h.rg hs hr hl hx
  omega
theorem outS_codec (l : List Int) (rest : List UInt8) (hl : l.length ≤ 8192) (h : ∀ x ∈ l, 0 ≤ x + 1 ∧ x + 1 < 2097152) : outS ((vints 0 [(l.length : Int)] ++ vints 1 l) ++ rest) false = (l, rest, false) := by
  unfold outS lessS
  have e : vints 0 [(l.length : Int)] = vint ((l.length : Int) + 0).toNat := by simp [vints]
  rw [e, List.append_assoc, nextR_int _ _ (by omega) (by omega)]
  dsimp only
  rw [show ((l.length : Int) + 0).toNat = l.length by omega]
  exact repS_vints 1 rest l h

theorem step_codec {m : MachV} (h : GoodM m) {x : StepV} (hx : x ∈ m.steps) (rest : List UInt8) : stepR m.n.toNat (stepB m.n.toNat x ++ rest) false = (x, rest, false) := by
  have hn := h.n
  obtain ⟨⟨a1, a2⟩, ⟨b1, b2⟩, ⟨c1, c2⟩, hq⟩ := good_step h hx
  have hlast : ∀ q, m.n.toNat ≤ q → q < 5 → x.heard.getD q default = -1 := by
    have h0 := stepsF_zero m.steps none h.sf x hx
    unfold stepI at h0
    split at h0
    · cases h0
    · split at h0
      · cases h0
      · rename_i h1
        rw [Bool.not_eq_true', Bool.not_eq_false] at h1
        unfold allB at h1
        rw [List.all_eq_true] at h1
        intro q hq1 hq2
        have hlen : x.heard.length = 5 := rfl
        have hm : x.heard.getD q default ∈ x.heard.drop m.n.toNat := by
          have : (x.heard.drop m.n.toNat).getD (q - m.n.toNat) default = x.heard.getD q default := by
            simp only [List.getD, List.getElem?_drop]
            rw [show m.n.toNat + (q - m.n.toNat) = q by omega]
          rw [← this]
          exact mem_getD (by rw [List.length_drop]; omega)
        have := of_decide_eq_true (h1 _ hm)
        omega
  have hh : ∀ (k : Nat), k ≤ 5 → repI (heardS m.n.toNat) k (vints 1 (x.heard.take m.n.toNat) ++ (vint (x.to + 0).toNat ++ rest)) false = (x.heard.take k, vints 1 ((x.heard.take m.n.toNat).drop k) ++ (vint (x.to + 0).toNat ++ rest), false) := by
    intro k
    induction k with
    | zero => intro _; rfl
    | succ k ih =>
      intro hk
      have hlen : x.heard.length = 5 := rfl
      rw [repI_succ, ih (by omega)]
      dsimp only
      have hlt : k < x.heard.length := by omega
      have e0 : x.heard.take (k + 1) = x.heard.take k ++ [x.heard.getD k default] := by
        rw [List.take_succ_eq_append_getElem hlt]; simp [List.getD, hlt]
      unfold heardS
      by_cases hkn : k < m.n.toNat
      · rw [if_pos hkn]
        have h1 : k < (x.heard.take m.n.toNat).length := by rw [List.length_take]; omega
        have e1 : (x.heard.take m.n.toNat).drop k = x.heard.getD k default :: (x.heard.take m.n.toNat).drop (k + 1) := by
          rw [List.drop_eq_getElem_cons h1]; simp [List.getD, hlt]
        have hv := hq k hkn
        rw [e1, vints_cons, List.append_assoc, nextR_int _ _ (by omega) (by omega)]
        dsimp only
        rw [e0, show x.heard.getD k default + 1 - 1 = x.heard.getD k default by omega]
      · rw [if_neg hkn]
        dsimp only
        rw [e0, hlast k (by omega) (by omega)]
        rw [List.drop_eq_nil_of_le (show (x.heard.take m.n.toNat).length ≤ k by rw [List.length_take]; omega), List.drop_eq_nil_of_le (show (x.heard.take m.n.toNat).length ≤ k + 1 by rw [List.length_take]; omega)]
  have e : stepB m.n.toNat x ++ rest = vint (x.round + 0).toNat ++ (vint (x.proc + 0).toNat ++ (vints 1 (x.heard.take m.n.toNat) ++ (vint (x.to + 0).toNat ++ rest))) := by
    unfold stepB
    rw [vints_cons, vints_cons, vints_cons]
    simp [vints]
  unfold stepR
  rw [e, nextR_int _ _ (by omega) (by omega)]
  dsimp only
  rw [nextR_int _ _ (by omega) (by omega)]
  dsimp only
  rw [hh 5 (Nat.le_refl _)]
  dsimp only
  rw [List.drop_eq_nil_of_le (show (x.heard.take m.n.toNat).length ≤ 5 by rw [List.length_take]; have hlen : x.heard.length = 5 := rfl; omega)]
  have e2 : vints 1 ([] : List Int) ++ (vint (x.to + 0).toNat ++ rest) = vint (x.to + 0).toNat ++ rest := rfl
  rw [e2, nextR_int _ _ (by omega) (by omega)]
  dsimp only
  rw [List.take_of_length_le (show x.heard.length ≤ 5 from Nat.le_refl _)]
  obtain ⟨r, p, h0, h1, h2, h3, h4, t⟩ := x
  simp [StepV.heard]
theorem steps_codec {m : MachV} (h : GoodM m) (rest : List UInt8) : ∀ l : List StepV, (∀ x ∈ l, x ∈ m.steps) → stepsS m.n.toNat l.length (l.flatMap (stepB m.n.toNat) ++ rest) false = (l, rest, false)
  | [], _ => rfl
  | x :: l, hl => by
    rw [List.length_cons, stepsS_succ, List.flatMap_cons, List.append_assoc, step_codec h (hl x (List.mem_cons_self ..))]
    dsimp only
    rw [steps_codec h rest l (fun y hy => hl y (List.mem_cons_of_mem _ hy))]

theorem read_body {m : MachV} (h : GoodM m) : readM ((bodyB m).drop 4) = (m, [], false) := by
  obtain ⟨l1, l2, l3⟩ := shaped_len h.sh
  obtain ⟨h5, h7, h6⟩ := good_len h
  have hn := h.n
  have hr := h.r
  have hi := h.i
  have ho := h.o
  have hsl := h.sl
  have e : (bodyB m).drop 4 = vint (m.n + 0).toNat ++ (vint (m.rounds + 0).toNat ++ (vint (m.ins + 0).toNat ++ (vint (m.outs + 0).toNat ++ (m.first.flatMap (vints 1) ++ (m.out.flatMap outB ++ (m.symbols.flatMap symB ++ (vint ((m.steps.length : Int) + 0).toNat ++ (m.steps.flatMap (stepB m.n.toNat) ++ [])))))))) := by
    unfold bodyB headB
    simp [vints]
  have f1 : ∀ rest, pF m.n m.ins (m.first.flatMap (vints 1) ++ rest) false = (m.first, rest, false) := fun rest => by
    unfold pF lessS
    refine repI_all _ _ _ _ _ (by omega) (fun i a r ha => ?_)
    have hm := List.mem_of_getElem? ha
    have hl := shaped_first h.sh hm
    rw [show m.ins.toNat = a.length by omega]
    exact repS_vints 1 r a (first_vals h hm)
  have f2 : ∀ rest, pO m.n m.rounds (m.out.flatMap outB ++ rest) false = (m.out, rest, false) := fun rest => by
    unfold pO roundS
    refine repI_all _ _ _ _ _ (by omega) (fun i a r ha => ?_)
    have hm := List.mem_of_getElem? ha
    obtain ⟨hi1, hi2⟩ := getD_of ha
    have hl := shaped_out h.sh hi1
    rw [hi2] at hl
    unfold outB
    refine repI_all (fun _ => outS) _ _ _ _ (by omega) (fun j b r2 hb => ?_)
    have hm2 := List.mem_of_getElem? hb
    exact outS_codec b r2 ((good_out h hm).2 b hm2) (out_vals h hm hm2)
  have f3 : ∀ rest, pS m.n m.rounds m.out (m.symbols.flatMap symB ++ rest) false = (m.symbols, rest, false) := fun rest => by
    unfold pS
    refine repI_all _ _ _ _ _ (by omega) (fun i a r ha => ?_)
    have hm := List.mem_of_getElem? ha
    obtain ⟨hi1, hi2⟩ := getD_of ha
    obtain ⟨s1, s2⟩ := shaped_sym h.sh hi1
    rw [hi2] at s1 s2
    unfold symS symB
    refine repI_all _ _ _ _ _ (by omega) (fun j b r2 hb => ?_)
    have hm2 := List.mem_of_getElem? hb
    obtain ⟨hj1, hj2⟩ := getD_of hb
    obtain ⟨s3, s4⟩ := s2 j hj1
    rw [hj2] at s3 s4
    unfold sendS sendV
    refine repI_all _ _ _ _ _ (by omega) (fun q c r3 hc => ?_)
    have hm3 := List.mem_of_getElem? hc
    obtain ⟨hq1, hq2⟩ := getD_of hc
    have s5 := s4 q hq1
    rw [hq2] at s5
    unfold recvS
    by_cases hjq : j = q
    · rw [if_pos hjq] at s5 ⊢
      have : c = [] := List.length_eq_zero_iff.1 (by omega)
      subst this; rfl
    · rw [if_neg hjq] at s5 ⊢
      rw [show ((m.out.getD i default).getD j default).length = c.length by omega]
      exact repS_vints 0 r3 c (sym_vals h hm hm2 hm3)
  have f4 : ∀ rest, pT m.n (vint ((m.steps.length : Int) + 0).toNat ++ (m.steps.flatMap (stepB m.n.toNat) ++ rest)) false = (m.steps, rest, false) := fun rest => by
    unfold pT
    rw [nextR_int _ _ (by omega) (by omega)]
    dsimp only
    rw [show ((m.steps.length : Int) + 0).toNat = m.steps.length by omega]
    exact steps_codec h rest m.steps (fun _ h => h)
  unfold readM
  rw [e, nextR_int _ _ (by omega) (by omega)]
  dsimp only
  rw [nextR_int _ _ (by omega) (by omega)]
  dsimp only
  rw [nextR_int _ _ (by omega) (by omega)]
  dsimp only
  rw [nextR_int _ _ (by omega) (by omega)]
  dsimp only
  rw [if_neg (by simp; omega)]
  simp only [Int.add_zero]
  unfold partsV
  simp only [f1, f2, f3]
  have f4' := f4 []
  simp only [Int.add_zero] at f4'
  rw [f4']

theorem right_seal (l : List UInt8) (h : 4 ≤ l.length) : rightB (sealB l) = true := by
  have hb := csum_bd l
  have hlen : (sealB l).length = l.length + 2 := by simp [sealB]
  unfold rightB
  rw [hlen, show l.length + 2 - 2 = l.length by omega, show l.length + 2 - 1 = l.length + 1 by omega]
  rw [decide_eq_true (by omega), Bool.true_and, decide_eq_true_eq]
  have e1 : (sealB l).take l.length = l := by simp [sealB]
  have e2 : (sealB l).getD l.length default = UInt8.ofNat (csum l / 256).toNat := by simp [sealB, List.getD]
  have e3 : (sealB l).getD (l.length + 1) default = UInt8.ofNat (csum l % 256).toNat := by simp [sealB, List.getD]
  rw [e1, e2, e3, UInt8.toNat_ofNat', UInt8.toNat_ofNat']
  omega
theorem parse_mach {m : MachV} (h : chkM m = 0) (hl : (writtenB m).length ≤ 65536) : parseB (writtenB m) = (m, 0) := by
  have hg := chk_zero h
  have h4 : 4 ≤ (bodyB m).length := by unfold bodyB headB; simp
  have hlen : (writtenB m).length = (bodyB m).length + 2 := by simp [writtenB, sealB]
  have e1 : (writtenB m).take ((writtenB m).length - 2) = bodyB m := by
    rw [hlen, show (bodyB m).length + 2 - 2 = (bodyB m).length by omega]; simp [writtenB, sealB]
  unfold parseB
  rw [if_neg (by omega), if_pos (show rightB (writtenB m) = true from right_seal _ h4), e1, read_body hg]
  dsimp only
  rw [if_neg (by simp [h])]

end Go.Proofs.Ytpbjhjkfobapeaa

/- Q30: contracts of functions and plain laws; for all inputs that the theorems name. -/
set_option linter.unusedSimpArgs false
set_option linter.unusedVariables false
namespace Go.Proofs.Ytpbjhjkfobapeaa
open Go Go.Abs

/-! ### a change of one byte changes the checksum -/
theorem cop255 : ∀ d : Nat, d < 256 → d ≠ 0 → Nat.gcd 65521 d = 1 := by decide +kernel
theorem sumT_set_lt (l : List UInt8) (k : Nat) (c : UInt8) : ∀ j, j ≤ k → sumT (l.set k c) j = sumT l j
  | 0, _ => by simp [sumT]
  | j + 1, h => by
    simp only [sumT]
    rw [sumT_set_lt l k c j (by omega)]
    have : (l.set k c).getD j default = l.getD j default := by simp [List.getD, List.getElem?_set_ne (show k ≠ j by omega)]
    rw [this]
theorem sumT_set_gt (l : List UInt8) (k : Nat) (c : UInt8) (hk : k < l.length) : ∀ j, k < j → sumT (l.set k c) j + (k + 1) * (l.getD k default).toNat = sumT l j + (k + 1) * c.toNat
  | 0, h => by omega
  | j + 1, h => by
    simp only [sumT]
    by_cases e : k = j
    · subst e
      rw [sumT_set_lt l k c k (Nat.le_refl _)]
      have : (l.set k c).getD k default = c := by simp [List.getD, hk]
      rw [this]; omega
    · have := sumT_set_gt l k c hk j (by omega)
      have e2 : (l.set k c).getD j default = l.getD j default := by simp [List.getD, List.getElem?_set_ne e]
      rw [e2]; omega
theorem csum_sum (l : List UInt8) : csum l = ((sumT l l.length % 65521 : Nat) : Int) := by
  unfold csum; rw [ck_sum]; omega
theorem no_mul {k d : Nat} (hk : k < 65520) (hd : d < 256) (h0 : d ≠ 0) : ¬ 65521 ∣ (k + 1) * d := fun h => by
  have h1 : Nat.Coprime 65521 d := cop255 d hd h0
  have := h1.dvd_of_dvd_mul_right h
  have := Nat.le_of_dvd (by omega) this
  omega
theorem csum_set (l : List UInt8) (k : Nat) (c : UInt8) (hk : k < l.length) (hl : l.length ≤ 65520) : csum (l.set k c) = csum l ↔ c = l.getD k default := by
  constructor
  · intro h
    rw [csum_sum, csum_sum, List.length_set] at h
    have h1 := sumT_set_gt l k c hk l.length hk
    have hc := UInt8.toNat_lt c
    have hd := UInt8.toNat_lt (l.getD k default)
    have h2 : sumT (l.set k c) l.length % 65521 = sumT l l.length % 65521 := by omega
    rcases Nat.lt_trichotomy c.toNat (l.getD k default).toNat with h3 | h3 | h3
    · exfalso
      refine no_mul (k := k) (d := (l.getD k default).toNat - c.toNat) (by omega) (by omega) (by omega) ?_
      have h4 : (k + 1) * ((l.getD k default).toNat - c.toNat) = (k + 1) * (l.getD k default).toNat - (k + 1) * c.toNat := Nat.mul_sub ..
      have h5 : (k + 1) * c.toNat ≤ (k + 1) * (l.getD k default).toNat := Nat.mul_le_mul_left _ (by omega)
      rw [h4]
      generalize (k + 1) * (l.getD k default).toNat = A at *
      generalize (k + 1) * c.toNat = B at *
      omega
    · exact UInt8.toNat_inj.1 h3
    · exfalso
      refine no_mul (k := k) (d := c.toNat - (l.getD k default).toNat) (by omega) (by omega) (by omega) ?_
      have h4 : (k + 1) * (c.toNat - (l.getD k default).toNat) = (k + 1) * c.toNat - (k + 1) * (l.getD k default).toNat := Nat.mul_sub ..
      have h5 : (k + 1) * (l.getD k default).toNat ≤ (k + 1) * c.toNat := Nat.mul_le_mul_left _ (by omega)
      rw [h4]
      generalize (k + 1) * (l.getD k default).toNat = A at *
      generalize (k + 1) * c.toNat = B at *
      omega
  · rintro rfl
    have : l.set k (l.getD k default) = l := by simp [List.getD, hk]
    rw [this]
theorem csum_swap (l : List UInt8) (k : Nat) (hk : k + 1 < l.length) : csum ((l.set k (l.getD (k + 1) default)).set (k + 1) (l.getD k default)) = csum l ↔ l.getD k default = l.getD (k + 1) default := by
  rw [csum_sum, csum_sum, List.length_set, List.length_set]
  have h1 := sumT_set_gt l k (l.getD (k + 1) default) (by omega) l.length (by omega)
  have h2 := sumT_set_gt (l.set k (l.getD (k + 1) default)) (k + 1) (l.getD k default) (by rw [List.length_set]; exact hk) l.length hk
  have e : (l.set k (l.getD (k + 1) default)).getD (k + 1) default = l.getD (k + 1) default := by simp [List.getD, List.getElem?_set_ne (show k ≠ k + 1 by omega)]
  rw [e] at h2
  have ha := UInt8.toNat_lt (l.getD k default)
  have hb := UInt8.toNat_lt (l.getD (k + 1) default)
  have e2 : ∀ x : Nat, (k + 1 + 1) * x = (k + 1) * x + x := fun x => by rw [Nat.succ_mul]
  rw [e2, e2] at h2
  rw [← UInt8.toNat_inj]
  omega

/-! ### bits -/
theorem xor_u8 (x y : UInt8) (tb tf : Bool) : abin2 .xor tb tf (encB x) (.int .u8 (y.toNat : Int)) = some (encB (x ^^^ y)) := by
  have hx := UInt8.toNat_lt x
  have hy := UInt8.toNat_lt y
  have h1 : (BitVec.ofInt IntKind.u8.bits (x.toNat : Int)).toNat = x.toNat := Go.Abs.bits_nat (k := .u8) hx
  have h2 : (BitVec.ofInt IntKind.u8.bits (y.toNat : Int)).toNat = y.toNat := Go.Abs.bits_nat (k := .u8) hy
  show (if (IntKind.u8 = IntKind.u8) then aarith .xor .u8 _ _ else none) = _
  rw [if_pos rfl]
  simp only [aarith]
  rw [BitVec.toNat_xor, h1, h2, wrapU8]
  unfold encB
  congr 2
  rw [UInt8.toNat_xor]
  have : x.toNat ^^^ y.toNat < 2 ^ 8 := Nat.xor_lt_two_pow hx hy
  omega
theorem xor_self_iff (x y : UInt8) : x ^^^ y = x ↔ y = 0 := by
  constructor
  · intro h
    have h2 : x ^^^ (x ^^^ y) = x ^^^ x := by rw [h]
    rw [← UInt8.xor_assoc, UInt8.xor_self, UInt8.zero_xor] at h2
    exact h2
  · rintro rfl; exact UInt8.xor_zero
theorem lput_bytes {l : List UInt8} {k : Nat} {x : UInt8} (h : k < l.length) : lput (l.map encB) k [encB x] = (l.set k x).map encB := by
  simp [lput, List.set_eq_take_append_cons_drop, h]
theorem bytes_get {l : List UInt8} {k : Nat} (h : k < l.length) : (l.map encB)[k]? = some (encB (l.getD k default)) := getElem?_map_lt h

end Go.Proofs.Ytpbjhjkfobapeaa

/- Q31: contracts of functions and plain laws; for all inputs that the theorems name. -/
set_option linter.unusedSimpArgs false
set_option linter.unusedVariables false
namespace Go.Proofs.Ytpbjhjkfobapeaa
open Go Go.Abs

attribute [local irreducible] awp2 aops2 ains aloop athen bbind obind gbind acond res1 Go.Abs.Fn PCall Go.Abs.Pure SnapArgs SnapL Yl

theorem law6_c (l : List UInt8) (hl : Sh l) (at_ : Nat) (ha : at_ < 65536) (y : UInt8) : Go.Abs.Pure Try.prog 6 [encS l, .int .u16 at_, .int .u8 (y.toNat : Int)] (.bool true) := by
  refine Pure.of_c2 follows is6 (Nat.le_of_ble_eq_true rfl) ?_
  simp only [b6, O, G, N]
  have hl' : l.length ≤ 9223372036854775807 := hl
  have haw := awake_c
  by_cases hlong : 5000 < l.length ∨ l.length = 0
  · repeat' (first | refine w_seq ?_ | refine w_ops0 ?_ | refine w_ret ?_ | refine a_n ?_ | refine a_r ?_ | refine o_nil ?_ | (apply o_val rfl rfl; (focus ((try simp (disch := omega) only [simB0, ZA, Nat.reduceEqDiff, ↓reduceIte, Nat.reduceAdd, Nat.reduceLeDiff, ZV, reduceCtorEq, alenStr_encS]); first | with_reducible rfl | (apply s_ite; (focus omega); with_reducible rfl)))) | (apply o_callD; (iterate 2 (focus ((try simp only [simB0, ZA, Nat.reduceEqDiff, ↓reduceIte, Nat.reduceAdd, Nat.reduceLeDiff, alenStr_encS]); (try with_reducible rfl); done))); (focus (first | (exact haw))); (focus (first | (apply snap_data; repeat' (first | exact snapL_nil | apply snapL_dat | exact Dat.int | exact Dat.bool | exact Dat.str | exact Dat.esl | exact Dat.nilf | exact encV_dat _ | exact encVV_dat _)) | (apply snap_plain; (focus (repeat' (first | exact snapL_nil | apply snapL_dat | exact Dat.int | exact Dat.bool | exact Dat.str | exact encV_dat _ | exact encVV_dat _))); rfl)))) | (apply o_gT; (focus (simp only [simB0, ZA, Nat.reduceEqDiff, ↓reduceIte, Nat.reduceAdd, Nat.reduceLeDiff, alenStr_encS]; done))) | (apply o_gF; (focus (simp only [simB0, ZA, Nat.reduceEqDiff, ↓reduceIte, Nat.reduceAdd, Nat.reduceLeDiff, or_true, true_or, alenStr_encS]; done))) | (apply o_gB; (focus ((try simp only [simB0, ZA, Nat.reduceEqDiff, ↓reduceIte, Nat.reduceAdd, Nat.reduceLeDiff, alenStr_encS]); (try with_reducible rfl); done)); all_goals (intro _hg; (try simp only [Bool.not_true, Bool.not_false, Bool.not_eq_true', Bool.not_eq_false', Bool.not_not, decide_eq_true_eq, decide_eq_false_iff_not] at _hg); try (exfalso; omega))) | (apply w_condT; (focus (simp only [simB0, ZA, Nat.reduceEqDiff, ↓reduceIte, Nat.reduceAdd, Nat.reduceLeDiff, alenStr_encS]; done))) | (apply w_cond; (focus ((try simp only [simB0, ZA, Nat.reduceEqDiff, ↓reduceIte, Nat.reduceAdd, Nat.reduceLeDiff, alenStr_encS]); (try with_reducible rfl); done)); all_goals (intro _hg; (try simp only [Bool.not_eq_true', Bool.not_eq_false', Bool.not_not, decide_eq_true_eq, decide_eq_false_iff_not] at _hg); try (exfalso; omega))) | (refine e_ends rfl ?_) | (apply r_1; (focus (simp only [rv, simB0, ZA, Nat.reduceEqDiff, ↓reduceIte, Nat.reduceAdd, Nat.reduceLeDiff, alenStr_encS]; with_reducible rfl))))
    all_goals first | exact snap_bool rfl | (exfalso; omega)
  have e0 : IntKind.wrap .i64 (at_ : Int) = at_ := wrap64 (by omega) (by omega)
  have e1 : ((at_ : Int) % (l.length : Int)) = ((at_ % l.length : Nat) : Int) := by simp
  have hk : at_ % l.length < l.length := Nat.mod_lt _ (by omega)
  generalize at_ % l.length = k at *
  have hc := checksum_c l hl
  have hc1 := checksum_c (l.set k (l.getD k default ^^^ y)) (by show _ ≤ _; rw [List.length_set]; exact hl)
  have hE : decide (csum (l.set k (l.getD k default ^^^ y)) = csum l) = decide ((y.toNat : Int) = 0) := by
    rw [decide_eq_decide, csum_set l k _ hk (by omega), xor_self_iff, ← UInt8.toNat_inj]
    show y.toNat = 0 ↔ _
    omega
  have e2 : (⟨l.toArray⟩ : ByteArray).size = l.length := encS_size
  have e3 : (⟨l.toArray⟩ : ByteArray).data.toList = l := rfl
  have hb := bytes_get hk
  have hlp := lput_bytes (x := l.getD k default ^^^ y) hk
  have d1 : decide ((5000 : Int) < (l.length : Int)) = false := decide_eq_false (by omega)
  have d2 : decide ((l.length : Int) = 0) = false := decide_eq_false (by omega)
  repeat' (first | refine w_seq ?_ | refine w_ops0 ?_ | refine w_skip ?_ | refine a_n ?_ | refine o_nil ?_ | (apply o_val rfl rfl; (focus ((try simp (disch := omega) only [simB0, ZA, Nat.reduceEqDiff, ↓reduceIte, Nat.reduceAdd, Nat.reduceLeDiff, ZV, reduceCtorEq, alenStr_encS, d1, d2, e0, rem_pos, e1]); first | with_reducible rfl | (apply s_ite; (focus omega); with_reducible rfl)))) | (apply o_gT; (focus (simp only [simB0, ZA, Nat.reduceEqDiff, ↓reduceIte, Nat.reduceAdd, Nat.reduceLeDiff, alenStr_encS, d1, d2, e0, rem_pos, e1]; done))) | (apply w_condF; (focus (simp only [simB0, ZA, Nat.reduceEqDiff, ↓reduceIte, Nat.reduceAdd, Nat.reduceLeDiff, alenStr_encS, d1, d2, e0, rem_pos, e1]; done))))
  refine o_s2b (bs := ⟨l.toArray⟩) (by ((try simp only [simB0, ZA, Nat.reduceEqDiff, ↓reduceIte, Nat.reduceAdd, Nat.reduceLeDiff]); (try with_reducible rfl)); rfl) (fun h => absurd h (by rw [e2]; omega)) (fun _ => ?_)
  rw [e2, e3]
  repeat' (first | refine w_seq ?_ | refine w_ops0 ?_ | refine a_n ?_ | refine o_nil ?_ | (apply o_val rfl rfl; (focus ((try simp (disch := omega) only [simB0, ZA, Nat.reduceEqDiff, ↓reduceIte, Nat.reduceAdd, Nat.reduceLeDiff, ZV, reduceCtorEq, hb, xor_u8]); first | with_reducible rfl | (apply s_ite; (focus omega); with_reducible rfl)))))
  refine e_st rfl (b := 0) (n := l.length) (off := k) (cs := l.map encB) (vs := [encB (l.getD k default ^^^ y)]) (by ((try simp only [simB0, ZA, Nat.reduceEqDiff, ↓reduceIte, Nat.reduceAdd, Nat.reduceLeDiff]); (try with_reducible rfl))) (by ((try simp only [simB0, ZA, Nat.reduceEqDiff, ↓reduceIte, Nat.reduceAdd, Nat.reduceLeDiff]); (try with_reducible rfl))) (by ((try simp only [simB0, ZA, Nat.reduceEqDiff, ↓reduceIte, Nat.reduceAdd, Nat.reduceLeDiff]); (try with_reducible rfl))) rfl rfl (List.length_map _) rfl (show k + 1 ≤ l.length by omega) ?_
  rw [hlp]
  repeat' (first | refine w_seq ?_ | refine w_ops0 ?_ | refine a_n ?_ | refine o_nil ?_ | (apply o_val rfl rfl; (focus ((try simp (disch := omega) only [simB0, ZA, Nat.reduceEqDiff, ↓reduceIte, Nat.reduceAdd, Nat.reduceLeDiff, ZV, reduceCtorEq]); first | with_reducible rfl | (apply s_ite; (focus omega); with_reducible rfl)))))
  refine o_b2s (n := l.length) (bs := l.set k (l.getD k default ^^^ y)) (by ((try simp only [simB0, ZA, Nat.reduceEqDiff, ↓reduceIte, Nat.reduceAdd, Nat.reduceLeDiff]); (try with_reducible rfl)); exact asrc_bytes (l := l.set k (l.getD k default ^^^ y)) hupd_self' List.length_set.symm) ?_
  have eS : AV.str ⟨(l.set k (l.getD k default ^^^ y)).toArray⟩ = encS (l.set k (l.getD k default ^^^ y)) := rfl
  rw [eS]
  repeat' (first | refine w_seq ?_ | refine w_ops0 ?_ | refine w_skip ?_ | refine w_ret ?_ | refine a_n ?_ | refine a_r ?_ | refine o_nil ?_ | (apply o_val rfl rfl; (focus ((try simp (disch := omega) only [simB0, ZA, Nat.reduceEqDiff, ↓reduceIte, Nat.reduceAdd, Nat.reduceLeDiff, ZV, reduceCtorEq, hE, beq_self_eq_true, Bool.not_true]); first | with_reducible rfl | (apply s_ite; (focus omega); with_reducible rfl)))) | (apply o_callD; (iterate 2 (focus ((try simp only [simB0, ZA, Nat.reduceEqDiff, ↓reduceIte, Nat.reduceAdd, Nat.reduceLeDiff, hE, beq_self_eq_true, Bool.not_true]); (try with_reducible rfl); done))); (focus (first | (exact hc1) | (exact hc) | (exact haw))); (focus (first | (apply snap_data; repeat' (first | exact snapL_nil | apply snapL_dat | exact Dat.int | exact Dat.bool | exact Dat.str | exact Dat.esl | exact Dat.nilf | exact encV_dat _ | exact encVV_dat _ | exact encS_dat _)) | (apply snap_plain; (focus (repeat' (first | exact snapL_nil | apply snapL_dat | exact Dat.int | exact Dat.bool | exact Dat.str | exact encV_dat _ | exact encVV_dat _ | exact encS_dat _))); rfl)))) | (apply w_condF; (focus (simp only [simB0, ZA, Nat.reduceEqDiff, ↓reduceIte, Nat.reduceAdd, Nat.reduceLeDiff, hE, beq_self_eq_true, Bool.not_true]; done))) | (apply w_cond; (focus ((try simp only [simB0, ZA, Nat.reduceEqDiff, ↓reduceIte, Nat.reduceAdd, Nat.reduceLeDiff, hE, beq_self_eq_true, Bool.not_true]); (try with_reducible rfl); done)); all_goals (intro _hg; (try simp only [Bool.not_eq_true', Bool.not_eq_false', Bool.not_not, decide_eq_true_eq, decide_eq_false_iff_not] at _hg); try (exfalso; omega))) | (refine e_ends rfl ?_) | (apply r_1; (focus (simp only [rv, simB0, ZA, Nat.reduceEqDiff, ↓reduceIte, Nat.reduceAdd, Nat.reduceLeDiff, hE, beq_self_eq_true, Bool.not_true]; with_reducible rfl))))
  · exact snap_bool rfl
  refine o_s2b (bs := ⟨l.toArray⟩) (by ((try simp only [simB0, ZA, Nat.reduceEqDiff, ↓reduceIte, Nat.reduceAdd, Nat.reduceLeDiff]); (try with_reducible rfl)); rfl) (fun h => absurd h (by rw [e2]; omega)) (fun _ => ?_)
  rw [e2, e3]
  obtain ⟨k, rfl⟩ : ∃ j, k = j + 1 := ⟨k - 1, by omega⟩
  have hk1 : k < l.length := by omega
  have e5 : ((k + 1 : Nat) : Int) - 1 = (k : Int) := by omega
  have hb1 := bytes_get hk1
  repeat' (first | refine w_seq ?_ | refine w_ops1 ?_ | refine a_n ?_ | refine o_nil ?_ | (apply o_val rfl rfl; (focus ((try simp (disch := omega) only [simB0, ZA, Nat.reduceEqDiff, ↓reduceIte, Nat.reduceAdd, Nat.reduceLeDiff, ZV, reduceCtorEq, hb, hb1, e5]); first | with_reducible rfl | (apply s_ite; (focus omega); with_reducible rfl)))))
  refine e_st rfl (b := 1) (n := l.length) (off := k) (cs := l.map encB) (vs := [encB (l.getD (k + 1) default)]) (by ((try simp only [simB0, ZA, Nat.reduceEqDiff, ↓reduceIte, Nat.reduceAdd, Nat.reduceLeDiff]); (try with_reducible rfl))) (by ((try simp only [simB0, ZA, Nat.reduceEqDiff, ↓reduceIte, Nat.reduceAdd, Nat.reduceLeDiff]); (try with_reducible rfl))) (by ((try simp only [simB0, ZA, Nat.reduceEqDiff, ↓reduceIte, Nat.reduceAdd, Nat.reduceLeDiff]); (try with_reducible rfl))) rfl rfl (List.length_map _) rfl (show k + 1 ≤ l.length by omega) ?_
  rw [lput_bytes hk1]
  repeat' (first | (apply o_val rfl rfl; (focus ((try simp (disch := omega) only [simB0, ZA, Nat.reduceEqDiff, ↓reduceIte, Nat.reduceAdd, Nat.reduceLeDiff, ZV, reduceCtorEq]); first | with_reducible rfl | (apply s_ite; (focus omega); with_reducible rfl)))))
  refine e_st rfl (b := 1) (n := l.length) (off := k + 1) (cs := (l.set k (l.getD (k + 1) default)).map encB) (vs := [encB (l.getD k default)]) (by ((try simp only [simB0, ZA, Nat.reduceEqDiff, ↓reduceIte, Nat.reduceAdd, Nat.reduceLeDiff]); (try with_reducible rfl))) (by ((try simp only [simB0, ZA, Nat.reduceEqDiff, ↓reduceIte, Nat.reduceAdd, Nat.reduceLeDiff]); (try with_reducible rfl))) (by ((try simp only [simB0, ZA, Nat.reduceEqDiff, ↓reduceIte, Nat.reduceAdd, Nat.reduceLeDiff]); (try with_reducible rfl))) rfl rfl (by rw [List.length_map, List.length_set]) rfl (show k + 1 + 1 ≤ l.length by omega) ?_
  rw [lput_bytes (by rw [List.length_set]; exact hk)]
  have hc2 := checksum_c ((l.set k (l.getD (k + 1) default)).set (k + 1) (l.getD k default)) (by show _ ≤ _; rw [List.length_set, List.length_set]; exact hl)
  have hF : decide (csum ((l.set k (l.getD (k + 1) default)).set (k + 1) (l.getD k default)) = csum l) = decide (((l.getD k default).toNat : Int) = ((l.getD (k + 1) default).toNat : Int)) := by
    rw [decide_eq_decide, csum_swap l k hk, ← UInt8.toNat_inj]; omega
  have hlen2 : l.length = ((l.set k (l.getD (k + 1) default)).set (k + 1) (l.getD k default)).length := by rw [List.length_set, List.length_set]
  generalize (l.set k (l.getD (k + 1) default)).set (k + 1) (l.getD k default) = L2 at *
  have hix1 := aixStr_encS (l := l) (k := .i64) (n := (k : Int)) (by omega) (by omega)
  have hix2 := aixStr_encS (l := l) (k := .i64) (n := ((k + 1 : Nat) : Int)) (by omega) (by omega)
  rw [Int.toNat_natCast] at hix1 hix2
  repeat' (first | refine w_seq ?_ | refine w_mix9 rfl ?_ | refine a_n ?_ | refine o_nil ?_ | (apply o_val rfl rfl; (focus ((try simp (disch := omega) only [simB0, ZA, Nat.reduceEqDiff, ↓reduceIte, Nat.reduceAdd, Nat.reduceLeDiff, ZV, reduceCtorEq, e5, hix1, hix2, encB]); first | with_reducible rfl | (apply s_ite; (focus omega); with_reducible rfl)))))
  refine o_b2s (n := l.length) (bs := L2) (by ((try simp only [simB0, ZA, Nat.reduceEqDiff, ↓reduceIte, Nat.reduceAdd, Nat.reduceLeDiff]); (try with_reducible rfl)); exact asrc_bytes (l := L2) hupd_self' hlen2) ?_
  have eS2 : AV.str ⟨L2.toArray⟩ = encS L2 := rfl
  rw [eS2]
  repeat' (first | refine w_ret ?_ | refine a_n ?_ | refine o_nil ?_ | (apply o_val rfl rfl; (focus ((try simp (disch := omega) only [simB0, ZA, Nat.reduceEqDiff, ↓reduceIte, Nat.reduceAdd, Nat.reduceLeDiff, ZV, reduceCtorEq, e5, hix1, hix2, hF, encB, beq_self_eq_true, Bool.not_true]); first | with_reducible rfl | (apply s_ite; (focus omega); with_reducible rfl)))) | (apply o_callD; (iterate 2 (focus ((try simp only [simB0, ZA, Nat.reduceEqDiff, ↓reduceIte, Nat.reduceAdd, Nat.reduceLeDiff, e5, hix1, hix2, hF, encB, beq_self_eq_true, Bool.not_true]); (try with_reducible rfl); done))); (focus (first | (exact hc2) | (exact hc) | (exact haw))); (focus (first | (apply snap_data; repeat' (first | exact snapL_nil | apply snapL_dat | exact Dat.int | exact Dat.bool | exact Dat.str | exact Dat.esl | exact Dat.nilf | exact encV_dat _ | exact encVV_dat _ | exact encS_dat _)) | (apply snap_plain; (focus (repeat' (first | exact snapL_nil | apply snapL_dat | exact Dat.int | exact Dat.bool | exact Dat.str | exact encV_dat _ | exact encVV_dat _ | exact encS_dat _))); rfl)))) | (apply o_gT; (focus (simp only [simB0, ZA, Nat.reduceEqDiff, ↓reduceIte, Nat.reduceAdd, Nat.reduceLeDiff, e5, hix1, hix2, hF, encB, beq_self_eq_true, Bool.not_true]; done))) | (refine e_ends rfl ?_) | (apply r_1; (focus (simp only [rv, simB0, ZA, Nat.reduceEqDiff, ↓reduceIte, Nat.reduceAdd, Nat.reduceLeDiff, e5, hix1, hix2, hF, encB, beq_self_eq_true, Bool.not_true]; with_reducible rfl))))
  all_goals exact snap_bool rfl

end Go.Proofs.Ytpbjhjkfobapeaa

/- Q32: contracts of functions and plain laws; for all inputs that the theorems name. -/
set_option linter.unusedSimpArgs false
set_option linter.unusedVariables false
namespace Go.Proofs.Ytpbjhjkfobapeaa
open Go Go.Abs

/-! ### how long the bytes of a small machine are -/
theorem vintF_len2 : ∀ (k n j : Nat), n < 128 ^ (j + 1) → (vintF k n).length ≤ j + 1
  | 0, n, j, _ => by simp [vintF]
  | k + 1, n, j, h => by
    simp only [vintF]
    split
    · rename_i hs
      cases j with
      | zero => simp at h; omega
      | succ j =>
        have h1 : n / 128 < 128 ^ (j + 1) := by
          rw [Nat.pow_succ] at h
          exact Nat.div_lt_of_lt_mul (by rw [Nat.mul_comm]; exact h)
        have := vintF_len2 k (n / 128) j h1
        simp only [List.length_cons]; omega
    · simp
theorem vint3 {n : Nat} (h : n < 2097152) : (vint n).length ≤ 3 := vintF_len2 9 n 2 (by simpa using h)
theorem vints3 (add : Int) : ∀ l : List Int, (∀ x ∈ l, x + add < 2097152) → (vints add l).length ≤ 3 * l.length
  | [], _ => by simp [vints]
  | x :: l, h => by
    have h1 := vints3 add l (fun y hy => h y (List.mem_cons_of_mem _ hy))
    have h2 := h x (List.mem_cons_self ..)
    have h3 := vint3 (n := (x + add).toNat) (by omega)
    rw [vints_cons, List.length_append, List.length_cons]; omega
theorem flat_sum {α β : Type} {l : List α} {f : α → List β} {c : α → Nat} (h : ∀ x ∈ l, (f x).length ≤ c x) : (l.flatMap f).length ≤ (l.map c).sum := by
  induction l with
  | nil => simp
  | cons x l ih =>
    have h1 := ih (fun y hy => h y (List.mem_cons_of_mem _ hy))
    have h2 := h x (List.mem_cons_self ..)
    rw [List.flatMap_cons, List.length_append, List.map_cons, List.sum_cons]; omega
theorem lens_mul (l : List (List Int)) : (l.map fun x => 3 + 3 * x.length).sum = 3 * l.length + 3 * lens l := by
  induction l with
  | nil => simp [lens]
  | cons x l ih =>
    have : lens (x :: l) = x.length + lens l := by simp [lens]
    rw [List.map_cons, List.sum_cons, ih, this, List.length_cons]; omega
theorem flat_le2 {α β γ : Type} (f : α → List β) (c : γ → Nat) : ∀ (l : List α) (r : List γ), l.length ≤ r.length → (∀ (k : Nat) (a : α) (g : γ), l[k]? = some a → r[k]? = some g → (f a).length ≤ c g) → (l.flatMap f).length ≤ (r.map c).sum
  | [], r, _, _ => by simp
  | a :: l, [], h, _ => by simp at h
  | a :: l, g :: r, h, hk => by
    have h1 := flat_le2 f c l r (by simpa using h) (fun k a g h1 h2 => hk (k + 1) a g (by simpa using h1) (by simpa using h2))
    have h2 := hk 0 a g rfl rfl
    rw [List.flatMap_cons, List.length_append, List.map_cons, List.sum_cons]; omega
theorem sum_mul {γ : Type} (c : γ → Nat) (k : Nat) : ∀ l : List γ, (l.map fun g => k * c g).sum = k * (l.map c).sum
  | [] => by simp
  | g :: l => by rw [List.map_cons, List.sum_cons, List.map_cons, List.sum_cons, sum_mul c k l, Nat.mul_add]
theorem sum_three (l : List (List (List Int))) (hb : ∀ r ∈ l, r.length ≤ 5) : (l.map fun r => 3 * r.length + 3 * lens r).sum ≤ 15 * l.length + 3 * (l.map lens).sum := by
  induction l with
  | nil => simp
  | cons r l ih =>
    have h1 := ih (fun y hy => hb y (List.mem_cons_of_mem _ hy))
    have h2 := hb r (List.mem_cons_self ..)
    rw [List.map_cons, List.sum_cons, List.map_cons, List.sum_cons, List.length_cons]; omega
theorem body_few {m : MachV} (h : GoodM m) (hf : fewB m = true) : (bodyB m).length ≤ 60000 := by
  unfold fewB at hf
  rw [Bool.and_eq_true, decide_eq_true_eq] at hf
  obtain ⟨⟨_, _, _, hs, hc⟩, _⟩ := hf
  obtain ⟨h5, h7, h6⟩ := good_len h
  obtain ⟨l1, l2, l3⟩ := shaped_len h.sh
  have hst := h.st
  have hn := h.n
  have hcn : cntM m.out 0 = (statesN m : Int) := by
    have := cntM_eq m.out 0 (by unfold statesN at hst; omega)
    simpa [statesN] using this
  rw [hcn] at hc
  have b1 : (m.first.flatMap (vints 1)).length ≤ m.first.length * 24 := flat_le (fun x hx => by
    have h1 := good_first h hx
    have h2 := vints3 1 x (fun y hy => (first_vals h hx y hy).2)
    omega)
  have b2 : (m.out.flatMap outB).length ≤ (m.out.map fun r => 3 * r.length + 3 * lens r).sum := flat_sum (fun r hr => by
    unfold outB
    rw [← lens_mul]
    refine flat_sum (fun x hx => ?_)
    have h1 := (good_out h hr).2 x hx
    have h2 := vints3 1 x (fun y hy => (out_vals h hr hx y hy).2)
    have h3 : (vints 0 [(x.length : Int)]).length ≤ 3 := by
      have := vints3 0 [(x.length : Int)] (fun y hy => by simp at hy; omega)
      simpa using this
    rw [List.length_append]; omega)
  have b2' := sum_three m.out (fun r hr => (good_out h hr).1)
  have b3 : (m.symbols.flatMap symB).length ≤ (m.out.map fun r => 15 * lens r).sum := flat_le2 symB _ _ _ (by omega) (fun k s g hk hg => by
    have hm := List.mem_of_getElem? hk
    obtain ⟨hi1, hi2⟩ := getD_of hk
    obtain ⟨hg1, hg2⟩ := getD_of hg
    obtain ⟨s1, s2⟩ := shaped_sym h.sh hi1
    rw [hi2] at s1 s2
    have hol := shaped_out h.sh hg1
    rw [hg2] at hol s2
    have e : 15 * lens g = (g.map fun x => 15 * x.length).sum := by rw [sum_mul]; rfl
    rw [e]
    unfold symB
    refine flat_le2 sendV _ _ _ (by omega) (fun p r x hp hx => ?_)
    have hm2 := List.mem_of_getElem? hp
    obtain ⟨hp1, hp2⟩ := getD_of hp
    obtain ⟨hx1, hx2⟩ := getD_of hx
    obtain ⟨s3, s4⟩ := s2 p hp1
    rw [hp2] at s3 s4
    rw [hx2] at s4
    have : (sendV r).length ≤ r.length * (3 * x.length) := flat_le (fun z hz => by
      obtain ⟨q, hq, hqe⟩ := mem_idx hz
      have h8 := s4 q hq
      rw [hqe] at h8
      have h9 := vints3 0 z (fun y hy => (sym_vals h hm hm2 hz y hy).2)
      split at h8 <;> omega)
    have h8 : r.length * (3 * x.length) ≤ 5 * (3 * x.length) := Nat.mul_le_mul_right _ (by omega)
    omega)
  rw [sum_mul] at b3
  have b4 : (m.steps.flatMap (stepB m.n.toNat)).length ≤ m.steps.length * 24 := flat_le (fun x hx => by
    obtain ⟨⟨a1, a2⟩, ⟨c1, c2⟩, ⟨d1, d2⟩, hq⟩ := good_step h hx
    unfold stepB
    have g1 := vints3 0 [x.round, x.proc] (fun y hy => by simp at hy; omega)
    have g2 := vints3 1 (x.heard.take m.n.toNat) (fun y hy => by
      obtain ⟨q, hq1, hq2⟩ := mem_idx hy
      have hh : x.heard.length = 5 := rfl
      rw [List.length_take] at hq1
      have := hq q (by omega)
      have e : (x.heard.take m.n.toNat).getD q default = x.heard.getD q default := by
        simp only [List.getD]
        rw [List.getElem?_take, if_pos (by omega)]
      rw [e] at hq2
      omega)
    have g3 := vints3 0 [x.to] (fun y hy => by simp at hy; omega)
    have hh : x.heard.length = 5 := rfl
    simp only [List.length_append, List.length_take, List.length_cons, List.length_nil] at *
    omega)
  have hr := h.r
  have hi := h.i
  have ho := h.o
  have b5 := vints3 0 [m.n, m.rounds, m.ins, m.outs] (fun y hy => by simp at hy; omega)
  have b6 := vints3 0 [(m.steps.length : Int)] (fun y hy => by simp at hy; omega)
  unfold statesN at hc
  unfold bodyB headB
  simp only [List.length_append, List.length_cons, List.length_nil] at *
  omega

/-! ### damaged bytes -/
theorem right_damage (l : List UInt8) (k : Nat) (c : UInt8) (hr : rightB l = true) (hk : k < l.length) (hl : l.length ≤ 65522) (hc : c ≠ l.getD k default) : rightB (l.set k c) = false := by
  unfold rightB at hr ⊢
  rw [List.length_set]
  rw [Bool.and_eq_true, decide_eq_true_eq, decide_eq_true_eq] at hr
  obtain ⟨h6, hr⟩ := hr
  rw [decide_eq_true h6, Bool.true_and, decide_eq_false_iff_not]
  intro hh
  obtain ⟨n, hn⟩ : ∃ n, l.length = n + 2 := ⟨l.length - 2, by omega⟩
  rw [hn] at hr hh
  simp only [show n + 2 - 2 = n by omega, show n + 2 - 1 = n + 1 by omega] at hr hh
  have hb : ∀ x : UInt8, x.toNat < 256 := fun x => UInt8.toNat_lt x
  by_cases hkn : k < n
  · have e1 : (l.set k c).take n = (l.take n).set k c := by rw [List.take_set]
    have e2 : (l.set k c).getD n default = l.getD n default := by simp [List.getD, List.getElem?_set_ne (show k ≠ n by omega)]
    have e3 : (l.set k c).getD (n + 1) default = l.getD (n + 1) default := by simp [List.getD, List.getElem?_set_ne (show k ≠ n + 1 by omega)]
    rw [e1, e2, e3, ← hr] at hh
    have h7 := (csum_set (l.take n) k c (by rw [List.length_take]; omega) (by rw [List.length_take]; omega)).1 hh
    apply hc
    rw [h7]
    simp only [List.getD]
    rw [List.getElem?_take, if_pos hkn]
  · have e1 : (l.set k c).take n = l.take n := by rw [List.take_set, List.set_eq_of_length_le (by rw [List.length_take]; omega)]
    rw [e1, hr] at hh
    have ha := hb c
    have hb0 := hb (l.getD n default)
    have hb1 := hb (l.getD (n + 1) default)
    by_cases hk0 : k = n
    · subst hk0
      have e2 : (l.set k c).getD k default = c := by simp [List.getD, hk]
      have e3 : (l.set k c).getD (k + 1) default = l.getD (k + 1) default := by simp [List.getD, List.getElem?_set_ne (show k ≠ k + 1 by omega)]
      rw [e2, e3] at hh
      exact hc (UInt8.toNat_inj.1 (by omega))
    · have hk1 : k = n + 1 := by omega
      subst hk1
      have e2 : (l.set (n + 1) c).getD n default = l.getD n default := by simp [List.getD, List.getElem?_set_ne (show n + 1 ≠ n by omega)]
      have e3 : (l.set (n + 1) c).getD (n + 1) default = c := by simp [List.getD, hk]
      rw [e2, e3] at hh
      exact hc (UInt8.toNat_inj.1 (by omega))

end Go.Proofs.Ytpbjhjkfobapeaa

/- Q33: contracts of functions and plain laws; for all inputs that the theorems name. -/
set_option linter.unusedSimpArgs false
set_option linter.unusedVariables false
namespace Go.Proofs.Ytpbjhjkfobapeaa
open Go Go.Abs

theorem IXA : (∀ (T : Tm) (H : Hp) (len sz : Nat) (x : Opd), ival T H (.ixaA len sz x (.c (.int .i64 0))) = if 0 < len then apadd 0 (ov T x) else none) ∧ (∀ (T : Tm) (H : Hp) (len sz : Nat) (x : Opd), ival T H (.ixaA len sz x (.c (.int .i64 1))) = if 1 < len then apadd sz (ov T x) else none) := by
  refine ⟨fun T H len sz x => ?_, fun T H len sz x => ?_⟩
  · show (if (0 : Int) ≤ 0 ∧ (0 : Int) < len then apadd ((0 : Int).toNat * sz) (ov T x) else none) = _
    have : (0 : Int).toNat * sz = 0 := Nat.zero_mul _
    rw [this]
    by_cases h : 0 < len
    · rw [if_pos h, if_pos ⟨by omega, by omega⟩]
    · rw [if_neg h, if_neg (by omega)]
  · show (if (0 : Int) ≤ 1 ∧ (1 : Int) < len then apadd ((1 : Int).toNat * sz) (ov T x) else none) = _
    have : (1 : Int).toNat * sz = sz := Nat.one_mul _
    rw [this]
    by_cases h : 1 < len
    · rw [if_pos h, if_pos ⟨by omega, by omega⟩]
    · rw [if_neg h, if_neg (by omega)]
theorem mach_cases (m : MachV) : (chkM m ≠ 0 ∧ machB m = ([], chkM m)) ∨ (chkM m = 0 ∧ machB m = ([], 13)) ∨ (chkM m = 0 ∧ machB m = (writtenB m, 0) ∧ (writtenB m).length ≤ 65536) := by
  unfold machB
  by_cases h : chkM m = 0
  · rw [if_neg (fun h2 => h2 h)]
    by_cases h2 : 65536 < (writtenB m).length
    · exact .inr (.inl ⟨h, by rw [if_pos h2]⟩)
    · exact .inr (.inr ⟨h, by rw [if_neg h2], by omega⟩)
  · exact .inl ⟨h, by rw [if_pos h]⟩
theorem parse_damaged {m : MachV} (h : chkM m = 0) (hf : fewB m = true) (k : Nat) (c : UInt8) (hk : k < (writtenB m).length) (hc : c ≠ (writtenB m).getD k default) : parseB ((writtenB m).set k c) = (zM, 24) := by
  have hg := chk_zero h
  have hb := body_few hg hf
  have hlen : (writtenB m).length = (bodyB m).length + 2 := by simp [writtenB, sealB]
  have h4 : 4 ≤ (bodyB m).length := by unfold bodyB headB; simp
  have hr := right_damage _ k c (right_seal _ h4) hk (by rw [← writtenB, hlen]; omega) hc
  unfold parseB
  rw [List.length_set, if_neg (by omega)]
  rw [if_neg (by rw [show rightB ((writtenB m).set k c) = false from hr]; simp)]
attribute [local irreducible] awp2 aops2 ains aloop athen bbind obind gbind acond res1 Go.Abs.Fn PCall Go.Abs.Pure SnapArgs SnapL Yl

theorem law9_c (m : MachV) (hs : ShM m) (a b : Nat) (ha : a < 65536) (hb : b < 65536) : Go.Abs.Pure Try.prog 9 [encM m, .agg [.int .u16 a, .int .u16 b]] (.bool true) := by
  refine Pure.of_c2 follows is9 (Nat.le_of_ble_eq_true rfl) ?_
  simp only [b9, O, G, N]
  have haw := awake_c
  have hfw := few_c m hs
  have hm := machine_c m hs
  have hck := check_c m hs
  have hsame := same_c m m hs hs
  rw [decide_eq_true rfl] at hsame
  have em := encM_dat m
  cases hf : fewB m with
  | false =>
    rw [hf] at hfw
    unfold encM MachV.cells at *
    repeat' (first | refine w_seq ?_ | refine w_ops0 ?_ | refine w_ret ?_ | refine a_n ?_ | refine a_r ?_ | refine o_nil ?_ | (apply o_val rfl rfl; (focus ((try simp (disch := omega) only [simB0, ZA, Nat.reduceEqDiff, ↓reduceIte, Nat.reduceAdd, Nat.reduceLeDiff, ZV, reduceCtorEq, ME, acells]); first | with_reducible rfl | (apply s_ite; (focus omega); with_reducible rfl)))) | (apply o_callD; (iterate 2 (focus ((try simp only [simB0, ZA, Nat.reduceEqDiff, ↓reduceIte, Nat.reduceAdd, Nat.reduceLeDiff, ME, acells]); (try with_reducible rfl); done))); (focus (first | (exact haw) | (exact hfw))); (focus (first | (apply snap_data; repeat' (first | exact snapL_nil | apply snapL_dat | exact Dat.int | exact Dat.bool | exact Dat.str | exact Dat.esl | exact Dat.nilf | exact encV_dat _ | exact encVV_dat _ | exact em)) | (apply snap_plain; (focus (repeat' (first | exact snapL_nil | apply snapL_dat | exact Dat.int | exact Dat.bool | exact Dat.str | exact encV_dat _ | exact encVV_dat _ | exact em))); rfl)))) | (apply e_box rfl; (iterate 2 (focus ((try simp only [simB0, ZA, Nat.reduceEqDiff, ↓reduceIte, Nat.reduceAdd, Nat.reduceLeDiff, ME, acells]); (try with_reducible rfl); done))); (focus (simp only [SO, Bool.and_self, one_encV, one_encVV, ME, acells]))) | (apply w_condT; (focus (simp only [simB0, ZA, Nat.reduceEqDiff, ↓reduceIte, Nat.reduceAdd, Nat.reduceLeDiff, ME, acells]; done))) | (refine e_ends rfl ?_) | (apply r_1; (focus (simp only [rv, simB0, ZA, Nat.reduceEqDiff, ↓reduceIte, Nat.reduceAdd, Nat.reduceLeDiff, ME, acells]; with_reducible rfl))))
    all_goals exact snap_bool rfl
  | true =>
  rw [hf] at hfw
  have e0 : encS [] = .str ⟨⟨[]⟩⟩ := rfl
  rcases mach_cases m with ⟨h0, h1⟩ | ⟨h0, h1⟩ | ⟨h0, h1, h2⟩
  · rw [h1] at hm
    dsimp only at hm
    generalize chkM m = e at *
    unfold encM MachV.cells at *
    repeat' (first | refine w_seq ?_ | refine w_ops0 ?_ | refine w_skip ?_ | refine w_ret ?_ | refine a_n ?_ | refine a_r ?_ | refine o_nil ?_ | (apply o_val rfl rfl; (focus ((try simp (disch := omega) only [simB0, ZA, Nat.reduceEqDiff, ↓reduceIte, Nat.reduceAdd, Nat.reduceLeDiff, ZV, reduceCtorEq, ME, acells, e0, str_eq, decide_true, h0, ne_eq, not_false_eq_true]); first | with_reducible rfl | (apply s_ite; (focus omega); with_reducible rfl)))) | (apply o_callD; (iterate 2 (focus ((try simp only [simB0, ZA, Nat.reduceEqDiff, ↓reduceIte, Nat.reduceAdd, Nat.reduceLeDiff, ME, acells, e0, str_eq, decide_true, h0, ne_eq, not_false_eq_true]); (try with_reducible rfl); done))); (focus (first | (exact haw) | (exact hfw) | (exact hm) | (exact hck))); (focus (first | (apply snap_data; repeat' (first | exact snapL_nil | apply snapL_dat | exact Dat.int | exact Dat.bool | exact Dat.str | exact Dat.esl | exact Dat.nilf | exact encV_dat _ | exact encVV_dat _ | exact em)) | (apply snap_plain; (focus (repeat' (first | exact snapL_nil | apply snapL_dat | exact Dat.int | exact Dat.bool | exact Dat.str | exact encV_dat _ | exact encVV_dat _ | exact em))); rfl)))) | (apply e_box rfl; (iterate 2 (focus ((try simp only [simB0, ZA, Nat.reduceEqDiff, ↓reduceIte, Nat.reduceAdd, Nat.reduceLeDiff, ME, acells, e0, str_eq, decide_true, h0, ne_eq, not_false_eq_true]); (try with_reducible rfl); done))); (focus (simp only [SO, Bool.and_self, one_encV, one_encVV, ME, acells, e0, str_eq, decide_true, h0, ne_eq, not_false_eq_true]))) | (apply o_gT; (focus (simp only [simB0, ZA, Nat.reduceEqDiff, ↓reduceIte, Nat.reduceAdd, Nat.reduceLeDiff, ME, acells, e0, str_eq, decide_true, h0, ne_eq, not_false_eq_true]; done))) | (apply o_gF; (focus (simp only [simB0, ZA, Nat.reduceEqDiff, ↓reduceIte, Nat.reduceAdd, Nat.reduceLeDiff, or_true, true_or, ME, acells, e0, str_eq, decide_true, h0, ne_eq, not_false_eq_true]; done))) | (apply o_gB; (focus ((try simp only [simB0, ZA, Nat.reduceEqDiff, ↓reduceIte, Nat.reduceAdd, Nat.reduceLeDiff, ME, acells, e0, str_eq, decide_true, h0, ne_eq, not_false_eq_true]); (try with_reducible rfl); done)); all_goals (intro _hg; (try simp only [Bool.not_true, Bool.not_false, Bool.not_eq_true', Bool.not_eq_false', Bool.not_not, decide_eq_true_eq, decide_eq_false_iff_not] at _hg); try (exfalso; omega))) | (apply w_condT; (focus (simp only [simB0, ZA, Nat.reduceEqDiff, ↓reduceIte, Nat.reduceAdd, Nat.reduceLeDiff, ME, acells, e0, str_eq, decide_true, h0, ne_eq, not_false_eq_true]; done))) | (apply w_condF; (focus (simp only [simB0, ZA, Nat.reduceEqDiff, ↓reduceIte, Nat.reduceAdd, Nat.reduceLeDiff, ME, acells, e0, str_eq, decide_true, h0, ne_eq, not_false_eq_true]; done))) | (refine e_ends rfl ?_) | (apply r_1; (focus (simp only [rv, simB0, ZA, Nat.reduceEqDiff, ↓reduceIte, Nat.reduceAdd, Nat.reduceLeDiff, ME, acells, e0, str_eq, decide_true, h0, ne_eq, not_false_eq_true]; with_reducible rfl))))
    all_goals first | exact snap_bool rfl | (exfalso; omega) | trace_state
  · rw [h1] at hm
    dsimp only at hm
    unfold encM MachV.cells at *
    repeat' (first | refine w_seq ?_ | refine w_ops0 ?_ | refine w_skip ?_ | refine w_ret ?_ | refine a_n ?_ | refine a_r ?_ | refine o_nil ?_ | (apply o_val rfl rfl; (focus ((try simp (disch := omega) only [simB0, ZA, Nat.reduceEqDiff, ↓reduceIte, Nat.reduceAdd, Nat.reduceLeDiff, ZV, reduceCtorEq, ME, acells, e0, str_eq, decide_true]); first | with_reducible rfl | (apply s_ite; (focus omega); with_reducible rfl)))) | (apply o_callD; (iterate 2 (focus ((try simp only [simB0, ZA, Nat.reduceEqDiff, ↓reduceIte, Nat.reduceAdd, Nat.reduceLeDiff, ME, acells, e0, str_eq, decide_true]); (try with_reducible rfl); done))); (focus (first | (exact haw) | (exact hfw) | (exact hm) | (exact hck))); (focus (first | (apply snap_data; repeat' (first | exact snapL_nil | apply snapL_dat | exact Dat.int | exact Dat.bool | exact Dat.str | exact Dat.esl | exact Dat.nilf | exact encV_dat _ | exact encVV_dat _ | exact em)) | (apply snap_plain; (focus (repeat' (first | exact snapL_nil | apply snapL_dat | exact Dat.int | exact Dat.bool | exact Dat.str | exact encV_dat _ | exact encVV_dat _ | exact em))); rfl)))) | (apply e_box rfl; (iterate 2 (focus ((try simp only [simB0, ZA, Nat.reduceEqDiff, ↓reduceIte, Nat.reduceAdd, Nat.reduceLeDiff, ME, acells, e0, str_eq, decide_true]); (try with_reducible rfl); done))); (focus (simp only [SO, Bool.and_self, one_encV, one_encVV, ME, acells, e0, str_eq, decide_true]))) | (apply o_gT; (focus (simp only [simB0, ZA, Nat.reduceEqDiff, ↓reduceIte, Nat.reduceAdd, Nat.reduceLeDiff, ME, acells, e0, str_eq, decide_true]; done))) | (apply o_gF; (focus (simp only [simB0, ZA, Nat.reduceEqDiff, ↓reduceIte, Nat.reduceAdd, Nat.reduceLeDiff, or_true, true_or, ME, acells, e0, str_eq, decide_true]; done))) | (apply w_condF; (focus (simp only [simB0, ZA, Nat.reduceEqDiff, ↓reduceIte, Nat.reduceAdd, Nat.reduceLeDiff, ME, acells, e0, str_eq, decide_true]; done))) | (apply w_cond; (focus ((try simp only [simB0, ZA, Nat.reduceEqDiff, ↓reduceIte, Nat.reduceAdd, Nat.reduceLeDiff, ME, acells, e0, str_eq, decide_true]); (try with_reducible rfl); done)); all_goals (intro _hg; (try simp only [Bool.not_eq_true', Bool.not_eq_false', Bool.not_not, decide_eq_true_eq, decide_eq_false_iff_not] at _hg); try (exfalso; omega))) | (refine e_ends rfl ?_) | (apply r_1; (focus (simp only [rv, simB0, ZA, Nat.reduceEqDiff, ↓reduceIte, Nat.reduceAdd, Nat.reduceLeDiff, ME, acells, e0, str_eq, decide_true]; with_reducible rfl))))
    all_goals first | exact snap_bool rfl | (exfalso; omega) | trace_state
  rw [h1] at hm
  dsimp only at hm
  have hp := parse_c (writtenB m) (by show _ ≤ _; omega)
  rw [parse_mach h0 h2] at hp
  dsimp only at hp
  have hpd := parse_damaged h0 hf
  have h6 : 6 ≤ (writtenB m).length := by
    have h4 : 4 ≤ (bodyB m).length := by unfold bodyB headB; simp
    simp [writtenB, sealB]; omega
  generalize writtenB m = W at *
  have hW0 : decide ((W.length : Int) < 6) = false := decide_eq_false (by omega)
  have hwr : IntKind.wrap .u8 (b : Int) = ((UInt8.ofNat b).toNat : Int) := by rw [wrapU8, UInt8.toNat_ofNat']; omega
  generalize UInt8.ofNat b = y at *
  have e1 : IntKind.wrap .i64 (a : Int) = a := wrap64 (by omega) (by omega)
  have e2 : ((a : Int) % (W.length : Int)) = ((a % W.length : Nat) : Int) := by simp
  have hk : a % W.length < W.length := Nat.mod_lt _ (by omega)
  generalize a % W.length = k at *
  by_cases hy : y = 0
  · subst hy
    have hz : decide (((0 : UInt8).toNat : Int) ≠ 0) = false := rfl
    unfold encM MachV.cells at *
    repeat' (first | refine w_seq ?_ | refine w_ops0 ?_ | refine w_skip ?_ | refine w_ret ?_ | refine a_n ?_ | refine o_nil ?_ | (apply o_val rfl rfl; (focus ((try simp (disch := omega) only [simB0, ZA, Nat.reduceEqDiff, ↓reduceIte, Nat.reduceAdd, Nat.reduceLeDiff, ZV, reduceCtorEq, ME, acells, alenStr_encS, hW0, hwr, hz, IXA, Nat.lt_add_one, Nat.zero_lt_succ]); first | with_reducible rfl | (apply s_ite; (focus omega); with_reducible rfl)))) | (apply o_callD; (iterate 2 (focus ((try simp only [simB0, ZA, Nat.reduceEqDiff, ↓reduceIte, Nat.reduceAdd, Nat.reduceLeDiff, ME, acells, alenStr_encS, hW0, hwr, hz, IXA, Nat.lt_add_one, Nat.zero_lt_succ]); (try with_reducible rfl); done))); (focus (first | (exact haw) | (exact hfw) | (exact hm) | (exact hck) | (exact hp) | (exact hsame))); (focus (first | (apply snap_data; repeat' (first | exact snapL_nil | apply snapL_dat | exact Dat.int | exact Dat.bool | exact Dat.str | exact Dat.esl | exact Dat.nilf | exact encV_dat _ | exact encVV_dat _ | exact em | exact encS_dat _)) | (apply snap_plain; (focus (repeat' (first | exact snapL_nil | apply snapL_dat | exact Dat.int | exact Dat.bool | exact Dat.str | exact encV_dat _ | exact encVV_dat _ | exact em | exact encS_dat _))); rfl)))) | (apply e_alloc rfl; (focus ((try simp only [simB0, ZA, Nat.reduceEqDiff, ↓reduceIte, Nat.reduceAdd, Nat.reduceLeDiff, ME, acells, alenStr_encS, hW0, hwr, hz, IXA, Nat.lt_add_one, Nat.zero_lt_succ]); (try with_reducible rfl); done)); (focus (simp only [SO, Bool.and_self, one_encV, one_encVV, ME, acells, alenStr_encS, hW0, hwr, hz, IXA, Nat.lt_add_one, Nat.zero_lt_succ]))) | (apply e_box rfl; (iterate 2 (focus ((try simp only [simB0, ZA, Nat.reduceEqDiff, ↓reduceIte, Nat.reduceAdd, Nat.reduceLeDiff, ME, acells, alenStr_encS, hW0, hwr, hz, IXA, Nat.lt_add_one, Nat.zero_lt_succ]); (try with_reducible rfl); done))); (focus (simp only [SO, Bool.and_self, one_encV, one_encVV, ME, acells, alenStr_encS, hW0, hwr, hz, IXA, Nat.lt_add_one, Nat.zero_lt_succ]))) | (apply e_st rfl; (iterate 4 (focus ((try simp only [simB0, ZA, Nat.reduceEqDiff, ↓reduceIte, Nat.reduceAdd, Nat.reduceLeDiff, ME, acells, alenStr_encS, hW0, hwr, hz, IXA, Nat.lt_add_one, Nat.zero_lt_succ]); (try with_reducible rfl); done))); (focus (simp only [SO, Bool.and_self, one_encV, one_encVV, ME, acells, alenStr_encS, hW0, hwr, hz, IXA, Nat.lt_add_one, Nat.zero_lt_succ])); (iterate 3 (focus ((try simp only [SL, Nat.reduceAdd, Nat.reduceMul, List.length_map]); first | done | omega)))) | (apply o_gT; (focus (simp only [simB0, ZA, Nat.reduceEqDiff, ↓reduceIte, Nat.reduceAdd, Nat.reduceLeDiff, ME, acells, alenStr_encS, hW0, hwr, hz, IXA, Nat.lt_add_one, Nat.zero_lt_succ]; done))) | (apply o_gB; (focus ((try simp only [simB0, ZA, Nat.reduceEqDiff, ↓reduceIte, Nat.reduceAdd, Nat.reduceLeDiff, ME, acells, alenStr_encS, hW0, hwr, hz, IXA, Nat.lt_add_one, Nat.zero_lt_succ]); (try with_reducible rfl); done)); all_goals (intro _hg; (try simp only [Bool.not_true, Bool.not_false, Bool.not_eq_true', Bool.not_eq_false', Bool.not_not, decide_eq_true_eq, decide_eq_false_iff_not] at _hg); try (exfalso; omega))) | (apply w_condF; (focus (simp only [simB0, ZA, Nat.reduceEqDiff, ↓reduceIte, Nat.reduceAdd, Nat.reduceLeDiff, ME, acells, alenStr_encS, hW0, hwr, hz, IXA, Nat.lt_add_one, Nat.zero_lt_succ]; done))) | (apply w_cond; (focus ((try simp only [simB0, ZA, Nat.reduceEqDiff, ↓reduceIte, Nat.reduceAdd, Nat.reduceLeDiff, ME, acells, alenStr_encS, hW0, hwr, hz, IXA, Nat.lt_add_one, Nat.zero_lt_succ]); (try with_reducible rfl); done)); all_goals (intro _hg; (try simp only [Bool.not_eq_true', Bool.not_eq_false', Bool.not_not, decide_eq_true_eq, decide_eq_false_iff_not] at _hg); try (exfalso; omega))) | (refine e_ends rfl ?_) | (apply r_1; (focus (simp only [rv, simB0, ZA, Nat.reduceEqDiff, ↓reduceIte, Nat.reduceAdd, Nat.reduceLeDiff, ME, acells, alenStr_encS, hW0, hwr, hz, IXA, Nat.lt_add_one, Nat.zero_lt_succ]; with_reducible rfl))))
    all_goals first | exact snap_bool rfl | (exfalso; omega) | trace_state
  have hz : decide ((y.toNat : Int) ≠ 0) = true := decide_eq_true (fun h => hy (UInt8.toNat_inj.1 (by simpa using h)))
  have hpd' := parse_c (W.set k (W.getD k default ^^^ y)) (by show _ ≤ _; rw [List.length_set]; omega)
  rw [hpd k (W.getD k default ^^^ y) hk (fun h => hy ((xor_self_iff _ _).1 h))] at hpd'
  have q2 : (⟨W.toArray⟩ : ByteArray).size = W.length := encS_size
  have q3 : (⟨W.toArray⟩ : ByteArray).data.toList = W := rfl
  have hbg := bytes_get hk
  unfold encM MachV.cells at *
  repeat' (first | refine w_seq ?_ | refine w_ops0 ?_ | refine w_skip ?_ | refine a_n ?_ | refine o_nil ?_ | (apply o_val rfl rfl; (focus ((try simp (disch := omega) only [simB0, ZA, Nat.reduceEqDiff, ↓reduceIte, Nat.reduceAdd, Nat.reduceLeDiff, ZV, reduceCtorEq, ME, acells, alenStr_encS, hW0, hwr, hz, IXA, Nat.lt_add_one, Nat.zero_lt_succ]); first | with_reducible rfl | (apply s_ite; (focus omega); with_reducible rfl)))) | (apply o_callD; (iterate 2 (focus ((try simp only [simB0, ZA, Nat.reduceEqDiff, ↓reduceIte, Nat.reduceAdd, Nat.reduceLeDiff, ME, acells, alenStr_encS, hW0, hwr, hz, IXA, Nat.lt_add_one, Nat.zero_lt_succ]); (try with_reducible rfl); done))); (focus (first | (exact haw) | (exact hfw) | (exact hm) | (exact hck) | (exact hp) | (exact hsame))); (focus (first | (apply snap_data; repeat' (first | exact snapL_nil | apply snapL_dat | exact Dat.int | exact Dat.bool | exact Dat.str | exact Dat.esl | exact Dat.nilf | exact encV_dat _ | exact encVV_dat _ | exact em | exact encS_dat _)) | (apply snap_plain; (focus (repeat' (first | exact snapL_nil | apply snapL_dat | exact Dat.int | exact Dat.bool | exact Dat.str | exact encV_dat _ | exact encVV_dat _ | exact em | exact encS_dat _))); rfl)))) | (apply e_alloc rfl; (focus ((try simp only [simB0, ZA, Nat.reduceEqDiff, ↓reduceIte, Nat.reduceAdd, Nat.reduceLeDiff, ME, acells, alenStr_encS, hW0, hwr, hz, IXA, Nat.lt_add_one, Nat.zero_lt_succ]); (try with_reducible rfl); done)); (focus (simp only [SO, Bool.and_self, one_encV, one_encVV, ME, acells, alenStr_encS, hW0, hwr, hz, IXA, Nat.lt_add_one, Nat.zero_lt_succ]))) | (apply e_box rfl; (iterate 2 (focus ((try simp only [simB0, ZA, Nat.reduceEqDiff, ↓reduceIte, Nat.reduceAdd, Nat.reduceLeDiff, ME, acells, alenStr_encS, hW0, hwr, hz, IXA, Nat.lt_add_one, Nat.zero_lt_succ]); (try with_reducible rfl); done))); (focus (simp only [SO, Bool.and_self, one_encV, one_encVV, ME, acells, alenStr_encS, hW0, hwr, hz, IXA, Nat.lt_add_one, Nat.zero_lt_succ]))) | (apply e_st rfl; (iterate 4 (focus ((try simp only [simB0, ZA, Nat.reduceEqDiff, ↓reduceIte, Nat.reduceAdd, Nat.reduceLeDiff, ME, acells, alenStr_encS, hW0, hwr, hz, IXA, Nat.lt_add_one, Nat.zero_lt_succ]); (try with_reducible rfl); done))); (focus (simp only [SO, Bool.and_self, one_encV, one_encVV, ME, acells, alenStr_encS, hW0, hwr, hz, IXA, Nat.lt_add_one, Nat.zero_lt_succ])); (iterate 3 (focus ((try simp only [SL, Nat.reduceAdd, Nat.reduceMul, List.length_map]); first | done | omega)))) | (apply o_gT; (focus (simp only [simB0, ZA, Nat.reduceEqDiff, ↓reduceIte, Nat.reduceAdd, Nat.reduceLeDiff, ME, acells, alenStr_encS, hW0, hwr, hz, IXA, Nat.lt_add_one, Nat.zero_lt_succ]; done))) | (apply o_gB; (focus ((try simp only [simB0, ZA, Nat.reduceEqDiff, ↓reduceIte, Nat.reduceAdd, Nat.reduceLeDiff, ME, acells, alenStr_encS, hW0, hwr, hz, IXA, Nat.lt_add_one, Nat.zero_lt_succ]); (try with_reducible rfl); done)); all_goals (intro _hg; (try simp only [Bool.not_true, Bool.not_false, Bool.not_eq_true', Bool.not_eq_false', Bool.not_not, decide_eq_true_eq, decide_eq_false_iff_not] at _hg); try (exfalso; omega))) | (apply w_condT; (focus (simp only [simB0, ZA, Nat.reduceEqDiff, ↓reduceIte, Nat.reduceAdd, Nat.reduceLeDiff, ME, acells, alenStr_encS, hW0, hwr, hz, IXA, Nat.lt_add_one, Nat.zero_lt_succ]; done))) | (apply w_condF; (focus (simp only [simB0, ZA, Nat.reduceEqDiff, ↓reduceIte, Nat.reduceAdd, Nat.reduceLeDiff, ME, acells, alenStr_encS, hW0, hwr, hz, IXA, Nat.lt_add_one, Nat.zero_lt_succ]; done))) | (apply w_cond; (focus ((try simp only [simB0, ZA, Nat.reduceEqDiff, ↓reduceIte, Nat.reduceAdd, Nat.reduceLeDiff, ME, acells, alenStr_encS, hW0, hwr, hz, IXA, Nat.lt_add_one, Nat.zero_lt_succ]); (try with_reducible rfl); done)); all_goals (intro _hg; (try simp only [Bool.not_eq_true', Bool.not_eq_false', Bool.not_not, decide_eq_true_eq, decide_eq_false_iff_not] at _hg); try (exfalso; omega))))
  refine o_s2b (bs := ⟨W.toArray⟩) (by ((try simp only [simB0, ZA, Nat.reduceEqDiff, ↓reduceIte, Nat.reduceAdd, Nat.reduceLeDiff]); (try with_reducible rfl)); rfl) (fun h => absurd h (by rw [q2]; omega)) (fun _ => ?_)
  rw [q2, q3]
  repeat' (first | refine w_seq ?_ | refine w_ops0 ?_ | refine a_n ?_ | refine o_nil ?_ | (apply o_val rfl rfl; (focus ((try simp (disch := omega) only [simB0, ZA, Nat.reduceEqDiff, ↓reduceIte, Nat.reduceAdd, Nat.reduceLeDiff, ZV, reduceCtorEq, IXA, Nat.lt_add_one, Nat.zero_lt_succ, e1, rem_pos, e2, hbg, xor_u8]); first | with_reducible rfl | (apply s_ite; (focus omega); with_reducible rfl)))))
  refine e_st rfl (b := 3) (n := W.length) (off := k) (cs := W.map encB) (vs := [encB (W.getD k default ^^^ y)]) (by ((try simp only [simB0, ZA, Nat.reduceEqDiff, ↓reduceIte, Nat.reduceAdd, Nat.reduceLeDiff]); (try with_reducible rfl))) (by ((try simp only [simB0, ZA, Nat.reduceEqDiff, ↓reduceIte, Nat.reduceAdd, Nat.reduceLeDiff]); (try with_reducible rfl))) (by ((try simp only [simB0, ZA, Nat.reduceEqDiff, ↓reduceIte, Nat.reduceAdd, Nat.reduceLeDiff]); (try with_reducible rfl))) rfl rfl (List.length_map _) rfl (show k + 1 ≤ W.length by omega) ?_
  rw [lput_bytes hk]
  have hlen3 : W.length = (W.set k (W.getD k default ^^^ y)).length := List.length_set.symm
  generalize W.set k (W.getD k default ^^^ y) = V at *
  repeat' (first | refine w_seq ?_ | refine w_ops0 ?_ | refine a_n ?_ | refine o_nil ?_ | (apply o_val rfl rfl; (focus ((try simp (disch := omega) only [simB0, ZA, Nat.reduceEqDiff, ↓reduceIte, Nat.reduceAdd, Nat.reduceLeDiff, ZV, reduceCtorEq]); first | with_reducible rfl | (apply s_ite; (focus omega); with_reducible rfl)))))
  refine o_b2s (n := W.length) (bs := V) (by ((try simp only [simB0, ZA, Nat.reduceEqDiff, ↓reduceIte, Nat.reduceAdd, Nat.reduceLeDiff]); (try with_reducible rfl)); exact asrc_bytes (l := V) hupd_self' hlen3) ?_
  have eV : AV.str ⟨V.toArray⟩ = encS V := rfl
  rw [eV]
  dsimp only at hpd'
  repeat' (first | refine w_seq ?_ | refine w_ops0 ?_ | refine w_skip ?_ | refine w_ret ?_ | refine a_n ?_ | refine o_nil ?_ | (apply o_val rfl rfl; (focus ((try simp (disch := omega) only [simB0, ZA, Nat.reduceEqDiff, ↓reduceIte, Nat.reduceAdd, Nat.reduceLeDiff, ZV, reduceCtorEq, ME, acells]); first | with_reducible rfl | (apply s_ite; (focus omega); with_reducible rfl)))) | (apply o_callD; (iterate 2 (focus ((try simp only [simB0, ZA, Nat.reduceEqDiff, ↓reduceIte, Nat.reduceAdd, Nat.reduceLeDiff, ME, acells]); (try with_reducible rfl); done))); (focus (first | (exact haw) | (exact hpd'))); (focus (first | (apply snap_data; repeat' (first | exact snapL_nil | apply snapL_dat | exact Dat.int | exact Dat.bool | exact Dat.str | exact Dat.esl | exact Dat.nilf | exact encV_dat _ | exact encVV_dat _ | exact encS_dat _)) | (apply snap_plain; (focus (repeat' (first | exact snapL_nil | apply snapL_dat | exact Dat.int | exact Dat.bool | exact Dat.str | exact encV_dat _ | exact encVV_dat _ | exact encS_dat _))); rfl)))) | (apply w_cond; (focus ((try simp only [simB0, ZA, Nat.reduceEqDiff, ↓reduceIte, Nat.reduceAdd, Nat.reduceLeDiff, ME, acells]); (try with_reducible rfl); done)); all_goals (intro _hg; (try simp only [Bool.not_eq_true', Bool.not_eq_false', Bool.not_not, decide_eq_true_eq, decide_eq_false_iff_not] at _hg); try (exfalso; omega))) | (refine e_ends rfl ?_) | (apply r_1; (focus (simp only [rv, simB0, ZA, Nat.reduceEqDiff, ↓reduceIte, Nat.reduceAdd, Nat.reduceLeDiff, ME, acells]; with_reducible rfl))))
  all_goals first | exact snap_bool rfl | (exfalso; omega) | trace_state

end Go.Proofs.Ytpbjhjkfobapeaa

/- Q34: contracts of functions and plain laws; for all inputs that the theorems name. -/
set_option linter.unusedSimpArgs false
set_option linter.unusedVariables false
namespace Go.Proofs.Ytpbjhjkfobapeaa
open Go Go.Abs Go.RowKit

/-! ### the arguments of the laws, opened -/
section
variable {H : Type} {enc : TypeId × Value → H} {W : World}
theorem oi : Opens enc Try.prog W 3 (AV.int .i64) (fun n => (Lit.int .i64 n).wf = true) := opens_int Try.underlying3
theorem oL1 : Opens enc Try.prog W 59 encV (fun l => l.length ≤ 17592186044416) :=
  (opens_slice Try.underlying59 (sz := 1) (by_ := 8) (by kernel_rfl) (by kernel_rfl) Nat.one_pos (fun _ => rfl) oi).mono fun l h => by have := h.2.2; omega
theorem oL2 : Opens enc Try.prog W 22 encVV (fun l => l.length ≤ 17592186044416 ∧ ∀ x ∈ l, x.length ≤ 17592186044416) :=
  (opens_slice Try.underlying22 (sz := 1) (by_ := 24) (by kernel_rfl) (by kernel_rfl) Nat.one_pos (fun _ => rfl) oL1).mono fun l h => ⟨by have := h.2.2; omega, h.1⟩
theorem oL3 : Opens enc Try.prog W 25 encV3 (fun l => l.length ≤ 17592186044416 ∧ ∀ x ∈ l, x.length ≤ 17592186044416 ∧ ∀ y ∈ x, y.length ≤ 17592186044416) :=
  (opens_slice Try.underlying25 (sz := 1) (by_ := 24) (by kernel_rfl) (by kernel_rfl) Nat.one_pos (fun _ => rfl) oL2).mono fun l h => ⟨by have := h.2.2; omega, h.1⟩
theorem oL4 : Opens enc Try.prog W 23 encV4 (fun l => l.length ≤ 17592186044416 ∧ ∀ x ∈ l, x.length ≤ 17592186044416 ∧ ∀ y ∈ x, y.length ≤ 17592186044416 ∧ ∀ z ∈ y, z.length ≤ 17592186044416) :=
  (opens_slice Try.underlying23 (sz := 1) (by_ := 24) (by kernel_rfl) (by kernel_rfl) Nat.one_pos (fun _ => rfl) oL3).mono fun l h => ⟨by have := h.2.2; omega, h.1⟩
theorem oA5 : Opens enc Try.prog W 91 (fun l : List Int => .agg (l.flatMap fun a => (AV.int .i64 a).cells)) (fun l => l.length = 5 ∧ ∀ a ∈ l, (Lit.int .i64 a).wf = true) :=
  opens_arr Try.underlying91 (sz := 1) (by kernel_rfl) (by kernel_rfl) oi
set_option maxRecDepth 100000 in
theorem oStep : Opens enc Try.prog W 93 encStep (fun _ => True) :=
  (opens_struct Try.underlying93 (by kernel_rfl) (opensF_cons (off := 0) (off' := 1) rfl (by kernel_rfl) oi (opensF_cons (off := 1) (off' := 2) rfl (by kernel_rfl) oi (opensF_cons (off := 2) (off' := 7) rfl (by kernel_rfl) oA5 (opensF_cons (off := 7) (off' := 8) rfl (by kernel_rfl) oi opensF_nil))))).map
    (fun a => (⟨a.1, a.2.1, a.2.2.1.getD 0 0, a.2.2.1.getD 1 0, a.2.2.1.getD 2 0, a.2.2.1.getD 3 0, a.2.2.1.getD 4 0, a.2.2.2.1⟩ : StepV)) (fun _ _ => trivial) (by
      rintro ⟨a, b, l, t, u⟩ ⟨_, _, ⟨h, _⟩, _, _⟩
      match l, h with
      | [h0, h1, h2, h3, h4], _ => rfl)
theorem oSteps : Opens enc Try.prog W 24 encSteps (fun l => l.length ≤ 17592186044416) :=
  (opens_slice Try.underlying24 (sz := 8) (by_ := 64) (by kernel_rfl) (by kernel_rfl) (by omega) (fun _ => rfl) oStep).mono fun l h => by have := h.2.2; omega
set_option maxRecDepth 100000 in
theorem oM : Opens enc Try.prog W 27 encM ShM :=
  (opens_struct Try.underlying27 (by kernel_rfl) (opensF_cons (off := 0) (off' := 1) rfl (by kernel_rfl) oi (opensF_cons (off := 1) (off' := 2) rfl (by kernel_rfl) oi (opensF_cons (off := 2) (off' := 3) rfl (by kernel_rfl) oi (opensF_cons (off := 3) (off' := 4) rfl (by kernel_rfl) oi (opensF_cons (off := 4) (off' := 5) rfl (by kernel_rfl) oL2 (opensF_cons (off := 5) (off' := 6) rfl (by kernel_rfl) oL4 (opensF_cons (off := 6) (off' := 7) rfl (by kernel_rfl) oSteps (opensF_cons (off := 7) (off' := 8) rfl (by kernel_rfl) oL3 opensF_nil))))))))).map
    (fun a => (⟨a.1, a.2.1, a.2.2.1, a.2.2.2.1, a.2.2.2.2.1, a.2.2.2.2.2.1, a.2.2.2.2.2.2.1, a.2.2.2.2.2.2.2.1⟩ : MachV)) (by
      rintro ⟨n, r, i, o, F, S, T, O, u⟩ ⟨_, _, _, _, hF, hS, hT, hO, _⟩
      dsimp only at *
      exact ⟨by show F.length ≤ _; omega, fun l hl => by have := hF.2 l hl; show _ ≤ _; omega, by show O.length ≤ _; omega, fun l hl => by have := (hO.2 l hl).1; show _ ≤ _; omega, fun l hl x hx => by have := (hO.2 l hl).2 x hx; show _ ≤ _; omega,
        fun l hl x hx => by have := (hO.2 l hl).2 x hx; omega, by show S.length ≤ _; omega, fun l hl => by have := (hS.2 l hl).1; show _ ≤ _; omega, fun l hl x hx => by have := ((hS.2 l hl).2 x hx).1; show _ ≤ _; omega,
        fun l hl x hx y hy => by have := ((hS.2 l hl).2 x hx).2 y hy; show _ ≤ _; omega, by show T.length ≤ _; omega⟩) (fun _ _ => rfl)
theorem oPair : Opens enc Try.prog W 62 (fun l : List Int => .agg (l.flatMap fun a => (AV.int .u16 a).cells)) (fun l => l.length = 2 ∧ ∀ a ∈ l, (Lit.int .u16 a).wf = true) :=
  opens_arr Try.underlying62 (sz := 1) (by kernel_rfl) (by kernel_rfl) (opens_int Try.underlying55)
end

theorem calls_of_pureO {f : FuncId} {xs : List AV} {vs : List Value} (h : Go.Abs.Pure Try.prog f xs (.bool true)) (w : World) (hv : RelL (E0 (oldB w)) w xs vs) :
    Calls Try.prog f vs.toArray w fun e w' => e = .returned (.bool true) ∧ Below w.heap.size w w' := by
  refine (h.2 (oldB w) w vs (fun _ h => h) hv).mono ?_
  rintro e w' ⟨v, imm', rfl, hb, _, _, _, hr⟩
  cases hr
  exact ⟨rfl, hb⟩
theorem laid : laidOutB Try.prog = true := by kernel_rfl
theorem wf16 {a : Int} (h : (Lit.int .u16 a).wf = true) : ∃ n : Nat, a = n ∧ n < 65536 := by
  simp only [Lit.wf, Bool.and_eq_true, decide_eq_true_eq] at h
  have h1 : IntKind.min .u16 = 0 := by decide
  have h2 : IntKind.max .u16 = 65535 := by decide
  exact ⟨a.toNat, by omega, by omega⟩
theorem wf8 {a : Int} (h : (Lit.int .u8 a).wf = true) : ∃ y : UInt8, a = (y.toNat : Int) := by
  simp only [Lit.wf, Bool.and_eq_true, decide_eq_true_eq] at h
  have h1 : IntKind.min .u8 = 0 := by decide
  have h2 : IntKind.max .u8 = 255 := by decide
  refine ⟨UInt8.ofNat a.toNat, ?_⟩
  rw [UInt8.toNat_ofNat']; omega

end Go.Proofs.Ytpbjhjkfobapeaa
