/- Walking code without types. -/
import Derived.Test.YtcbkggfipdldaaaXAbsC2
import Derived.IntWalk
set_option linter.unusedVariables false
namespace Go.Abs
open Go.RowKit

theorem isp_mono {i : Ins} {T : Tm} {H : Hp} {nx : Nat} {K K' : AV → Hp → Nat → Prop} (h : isp i T H nx K) (hK : ∀ r H nx, K r H nx → K' r H nx) : isp i T H nx K' := by
  cases i <;> first | exact h | skip
  · exact ⟨h.1, hK _ _ _ h.2⟩
  · obtain ⟨b, ks, vs, r, h1, h2, h3, h4, h5⟩ := h; exact ⟨b, ks, vs, r, h1, h2, h3, h4, hK _ _ _ h5⟩
  · obtain ⟨b, ks, vs, r, h1, h2, h3, h4, h5⟩ := h; exact ⟨b, ks, vs, r, h1, h2, h3, h4, hK _ _ _ h5⟩
  · obtain ⟨b, ks, vs, h1, h2, h3⟩ := h; exact ⟨b, ks, vs, h1, h2, hK _ _ _ h3⟩
  · obtain ⟨b, ks, vs, h1, h2, h3⟩ := h; exact ⟨b, ks, vs, h1, h2, hK _ _ _ h3⟩
  · obtain ⟨b, m, n0, seen, ks, vs, h1, h2, h3, h4, h5⟩ := h; exact ⟨b, m, n0, seen, ks, vs, h1, h2, h3, fun i hi hs => hK _ _ _ (h4 i hi hs), fun h => hK _ _ _ (h5 h)⟩
  · obtain ⟨n, H', h1, h2⟩ := h; exact ⟨n, H', h1, hK _ _ _ h2⟩
  · obtain ⟨H', h1, h2⟩ := h; exact ⟨H', h1, hK _ _ _ h2⟩
  · obtain ⟨k, h1, h2⟩ := h; exact ⟨k, h1, fun h => hK _ _ _ (h2.1 h), fun h => ⟨hK _ _ _ (h2.2 h).1, hK _ _ _ (h2.2 h).2⟩⟩

theorem ains_mono {P : Program} {dm : DM} {i : Ins} {T : Tm} {H : Hp} {nx : Nat} {K K' : AV → Hp → Nat → Prop} (h : ains P dm i T H nx K) (hK : ∀ r H nx, K r H nx → K' r H nx) : ains P dm i T H nx K' := by
  unfold ains at h ⊢
  split at h
  · exact ⟨h.1, obind_mono (fun a => hK _ _ _) h.2⟩
  · exact ⟨h.1, obind_mono (fun a => hK _ _ _) h.2⟩
  · split at h
    · rcases h with h | ⟨h1, b, h2, h3⟩
      · left
        refine obind_mono (fun b => ?_) h
        intro h
        cases hd : dm.isText with
        | false => rw [hd] at h; obtain ⟨r, h1, h3⟩ := h; exact ⟨r, h1, hK _ _ _ h3⟩
        | true => rw [hd] at h; exact Fn.mono h hK
      · exact .inr ⟨h1, b, h2, h3.mono hK⟩
    · exact h
  · exact ⟨h.1, isp_mono h.2 hK⟩

theorem aops2_mono {P : Program} {dm : DM} {K K' : SP} (hK : ∀ T H nx, K T H nx → K' T H nx) : ∀ (l : List Op2) {T : Tm} {H : Hp} {nx : Nat}, aops2 P dm l T H nx K → aops2 P dm l T H nx K'
  | [], _, _, _, h => hK _ _ _ h
  | o :: l, T, H, nx, h => by
    have h : gbind (g2 T o.g) (ains P dm o.i T H nx fun r H nx => aops2 P dm l (updo T o.d r) H nx K) (aops2 P dm l (updo T o.d (.tup [])) H nx K) := h
    show gbind (g2 T o.g) (ains P dm o.i T H nx fun r H nx => aops2 P dm l (updo T o.d r) H nx K') (aops2 P dm l (updo T o.d (.tup [])) H nx K')
    cases hg : g2 T o.g with
    | none => rw [hg] at h; exact h.elim
    | some b =>
      rw [hg] at h
      cases b with
      | true =>
        have h : ains P dm o.i T H nx fun r H nx => aops2 P dm l (updo T o.d r) H nx K := h
        exact ains_mono h (fun _ _ _ hh => aops2_mono hK l hh)
      | false => exact aops2_mono hK l h

theorem awp2_mono {P : Program} : ∀ (c : C2) {T : Tm} {H : Hp} {nx : Nat} {K K' : CP}, awp2 P c T H nx K → (∀ e T H nx, K e T H nx → K' e T H nx) → awp2 P c T H nx K'
  | .skip, _, _, _, _, _, h, hK => hK _ _ _ _ h
  | .exit _, _, _, _, _, _, h, hK => hK _ _ _ _ h
  | .ret, _, _, _, _, _, h, hK => hK _ _ _ _ h
  | .ops m l, _, _, _, _, _, h, hK => let ⟨T, H, nx, Hf, hg, h⟩ := h; ⟨T, H, nx, Hf, hg, aops2_mono (hK .normal) l h⟩
  | .seq x y, _, _, _, K, K', h, hK => by
    refine awp2_mono x h (fun e T H nx h => ?_)
    cases e with
    | normal => exact awp2_mono y h hK
    | exit i => exact hK _ _ _ _ h
    | ret => exact hK _ _ _ _ h
  | .cond c x y, T, H, nx, K, K', h, hK => by
    simp only [awp2] at h ⊢
    unfold acond at h ⊢
    split at h
    · exact ⟨fun hb => awp2_mono x (h.1 hb) hK, fun hb => awp2_mono y (h.2 hb) hK⟩
    · exact h
  | .block id b, _, _, _, _, _, h, hK => awp2_mono b h (fun e T H nx h => hK _ _ _ _ h)
  | .loop b, T, H, nx, K, K', h, hK => by
    obtain ⟨n, h⟩ := h
    refine ⟨n, ?_⟩
    induction n generalizing T H nx with
    | zero => exact h
    | succ n ih =>
      obtain ⟨T', H', nx', Hf, hw, h⟩ := h
      refine ⟨T', H', nx', Hf, hw, awp2_mono b h (fun e T H nx h => ?_)⟩
      cases e with
      | normal => exact ih _ _ _ h
      | exit i => exact hK _ _ _ _ h
      | ret => exact hK _ _ _ _ h
  | .rangeF g ps a b, T, H, nx, K, K', h, hK => by
    obtain ⟨f, caps, h1, h2⟩ := h
    refine ⟨f, caps, h1, fun c0 cj hy => Fn.mono (h2 c0 cj hy) ?_⟩
    rintro r H' nx' (⟨k1, k2⟩ | ⟨e, k1, k2, k3⟩)
    · exact .inl ⟨k1, hK _ _ _ _ k2⟩
    · exact .inr ⟨e, k1, k2, hK _ _ _ _ k3⟩

/-! ### loops -/
theorem loopG {P : Program} {b : C2} {T : Tm} {H : Hp} {nx : Nat} {K : CP} {X : Type} (TT : X → Tm) (HH : X → Hp) (NX : X → Nat) (φ : X → Prop) (μ : X → Nat)
    (start : ∃ x, φ x ∧ ∃ Hf, Gh T H nx (TT x) (HH x) (NX x) Hf)
    (step : ∀ x, φ x → awp2 P b (TT x) (HH x) (NX x) fun e T H nx => athen e (∃ y, φ y ∧ μ y < μ x ∧ ∃ Hf, Gh T H nx (TT y) (HH y) (NX y) Hf) (K e T H nx)) : aloop (awp2 P b) T H nx K := by
  have key : ∀ n x T H nx, μ x < n → φ x → (∃ Hf, Gh T H nx (TT x) (HH x) (NX x) Hf) → aloopN (awp2 P b) K n T H nx := by
    intro n
    induction n with
    | zero => intro x T H nx h; omega
    | succ n ih =>
      intro x T H nx hn hx ⟨Hf, hg⟩
      refine ⟨_, _, _, Hf, hg, awp2_mono b (step x hx) (fun e T H nx h => ?_)⟩
      cases e with
      | normal =>
        obtain ⟨y, h1, h2, h3⟩ := h
        exact ih y T H nx (by omega) h1 h3
      | exit i => exact h
      | ret => exact h
  obtain ⟨x, hx, hg⟩ := start
  exact ⟨_, key _ x T H nx (Nat.lt_succ_self _) hx hg⟩

def tl : List (Nat × AV) → Tm
  | [], _ => .undef
  | (d, v) :: l, t => if t = d then v else tl l t

def agr (T : Tm) : List (Nat × AV) → Prop
  | [] => True
  | (d, v) :: l => T d = v ∧ agr T l

theorem agr_tl {T : Tm} : ∀ {l : List (Nat × AV)}, agr T l → ∀ t, tl l t = .undef ∨ tl l t = T t
  | [], _, t => .inl rfl
  | (d, v) :: l, h, t => by
    simp only [tl]
    split
    · rename_i e; subst e; exact .inr h.1.symm
    · exact agr_tl h.2 t

theorem Gh.weak {T T' : Tm} {H : Hp} {nx : Nat} (h : ∀ t, T' t = .undef ∨ T' t = T t) : Gh T H nx T' H nx noBoxes :=
  ⟨fun _ _ h => (by cases h), Nat.le_refl _, fun b cs h => .inl ⟨cs, h, rfl, rfl, fun i x x' h1 h2 => .inl (by rw [h1] at h2; cases h2; rfl)⟩, fun t => (h t).imp id .inl⟩

/-- a loop that leaves the boxes -/
theorem loop0 {P : Program} {b : C2} {T : Tm} {H : Hp} {nx : Nat} {K : CP} {X : Type} (L : X → List (Nat × AV)) (φ : X → Prop) (μ : X → Nat) (x0 : X)
    (h0 : φ x0) (hT : agr T (L x0))
    (step : ∀ x, φ x → awp2 P b (tl (L x)) H nx fun e T H' nx' => athen e (∃ y, φ y ∧ μ y < μ x ∧ agr T (L y) ∧ H' = H ∧ nx' = nx) (K e T H' nx')) : aloop (awp2 P b) T H nx K := by
  refine loopG (fun x => tl (L x)) (fun _ => H) (fun _ => nx) φ μ ⟨x0, h0, _, Gh.weak (agr_tl hT)⟩ (fun x hx => awp2_mono b (step x hx) (fun e T H' nx' h => ?_))
  cases e with
  | normal =>
    obtain ⟨y, h1, h2, h3, rfl, rfl⟩ := h
    exact ⟨y, h1, h2, _, Gh.weak (agr_tl h3)⟩
  | exit i => exact h
  | ret => exact h

/-! ### rules for simp -/
@[congr] theorem aloop_congr {b : Tm → Hp → Nat → CP → Prop} {T : Tm} {H : Hp} {nx nx' : Nat} {K : CP} (h : nx = nx') : aloop b T H nx K = aloop b T H nx' K := by rw [h]

@[congr] theorem awp2_congr {P P' : Program} {c : C2} {T : Tm} {H : Hp} {nx : Nat} {K : CP} (h : P = P') : awp2 P c T H nx K = awp2 P' c T H nx K := by rw [h]
@[congr] theorem aops2_congr {P P' : Program} {dm : DM} {l : List Op2} {T : Tm} {H : Hp} {nx : Nat} {K : SP} (h : P = P') : aops2 P dm l T H nx K = aops2 P' dm l T H nx K := by rw [h]
@[congr] theorem ains_congr {P P' : Program} {dm : DM} {i : Ins} {T : Tm} {H : Hp} {nx : Nat} {K : AV → Hp → Nat → Prop} (h : P = P') : ains P dm i T H nx K = ains P' dm i T H nx K := by rw [h]

theorem upd_at {T : Tm} {d t : Nat} {v : AV} : upd T d v t = if t = d then v else T t := rfl
theorem updo_some {T : Tm} {d : Nat} {v : AV} : updo T (some d) v = upd T d v := rfl
theorem updo_none {T : Tm} {v : AV} : updo T none v = T := rfl
theorem T0_zero {x : AV} {l : List AV} : T0 (x :: l) 0 = x := rfl
theorem T0_succ {x : AV} {l : List AV} {n : Nat} : T0 (x :: l) (n + 1) = T0 l n := rfl
theorem T0_nil {n : Nat} : T0 [] n = .undef := rfl
theorem ov_t {T : Tm} {n : Nat} : ov T (.t n) = T n := rfl
theorem ov_c {T : Tm} {v : AV} : ov T (.c v) = v := rfl
theorem tl_cons {d t : Nat} {v : AV} {l : List (Nat × AV)} : tl ((d, v) :: l) t = if t = d then v else tl l t := rfl
theorem tl_nil {t : Nat} : tl [] t = .undef := rfl

theorem obind_ite {α : Type} {c : Prop} [Decidable c] {x : Option α} {K : α → Prop} (hc : c) (h : obind x K) : obind (if c then x else none) K := by
  rw [if_pos hc]; exact h
theorem obind_map {α β : Type} {x : Option α} {f : α → β} {K : β → Prop} : obind (x.map f) K = obind x fun a => K (f a) := by cases x <;> rfl

theorem gbind_split {b : Bool} {A B : Prop} (h1 : b = true → A) (h2 : b = false → B) : gbind (some b) A B := by
  cases b
  · exact h2 rfl
  · exact h1 rfl

/-- comparisons of integers -/
theorem bin_lss {k : IntKind} {a b : Int} {tb tf : Bool} : abin2 .lss tb tf (.int k a) (.int k b) = some (.bool (decide (a < b))) := by simp [abin2, aarith]
theorem bin_leq {k : IntKind} {a b : Int} {tb tf : Bool} : abin2 .leq tb tf (.int k a) (.int k b) = some (.bool (decide (a ≤ b))) := by simp [abin2, aarith]
theorem bin_gtr {k : IntKind} {a b : Int} {tb tf : Bool} : abin2 .gtr tb tf (.int k a) (.int k b) = some (.bool (decide (a > b))) := by simp [abin2, aarith]
theorem bin_geq {k : IntKind} {a b : Int} {tb tf : Bool} : abin2 .geq tb tf (.int k a) (.int k b) = some (.bool (decide (a ≥ b))) := by simp [abin2, aarith]
theorem bin_eql {k : IntKind} {a b : Int} {tb tf : Bool} : abin2 .eql tb tf (.int k a) (.int k b) = some (.bool (decide (a = b))) := by
  simp only [abin2, aarith]; simp; by_cases h : a = b <;> simp [h]
theorem bin_neq {k : IntKind} {a b : Int} {tb tf : Bool} : abin2 .neq tb tf (.int k a) (.int k b) = some (.bool (decide (a ≠ b))) := by
  simp [abin2, aarith, bne]; rfl
theorem bin_add {k : IntKind} {a b : Int} {tb tf : Bool} : abin2 .add tb tf (.int k a) (.int k b) = some (.int k (k.wrap (a + b))) := by simp [abin2, aarith]
theorem bin_sub {k : IntKind} {a b : Int} {tb tf : Bool} : abin2 .sub tb tf (.int k a) (.int k b) = some (.int k (k.wrap (a - b))) := by simp [abin2, aarith]
theorem bin_mul {k : IntKind} {a b : Int} {tb tf : Bool} : abin2 .mul tb tf (.int k a) (.int k b) = some (.int k (k.wrap (a * b))) := by simp [abin2, aarith]

theorem wrap64 {a : Int} (h1 : -9223372036854775808 ≤ a) (h2 : a ≤ 9223372036854775807) : IntKind.wrap .i64 a = a := by
  rw [IntKind.wrap_i64]; omega

end Go.Abs
