/- Texts of this claim, one after the other: AbsD1, AbsD2, AbsI, AbsI2, AbsO, Code. -/
import Derived.Test.YtbiikomnhkbblaaGreatXG3
import Derived.ChangeArms
import Derived.Carry
import Derived.Deep.Slices
import Derived.Lib.SmallJoins
import Derived.Test.YtbiikomnhkbblaaGreatProg
import Derived.KernelRfl

set_option linter.unusedSimpArgs false
set_option linter.unusedVariables false

/- Loops that look for something; what lists answer; rows of anything. -/
namespace Go.Abs

theorem loopA {P : Program} {b : C2} {T : Tm} {H : Hp} {nx : Nat} {K : CP} (L : Nat → List (Nat × AV)) (n : Nat) (p : Nat → Prop) (hT : agr T (L 0))
    (step : ∀ k, k ≤ n → (∀ i, i < k → p i) → awp2 P b (tl (L k)) H nx fun e T H' nx' => athen e (k < n ∧ p k ∧ agr T (L (k + 1)) ∧ H' = H ∧ nx' = nx) (K e T H' nx')) : aloop (awp2 P b) T H nx K := by
  refine loop0 (X := Nat) L (fun k => k ≤ n ∧ ∀ i, i < k → p i) (fun k => n - k) 0 ⟨Nat.zero_le _, fun i h => (by omega)⟩ hT ?_
  rintro k ⟨h1, h2⟩
  refine awp2_mono b (step k h1 h2) (fun e T H' nx' h => ?_)
  cases e with
  | normal =>
    obtain ⟨g1, g2, g3, g4, g5⟩ := h
    refine ⟨k + 1, ⟨by omega, fun i hi => ?_⟩, by omega, g3, g4, g5⟩
    rcases Nat.lt_succ_iff_lt_or_eq.1 hi with h | rfl
    · exact h2 i h
    · exact g2
  | exit i => exact h
  | ret => exact h

theorem all_true {α : Type} [Inhabited α] {l : List α} {p : α → Bool} (h : ∀ i, i < l.length → p (l.getD i default) = true) : l.all p = true := by
  rw [List.all_eq_true]
  intro x hx
  obtain ⟨i, hi, e⟩ := List.getElem_of_mem hx
  have := h i hi
  rwa [show l.getD i default = x by simp [List.getD, hi, e]] at this
theorem all_false {α : Type} [Inhabited α] {l : List α} {p : α → Bool} {k : Nat} (hk : k < l.length) (h : p (l.getD k default) = false) : l.all p = false := by
  rw [Bool.eq_false_iff, ne_eq, List.all_eq_true]
  intro hh
  have := hh _ (mem_getD hk)
  rw [h] at this; cases this
theorem any_true {α : Type} [Inhabited α] {l : List α} {p : α → Bool} {k : Nat} (hk : k < l.length) (h : p (l.getD k default) = true) : l.any p = true := List.any_eq_true.2 ⟨_, mem_getD hk, h⟩
theorem any_false {α : Type} [Inhabited α] {l : List α} {p : α → Bool} (h : ∀ i, i < l.length → p (l.getD i default) = false) : l.any p = false := by
  rw [List.any_eq_false]
  intro x hx
  obtain ⟨i, hi, e⟩ := List.getElem_of_mem hx
  have := h i hi
  rw [show l.getD i default = x by simp [List.getD, hi, e]] at this
  simp [this]
/-! ### rows of anything -/
def encL {α : Type} (sz : Nat) (f : α → AV) (l : List α) : AV := .sl sz (l.map f)
section
variable {α : Type} {sz : Nat} {f : α → AV} {l : List α}
end

end Go.Abs

/- Numbers of other kinds, and bits. -/
namespace Go.Abs

theorem wrapU64 {a : Int} (h1 : 0 ≤ a) (h2 : a < 18446744073709551616) : IntKind.wrap .u64 a = a := by
  simp only [IntKind.wrap, IntKind.bits, IntKind.signed]; simp; omega
theorem wrapU8 {a : Int} : IntKind.wrap .u8 a = a % 256 := by
  simp only [IntKind.wrap, IntKind.bits, IntKind.signed]; simp

theorem shr_nat {k : IntKind} {a b : Nat} {tb tf : Bool} {k' : IntKind} (hb : b ≤ k.bits) : abin2 .shr tb tf (.int k a) (.int k' b) = some (.int k ((a / 2 ^ b : Nat) : Int)) := by
  have h : ¬ ((b : Int) < 0) := by omega
  simp only [abin2, ashift, h, if_false, or_true, if_true, Int.toNat_natCast, Nat.min_eq_left hb]
  congr 2
  rw [Int.fdiv_eq_ediv_of_nonneg _ (Int.le_of_lt (Int.pow_pos (by omega)))]
  simp

theorem shl_nat {k : IntKind} {a b : Nat} {tb tf : Bool} {k' : IntKind} (hb : b ≤ k.bits) (h : a * 2 ^ b < 2 ^ (k.bits - 1)) : abin2 .shl tb tf (.int k a) (.int k' b) = some (.int k ((a * 2 ^ b : Nat) : Int)) := by
  have h0 : ¬ ((b : Int) < 0) := by omega
  simp only [abin2, ashift, h0, if_false, true_or, if_true, Int.toNat_natCast, Nat.min_eq_left hb]
  congr 2
  have e : (a : Int) * 2 ^ b = ((a * 2 ^ b : Nat) : Int) := by simp
  rw [e]
  generalize a * 2 ^ b = c at h
  cases k <;> (simp only [IntKind.bits, IntKind.wrap, IntKind.signed] at h ⊢; simp at h ⊢; omega)

theorem rem_pos {k : IntKind} {a b : Int} {tb tf : Bool} (ha : 0 ≤ a) (hb : 0 < b) : abin2 .rem tb tf (.int k a) (.int k b) = some (.int k (a % b)) := by
  show (if (k = k) then aarith .rem k a b else none) = _
  rw [if_pos rfl]
  simp only [aarith, if_neg (show ¬ b = 0 by omega), Int.tmod_eq_emod_of_nonneg ha]
theorem quo_pos {a b : Int} {tb tf : Bool} (ha : 0 ≤ a) (h2 : a ≤ 9223372036854775807) (hb : 0 < b) : abin2 .quo tb tf (.int .i64 a) (.int .i64 b) = some (.int .i64 (a / b)) := by
  show (if (IntKind.i64 = IntKind.i64) then aarith .quo .i64 a b else none) = _
  rw [if_pos rfl]
  have h3 : 0 ≤ a / b := Int.ediv_nonneg ha (by omega)
  have h4 : a / b ≤ a := Int.ediv_le_self _ ha
  simp only [aarith, if_neg (show ¬ b = 0 by omega), Int.tdiv_eq_ediv_of_nonneg ha]
  rw [wrap64 (by omega) (by omega)]

theorem o_callE {P : Program} {T : Tm} {H : Hp} {nx : Nat} {K : SP} {l : List Op2} {d : Option Nat} {f : Opd} {args : List Opd} {g : FuncId} {caps xs : List AV} {R : AV → Hp → Nat → Prop} (hf : ov T f = .func g caps) (ha : args.map (ov T) ++ caps = xs) (hc : Fn P g xs H nx R)
    (k : ∀ r H' nx', R r H' nx' → aops2 P .text l (updo T d r) H' nx' K) : aops2 P .text (⟨d, none, .call f args⟩ :: l) T H nx K := by
  subst ha
  exact o_call hf (Fn.mono hc k)

/-! ### bytes and texts -/
def encS (l : List UInt8) : AV := .str ⟨l.toArray⟩
theorem encS_dat (l : List UInt8) : Dat (encS l) := .str
instance datI_encS {l : List UInt8} : DatI (encS l) := ⟨encS_dat l⟩
end Go.Abs

/- A run of code at given values, and what it shows. -/
namespace Go.Abs
open Go.RowKit

/-! ### tables -/
inductive PT (α : Type) where
  | leaf
  | node (v : Option α) (l r : PT α)

def PT.get {α : Type} : PT α → Nat → Option α
  | .leaf, _ => none
  | .node v l r, n => match n with
    | 0 => v
    | n + 1 => match n % 2 with
      | 0 => l.get (n / 2)
      | _ + 1 => r.get (n / 2)

def PT.set {α : Type} : Nat → PT α → Nat → Option α → Option (PT α)
  | 0, _, _, _ => none
  | k + 1, t, n, x => match t with
    | .leaf => match n with
      | 0 => some (.node x .leaf .leaf)
      | n + 1 => match n % 2 with
        | 0 => match PT.set k .leaf (n / 2) x with
          | some l => some (.node none l .leaf)
          | none => none
        | _ + 1 => match PT.set k .leaf (n / 2) x with
          | some r => some (.node none .leaf r)
          | none => none
    | .node v l r => match n with
      | 0 => some (.node x l r)
      | n + 1 => match n % 2 with
        | 0 => match PT.set k l (n / 2) x with
          | some l => some (.node v l r)
          | none => none
        | _ + 1 => match PT.set k r (n / 2) x with
          | some r => some (.node v l r)
          | none => none

theorem PT.get_even {α : Type} {v : Option α} {l r : PT α} {n : Nat} (h : n % 2 = 0) : (PT.node v l r).get (n + 1) = l.get (n / 2) := by
  simp only [PT.get, h]
theorem PT.get_odd {α : Type} {v : Option α} {l r : PT α} {n : Nat} (h : n % 2 = 1) : (PT.node v l r).get (n + 1) = r.get (n / 2) := by
  simp only [PT.get, h]

theorem PT.get_set {α : Type} : ∀ (k : Nat) {t t' : PT α} {n : Nat} {x : Option α}, PT.set k t n x = some t' → ∀ m, t'.get m = if m = n then x else t.get m
  | 0, _, _, _, _, h => by cases h
  | k + 1, t, t', n, x, h => by
    intro m
    have two : ∀ a : Nat, a % 2 = 0 ∨ a % 2 = 1 := fun a => by omega
    cases t with
    | leaf =>
      cases n with
      | zero =>
        cases h
        cases m with
        | zero => rfl
        | succ m =>
          rw [if_neg (by omega)]
          rcases two m with e | e
          · rw [get_even e]; rfl
          · rw [get_odd e]; rfl
      | succ n =>
        rcases two n with en | en
        · simp only [PT.set, en] at h
          split at h
          · rename_i l hl
            cases h
            have ih := PT.get_set k hl
            cases m with
            | zero => rw [if_neg (by omega)]; rfl
            | succ m =>
              rcases two m with e | e
              · rw [get_even e, ih]
                by_cases hh : m / 2 = n / 2
                · rw [if_pos hh, if_pos (by omega)]
                · rw [if_neg hh, if_neg (by omega)]; rfl
              · rw [get_odd e, if_neg (by omega)]; rfl
          · cases h
        · simp only [PT.set, en] at h
          split at h
          · rename_i l hl
            cases h
            have ih := PT.get_set k hl
            cases m with
            | zero => rw [if_neg (by omega)]; rfl
            | succ m =>
              rcases two m with e | e
              · rw [get_even e, if_neg (by omega)]; rfl
              · rw [get_odd e, ih]
                by_cases hh : m / 2 = n / 2
                · rw [if_pos hh, if_pos (by omega)]
                · rw [if_neg hh, if_neg (by omega)]; rfl
          · cases h
    | node v l r =>
      cases n with
      | zero =>
        cases h
        cases m with
        | zero => rfl
        | succ m =>
          rw [if_neg (by omega)]
          rcases two m with e | e
          · rw [get_even e, get_even e]
          · rw [get_odd e, get_odd e]
      | succ n =>
        rcases two n with en | en
        · simp only [PT.set, en] at h
          split at h
          · rename_i l' hl
            cases h
            have ih := PT.get_set k hl
            cases m with
            | zero => rw [if_neg (by omega)]; rfl
            | succ m =>
              rcases two m with e | e
              · rw [get_even e, ih, get_even e]
                by_cases hh : m / 2 = n / 2
                · rw [if_pos hh, if_pos (by omega)]
                · rw [if_neg hh, if_neg (by omega)]
              · rw [get_odd e, if_neg (by omega), get_odd e]
          · cases h
        · simp only [PT.set, en] at h
          split at h
          · rename_i l' hl
            cases h
            have ih := PT.get_set k hl
            cases m with
            | zero => rw [if_neg (by omega)]; rfl
            | succ m =>
              rcases two m with e | e
              · rw [get_even e, if_neg (by omega), get_even e]
              · rw [get_odd e, ih, get_odd e]
                by_cases hh : m / 2 = n / 2
                · rw [if_pos hh, if_pos (by omega)]
                · rw [if_neg hh, if_neg (by omega)]
          · cases h

inductive BC where
  | cells (cs : List AV)
  | mark (e : Option AEx)
abbrev TT := PT AV
abbrev HT := PT BC
abbrev LV := Nat → Option AEx → List AV
def bcL (L : LV) (n : Nat) : Option BC → Option (List AV)
  | some (.cells cs) => some cs
  | some (.mark e) => some (L n e)
  | none => none
def bc0 : Option BC → Option (List AV)
  | some (.cells cs) => some cs
  | _ => none
def toT (t : TT) : Tm := fun n => (t.get n).getD .undef
def toH (L : LV) (t : HT) : Hp := fun n => bcL L n (t.get n)
def toH0 (t : HT) : Hp := fun n => bc0 (t.get n)
def LIM : Nat := 24

theorem toH0_sub {L : LV} {t : HT} : Sub (toH0 t) (toH L t) := fun b cs h => by
  unfold toH0 at h
  unfold toH
  cases hg : t.get b with
  | none => rw [hg] at h; cases h
  | some c =>
    rw [hg] at h
    cases c with
    | cells x => exact h
    | mark e => cases h
theorem toT_set {k : Nat} {T T' : TT} {d : Nat} {v : AV} (h : PT.set k T d (some v) = some T') : toT T' = upd (toT T) d v := by
  funext m
  simp only [toT, upd, PT.get_set k h]
  split <;> rfl
theorem toH_set {L : LV} {k : Nat} {H H' : HT} {b : Nat} {cs : List AV} (h : PT.set k H b (some (.cells cs)) = some H') : toH L H' = hupd (toH L H) b cs := by
  funext m
  simp only [toH, hupd, PT.get_set k h]
  split <;> rfl
theorem toH_mark {L : LV} {k : Nat} {H H' : HT} {b : Nat} {e : Option AEx} (h : PT.set k H b (some (.mark e)) = some H') : toH L H' = hupd (toH L H) b (L b e) := by
  funext m
  simp only [toH, hupd, PT.get_set k h]
  split
  · rename_i hm; subst hm; rfl
  · rfl
theorem toH_del {L : LV} {k : Nat} {H H' : HT} {b : Nat} (h : PT.set k H b none = some H') : toH L H' = hdel (toH L H) b := by
  funext m
  simp only [toH, hdel, PT.get_set k h]
  split <;> rfl
def stT (T : TT) (d : Option Nat) (v : AV) : Option TT := match d with
  | none => some T
  | some d => PT.set LIM T d (some v)
theorem toT_st {T T' : TT} {d : Option Nat} {v : AV} (h : stT T d v = some T') : toT T' = updo (toT T) d v := by
  cases d with
  | none => cases h; rfl
  | some d => exact toT_set h

def ofArgsFrom : Nat → List AV → TT → Option TT
  | _, [], T => some T
  | i, x :: l, T => match PT.set LIM T i (some x) with
    | some T => ofArgsFrom (i + 1) l T
    | none => none
theorem ofArgsFrom_ok : ∀ (l : List AV) (i : Nat) {T T' : TT}, ofArgsFrom i l T = some T' → ∀ m, toT T' m = if i ≤ m ∧ m < i + l.length then l.getD (m - i) .undef else toT T m
  | [], i, T, T', h, m => by cases h; rw [if_neg (by simp only [List.length_nil]; omega)]
  | x :: l, i, T, T', h, m => by
    simp only [ofArgsFrom] at h
    split at h
    · rename_i T1 h1
      rw [ofArgsFrom_ok l (i + 1) h m, toT_set h1]
      simp only [upd, List.length_cons]
      by_cases e : m = i
      · subst e
        rw [if_neg (by omega), if_pos rfl, if_pos (by omega)]
        simp
      · by_cases e2 : i + 1 ≤ m ∧ m < i + 1 + l.length
        · rw [if_pos e2, if_pos (by omega)]
          obtain ⟨j, rfl⟩ : ∃ j, m = i + 1 + j := ⟨m - (i + 1), by omega⟩
          rw [show i + 1 + j - (i + 1) = j by omega, show i + 1 + j - i = j + 1 by omega]
          rfl
        · rw [if_neg e2, if_neg e, if_neg (by omega)]
    · cases h
def ofArgs (l : List AV) : Option TT := ofArgsFrom 0 l .leaf
theorem ofArgs_ok {l : List AV} {T : TT} (h : ofArgs l = some T) : toT T = T0 l := by
  funext m
  rw [ofArgsFrom_ok l 0 h m]
  simp only [T0, Nat.zero_le, true_and, Nat.zero_add, Nat.sub_zero]
  split
  · rfl
  · rename_i hm
    have : l[m]? = none := by simp; omega
    simp [List.getD, this, toT, PT.get]

/-! ### values are computed when they are made -/
def frN {α : Type} (n : Nat) (K : Nat → α) : α := match n with
  | 0 => K 0
  | m + 1 => K (m + 1)
def frI {α : Type} (n : Int) (K : Int → α) : α := match n with
  | .ofNat m => frN m fun m => K (.ofNat m)
  | .negSucc m => frN m fun m => K (.negSucc m)
def frV {α : Type} (x : AV) (K : AV → α) : α := match x with
  | .int k n => frI n fun n => K (.int k n)
  | .ptr b n off => frN b fun b => frN n fun n => frN off fun off => K (.ptr b n off)
  | .msl b n sz off len => frN b fun b => frN n fun n => frN sz fun sz => frN off fun off => frN len fun len => K (.msl b n sz off len)
  | x => K x
def frL {α : Type} : List AV → (List AV → α) → α
  | [], K => K []
  | x :: l, K => frV x fun x => frL l fun l => K (x :: l)
theorem frN_eq {α : Type} {n : Nat} {K : Nat → α} : frN n K = K n := by cases n <;> rfl
theorem frI_eq {α : Type} {n : Int} {K : Int → α} : frI n K = K n := by cases n <;> simp [frI, frN_eq]
theorem frV_eq {α : Type} {x : AV} {K : AV → α} : frV x K = K x := by cases x <;> simp [frV, frI_eq, frN_eq]
theorem frL_eq {α : Type} : ∀ {l : List AV} {K : List AV → α}, frL l K = K l
  | [], _ => rfl
  | x :: l, K => by simp [frL, frV_eq, frL_eq]

/-! ### effects write one box -/
def touch (T : Tm) (nx : Nat) : Ins → Option Nat
  | .alloc _ => some nx
  | .box _ => some nx
  | .bldS _ len _ _ => if len = 0 then none else some nx
  | .mks .. => some nx
  | .st _ p _ => match ov T p with
    | .ptr b _ _ => some b
    | _ => none
  | .app _ _ s _ => match ov T s with
    | .esl => some nx
    | .msl b _ _ _ _ => some b
    | _ => none
  | _ => none

theorem asrc_sub {S H : Hp} (hs : Sub S H) {sz : Nat} {x : AV} {r : Nat × List AV} (h : asrc sz S x = some r) : asrc sz H x = some r := by
  cases x <;> simp only [asrc] at h ⊢ <;> try (first | exact h | (cases h; done))
  rename_i b n sz' off len
  split at h
  · rename_i h0; rw [if_pos h0]; exact h
  · rename_i h0
    rw [if_neg h0]
    split at h
    · rename_i cs hb
      rw [hs b cs hb]; exact h
    · cases h
theorem ival_sub' {S H : Hp} (hs : Sub S H) {T : Tm} {i : Ins} {r : AV} (h : ival T S i = some r) : ival T H i = some r := by
  cases i <;> try exact h
  · exact rd1_sub hs h
  · rename_i k a
    simp only [ival] at h ⊢
    cases hr : rd S k (ov T a) with
    | none => rw [hr] at h; cases h
    | some l => rw [hr] at h; rw [rd_sub hs hr]; exact h
theorem rv_sub {S H : Hp} (hs : Sub S H) {T : Tm} {a : RV} {r : AV} (h : rv T S a = some r) : rv T H a = some r := by
  cases a with
  | t n => exact h
  | c1 n => exact rd1_sub hs h
  | cn n k =>
    simp only [rv] at h ⊢
    cases hr : rd S k (T n) with
    | none => rw [hr] at h; cases h
    | some l => rw [hr] at h; rw [rd_sub hs hr]; exact h

theorem ieff_touch {T : Tm} {S S' H : Hp} (hs : Sub S H) {nx nx' : Nat} {i : Ins} {r : AV} (h : ieff T S nx i = some (r, S', nx')) :
    (touch T nx i = none → ieff T H nx i = some (r, H, nx')) ∧ ∀ b, touch T nx i = some b → ∃ cs, S' = hupd S b cs ∧ ieff T H nx i = some (r, hupd H b cs, nx') := by
  cases i <;> simp only [ieff] at h ⊢ <;> try (cases h; done)
  case alloc z =>
    unfold abox at h ⊢
    split at h <;> cases h
    rename_i hz
    rw [if_pos hz]
    exact ⟨fun h => by simp [touch] at h, fun b h => by simp [touch] at h; subst h; exact ⟨_, rfl, rfl⟩⟩
  case box x =>
    unfold abox at h ⊢
    split at h <;> cases h
    rename_i hz
    rw [if_pos hz]
    exact ⟨fun h => by simp [touch] at h, fun b h => by simp [touch] at h; subst h; exact ⟨_, rfl, rfl⟩⟩
  case bldS sz len z parts =>
    split at h
    · rename_i hl
      rw [if_pos hl]
      split at h <;> cases h
      rename_i hp
      rw [if_pos hp]
      exact ⟨fun _ => rfl, fun b h => by simp [touch, hl] at h⟩
    · rename_i hl
      rw [if_neg hl]
      split at h <;> cases h
      exact ⟨fun h => by simp [touch, hl] at h, fun b h => by simp [touch, hl] at h; subst h; exact ⟨_, rfl, rfl⟩⟩
  case mks sz bytes z l c =>
    split at h
    · rename_i h1 h2
      split at h <;> cases h
      rename_i hc
      rw [if_pos hc]
      exact ⟨fun h => by simp [touch] at h, fun b h => by simp [touch] at h; subst h; exact ⟨_, rfl, rfl⟩⟩
    · cases h
  case st k p x =>
    split at h
    · rename_i b n off hp
      split at h
      · rename_i cs hb
        split at h <;> cases h
        rename_i hc
        simp only [hs b cs hb]
        rw [if_pos hc]
        exact ⟨fun h => by simp [touch, hp] at h, fun b h => by simp [touch, hp] at h; subst h; exact ⟨_, rfl, rfl⟩⟩
      · cases h
    · cases h
  case app sz bytes s x =>
    unfold aapp at h ⊢
    split at h
    · cases h
    · rename_i k new hsrc
      rw [asrc_sub hs hsrc]
      simp only
      split at h
      · rename_i hone
        rw [if_pos hone]
        split at h
        · rename_i he
          split at h <;> cases h
          rename_i hc
          rw [if_pos hc]
          exact ⟨fun h => by simp [touch, he] at h, fun b h => by simp [touch, he] at h; subst h; exact ⟨_, rfl, rfl⟩⟩
        · rename_i b n s' off len he
          split at h
          · rename_i cs hb
            simp only [hs b cs hb]
            split at h
            · rename_i hc
              rw [if_pos hc]
              split at h
              · rename_i hc2
                rw [if_pos hc2]
                cases h
                exact ⟨fun h => by simp [touch, he] at h, fun b h => by simp [touch, he] at h; subst h; exact ⟨_, rfl, rfl⟩⟩
              · rename_i hc2
                rw [if_neg hc2]
                split at h <;> cases h
                rename_i hc3
                rw [if_pos hc3]
                exact ⟨fun h => by simp [touch, he] at h, fun b h => by simp [touch, he] at h; subst h; exact ⟨_, rfl, rfl⟩⟩
            · cases h
          · cases h
        · cases h
      · cases h

def reff (T : TT) (H : HT) (nx : Nat) (i : Ins) : Option (AV × HT × Nat) :=
  match ieff (toT T) (toH0 H) nx i with
  | none => none
  | some (r, H', nx') => match touch (toT T) nx i with
    | none => some (r, H, nx')
    | some b => match H' b with
      | none => none
      | some cs => frL cs fun cs => match PT.set LIM H b (some (.cells cs)) with
        | some H2 => some (r, H2, nx')
        | none => none

theorem reff_ok {L : LV} {T : TT} {H H2 : HT} {nx nx' : Nat} {i : Ins} {r : AV} (h : reff T H nx i = some (r, H2, nx')) : ieff (toT T) (toH L H) nx i = some (r, toH L H2, nx') := by
  unfold reff at h
  split at h
  · cases h
  · rename_i r1 H1 nx1 he
    obtain ⟨t1, t2⟩ := ieff_touch (toH0_sub (L := L)) he
    split at h
    · rename_i ht
      cases h
      exact t1 ht
    · rename_i b ht
      obtain ⟨cs, rfl, e⟩ := t2 b ht
      rw [show hupd (toH0 H) b cs b = some cs from if_pos rfl] at h
      simp only [frL_eq] at h
      split at h
      · rename_i H3 hset
        cases h
        rw [e, toH_set hset]
      · cases h

/-! ### special operations -/
def avBytes : List AV → Option (List UInt8)
  | [] => some []
  | .int .u8 n :: l => if 0 ≤ n ∧ n.toNat < 256 then (match avBytes l with | some bs => some (UInt8.ofNat n.toNat :: bs) | none => none) else none
  | _ :: _ => none
theorem avBytes_ok : ∀ {l : List AV} {bs : List UInt8}, avBytes l = some bs → l = bs.map encB
  | [], bs, h => by cases h; rfl
  | x :: l, bs, h => by
    cases x <;> try (simp only [avBytes] at h; cases h; done)
    rename_i k n
    cases k <;> try (simp only [avBytes] at h; cases h; done)
    simp only [avBytes] at h
    split at h
    · rename_i hn
      split at h
      · rename_i bs' hb
        cases h
        rw [List.map_cons, ← avBytes_ok hb]
        congr 1
        unfold encB
        rw [UInt8.toNat_ofNat_of_lt' hn.2]
        congr 1
        omega
      · cases h
    · cases h

def rsp (T : Tm) (H : HT) (nx : Nat) : Ins → Option (AV × HT × Nat)
  | .mkm h => match h with
    | none => match PT.set LIM H nx (some (.cells [.omap [] []])) with
      | some H' => some (.mp nx, H', nx + 1)
      | none => none
    | some x => match ov T x with
      | .int _ _ => match PT.set LIM H nx (some (.cells [.omap [] []])) with
        | some H' => some (.mp nx, H', nx + 1)
        | none => none
      | _ => none
  | .mput k m key x => match ov T m with
    | .mp b => match H.get b with
      | some (.cells [.omap ks vs]) => if kfit k (ov T key) = true then match mfind k (ov T key) ks with
          | some r => frL (msetK (ov T key) r ks) fun ks => frL (msetV (ov T x) r vs) fun vs => match PT.set LIM H b (some (.cells [.omap ks vs])) with
            | some H' => some (.tup [], H', nx)
            | none => none
          | none => none
        else none
      | _ => none
    | _ => none
  | .mget k z ok m key => match ov T m with
    | .mp b => match H.get b with
      | some (.cells [.omap ks vs]) => if kfit k (ov T key) = true then match mfind k (ov T key) ks with
          | some r => some (Go.Abs.mget z ok r vs, H, nx)
          | none => none
        else none
      | _ => none
    | _ => none
  | .mplc k z m key => match ov T m with
    | .mp b => match H.get b with
      | some (.cells [.omap ks vs]) => if kfit k (ov T key) = true then match mfind k (ov T key) ks with
          | some r => frL (msetK (ov T key) r ks) fun ks' => frL (mplV z r vs) fun vs' => match PT.set LIM H b (some (.cells [.omap ks' vs'])) with
            | some H' => some (.tup [mplO z r vs, .int .i64 (mplI r ks)], H', nx)
            | none => none
          | none => none
        else none
      | _ => none
    | _ => none
  | .mpst m s x => match ov T m with
    | .mp b => match H.get b with
      | some (.cells [.omap ks vs]) => match ov T s with
        | .int .i64 (.ofNat i) => if i < ks.length then frL (vs.set i (ov T x)) fun vs' => match PT.set LIM H b (some (.cells [.omap ks vs'])) with
          | some H' => some (.tup [], H', nx)
          | none => none
          else none
        | _ => none
      | _ => none
    | _ => none
  | .mlen m => match ov T m with
    | .mp b => match H.get b with
      | some (.cells [.omap ks vs]) => some (.int .i64 ks.length, H, nx)
      | _ => none
    | _ => none
  | .cpy sz d s => match acopy sz (ov T d) (ov T s) (toH0 H) with
    | none => none
    | some (n, H') => match n with
      | 0 => some (.int .i64 (0 : Nat), H, nx)
      | n + 1 => match ov T d with
        | .msl b _ _ _ _ => match H' b with
          | some cs => frL cs fun cs => match PT.set LIM H b (some (.cells cs)) with
            | some H2 => some (.int .i64 (n + 1 : Nat), H2, nx)
            | none => none
          | none => none
        | _ => none
  | .clr sz z x => match aclear sz z (ov T x) (toH0 H) with
    | none => none
    | some H' => match ov T x with
      | .msl b _ _ _ 0 => some (.tup [], H, nx)
      | .msl b _ _ _ (_ + 1) => match H' b with
        | some cs => frL cs fun cs => match PT.set LIM H b (some (.cells cs)) with
          | some H2 => some (.tup [], H2, nx)
          | none => none
        | none => none
      | _ => none
  | .snil neg x => match alenN (ov T x) with
    | some (k + 1) => some (.bool neg, H, nx)
    | _ => none
  | .s2b x => match ov T x with
    | .str bs => if bs.size = 0 then some (.sl 1 [], H, nx) else frL (bs.data.toList.map encB) fun cs => match PT.set LIM H nx (some (.cells cs)) with
      | some H' => some (.msl nx bs.size 1 0 bs.size, H', nx + 1)
      | none => none
    | _ => none
  | .b2s x => match asrc 1 (toH0 H) (ov T x) with
    | some (n, l) => match avBytes l with
      | some bs => some (.str ⟨bs.toArray⟩, H, nx)
      | none => none
    | none => none
  | _ => none

theorem acopy_touch {sz n : Nat} {d s : AV} {S S' H : Hp} (hs : Sub S H) (h : acopy sz d s S = some (n, S')) : (n = 0 → acopy sz d s H = some (0, H)) ∧ (n ≠ 0 → ∀ b m z o l, d = .msl b m z o l → ∃ cs, S' = hupd S b cs ∧ acopy sz d s H = some (n, hupd H b cs)) := by
  unfold acopy at h ⊢
  split at h
  · rename_i ld ls h1 h2
    split at h
    · rename_i hm
      rw [if_pos hm]
      cases h; exact ⟨fun _ => rfl, fun h => absurd rfl h⟩
    · rename_i hm
      rw [if_neg hm]
      split at h
      · split at h
        · rename_i cs m new hb hsrc
          simp only [hs _ _ hb, asrc_sub hs hsrc]
          split at h
          · rename_i hc
            rw [if_pos hc]
            cases h
            refine ⟨fun h => absurd h hm, fun _ b m z o l e => ?_⟩
            cases e; exact ⟨_, rfl, rfl⟩
          · cases h
        · cases h
      · cases h
  · cases h

theorem aclear_touch {sz : Nat} {z x : AV} {S S' H : Hp} (hs : Sub S H) (h : aclear sz z x S = some S') : ∀ b m s o l, x = .msl b m s o l → (l = 0 → aclear sz z x H = some H) ∧ (l ≠ 0 → ∃ cs, S' = hupd S b cs ∧ aclear sz z x H = some (hupd H b cs)) := by
  intro b m s o l hx
  subst hx
  simp only [aclear] at h ⊢
  split at h
  · rename_i h0
    rw [if_pos h0]
    exact ⟨fun _ => rfl, fun h => absurd h0 h⟩
  · rename_i h0
    rw [if_neg h0]
    refine ⟨fun h => absurd h h0, fun _ => ?_⟩
    split at h
    · rename_i cs hb
      simp only [hs _ _ hb]
      split at h
      · rename_i hc
        rw [if_pos hc]
        cases h
        exact ⟨_, rfl, rfl⟩
      · cases h
    · cases h

theorem cells_at {L : LV} {H : HT} {b : Nat} {cs : List AV} (h : H.get b = some (.cells cs)) : toH L H b = some cs := by
  simp only [toH, h, bcL]

theorem rsp_ok {L : LV} {T : Tm} {H H2 : HT} {nx nx' : Nat} {i : Ins} {r : AV} {K : AV → Hp → Nat → Prop} (h : rsp T H nx i = some (r, H2, nx')) (hK : K r (toH L H2) nx') : isp i T (toH L H) nx K := by
  cases i <;> simp only [rsp] at h <;> try (cases h; done)
  case mkm x =>
    cases x with
    | none =>
      simp only at h
      split at h
      · rename_i H' hs
        cases h
        exact ⟨.inl rfl, by rw [toH_set hs] at hK; exact hK⟩
      · cases h
    | some x =>
      simp only at h
      split at h
      · rename_i k n hx
        split at h
        · rename_i H' hs
          cases h
          exact ⟨.inr ⟨x, k, n, rfl, hx⟩, by rw [toH_set hs] at hK; exact hK⟩
        · cases h
      · cases h
  case mput k m key x =>
    split at h
    · rename_i b hm
      split at h
      · rename_i ks vs hb
        split at h
        · rename_i hf
          split at h
          · rename_i r1 hr
            simp only [frL_eq] at h
            split at h
            · rename_i H' hs
              cases h
              exact ⟨b, ks, vs, r1, hm, cells_at hb, hf, hr, by rw [toH_set hs] at hK; exact hK⟩
            · cases h
          · cases h
        · cases h
      · cases h
    · cases h
  case mget k z ok m key =>
    split at h
    · rename_i b hm
      split at h
      · rename_i ks vs hb
        split at h
        · rename_i hf
          split at h
          · rename_i r1 hr
            cases h
            exact ⟨b, ks, vs, r1, hm, cells_at hb, hf, hr, hK⟩
          · cases h
        · cases h
      · cases h
    · cases h
  case mplc k z m key =>
    split at h
    · rename_i b hm
      split at h
      · rename_i ks vs hb
        split at h
        · rename_i hf
          split at h
          · rename_i r1 hr
            simp only [frL_eq] at h
            split at h
            · rename_i H' hs
              cases h
              exact ⟨b, ks, vs, r1, hm, cells_at hb, hf, hr, by rw [toH_set hs] at hK; exact hK⟩
            · cases h
          · cases h
        · cases h
      · cases h
    · cases h
  case mpst m s x =>
    split at h
    · rename_i b hm
      split at h
      · rename_i ks vs hb
        split at h
        · rename_i i hi
          split at h
          · rename_i hlt
            simp only [frL_eq] at h
            split at h
            · rename_i H' hs
              cases h
              exact ⟨b, ks, vs, i, hm, cells_at hb, hi, hlt, by rw [toH_set hs] at hK; exact hK⟩
            · cases h
          · cases h
        · cases h
      · cases h
    · cases h
  case mlen m =>
    split at h
    · rename_i b hm
      split at h
      · rename_i ks vs hb
        cases h
        exact ⟨b, ks, vs, hm, cells_at hb, hK⟩
      · cases h
    · cases h
  case cpy sz d s =>
    split at h
    · cases h
    · rename_i n H' hc
      obtain ⟨t1, t2⟩ := acopy_touch (toH0_sub (L := L)) hc
      split at h
      · cases h
        exact ⟨0, _, t1 rfl, hK⟩
      · rename_i n
        split at h
        · rename_i b m z o l hd
          obtain ⟨cs, rfl, e⟩ := t2 (Nat.succ_ne_zero _) _ _ _ _ _ hd
          rw [show hupd (toH0 H) b cs b = some cs from if_pos rfl] at h
          simp only [frL_eq] at h
          split at h
          · rename_i H3 hs
            cases h
            exact ⟨_, _, e, by rw [toH_set hs] at hK; exact hK⟩
          · cases h
        · cases h
  case clr sz z x =>
    split at h
    · cases h
    · rename_i H' hc
      have ht := aclear_touch (toH0_sub (L := L)) hc
      split at h
      · rename_i b m s o hx
        cases h
        exact ⟨_, (ht _ _ _ _ _ hx).1 rfl, hK⟩
      · rename_i b m s o l hx
        obtain ⟨cs, rfl, e⟩ := (ht _ _ _ _ _ hx).2 (Nat.succ_ne_zero _)
        rw [show hupd (toH0 H) b cs b = some cs from if_pos rfl] at h
        simp only [frL_eq] at h
        split at h
        · rename_i H3 hs
          cases h
          exact ⟨_, e, by rw [toH_set hs] at hK; exact hK⟩
        · cases h
      · cases h
  case snil neg x =>
    split at h
    · rename_i k hx
      cases h
      exact ⟨k + 1, hx, fun _ => hK, fun h => absurd h (Nat.succ_ne_zero _)⟩
    · cases h
  case s2b x =>
    split at h
    · rename_i bs hx
      split at h
      · rename_i h0
        cases h
        exact ⟨bs, hx, fun _ => hK, fun h => absurd h0 h⟩
      · rename_i h0
        simp only [frL_eq] at h
        split at h
        · rename_i H' hs
          cases h
          exact ⟨bs, hx, fun h => absurd h h0, fun _ => by rw [toH_set hs] at hK; exact hK⟩
        · cases h
    · cases h
  case b2s x =>
    split at h
    · rename_i n l hx
      split at h
      · rename_i bs hb
        cases h
        exact ⟨n, bs, by rw [asrc_sub toH0_sub hx, avBytes_ok hb], hK⟩
      · cases h
    · cases h

/-! ### data as it stands in boxes, computed -/
def optMap (f : AV → Option AV) : List AV → Option (List AV)
  | [] => some []
  | x :: l => match f x with
    | some y => match optMap f l with
      | some m => some (y :: m)
      | none => none
    | none => none
theorem optMap_ok {f : AV → Option AV} : ∀ {l m : List AV}, optMap f l = some m → m.length = l.length ∧ ∀ (i : Nat) (a c : AV), l[i]? = some a → m[i]? = some c → f a = some c
  | [], m, h => by cases h; exact ⟨rfl, by simp⟩
  | x :: l, m, h => by
    simp only [optMap] at h
    split at h
    · rename_i y hy
      split at h
      · rename_i m' hm
        cases h
        obtain ⟨h1, h2⟩ := optMap_ok hm
        refine ⟨by simp [h1], fun i a c ha hc => ?_⟩
        cases i with
        | zero => simp at ha hc; subst ha hc; exact hy
        | succ i => exact h2 i a c (by simpa using ha) (by simpa using hc)
      · cases h
    · cases h

def mkE : List AV → AV
  | [.agg a] => .agg [.agg a]
  | [c] => c
  | cs => .agg cs
theorem mkE_cells (cs : List AV) : (mkE cs).cells = cs := by
  rcases cs with _ | ⟨a, _ | ⟨b, l⟩⟩
  · rfl
  · cases a <;> rfl
  · cases a <;> rfl
def chunk (sz : Nat) : Nat → List AV → List AV
  | 0, _ => []
  | n + 1, ds => mkE (ds.take sz) :: chunk sz n (ds.drop sz)
theorem chunk_len (sz : Nat) : ∀ (n : Nat) (ds : List AV), (chunk sz n ds).length = n
  | 0, _ => rfl
  | n + 1, ds => by simp [chunk, chunk_len]
theorem chunk_get (sz : Nat) : ∀ (n : Nat) (ds : List AV), ds.length = n * sz → ∀ (i : Nat) (y : AV), (chunk sz n ds)[i]? = some y → y.cells.length = sz ∧ ∀ (j : Nat) (c : AV), y.cells[j]? = some c → ds[i * sz + j]? = some c
  | 0, _, _, i, y, h => by simp [chunk] at h
  | n + 1, ds, hl, i, y, h => by
    rw [Nat.add_mul, Nat.one_mul] at hl
    cases i with
    | zero =>
      simp only [chunk, List.getElem?_cons_zero, Option.some.injEq] at h
      subst h
      rw [mkE_cells]
      refine ⟨by rw [List.length_take]; omega, fun j c hc => ?_⟩
      rw [Nat.zero_mul, Nat.zero_add]
      rw [List.getElem?_take] at hc
      split at hc
      · exact hc
      · cases hc
    | succ i =>
      simp only [chunk, List.getElem?_cons_succ] at h
      obtain ⟨h1, h2⟩ := chunk_get sz n (ds.drop sz) (by rw [List.length_drop]; omega) i y h
      refine ⟨h1, fun j c hc => ?_⟩
      have := h2 j c hc
      rw [List.getElem?_drop] at this
      rw [← this]
      congr 1
      rw [Nat.add_mul]; omega

def snapE (f : AV → Option AV) : AV → Option AV
  | .agg cs => match optMap f cs with
    | some ds => some (.agg ds)
    | none => none
  | x => match f x with
    | some (.agg _) => none
    | some y => some y
    | none => none
theorem snapE_ok {f : AV → Option AV} {x y : AV} (h : snapE f x = some y) : y.cells.length = x.cells.length ∧ ∀ (j : Nat) (a b : AV), x.cells[j]? = some a → y.cells[j]? = some b → f a = some b := by
  unfold snapE at h
  split at h
  · split at h
    · rename_i hm
      cases h
      exact optMap_ok hm
    · cases h
  · rename_i hna
    have hx : x.cells = [x] := by cases x <;> first | rfl | exact absurd rfl (hna _)
    split at h
    · cases h
    · rename_i y' hny hy
      cases h
      have hyc : y.cells = [y] := by cases y <;> first | rfl | exact absurd hy (by intro hh; exact hny _ rfl)
      rw [hx, hyc]
      refine ⟨rfl, fun j a b ha hb => ?_⟩
      cases j with
      | zero => simp at ha hb; subst ha hb; exact hy
      | succ j => simp at ha
    · cases h

def snapV (H : Hp) : Nat → AV → Option AV
  | 0, _ => none
  | k + 1, x => match x with
    | .bool b => some (.bool b)
    | .int k n => some (.int k n)
    | .str s => some (.str s)
    | .nilp => some .nilp
    | .nilf => some .nilf
    | .nilm => some .nilm
    | .esl => some .esl
    | .sl sz l => match optMap (snapE (snapV H k)) l with
      | some m => some (.sl sz m)
      | none => none
    | .msl b n sz off len => match len with
      | 0 => some (.sl sz [])
      | len + 1 => match H b with
        | some cs => if cs.length = n ∧ off + (len + 1) * sz ≤ n then match optMap (snapV H k) ((cs.drop off).take ((len + 1) * sz)) with
            | some ds => some (.sl sz (chunk sz (len + 1) ds))
            | none => none
          else none
        | none => none
    | .ptr b n off => match H b with
      | some cs => if cs.length = n then match optMap (snapV H k) cs with
          | some ds => some (.iptr ds off)
          | none => none
        else none
      | none => none
    | .iptr cs off => match optMap (snapV H k) cs with
      | some ds => some (.iptr ds off)
      | none => none
    | .func f cs => match optMap (snapV H k) cs with
      | some ds => some (.func f ds)
      | none => none
    | .agg cs => match optMap (snapV H k) cs with
      | some ds => some (.agg ds)
      | none => none
    | .tup cs => match optMap (snapV H k) cs with
      | some ds => some (.tup ds)
      | none => none
    | _ => none

theorem snapV_ok {S H : Hp} (hs : Sub S H) : ∀ (k : Nat) {x y : AV}, snapV S k x = some y → Snap H x y
  | 0, _, _, h => by cases h
  | k + 1, x, y, h => by
    have ih := @snapV_ok S H hs k
    have om : ∀ {l m : List AV}, optMap (snapV S k) l = some m → m.length = l.length ∧ ∀ (i : Nat) (a c : AV), l[i]? = some a → m[i]? = some c → Snap H a c := fun hm =>
      ⟨(optMap_ok hm).1, fun i a c ha hc => ih ((optMap_ok hm).2 i a c ha hc)⟩
    cases x <;> simp only [snapV] at h <;> try (cases h; done)
    case bool => cases h; exact .bool _
    case int => cases h; exact .int _ _
    case str => cases h; exact .str _
    case nilp => cases h; exact .nilp
    case nilf => cases h; exact .nilf
    case nilm => cases h; exact .nilm
    case esl => cases h; exact .esl
    case sl sz l =>
      split at h
      · rename_i m hm
        cases h
        obtain ⟨h1, h2⟩ := optMap_ok hm
        exact .sl sz l m h1.symm (fun i x y hx hy => (snapE_ok (h2 i x y hx hy)).1) (fun i j x y a b hx hy ha hb => ih ((snapE_ok (h2 i x y hx hy)).2 j a b ha hb))
      · cases h
    case msl b n sz off len =>
      split at h
      · cases h; exact .mslnil _ _ _ _ _
      · rename_i len
        split at h
        · rename_i cs hb
          split at h
          · rename_i hc
            split at h
            · rename_i ds hds
              cases h
              obtain ⟨h1, h2⟩ := om hds
              have hdl : ds.length = (len + 1) * sz := by rw [h1, List.length_take, List.length_drop]; omega
              have hg := chunk_get sz (len + 1) ds hdl
              refine .msl b n sz off (len + 1) cs _ (hs _ _ hb) hc.1 hc.2 (chunk_len _ _ _) (fun y hy => ?_) (fun i j y a c hy hc' ha => ?_)
              · obtain ⟨i, hi⟩ := List.getElem?_of_mem hy
                exact (hg i y hi).1
              · obtain ⟨g1, g2⟩ := hg i y hy
                have g3 := g2 j c hc'
                refine h2 (i * sz + j) a c ?_ g3
                have hlt : i * sz + j < (len + 1) * sz := by
                  rw [← hdl]; exact (List.getElem?_eq_some_iff.1 g3).1
                rw [List.getElem?_take, if_pos hlt, List.getElem?_drop, ← ha]
                congr 1; omega
            · cases h
          · cases h
        · cases h
    case ptr b n off =>
      split at h
      · rename_i cs hb
        split at h
        · rename_i hn
          split at h
          · rename_i ds hds
            cases h
            exact .ptr b n off cs ds (hs _ _ hb) hn (by rw [(om hds).1, hn]) (om hds).2
          · cases h
        · cases h
      · cases h
    case iptr cs off =>
      split at h
      · rename_i ds hds
        cases h
        exact .iptr cs ds off (om hds).1 (om hds).2
      · cases h
    case func f cs =>
      split at h
      · rename_i ds hds
        cases h
        exact .func f cs ds (om hds).1 (om hds).2
      · cases h
    case agg cs =>
      split at h
      · rename_i ds hds
        cases h
        exact .agg cs ds (om hds).1 (om hds).2
      · cases h
    case tup cs =>
      split at h
      · rename_i ds hds
        cases h
        exact .tup cs ds (om hds).1 (om hds).2
      · cases h

theorem Snap.self {H H' : Hp} {x y : AV} (h : Snap H x y) : Snap H' y y := by
  induction h with
  | bool b => exact .bool _
  | int k n => exact .int _ _
  | str s => exact .str _
  | nilp => exact .nilp
  | nilf => exact .nilf
  | nilm => exact .nilm
  | esl => exact .esl
  | eslsl sz => exact .slnil _ _
  | sl sz l l' hl hc h ih =>
    refine .sl sz l' l' rfl (fun i x y hx hy => by rw [hx] at hy; cases hy; rfl) (fun i j x y a b hx hy ha hb => ?_)
    rw [hx] at hy; cases hy
    rw [ha] at hb; cases hb
    have hlt : i < l.length := by rw [hl]; exact (List.getElem?_eq_some_iff.1 hx).1
    have hz : l[i]? = some l[i] := by simp [hlt]
    have hcl := hc i _ _ hz hx
    have hj : j < l[i].cells.length := by rw [← hcl]; exact (List.getElem?_eq_some_iff.1 ha).1
    exact ih i j l[i] x l[i].cells[j] a hz hx (by simp [hj]) ha
  | slnil sz sz' => exact .slnil _ _
  | msl b n sz off len cs l' hb hn hfit hl hc h ih =>
    refine .sl sz l' l' rfl (fun i x y hx hy => by rw [hx] at hy; cases hy; rfl) (fun i j x y a c hx hy ha hc' => ?_)
    rw [hx] at hy; cases hy
    rw [ha] at hc'; cases hc'
    have hi : i < len := by rw [← hl]; exact (List.getElem?_eq_some_iff.1 hx).1
    have hj : j < sz := by rw [← hc x (List.mem_of_getElem? hx)]; exact (List.getElem?_eq_some_iff.1 ha).1
    have hlt : off + i * sz + j < cs.length := by
      have : (i + 1) * sz ≤ len * sz := Nat.mul_le_mul_right _ hi
      rw [Nat.add_mul] at this; omega
    exact ih i j x cs[off + i * sz + j] a hx ha (by simp [hlt])
  | mslnil b n sz off sz' => exact .slnil _ _
  | ptr b n off cs cs' hb hn hl h ih =>
    refine .iptr cs' cs' off rfl (fun i a c ha hc => ?_)
    rw [ha] at hc; cases hc
    have hlt : i < cs.length := by rw [hn, ← hl]; exact (List.getElem?_eq_some_iff.1 ha).1
    exact ih i cs[i] a (by simp [hlt]) ha
  | iptr cs cs' off hl h ih =>
    refine .iptr cs' cs' off rfl (fun i a c ha hc => ?_)
    rw [ha] at hc; cases hc
    have hlt : i < cs.length := by rw [← hl]; exact (List.getElem?_eq_some_iff.1 ha).1
    exact ih i cs[i] a (by simp [hlt]) ha
  | func f cs cs' hl h ih =>
    refine .func f cs' cs' rfl (fun i a c ha hc => ?_)
    rw [ha] at hc; cases hc
    have hlt : i < cs.length := by rw [← hl]; exact (List.getElem?_eq_some_iff.1 ha).1
    exact ih i cs[i] a (by simp [hlt]) ha
  | agg cs cs' hl h ih =>
    refine .agg cs' cs' rfl (fun i a c ha hc => ?_)
    rw [ha] at hc; cases hc
    have hlt : i < cs.length := by rw [← hl]; exact (List.getElem?_eq_some_iff.1 ha).1
    exact ih i cs[i] a (by simp [hlt]) ha
  | tup cs cs' hl h ih =>
    refine .tup cs' cs' rfl (fun i a c ha hc => ?_)
    rw [ha] at hc; cases hc
    have hlt : i < cs.length := by rw [← hl]; exact (List.getElem?_eq_some_iff.1 ha).1
    exact ih i cs[i] a (by simp [hlt]) ha

theorem Fn.of_pureZ {P : Program} {f : FuncId} {args args' : List AV} {r : AV} (hp : Pure P f args' r) {H Hf H' : Hp} {nx : Nat} (hsub : ∀ b cs, Hf b = some cs → H b = some cs) (hH : ∀ b cs, H' b = some cs → H b = some cs ∧ Hf b = none) (hs : SnapL Hf args args')
    {R : AV → Hp → Nat → Prop} (hR : R r H' nx) : Fn P f args H nx R := by
  refine ⟨hp.1, fun E w vs hE hh hfr hv => ?_⟩
  have hsim : Sim E { n := vs.length } ⟨T0 args, H, nx⟩ { tmps := vs.toArray, defers := [] } w := by
    refine ⟨hE, hh, hfr, fun l hl => (by cases hl), Nat.zero_le _, by simp, fun t => ?_, ⟨List.Pairwise.nil, fun d hd => (by cases hd)⟩⟩
    show Rel E w (T0 args t) (vs.toArray.getD t Go.undef)
    by_cases ht : t < args.length
    · have h1 : args[t]? = some args[t] := by simp [ht]
      have h2 : vs[t]? = some (vs[t]'(by rw [hv.1]; exact ht)) := by simp [hv.1, ht]
      have := hv.2 t _ _ h1 h2
      have e1 : T0 args t = args[t] := by simp [T0, List.getD, ht]
      have e2 : vs.toArray.getD t Go.undef = vs[t]'(by rw [hv.1]; exact ht) := by simp [Array.getD, hv.1, ht]
      rw [e1, e2]; exact this
    · have e1 : T0 args t = .undef := by simp [T0, List.getD, ht]
      rw [e1]; exact .undef _
  have hg : Gh (T0 args) H nx (T0 args') H' nx Hf := by
    refine ⟨hsub, Nat.le_refl _, fun b cs' hb => ?_, fun t => ?_⟩
    · obtain ⟨h1, h2⟩ := hH b cs' hb
      exact .inl ⟨cs', h1, h2, rfl, fun i x x' hx hx' => .inl (by rw [hx] at hx'; cases hx'; rfl)⟩
    · by_cases ht : t < args.length
      · have h1 : args[t]? = some args[t] := by simp [ht]
        have h2 : args'[t]? = some (args'[t]'(by rw [hs.1]; exact ht)) := by simp [hs.1, ht]
        have := hs.2 t _ _ h1 h2
        have e1 : T0 args t = args[t] := by simp [T0, List.getD, ht]
        have e2 : T0 args' t = args'[t]'(by rw [hs.1]; exact ht) := by simp [T0, List.getD, hs.1, ht]
        right; right; left
        rw [e1, e2]; exact this
      · left
        simp [T0, List.getD, hs.1, ht]
  obtain ⟨E', he, hsim'⟩ := hsim.ghost hg
  have hself : SnapL noBoxes args' args' := ⟨rfl, fun i x y hx hy => by
    rw [hx] at hy; cases hy
    have hlt : i < args.length := by rw [← hs.1]; exact (List.getElem?_eq_some_iff.1 hx).1
    exact (hs.2 i args[i] x (by simp [hlt]) hx).self⟩
  have hv' : RelL E' w args' vs := by
    refine ⟨by rw [hv.1, hs.1], fun i x v hx hvi => ?_⟩
    have hlt : i < vs.length := (List.getElem?_eq_some_iff.1 hvi).1
    have hla : i < args'.length := (List.getElem?_eq_some_iff.1 hx).1
    have := hsim'.tmps i
    have e1 : T0 args' i = x := by
      have := (List.getElem?_eq_some_iff.1 hx).2
      simp [T0, List.getD, hx]
    have e2 : vs.toArray.getD i Go.undef = v := by
      have := (List.getElem?_eq_some_iff.1 hvi).2
      simp [Array.getD, hlt, this]
    simp only at this
    rw [e1, e2] at this
    exact this
  refine ((Fn.of_pure hp (.inl hself) (H := H') (nx := nx) (R := R) hR).2 E' w vs hsim'.env hsim'.heap hsim'.fresh hv').mono ?_
  rintro e w' ⟨v, E2, r2, H2, nx2, k1, k2, k3, k4, k5, k6, k7⟩
  exact ⟨v, E2, r2, H2, nx2, k1, he.trans k2, k3, k4, k5, k6, k7⟩

def snapFV (H : Hp) : Nat → AV → Option AV
  | 0, _ => none
  | k + 1, x => match x with
    | .bool b => some (.bool b)
    | .int k n => some (.int k n)
    | .str s => some (.str s)
    | .nilp => some .nilp
    | .nilf => some .nilf
    | .nilm => some .nilm
    | .esl => some .esl
    | .sl sz l => match l with
      | [] => some (.sl sz [])
      | _ :: _ => none
    | .msl b n sz off len => match len with
      | 0 => some (.sl sz [])
      | len + 1 => match H b with
        | some cs => if cs.length = n ∧ off + (len + 1) * sz ≤ n then match optMap (snapFV H k) ((cs.drop off).take ((len + 1) * sz)) with
            | some ds => some (.sl sz (chunk sz (len + 1) ds))
            | none => none
          else none
        | none => none
    | .ptr b n off => match H b with
      | some cs => if cs.length = n then match optMap (snapFV H k) cs with
          | some ds => some (.iptr ds off)
          | none => none
        else none
      | none => none
    | .func f cs => match optMap (snapFV H k) cs with
      | some ds => some (.func f ds)
      | none => none
    | .agg cs => match optMap (snapFV H k) cs with
      | some ds => some (.agg ds)
      | none => none
    | .tup cs => match optMap (snapFV H k) cs with
      | some ds => some (.tup ds)
      | none => none
    | _ => none

theorem snapFV_ok {S H : Hp} (hs : Sub S H) : ∀ (k : Nat) {x y : AV}, snapFV S k x = some y → SnapF H x y
  | 0, _, _, h => by cases h
  | k + 1, x, y, h => by
    have ih := @snapFV_ok S H hs k
    have om : ∀ {l m : List AV}, optMap (snapFV S k) l = some m → m.length = l.length ∧ ∀ (i : Nat) (a c : AV), l[i]? = some a → m[i]? = some c → SnapF H a c := fun hm =>
      ⟨(optMap_ok hm).1, fun i a c ha hc => ih ((optMap_ok hm).2 i a c ha hc)⟩
    cases x <;> simp only [snapFV] at h <;> try (cases h; done)
    case bool => cases h; exact .bool _
    case int => cases h; exact .int _ _
    case str => cases h; exact .str _
    case nilp => cases h; exact .nilp
    case nilf => cases h; exact .nilf
    case nilm => cases h; exact .nilm
    case esl => cases h; exact .esl
    case sl sz l =>
      split at h
      · cases h; exact .slnil _ _
      · cases h
    case msl b n sz off len =>
      split at h
      · cases h; exact .mslnil _ _ _ _ _
      · rename_i len
        split at h
        · rename_i cs hb
          split at h
          · rename_i hc
            split at h
            · rename_i ds hds
              cases h
              obtain ⟨h1, h2⟩ := om hds
              have hdl : ds.length = (len + 1) * sz := by rw [h1, List.length_take, List.length_drop]; omega
              have hg := chunk_get sz (len + 1) ds hdl
              refine .msl b n sz off (len + 1) cs _ (hs _ _ hb) hc.1 hc.2 (chunk_len _ _ _) (fun y hy => ?_) (fun i j y a c hy hc' ha => ?_)
              · obtain ⟨i, hi⟩ := List.getElem?_of_mem hy
                exact (hg i y hi).1
              · obtain ⟨g1, g2⟩ := hg i y hy
                have g3 := g2 j c hc'
                refine h2 (i * sz + j) a c ?_ g3
                have hlt : i * sz + j < (len + 1) * sz := by
                  rw [← hdl]; exact (List.getElem?_eq_some_iff.1 g3).1
                rw [List.getElem?_take, if_pos hlt, List.getElem?_drop, ← ha]
                congr 1; omega
            · cases h
          · cases h
        · cases h
    case ptr b n off =>
      split at h
      · rename_i cs hb
        split at h
        · rename_i hn
          split at h
          · rename_i ds hds
            cases h
            exact .ptr b n off cs ds (hs _ _ hb) hn (by rw [(om hds).1, hn]) (om hds).2
          · cases h
        · cases h
      · cases h
    case func f cs =>
      split at h
      · rename_i ds hds
        cases h
        exact .func f cs ds (om hds).1 (om hds).2
      · cases h
    case agg cs =>
      split at h
      · rename_i ds hds
        cases h
        exact .agg cs ds (om hds).1 (om hds).2
      · cases h
    case tup cs =>
      split at h
      · rename_i ds hds
        cases h
        exact .tup cs ds (om hds).1 (om hds).2
      · cases h

end Go.Abs

/- A run of code at given values: the run, and that the conditions follow from it. -/
namespace Go.Abs
open Go.RowKit

def SF : Nat := 40

abbrev CL := FuncId → List AV → HT → Nat → Option (AV × HT × Nat)
abbrev PC := FuncId → List AV → HT → Option AV

def rins (cl : CL) (pc : PC) (yl : CL) (dm : DM) (i : Ins) (T : TT) (H : HT) (nx : Nat) : Option (AV × HT × Nat) :=
  match ic i with
  | .val => match dm2 dm (toT T) i with
    | true => match ival (toT T) (toH0 H) i with
      | some r => some (r, H, nx)
      | none => none
    | false => none
  | .eff => match dm2 dm (toT T) i with
    | true => reff T H nx i
    | false => none
  | .call => match i with
    | .call f args => match ov (toT T) f with
      | .func g caps => match dm.isText with
        | true => cl g (args.map (ov (toT T)) ++ caps) H nx
        | false => match pc g (args.map (ov (toT T)) ++ caps) H with
          | some r => some (r, H, nx)
          | none => none
      | .bfn g fs => match dm.isText with
        | true => cl g (fs ++ args.map (ov (toT T))) H nx
        | false => none
      | .yld b => match dm.isText with
        | true => yl b (args.map (ov (toT T))) H nx
        | false => none
      | _ => none
    | _ => none
  | .sp => match dm.isText with
    | true => rsp (toT T) H nx i
    | false => none

def rops (cl : CL) (pc : PC) (yl : CL) (dm : DM) : List Op2 → TT → HT → Nat → Option (TT × HT × Nat)
  | [], T, H, nx => some (T, H, nx)
  | o :: l, T, H, nx => match g2 (toT T) o.g with
    | none => none
    | some false => match stT T o.d (.tup []) with
      | some T => rops cl pc yl dm l T H nx
      | none => none
    | some true => match rins cl pc yl dm o.i T H nx with
      | none => none
      | some (r, H, nx) => frV r fun r => match stT T o.d r with
        | some T => rops cl pc yl dm l T H nx
        | none => none

structure CLok (P : Program) (L : LV) (cl : CL) (pc : PC) (yl : CL) : Prop where
  cl : ∀ {g : FuncId} {args : List AV} {H H' : HT} {nx nx' : Nat} {r : AV} {R : AV → Hp → Nat → Prop}, cl g args H nx = some (r, H', nx') → R r (toH L H') nx' → Fn P g args (toH L H) nx R
  pc : ∀ {g : FuncId} {args : List AV} {H : HT} {r : AV}, pc g args H = some r → CallOk P g args (toH L H) r
  yl : ∀ {g : Nat} {args : List AV} {H H' : HT} {nx nx' : Nat} {r : AV} {R : AV → Hp → Nat → Prop}, yl g args H nx = some (r, H', nx') → R r (toH L H') nx' → Yl P g args (toH L H) nx R

theorem rins_ok {P : Program} {L : LV} {cl : CL} {pc : PC} {yl : CL} (hk : CLok P L cl pc yl) {dm : DM} {i : Ins} {T : TT} {H H' : HT} {nx nx' : Nat} {r : AV} {K : AV → Hp → Nat → Prop}
    (h : rins cl pc yl dm i T H nx = some (r, H', nx')) (hK : K r (toH L H') nx') : ains P dm i (toT T) (toH L H) nx K := by
  unfold rins at h
  unfold ains
  cases hi : ic i with
  | val =>
    rw [hi] at h
    simp only at h ⊢
    split at h
    · rename_i hd
      split at h
      · rename_i r' hr
        cases h
        exact ⟨hd, by rw [ival_sub' toH0_sub hr]; exact hK⟩
      · cases h
    · cases h
  | eff =>
    rw [hi] at h
    simp only at h ⊢
    split at h
    · rename_i hd
      exact ⟨hd, by rw [reff_ok h]; exact hK⟩
    · cases h
  | sp =>
    rw [hi] at h
    simp only at h ⊢
    split at h
    · rename_i hd
      exact ⟨hd, rsp_ok h hK⟩
    · cases h
  | call =>
    rw [hi] at h
    simp only at h ⊢
    cases i <;> try (cases hi; done)
    rename_i f args
    simp only at h ⊢
    cases hf : ov (toT T) f <;> rw [hf] at h <;> simp only at h <;> try (cases h; done)
    · rename_i g caps
      left
      show match dm.isText with | false => _ | true => _
      cases hd : dm.isText with
      | true => rw [hd] at h; exact hk.cl h hK
      | false =>
        rw [hd] at h
        simp only at h
        split at h
        · rename_i r' hr
          cases h
          exact ⟨_, hk.pc hr, hK⟩
        · cases h
    · rename_i g fs
      right
      cases hd : dm.isText with
      | true => rw [hd] at h; exact ⟨rfl, .inr ⟨g, fs, rfl, hk.cl h hK⟩⟩
      | false => rw [hd] at h; cases h
    · rename_i b
      right
      cases hd : dm.isText with
      | true => rw [hd] at h; exact ⟨rfl, .inl ⟨b, rfl, hk.yl h hK⟩⟩
      | false => rw [hd] at h; cases h

theorem rops_ok {P : Program} {L : LV} {cl : CL} {pc : PC} {yl : CL} (hk : CLok P L cl pc yl) {dm : DM} {K : SP} : ∀ {l : List Op2} {T T' : TT} {H H' : HT} {nx nx' : Nat},
    rops cl pc yl dm l T H nx = some (T', H', nx') → K (toT T') (toH L H') nx' → aops2 P dm l (toT T) (toH L H) nx K
  | [], _, _, _, _, _, _, h, hK => by cases h; exact hK
  | o :: l, T, T', H, H', nx, nx', h, hK => by
    simp only [rops] at h
    show gbind (g2 (toT T) o.g) _ _
    cases hg : g2 (toT T) o.g with
    | none => rw [hg] at h; cases h
    | some b =>
      rw [hg] at h
      cases b with
      | false =>
        simp only at h
        split at h
        · rename_i T1 hs
          have := rops_ok hk h hK
          rw [toT_st hs] at this
          exact this
        · cases h
      | true =>
        simp only at h
        split at h
        · cases h
        · rename_i r H1 nx1 hr
          simp only [frV_eq] at h
          split at h
          · rename_i T1 hs
            have := rops_ok hk h hK
            rw [toT_st hs] at this
            exact rins_ok (K := fun r H nx => aops2 P dm l (updo (toT T) o.d r) H nx K) hk hr this
          · cases h

/-! ### equal values, where that can be seen -/
def allEq (f : AV → AV → Bool) : List AV → List AV → Bool
  | [], [] => true
  | x :: l, y :: m => match f x y with
    | true => allEq f l m
    | false => false
  | _, _ => false
theorem allEq_ok {f : AV → AV → Bool} (h : ∀ x y, f x y = true → x = y) : ∀ {l m : List AV}, allEq f l m = true → l = m
  | [], [], _ => rfl
  | [], _ :: _, h => by cases h
  | _ :: _, [], h => by cases h
  | x :: l, y :: m, he => by
    simp only [allEq] at he
    split at he
    · rename_i hx
      rw [h _ _ hx, allEq_ok h he]
    · cases he
def avEq : Nat → AV → AV → Bool
  | 0, _, _ => false
  | k + 1, x, y => match x with
    | .undef => match y with
      | .undef => true
      | _ => false
    | .bool a => match y with
      | .bool b => decide (a = b)
      | _ => false
    | .int j a => match y with
      | .int i b => decide (j = i) && decide (a = b)
      | _ => false
    | .str a => match y with
      | .str b => decide (a = b)
      | _ => false
    | .nilp => match y with
      | .nilp => true
      | _ => false
    | .nilf => match y with
      | .nilf => true
      | _ => false
    | .nilm => match y with
      | .nilm => true
      | _ => false
    | .esl => match y with
      | .esl => true
      | _ => false
    | .ptr b n o => match y with
      | .ptr b' n' o' => Nat.beq b b' && Nat.beq n n' && Nat.beq o o'
      | _ => false
    | .msl b n s o l => match y with
      | .msl b' n' s' o' l' => Nat.beq b b' && Nat.beq n n' && Nat.beq s s' && Nat.beq o o' && Nat.beq l l'
      | _ => false
    | .mp b => match y with
      | .mp b' => Nat.beq b b'
      | _ => false
    | .yld b => match y with
      | .yld b' => Nat.beq b b'
      | _ => false
    | .sl s l => match y with
      | .sl s' l' => Nat.beq s s' && allEq (avEq k) l l'
      | _ => false
    | .iptr l s => match y with
      | .iptr l' s' => Nat.beq s s' && allEq (avEq k) l l'
      | _ => false
    | .func s l => match y with
      | .func s' l' => Nat.beq s s' && allEq (avEq k) l l'
      | _ => false
    | .agg l => match y with
      | .agg l' => allEq (avEq k) l l'
      | _ => false
    | .tup l => match y with
      | .tup l' => allEq (avEq k) l l'
      | _ => false
    | _ => false
theorem avEq_ok : ∀ (k : Nat) (x y : AV), avEq k x y = true → x = y
  | 0, _, _, h => by cases h
  | k + 1, x, y, h => by
    have ih : ∀ {l m : List AV}, allEq (avEq k) l m = true → l = m := fun h => allEq_ok (avEq_ok k) h
    cases x <;> simp only [avEq] at h <;> (try (cases h; done)) <;> cases y <;> simp only [Bool.and_eq_true, decide_eq_true_eq] at h <;> (try (cases h; done)) <;> (try rfl)
    · rw [h]
    · rw [h.1, h.2]
    · rw [h]
    · rw [Nat.eq_of_beq_eq_true h.1.1, Nat.eq_of_beq_eq_true h.1.2, Nat.eq_of_beq_eq_true h.2]
    · rw [Nat.eq_of_beq_eq_true h.1, ih h.2]
    · rw [Nat.eq_of_beq_eq_true h.1, ih h.2]
    · rw [Nat.eq_of_beq_eq_true h.1.1.1.1, Nat.eq_of_beq_eq_true h.1.1.1.2, Nat.eq_of_beq_eq_true h.1.1.2, Nat.eq_of_beq_eq_true h.1.2, Nat.eq_of_beq_eq_true h.2]
    · rw [show _ = _ from Nat.eq_of_beq_eq_true h.1, ih h.2]
    · rw [Nat.eq_of_beq_eq_true h]
    · rw [Nat.eq_of_beq_eq_true h]
    · rw [ih h]
    · rw [ih h]

/-! ### regions whose loads look at what stays -/
def loadAt (T : Tm) : Ins → Option Nat
  | .ld1 a => match ov T a with
    | .ptr b _ _ => some b
    | _ => none
  | .ldn _ a => match ov T a with
    | .ptr b _ _ => some b
    | _ => none
  | _ => none
def preIds : List (Op2 × Nat) → TT → HT → List Nat → List Nat
  | [], _, _, acc => acc
  | (o, 0) :: l, T, H, acc => match g2 (toT T) o.g with
    | some true => match ival (toT T) (toH0 H) o.i with
      | some r => match stT T o.d r with
        | some T' => match loadAt (toT T) o.i with
          | some b => preIds l T' H (b :: acc)
          | none => preIds l T' H acc
        | none => acc
      | none => preIds l T H acc
    | _ => preIds l T H acc
  | (_, _ + 1) :: l, T, H, acc => preIds l T H acc
def keepS (H0 H : HT) : List Nat → Bool
  | [] => true
  | b :: l => match toH0 H0 b with
    | none => keepS H0 H l
    | some x => match toH0 H b with
      | some y => match allEq (avEq SF) x y with
        | true => keepS H0 H l
        | false => false
      | none => false
def partS (H0 : HT) (ids : List Nat) : Hp := fun b => match ids.elem b with
  | true => toH0 H0 b
  | false => none
theorem keepS_ok {H0 H : HT} : ∀ {ids : List Nat}, keepS H0 H ids = true → ∀ b cs, ids.elem b = true → toH0 H0 b = some cs → toH0 H b = some cs
  | [], _, b, cs, hb, _ => by cases hb
  | a :: l, h, b, cs, hb, hc => by
    simp only [keepS] at h
    have hb' : b = a ∨ l.elem b = true := by
      rw [List.elem_cons] at hb
      cases e : b == a with
      | true => exact .inl (eq_of_beq e)
      | false => rw [e] at hb; exact .inr hb
    split at h
    · rename_i hn
      rcases hb' with rfl | hb'
      · rw [hn] at hc; cases hc
      · exact keepS_ok h b cs hb' hc
    · rename_i x hx
      split at h
      · rename_i y hy
        split at h
        · rename_i he
          rcases hb' with rfl | hb'
          · rw [hx] at hc; cases hc
            rw [hy, allEq_ok (avEq_ok SF) he]
          · exact keepS_ok h b cs hb' hc
        · cases h
      · cases h
theorem partS_sub {L : LV} {H0 H : HT} {ids : List Nat} (h : keepS H0 H ids = true) : Sub (partS H0 ids) (toH L H) := fun b cs hb => by
  unfold partS at hb
  split at hb
  · rename_i he
    exact toH0_sub b cs (keepS_ok h b cs he hb)
  · cases hb

def rops2S (cl : CL) (pc : PC) (yl : CL) (H0 : HT) (ids : List Nat) : List (Op2 × Nat) → TT → HT → Nat → Option (TT × HT × Nat)
  | [], T, H, nx => some (T, H, nx)
  | (o, 0) :: l, T, H, nx => match g2 (toT T) o.g with
    | none => none
    | some false => match stT T o.d (.tup []) with
      | some T => rops2S cl pc yl H0 ids l T H nx
      | none => none
    | some true => match ival (toT T) (partS H0 ids) o.i with
      | none => none
      | some r => frV r fun r => match stT T o.d r with
        | some T => rops2S cl pc yl H0 ids l T H nx
        | none => none
  | (o, k + 1) :: l, T, H, nx => match g2 (toT T) o.g with
    | none => none
    | some false => match stT T o.d (.tup []) with
      | some T => rops2S cl pc yl H0 ids l T H nx
      | none => none
    | some true => if k = 2 then (match ibld (toT T) o.i with
        | none => none
        | some r => frV r fun r => match stT T o.d r with
          | some T => rops2S cl pc yl H0 ids l T H nx
          | none => none)
      else match rins cl pc yl .text o.i T H nx with
        | none => none
        | some (r, H, nx) => match (match k with | 0 => keepS H0 H ids | _ => true) with
          | true => frV r fun r => match stT T o.d r with
            | some T => rops2S cl pc yl H0 ids l T H nx
            | none => none
          | false => none

theorem rops2S_ok {P : Program} {L : LV} {cl : CL} {pc : PC} {yl : CL} (hk : CLok P L cl pc yl) {H0 : HT} {ids : List Nat} {K : SP} : ∀ {l : List (Op2 × Nat)} {T T' : TT} {H H' : HT} {nx nx' : Nat},
    rops2S cl pc yl H0 ids l T H nx = some (T', H', nx') → K (toT T') (toH L H') nx' → aops2S P (partS H0 ids) l (toT T) (toH L H) nx K
  | [], _, _, _, _, _, _, h, hK => by cases h; exact hK
  | (o, 0) :: l, T, T', H, H', nx, nx', h, hK => by
    simp only [rops2S] at h
    show gbind (g2 (toT T) o.g) _ _
    cases hg : g2 (toT T) o.g with
    | none => rw [hg] at h; cases h
    | some b =>
      rw [hg] at h
      cases b with
      | false =>
        simp only at h
        split at h
        · rename_i T1 hs
          have := rops2S_ok hk h hK
          rw [toT_st hs] at this
          exact this
        · cases h
      | true =>
        simp only at h
        split at h
        · cases h
        · rename_i r hr
          simp only [frV_eq] at h
          split at h
          · rename_i T1 hs
            have := rops2S_ok hk h hK
            rw [toT_st hs] at this
            show obind (ival (toT T) (partS H0 ids) o.i) _
            rw [hr]; exact this
          · cases h
  | (o, k + 1) :: l, T, T', H, H', nx, nx', h, hK => by
    simp only [rops2S] at h
    show gbind (g2 (toT T) o.g) _ _
    cases hg : g2 (toT T) o.g with
    | none => rw [hg] at h; cases h
    | some b =>
      rw [hg] at h
      cases b with
      | false =>
        simp only at h
        split at h
        · rename_i T1 hs
          have := rops2S_ok hk h hK
          rw [toT_st hs] at this
          exact this
        · cases h
      | true =>
        simp only at h
        show if k = 2 then _ else _
        split at h
        · rename_i h2
          rw [if_pos h2]
          split at h
          · cases h
          · rename_i r hr
            simp only [frV_eq] at h
            split at h
            · rename_i T1 hs
              have := rops2S_ok hk h hK
              rw [toT_st hs] at this
              rw [hr]; exact this
            · cases h
        · rename_i h2
          rw [if_neg h2]
          split at h
          · cases h
          · rename_i r H1 nx1 hr
            split at h
            · rename_i hkeep
              simp only [frV_eq] at h
              split at h
              · rename_i T1 hs
                have := rops2S_ok hk h hK
                rw [toT_st hs] at this
                refine rins_ok (K := fun r H' nx' => (k = 0 → Sub (partS H0 ids) H') ∧ aops2S P (partS H0 ids) l (updo (toT T) o.d r) H' nx' K) hk hr ⟨fun hk0 => ?_, this⟩
                subst hk0
                exact partS_sub hkeep
              · cases h
            · cases h

def rres (T : Tm) (H : Hp) : List RV → Option AV
  | [] => some (.tup [])
  | [a] => rv T H a
  | [a, b] => match rv T H a, rv T H b with
    | some x, some y => some (.tup [x, y])
    | _, _ => none
  | [a, b, c] => match rv T H a, rv T H b, rv T H c with
    | some x, some y, some z => some (.tup [x, y, z])
    | _, _, _ => none
  | _ => none
theorem rres_ok {T : Tm} {S H : Hp} (hs : Sub S H) {l : List RV} {r : AV} {K : AV → Prop} (h : rres T S l = some r) (hK : K r) : res1 T H K l := by
  rcases l with _ | ⟨a, _ | ⟨b, _ | ⟨c, _ | ⟨d, l⟩⟩⟩⟩ <;> simp only [rres] at h
  · cases h; exact hK
  · exact r_1 (rv_sub hs h) hK
  · split at h
    · rename_i x y hx hy
      cases h; exact r_2 (rv_sub hs hx) (rv_sub hs hy) hK
    · cases h
  · split at h
    · rename_i x y z hx hy hz
      cases h; exact r_3 (rv_sub hs hx) (rv_sub hs hy) (rv_sub hs hz) hK
    · cases h
  · cases h

structure LFr where
  y : Nat
  ps : List Nat
  a : C2
  b : C2
  T : TT

abbrev RN := List LFr → C2 → TT → HT → Nat → Option (AEx × TT × HT × Nat)

def callT (code : FuncId → Option F2) (rn : RN) (fr : List LFr) : CL := fun g args H nx =>
  match code g with
  | none => none
  | some F => if args.length ≤ F.n then match ofArgs args with
      | none => none
      | some T => match rn fr F.body T H nx with
        | none => none
        | some (e, T', H', nx') => match e.ends with
          | true => match rres (toT T') (toH0 H') F.res with
            | some r => frV r fun r => some (r, H', nx')
            | none => none
          | false => none
    else none

def callP (code : FuncId → Option F2) (rn : RN) : PC := fun g args H =>
  match optMap (snapV noBoxes SF) args with
  | some a => match callT code rn [] g a .leaf 0 with
    | some (v, H', _) => snapV (toH0 H') SF v
    | none => none
  | none => match optMap (snapV (toH0 H) SF) args with
    | some a => match callT code rn [] g a .leaf 0 with
      | some (v, H', _) => match snapV (toH0 H') SF v with
        | some r => match r.sca with
          | true => some r
          | false => snapFV (toH0 H') SF v
        | none => none
      | none => none
    | none => none

def reach (H : Hp) : Nat → List AV → List Nat → List Nat
  | 0, _, acc => acc
  | _ + 1, [], acc => acc
  | k + 1, x :: l, acc => match x with
    | .msl b _ _ _ _ => match acc.elem b with
      | true => reach H k l acc
      | false => reach H k ((H b).getD [] ++ l) (b :: acc)
    | .ptr b _ _ => match acc.elem b with
      | true => reach H k l acc
      | false => reach H k ((H b).getD [] ++ l) (b :: acc)
    | .sl _ cs => reach H k (cs ++ l) acc
    | .iptr cs _ => reach H k (cs ++ l) acc
    | .func _ cs => reach H k (cs ++ l) acc
    | .agg cs => reach H k (cs ++ l) acc
    | .tup cs => reach H k (cs ++ l) acc
    | _ => reach H k l acc
def RF2 : Nat := 100000

def delAll : List Nat → HT → Option HT
  | [], H => some H
  | b :: l, H => match PT.set LIM H b none with
    | some H => delAll l H
    | none => none

def callZ (code : FuncId → Option F2) (rn : RN) : CL := fun g args H nx =>
  match optMap (snapV noBoxes SF) args with
  | some a => match callT code rn [] g a .leaf 0 with
    | some (v, H', _) => match snapV (toH0 H') SF v with
      | some r => some (r, H, nx)
      | none => none
    | none => none
  | none => match optMap (snapV (toH0 H) SF) args with
    | some a => match callT code rn [] g a .leaf 0 with
      | some (v, H', _) => match snapV (toH0 H') SF v with
        | some r => match r.sca with
          | true => some (r, H, nx)
          | false => match snapFV (toH0 H') SF v with
            | some r => some (r, H, nx)
            | none => match delAll (reach (toH0 H) RF2 args []) H with
              | some H2 => match optMap (snapV (fun b => match (toH0 H2 b).isSome with | true => none | false => toH0 H b) SF) args with
                | some a2 => match callT code rn [] g a2 .leaf 0 with
                  | some (v, H', _) => match snapV (toH0 H') SF v with
                    | some r => some (r, H2, nx)
                    | none => none
                  | none => none
                | none => none
              | none => none
        | none => none
      | none => none
    | none => none

def callX (code : FuncId → Option F2) (pf : FuncId → Bool) (rn : RN) (fr : List LFr) : CL := fun g args H nx =>
  match pf g with
  | true => callZ code rn g args H nx
  | false => callT code rn fr g args H nx

def findF : List LFr → Nat → Option (LFr × List LFr)
  | [], _ => none
  | F :: l, y => match Nat.beq F.y y with
    | true => some (F, l)
    | false => findF l y

def stL (T : TT) : List Nat → List AV → Option TT
  | t :: ts, x :: xs => match PT.set LIM T t (some x) with
    | some T => stL T ts xs
    | none => none
  | _, _ => some T

def isNormal : AEx → Bool
  | .normal => true
  | _ => false

def yldT (rn : RN) (fr : List LFr) : CL := fun y args H nx =>
  match findF fr y with
  | none => none
  | some (F, l) => match H.get y with
    | some (.mark none) => match Nat.beq args.length F.ps.length with
      | true => match stL F.T F.ps args with
        | none => none
        | some T1 => match rn l F.a T1 H nx with
          | some (.normal, T2, H2, nx2) => match H2.get y with
            | some (.mark none) => match PT.set LIM H2 y none with
              | none => none
              | some H3 => match rn l F.b T2 H3 nx2 with
                | none => none
                | some (e, T4, H4, nx4) => match e with
                  | .normal => match PT.set LIM H4 y (some (.mark none)) with
                    | some H5 => some (.bool true, H5, nx4)
                    | none => none
                  | e => match PT.set LIM H4 y (some (.mark (some e))) with
                    | some H5 => some (.bool false, H5, nx4)
                    | none => none
            | _ => none
          | _ => none
      | false => none
    | _ => none

def dmOf (m nx : Nat) : DM := match m with
  | 0 => .text
  | 1 => .draw
  | _ => .fresh nx
def dmOf' (m nx : Nat) : DM := match m with
  | 1 => .draw
  | _ => .fresh nx

def pack (x : Option (TT × HT × Nat)) : Option (AEx × TT × HT × Nat) := match x with
  | some (T, H, nx) => some (.normal, T, H, nx)
  | none => none

def run (code : FuncId → Option F2) (pf : FuncId → Bool) : Nat → RN
  | 0, _, _, _, _, _ => none
  | n + 1, fr, c, T, H, nx => match c with
    | .skip => some (.normal, T, H, nx)
    | .exit i => some (.exit i, T, H, nx)
    | .ret => some (.ret, T, H, nx)
    | .ops m l => pack (rops (callX code pf (run code pf n) fr) (callP code (run code pf n)) (yldT (run code pf n) fr) (dmOf m nx) l T H nx)
    | .mix m l C => match Nat.beq m 9 with
      | true => pack (rops (callX code pf (run code pf n) fr) (callP code (run code pf n)) (yldT (run code pf n) fr) .text (C.map fun k => l.getD k ⟨none, none, .dead⟩) T H nx)
      | false => match rops (callX code pf (run code pf n) fr) (callP code (run code pf n)) (yldT (run code pf n) fr) (dmOf' m nx) l T H nx with
        | some x => pack (some x)
        | none => pack (rops (callX code pf (run code pf n) fr) (callP code (run code pf n)) (yldT (run code pf n) fr) .text (C.map fun k => l.getD k ⟨none, none, .dead⟩) T H nx)
    | .mixS m l C => match (match Nat.beq m 9 with
        | true => none
        | false => rops (callX code pf (run code pf n) fr) (callP code (run code pf n)) (yldT (run code pf n) fr) (dmOf' m nx) l T H nx) with
      | some x => pack (some x)
      | none => match keepS H H (preIds (C.map fun k => (l.getD k.1 ⟨none, none, .dead⟩, k.2)) T H []) with
        | true => pack (rops2S (callX code pf (run code pf n) fr) (callP code (run code pf n)) (yldT (run code pf n) fr) H (preIds (C.map fun k => (l.getD k.1 ⟨none, none, .dead⟩, k.2)) T H []) (C.map fun k => (l.getD k.1 ⟨none, none, .dead⟩, k.2)) T H nx)
        | false => none
    | .seq a b => match run code pf n fr a T H nx with
      | some (.normal, T, H, nx) => run code pf n fr b T H nx
      | r => r
    | .cond c a b => match ov (toT T) c with
      | .bool true => run code pf n fr a T H nx
      | .bool false => run code pf n fr b T H nx
      | _ => none
    | .block id b => match run code pf n fr b T H nx with
      | some (e, T, H, nx) => some (ablock id e, T, H, nx)
      | none => none
    | .loop b => match run code pf n fr b T H nx with
      | some (.normal, T, H, nx) => run code pf n fr (.loop b) T H nx
      | r => r
    | .rangeF g ps a b => match ov (toT T) g with
      | .func f caps => match findF fr nx with
        | some _ => none
        | none => match PT.set LIM H nx (some (.mark none)) with
          | none => none
          | some H1 => match callT code (run code pf n) (⟨nx, ps, a, b, T⟩ :: fr) f (.yld nx :: caps) H1 (nx + 1) with
            | none => none
            | some (_, H2, nx2) => match H2.get nx with
              | some (.mark st) => match PT.set LIM H2 nx none with
                | none => none
                | some H3 => match st with
                  | none => some (.normal, T, H3, nx2)
                  | some e => match isNormal e with
                    | true => none
                    | false => some (e, T, H3, nx2)
              | _ => none
      | _ => none

def Codes (P : Program) (code : FuncId → Option F2) : Prop := ∀ {f : FuncId} {F : F2}, code f = some F → Is P f F

def FramesOk (P : Program) (L : LV) : List LFr → Prop
  | [] => True
  | F :: fr => (∀ (args : List AV) (H' : Hp) (nx' : Nat) (K' : AV → Hp → Nat → Prop), H' F.y = some (L F.y none) → args.length = F.ps.length →
        awp2 P F.a (updl (toT F.T) F.ps args) H' nx' (fun e T2 H2 nx2 => athen e (H2 F.y = some (L F.y none) ∧ awp2 P F.b T2 (hdel H2 F.y) nx2 fun e T3 H3 nx3 => athen e (K' (.bool true) (hupd H3 F.y (L F.y none)) nx3) (K' (.bool false) (hupd H3 F.y (L F.y (some e))) nx3)) False) →
        Yl P F.y args H' nx' K') ∧ FramesOk P L fr

def named : List Nat → FuncId → Bool
  | [], _ => false
  | k :: l, f => match Nat.beq k f with
    | true => true
    | false => named l f

theorem findF_ok {P : Program} {L : LV} : ∀ {fr : List LFr} {y : Nat} {F : LFr} {l : List LFr}, FramesOk P L fr → findF fr y = some (F, l) → F.y = y ∧ FramesOk P L (F :: l)
  | [], _, _, _, _, h => by cases h
  | G :: fr, y, F, l, hf, h => by
    simp only [findF] at h
    split at h
    · rename_i e
      cases h
      exact ⟨Nat.eq_of_beq_eq_true e, hf⟩
    · exact findF_ok hf.2 h
theorem findF_none {P : Program} {L L' : LV} {y : Nat} (hL : ∀ b e, b ≠ y → L' b e = L b e) : ∀ {fr : List LFr}, FramesOk P L fr → findF fr y = none → FramesOk P L' fr
  | [], _, _ => trivial
  | G :: fr, hf, h => by
    simp only [findF] at h
    split at h
    · cases h
    · rename_i e
      have hne : G.y ≠ y := fun he => by rw [he, Nat.beq_refl] at e; cases e
      refine ⟨?_, findF_none hL hf.2 h⟩
      have h1 : ∀ e, L' G.y e = L G.y e := fun e => hL _ _ hne
      simp only [h1]
      exact hf.1
theorem stL_ok : ∀ {ts : List Nat} {xs : List AV} {T T' : TT}, stL T ts xs = some T' → toT T' = updl (toT T) ts xs
  | [], _, _, _, h => by cases h; rfl
  | _ :: _, [], _, _, h => by cases h; rfl
  | t :: ts, x :: xs, T, T', h => by
    simp only [stL] at h
    split at h
    · rename_i T1 h1
      rw [stL_ok h, toT_set h1]
      rfl
    · cases h

structure RunOk (P : Program) (rn : RN) : Prop where
  ok : ∀ {L : LV} {fr : List LFr} {c : C2} {T T' : TT} {H H' : HT} {nx nx' : Nat} {e : AEx} {K : CP}, FramesOk P L fr → rn fr c T H nx = some (e, T', H', nx') → K e (toT T') (toH L H') nx' → awp2 P c (toT T) (toH L H) nx K

theorem callT_body {P : Program} {code : FuncId → Option F2} (hc : Codes P code) {rn : RN} (hr : RunOk P rn) {L : LV} {fr : List LFr} (hf : FramesOk P L fr) {g : FuncId} {args : List AV} {H H' : HT} {nx nx' : Nat} {r : AV}
    (h : callT code rn fr g args H nx = some (r, H', nx')) : ∃ F, Is P g F ∧ args.length ≤ F.n ∧ ∀ K : AV → Hp → Nat → Prop, K r (toH L H') nx' → awp2 P F.body (T0 args) (toH L H) nx fun e T H nx => bbind e.ends (res1 T H (fun x => K x H nx) F.res) := by
  unfold callT at h
  split at h
  · cases h
  · rename_i F hF
    split at h
    · rename_i hl
      split at h
      · cases h
      · rename_i T hT
        split at h
        · cases h
        · rename_i e T' H1 nx1 hrun
          split at h
          · rename_i he
            split at h
            · rename_i r1 hres
              simp only [frV_eq] at h
              cases h
              refine ⟨F, hc hF, hl, fun K hK => ?_⟩
              rw [← ofArgs_ok hT]
              exact hr.ok hf hrun ⟨he, rres_ok toH0_sub hres hK⟩
            · cases h
          · cases h
    · cases h

def L0 : LV := fun _ _ => []

theorem callP_ok {P : Program} {code : FuncId → Option F2} (hm : P.follows .mixedOrders = true) (hc : Codes P code) {rn : RN} (hr : RunOk P rn) {L : LV} {g : FuncId} {args : List AV} {H : HT} {r : AV} (h : callP code rn g args H = some r) : CallOk P g args (toH L H) r := by
    have hf0 : FramesOk P L0 [] := trivial
    have n0 : Sub noBoxes noBoxes := fun _ _ h => h
    unfold callP at h
    split at h
    · rename_i a ha
      split at h
      · rename_i v H' nx' hcall
        obtain ⟨F, h1, h2, h3⟩ := callT_body hc hr hf0 hcall
        have hp : Pure P g a r := Pure.of_c2 hm h1 h2 (h3 (fun x H _ => Snap H x r) (snapV_ok toH0_sub _ h))
        obtain ⟨o1, o2⟩ := optMap_ok ha
        exact hp.callOk (.inl ⟨o1, fun i x y hx hy => snapV_ok n0 _ (o2 i x y hx hy)⟩)
      · cases h
    · split at h
      · rename_i a ha
        obtain ⟨o1, o2⟩ := optMap_ok ha
        have hs : SnapL (toH L H) args a := ⟨o1, fun i x y hx hy => snapV_ok toH0_sub _ (o2 i x y hx hy)⟩
        split at h
        · rename_i v H' nx' hcall
          obtain ⟨F, h1, h2, h3⟩ := callT_body hc hr hf0 hcall
          split at h
          · rename_i r1 hr1
            split at h
            · rename_i hsc
              cases h
              have hp : Pure P g a r := Pure.of_c2 hm h1 h2 (h3 (fun x H _ => Snap H x r) (snapV_ok toH0_sub _ hr1))
              exact hp.callOk (.inr ⟨hs, hsc⟩)
            · have hp : PureF P g a r := PureF.of_c2 hm h1 h2 (h3 (fun x H _ => SnapF H x r) (snapFV_ok toH0_sub _ h))
              exact hp.callOk hs
          · cases h
        · cases h
      · cases h

theorem delAll_get : ∀ {l : List Nat} {H H2 : HT}, delAll l H = some H2 → ∀ {b : Nat} {c : BC}, H2.get b = some c → H.get b = some c
  | [], _, _, h, _, _, hb => by cases h; exact hb
  | b :: l, H, H2, h, b', c, hb => by
    simp only [delAll] at h
    split at h
    · rename_i H1 h1
      have := delAll_get h hb
      rw [PT.get_set _ h1] at this
      split at this
      · cases this
      · exact this
    · cases h
theorem delAll_ok {L : LV} : ∀ {l : List Nat} {H H2 : HT}, delAll l H = some H2 → ∀ b cs, toH L H2 b = some cs → toH L H b = some cs
  | [], _, _, h => by cases h; exact fun _ _ h => h
  | b :: l, H, H2, h => by
    simp only [delAll] at h
    split at h
    · rename_i H1 h1
      intro b' cs hb
      have := delAll_ok h b' cs hb
      rw [toH_del h1] at this
      exact (hdel_some this).2
    · cases h

theorem callZ_ok {P : Program} {code : FuncId → Option F2} (hm : P.follows .mixedOrders = true) (hc : Codes P code) {rn : RN} (hr : RunOk P rn) {L : LV} {g : FuncId} {args : List AV} {H H2 : HT} {nx nx' : Nat} {r : AV} {R : AV → Hp → Nat → Prop} (h : callZ code rn g args H nx = some (r, H2, nx')) (hR : R r (toH L H2) nx') : Fn P g args (toH L H) nx R := by
  have hf0 : FramesOk P L0 [] := trivial
  have n0 : Sub noBoxes noBoxes := fun _ _ h => h
  unfold callZ at h
  split at h
  · rename_i a ha
    split at h
    · rename_i v H' nx1 hcall
      split at h
      · rename_i r1 hr1
        cases h
        obtain ⟨F, h1, h2, h3⟩ := callT_body hc hr hf0 hcall
        have hp : Pure P g a r := Pure.of_c2 hm h1 h2 (h3 (fun x H _ => Snap H x r) (snapV_ok toH0_sub _ hr1))
        obtain ⟨o1, o2⟩ := optMap_ok ha
        exact Fn.of_pure hp (.inl ⟨o1, fun i x y hx hy => snapV_ok n0 _ (o2 i x y hx hy)⟩) hR
      · cases h
    · cases h
  · split at h
    · rename_i a ha
      obtain ⟨o1, o2⟩ := optMap_ok ha
      have hs : SnapL (toH L H) args a := ⟨o1, fun i x y hx hy => snapV_ok toH0_sub _ (o2 i x y hx hy)⟩
      split at h
      · rename_i v H' nx1 hcall
        obtain ⟨F, h1, h2, h3⟩ := callT_body hc hr hf0 hcall
        split at h
        · rename_i r1 hr1
          split at h
          · rename_i hsc
            cases h
            have hp : Pure P g a r := Pure.of_c2 hm h1 h2 (h3 (fun x H _ => Snap H x r) (snapV_ok toH0_sub _ hr1))
            exact Fn.of_pure hp (.inr ⟨hs, hsc⟩) hR
          · split at h
            · rename_i r2 hr2
              cases h
              have hp : PureF P g a r := PureF.of_c2 hm h1 h2 (h3 (fun x H _ => SnapF H x r) (snapFV_ok toH0_sub _ hr2))
              exact Fn.of_callOk (hp.callOk hs) hR
            · split at h
              · rename_i H3 hdel
                split at h
                · rename_i a2 ha2
                  obtain ⟨q1, q2⟩ := optMap_ok ha2
                  split at h
                  · rename_i v2 H4 nx4 hcall2
                    obtain ⟨F2, k1, k2, k3⟩ := callT_body hc hr hf0 hcall2
                    split at h
                    · rename_i r2 hr2
                      cases h
                      have hp : Pure P g a2 r := Pure.of_c2 hm k1 k2 (k3 (fun x H _ => Snap H x r) (snapV_ok toH0_sub _ hr2))
                      have hsubF : Sub (fun b => match (toH0 H2 b).isSome with | true => none | false => toH0 H b) (fun b => match (toH0 H2 b).isSome with | true => none | false => toH0 H b) := fun _ _ h => h
                      refine Fn.of_pureZ (Hf := fun b => match (toH0 H2 b).isSome with | true => none | false => toH0 H b) hp (fun b cs hb => ?_) (fun b cs hb => ⟨delAll_ok hdel b cs hb, ?_⟩) ⟨q1, fun i x y hx hy => snapV_ok hsubF _ (q2 i x y hx hy)⟩ hR
                      · split at hb
                        · cases hb
                        · exact toH0_sub b cs hb
                      · split
                        · rfl
                        · rename_i hn
                          -- a mark
                          have := delAll_ok hdel b cs hb
                          unfold toH0 at hn ⊢
                          unfold toH at hb this
                          cases hg : H2.get b with
                          | none => rw [hg] at hb; cases hb
                          | some c =>
                            cases c with
                            | cells cs' => rw [hg] at hn; cases hn
                            | mark e =>
                              cases hg2 : H.get b with
                              | none => rfl
                              | some c2 => cases c2 with
                                | mark e2 => rfl
                                | cells cs2 => exact absurd (delAll_get hdel hg) (by rw [hg2]; intro h; cases h)
                    · cases h
                  · cases h
                · cases h
              · cases h
        · cases h
      · cases h
    · cases h

theorem calls_ok {P : Program} {code : FuncId → Option F2} {pf : FuncId → Bool} (hm : P.follows .mixedOrders = true) (hc : Codes P code) {rn : RN} (hr : RunOk P rn) {L : LV} {fr : List LFr} (hf : FramesOk P L fr) : CLok P L (callX code pf rn fr) (callP code rn) (yldT rn fr) where
  cl := fun {g args H H' nx nx' r R} h hR => by
    unfold callX at h
    split at h
    · exact callZ_ok hm hc hr h hR
    · obtain ⟨F, h1, h2, h3⟩ := callT_body hc hr hf h
      exact Fn.of_c2 hm h1 h2 (h3 _ hR)
  pc := fun {g args H r} h => callP_ok hm hc hr h
  yl := fun {y args H H' nx nx' r R} h hR => by
    unfold yldT at h
    split at h
    · cases h
    · rename_i F l hF
      obtain ⟨rfl, hfr⟩ := findF_ok hf hF
      obtain ⟨hy, hl⟩ := hfr
      split at h
      · rename_i hg
        split at h
        · rename_i hlen
          split at h
          · cases h
          · rename_i T1 hT1
            split at h
            · rename_i T2 H2 nx2 hrun
              split at h
              · rename_i hg2
                split at h
                · cases h
                · rename_i H3 hdel3
                  split at h
                  · cases h
                  · rename_i e T4 H4 nx4 hrun2
                    refine hy args (toH L H) nx R (by simp only [toH, hg, bcL]) (Nat.eq_of_beq_eq_true hlen) ?_
                    rw [← stL_ok hT1]
                    refine hr.ok (K := fun e T2 H2 nx2 => athen e (H2 F.y = some (L F.y none) ∧ awp2 P F.b T2 (hdel H2 F.y) nx2 fun e T3 H3 nx3 => athen e (R (.bool true) (hupd H3 F.y (L F.y none)) nx3) (R (.bool false) (hupd H3 F.y (L F.y (some e))) nx3)) False) hl hrun ⟨by simp only [toH, hg2, bcL], ?_⟩
                    rw [← toH_del hdel3]
                    refine hr.ok hl hrun2 ?_
                    cases e with
                    | normal =>
                      simp only at h
                      split at h
                      · rename_i H5 h5
                        cases h
                        rw [toH_mark h5] at hR
                        exact hR
                      · cases h
                    | exit i =>
                      simp only at h
                      split at h
                      · rename_i H5 h5
                        cases h
                        rw [toH_mark h5] at hR
                        exact hR
                      · cases h
                    | ret =>
                      simp only at h
                      split at h
                      · rename_i H5 h5
                        cases h
                        rw [toH_mark h5] at hR
                        exact hR
                      · cases h
              · cases h
            · cases h
        · cases h
      · cases h

theorem pack_ok {x : Option (TT × HT × Nat)} {e : AEx} {T : TT} {H : HT} {nx : Nat} (h : pack x = some (e, T, H, nx)) : x = some (T, H, nx) ∧ e = .normal := by
  unfold pack at h
  split at h
  · cases h; exact ⟨rfl, rfl⟩
  · cases h

theorem run_ok {P : Program} {code : FuncId → Option F2} {pf : FuncId → Bool} (hm : P.follows .mixedOrders = true) (hc : Codes P code) : ∀ n, RunOk P (run code pf n)
  | 0 => ⟨fun _ h => by cases h⟩
  | n + 1 => by
    refine ⟨?_⟩
    intro L fr c T T' H H' nx nx' e K hf h hK
    have ih : RunOk P (run code pf n) := run_ok hm hc n
    have hk := calls_ok (pf := pf) hm hc ih hf
    cases c with
    | skip => cases h; exact hK
    | exit i => cases h; exact hK
    | ret => cases h; exact hK
    | ops m l =>
      obtain ⟨h1, rfl⟩ := pack_ok h
      have := rops_ok hk (K := K .normal) h1 hK
      refine ⟨_, _, _, _, Gh.refl _ _ _, ?_⟩
      unfold dmOf at this
      exact this
    | mix m l C =>
      simp only [run] at h
      split at h
      · obtain ⟨h1, rfl⟩ := pack_ok h
        exact .inr ⟨_, _, _, _, Gh.refl _ _ _, rops_ok hk (K := K .normal) h1 hK⟩
      · rename_i hb
        split at h
        · rename_i x hx
          obtain ⟨h1, rfl⟩ := pack_ok h
          cases h1
          have := rops_ok hk (K := K .normal) hx hK
          refine .inl ⟨fun e => ?_, _, _, _, _, Gh.refl _ _ _, ?_⟩
          · subst e; cases hb
          · unfold dmOf' at this; exact this
        · obtain ⟨h1, rfl⟩ := pack_ok h
          exact .inr ⟨_, _, _, _, Gh.refl _ _ _, rops_ok hk (K := K .normal) h1 hK⟩
    | mixS m l C =>
      simp only [run] at h
      split at h
      · rename_i x hx
        split at hx
        · cases hx
        · rename_i hb
          obtain ⟨h1, rfl⟩ := pack_ok h
          cases h1
          have := rops_ok hk (K := K .normal) hx hK
          refine .inl ⟨fun e => ?_, _, _, _, _, Gh.refl _ _ _, ?_⟩
          · subst e; cases hb
          · unfold dmOf' at this; exact this
      · split at h
        · rename_i hkeep
          obtain ⟨h1, rfl⟩ := pack_ok h
          exact .inr ⟨_, _, _, _, _, Gh.refl _ _ _, partS_sub hkeep, rops2S_ok hk (K := K .normal) h1 hK⟩
        · cases h
    | seq a b =>
      simp only [run] at h
      split at h
      · rename_i T1 H1 nx1 h1
        exact w_seq (ih.ok (K := fun e T H nx => athen e (awp2 P b T H nx K) (K e T H nx)) hf h1 (ih.ok hf h hK))
      · rename_i hne
        refine w_seq (ih.ok (K := fun e T H nx => athen e (awp2 P b T H nx K) (K e T H nx)) hf h ?_)
        cases e with
        | normal => exact absurd h (hne _ _ _)
        | exit i => exact hK
        | ret => exact hK
    | cond c a b =>
      simp only [run] at h
      split at h
      · rename_i hv
        exact w_condT hv (ih.ok hf h hK)
      · rename_i hv
        exact w_condF hv (ih.ok hf h hK)
      · cases h
    | block id b =>
      simp only [run] at h
      split at h
      · rename_i e1 T1 H1 nx1 h1
        cases h
        exact w_block (ih.ok (K := fun e T H nx => K (ablock id e) T H nx) hf h1 hK)
      · cases h
    | loop b =>
      simp only [run] at h
      split at h
      · rename_i T1 H1 nx1 h1
        obtain ⟨k, hl⟩ := ih.ok hf h hK
        exact ⟨k + 1, _, _, _, _, Gh.refl _ _ _, ih.ok (K := fun e T H nx => athen e (aloopN (awp2 P b) K k T H nx) (K e T H nx)) hf h1 hl⟩
      · rename_i hne
        refine ⟨1, _, _, _, _, Gh.refl _ _ _, ih.ok (K := fun e T H nx => athen e (aloopN (awp2 P b) K 0 T H nx) (K e T H nx)) hf h ?_⟩
        cases e with
        | normal => exact absurd h (hne _ _ _)
        | exit i => exact hK
        | ret => exact hK
    | rangeF g ps a b =>
      simp only [run] at h
      split at h
      · rename_i f caps hg
        split at h
        · cases h
        · rename_i hnone
          split at h
          · cases h
          · rename_i H1 hset
            split at h
            · cases h
            · rename_i v H2 nx2 hcall
              split at h
              · rename_i st hst
                split at h
                · cases h
                · rename_i H3 hdel3
                  refine w_rangeF hg fun c0 cj hy => ?_
                  let L' : LV := fun b e => if b = nx then (match e with | none => [c0] | some e => [cj e]) else L b e
                  have hL : ∀ b e, b ≠ nx → L' b e = L b e := fun b e hb => if_neg hb
                  have hn : L' nx none = [c0] := if_pos rfl
                  have hs : ∀ e, L' nx (some e) = [cj e] := fun e => if_pos rfl
                  have hf' : FramesOk P L' (⟨nx, ps, a, b, T⟩ :: fr) := by
                    refine ⟨?_, findF_none hL hf hnone⟩
                    intro args H' nx' K' h1 h2 h3
                    simp only [hn, hs] at h1 h3
                    exact hy args H' nx' K' h1 h2 h3
                  have e1 : hupd (toH L H) nx [c0] = toH L' H1 := by
                    rw [toH_mark hset, hn]
                    funext m
                    simp only [hupd]
                    split
                    · rfl
                    · rename_i hm
                      simp only [toH]
                      cases H.get m with
                      | none => rfl
                      | some x => cases x with
                        | cells cs => rfl
                        | mark e => simp only [bcL, hL m e hm]
                  have e2 : hdel (toH L' H2) nx = toH L H3 := by
                    rw [toH_del hdel3]
                    funext m
                    simp only [hdel]
                    split
                    · rfl
                    · rename_i hm
                      simp only [toH]
                      cases H2.get m with
                      | none => rfl
                      | some x => cases x with
                        | cells cs => rfl
                        | mark e => simp only [bcL, hL m e hm]
                  rw [e1]
                  obtain ⟨F, k1, k2, k3⟩ := callT_body hc ih hf' hcall
                  refine Fn.of_c2 hm k1 k2 (k3 _ ?_)
                  cases st with
                  | none =>
                    cases h
                    left
                    refine ⟨by simp only [toH, hst, bcL, hn], ?_⟩
                    rw [e2]; exact hK
                  | some e1' =>
                    simp only at h
                    split at h
                    · cases h
                    · rename_i hnn
                      cases h
                      right
                      refine ⟨e, (fun hh => by rw [hh] at hnn; cases hnn), by simp only [toH, hst, bcL, hs], ?_⟩
                      rw [e2]; exact hK
              · cases h
      · cases h

def runP (code : FuncId → Option F2) (pf : FuncId → Bool) (n : Nat) (f : FuncId) (args : List AV) (good : AV → Bool) : Bool :=
  match callT code (run code pf n) [] f args .leaf 0 with
  | some (v, H', _) => match snapV (toH0 H') SF v with
    | some r => good r
    | none => false
  | none => false

theorem Pure.of_run {P : Program} {code : FuncId → Option F2} {pf : FuncId → Bool} (hm : P.follows .mixedOrders = true) (hc : Codes P code) {n : Nat} {f : FuncId} {args : List AV} {good : AV → Bool} {r : AV} (h : runP code pf n f args good = true) (hg : ∀ x, good x = true → x = r) : Pure P f args r := by
  unfold runP at h
  split at h
  · rename_i v H' nx' hcall
    split at h
    · rename_i r1 hr1
      have := hg _ h
      subst this
      obtain ⟨F, h1, h2, h3⟩ := callT_body hc (run_ok hm hc n) (L := L0) (fr := []) trivial hcall
      exact Pure.of_c2 hm h1 h2 (h3 (fun x H _ => Snap H x r1) (snapV_ok toH0_sub _ hr1))
    · cases h
  · cases h

def isTrue : AV → Bool | .bool true => true | _ => false
theorem isTrue_eq : ∀ x, isTrue x = true → x = .bool true := by
  intro x h
  cases x <;> try (cases h; done)
  rename_i b
  cases b
  · cases h
  · rfl

def lookup : List (Nat × F2) → FuncId → Option F2
  | [], _ => none
  | (k, F) :: l, f => match Nat.beq k f with
    | true => some F
    | false => lookup l f
theorem codes_nil {P : Program} : Codes P (lookup []) := fun h => by cases h
theorem codes_cons {P : Program} {k : Nat} {F : F2} {l : List (Nat × F2)} (h : Is P k F) (hs : Codes P (lookup l)) : Codes P (lookup ((k, F) :: l)) := fun {f F'} hf => by
  simp only [lookup] at hf
  split at hf
  · rename_i e
    cases hf
    rw [Nat.eq_of_beq_eq_true e] at h
    exact h
  · exact hs hf

end Go.Abs

/- Arguments: from the reading of a statement to abstract values. -/
namespace Go.Abs
open Go Go.RowKit

def oldB (W : World) : Nat → Prop := fun b => b < W.heap.size

theorem oldB_cell {W : World} {a : Addr} {v : Value} (h : W.cell? a = some v) : oldB W a.block ∧ a.spot = none := by
  unfold World.cell? at h
  unfold oldB
  cases hb : W.heap[a.block]? with
  | none => simp [hb] at h
  | some o =>
    refine ⟨(Array.getElem?_eq_some_iff.1 hb).1, ?_⟩
    cases hs : a.spot with
    | none => rfl
    | some s => cases o <;> simp [hb, hs] at h

section
variable {H : Type} {enc : TypeId × Value → H} {P : Program} {W : World}

def Opens (enc : TypeId × Value → H) (P : Program) (W : World) (t : TypeId) {α : Type} (f : α → AV) (good : α → Prop) : Prop :=
  ∀ (n : Nat) (cs : List Value) (x : DataW H × List MemPlace), DataW.trod enc P W 0 (fun _ => true) true n t cs = some x → (∀ k ∈ x.1.weights P t, k ≤ reachBytes) → ∃ a : α, good a ∧ RelL (E0 (oldB W)) W (f a).cells cs

theorem Opens.mono {t : TypeId} {α : Type} {f : α → AV} {good good' : α → Prop} (h : Opens enc P W t f good) (hg : ∀ a, good a → good' a) : Opens enc P W t f good' :=
  fun n cs x hx hw => let ⟨a, h1, h2⟩ := h n cs x hx hw; ⟨a, hg a h1, h2⟩
theorem relL_one {E : Env} {w : World} {x : AV} {y : Value} (h : Rel E w x y) : RelL E w [x] [y] := ⟨rfl, fun i a b ha hb => by
  cases i with
  | zero => simp at ha hb; subst ha hb; exact h
  | succ i => simp at ha⟩
theorem RelL.app {E : Env} {w : World} {xs xs' : List AV} {ys ys' : List Value} (h : RelL E w xs ys) (h' : RelL E w xs' ys') : RelL E w (xs ++ xs') (ys ++ ys') := by
  have hl : xs.length = ys.length := h.1.symm
  refine ⟨by simp [h.1, h'.1], fun i a b ha hb => ?_⟩
  by_cases hi : i < xs.length
  · rw [List.getElem?_append_left hi] at ha
    rw [List.getElem?_append_left (by omega)] at hb
    exact h.2 i a b ha hb
  · rw [List.getElem?_append_right (by omega)] at ha
    rw [List.getElem?_append_right (by omega)] at hb
    rw [hl] at ha
    exact h'.2 _ a b ha hb

theorem opens_int {t : TypeId} {k : IntKind} (ht : P.underlying t = some (.int k)) : Opens enc P W t (AV.int k) (fun n => (Lit.int k n).wf = true) := fun n cs x hx _ => by
  obtain ⟨a, rfl, rfl, hw⟩ := DataW.trod_int ht hx
  exact ⟨a, hw, relL_one (.int _ _)⟩
theorem weightsAll_mem {e : TypeId} {l : List (DataW H)} {d : DataW H} (h : d ∈ l) {k : Nat} (hk : k ∈ d.weights P e) : k ∈ DataW.weightsAll P e l := by
  induction l with
  | nil => cases h
  | cons a l ih =>
    unfold DataW.weightsAll
    rcases List.mem_cons.1 h with rfl | h
    · exact List.mem_append_left _ hk
    · exact List.mem_append_right _ (ih h)

theorem choose_list {α : Type} {len : Nat} {Q : Nat → α → Prop} (h : ∀ i, i < len → ∃ a, Q i a) : ∃ l : List α, l.length = len ∧ ∀ i a, l[i]? = some a → Q i a := by
  induction len with
  | zero => exact ⟨[], rfl, fun i a h => by simp at h⟩
  | succ n ih =>
    obtain ⟨l, h1, h2⟩ := ih (fun i hi => h i (by omega))
    obtain ⟨a, ha⟩ := h n (by omega)
    refine ⟨l ++ [a], by simp [h1], fun i b hb => ?_⟩
    by_cases hi : i < l.length
    · rw [List.getElem?_append_left hi] at hb; exact h2 i b hb
    · rw [List.getElem?_append_right (by omega)] at hb
      have : i - l.length = 0 := by
        by_cases h0 : i - l.length = 0
        · exact h0
        · rw [List.getElem?_eq_none (by simp; omega)] at hb; cases hb
      rw [this] at hb; simp at hb; subst hb
      have : i = n := by omega
      subst this; exact ha

theorem opens_slice {t e : TypeId} {sz by_ : Nat} {α : Type} {f : α → AV} {good : α → Prop} (ht : P.underlying t = some (.slice e)) (hsz : P.cellsOf e = sz) (hby : P.bytesOf e = by_) (hpos : 0 < sz) (hc : ∀ a, (f a).cells.length = sz)
    (he : Opens enc P W e f good) : Opens enc P W t (encL sz f) (fun l => (∀ a ∈ l, good a) ∧ l.length ≤ 9223372036854775807 ∧ l.length * by_ ≤ 140737488351232) := fun n cs x hx hw => by
  rcases Go.Deep.open_slice ht hx with ⟨rfl, rfl⟩ | ⟨a, len, cap, m, n', D, Pl, rfl, hb, hlc, hcm, hm, hxe, hel⟩
  · exact ⟨[], ⟨fun _ h => (by cases h), by simp, by simp⟩, relL_one (.slnil _)⟩
  simp only [if_true] at hm
  subst hxe
  subst hm
  have hw' : ∀ k ∈ ((DataW.slice (H := H) ((List.range len).map D) ((List.range (m - len)).map fun j => D (len + j))).weights P t), k ≤ reachBytes := hw
  simp only [DataW.weights, ht] at hw'
  have hlen : (((List.range len).map D).length + ((List.range (m - len)).map fun j => D (len + j)).length) * P.bytesOf e ≤ reachBytes := hw' _ (List.mem_cons_self ..)
  have hbd : len * by_ ≤ 140737488351232 := by
    rw [hby] at hlen
    simp only [List.length_map, List.length_range] at hlen
    have h1 : len * by_ ≤ (len + (m - len)) * by_ := Nat.mul_le_mul_right _ (by omega)
    have h2 : reachBytes = 140737488351232 := rfl
    omega
  have hlm : len ≤ 9223372036854775807 := Nat.le_trans hlc hcm
  have key : ∀ i, i < len → ∃ a' : α, good a' ∧ ∃ cs', W.cells? 0 (a.add (i * sz)) sz = some cs' ∧ RelL (E0 (oldB W)) W (f a').cells cs' := fun i hi => by
    obtain ⟨cs', h1, h2⟩ := hel i (by omega)
    rw [hsz] at h1
    obtain ⟨a', g1, g2⟩ := he n' cs' _ h2 (fun k hk => hw' k (List.mem_cons_of_mem _ (List.mem_append_left _ (weightsAll_mem (List.mem_map.2 ⟨i, List.mem_range.2 hi, rfl⟩) hk))))
    exact ⟨a', g1, cs', h1, g2⟩
  obtain ⟨l, hl, hq⟩ := choose_list key
  refine ⟨l, ⟨fun x hx => ?_, by omega, by rw [hl]; exact hbd⟩, relL_one ?_⟩
  · obtain ⟨i, hi⟩ := List.getElem?_of_mem hx
    exact (hq i x hi).1
  by_cases h0 : len = 0
  · subst h0
    have : l = [] := List.length_eq_zero_iff.1 hl
    subst this
    exact .slempty _ _ _
  -- cells
  have hcell : ∀ i j, i < len → j < sz → ∃ v, W.cell? ((a.add (i * sz)).add j) = some v := fun i j hi hj => by
    obtain ⟨a', _, cs', h1, h2⟩ := key i hi
    unfold World.cells? at h1
    rw [if_pos (Nat.zero_le _)] at h1
    have h3 := mapM_some_get h1 j j (by simp [hj])
    have h4 : j < cs'.length := by
      have := mapM_some_length h1
      simp at this; omega
    exact ⟨cs'[j], by rw [h3]; simp [h4]⟩
  obtain ⟨v0, hv0⟩ := hcell 0 0 (by omega) hpos
  have ho := oldB_cell hv0
  simp only [Nat.zero_mul, Addr.add, if_true] at ho
  obtain ⟨blk, off, sp⟩ := a
  obtain ⟨ho, hsp⟩ := ho
  simp only at hsp ho
  subst hsp
  have hadd : ∀ i j, ((⟨blk, off, none⟩ : Addr).add (i * sz)).add j = ⟨blk, off + (i * sz + j), none⟩ := fun i j => by
    rw [addr_add, addr_add, Nat.add_assoc]
  have hcell' : ∀ k, k < len * sz → ∃ v, W.cell? ⟨blk, off + k, none⟩ = some v := fun k hk => by
    have h1 : k / sz < len := Nat.div_lt_of_lt_mul (by rw [Nat.mul_comm]; exact hk)
    have h2 : k % sz < sz := Nat.mod_lt _ hpos
    obtain ⟨v, hv⟩ := hcell (k / sz) (k % sz) h1 h2
    rw [hadd, Nat.div_add_mod'] at hv
    exact ⟨v, hv⟩
  have hlen2 : (l.map f).length = len := by simp [hl]
  have := Rel.sl (E := E0 (oldB W)) (w := W) sz (l.map f) blk off m (fun k => (W.cell? ⟨blk, off + k, none⟩).getD Go.undef) ho (by rw [hlen2]; exact hlc)
    (fun x hx => by obtain ⟨b, _, rfl⟩ := List.mem_map.1 hx; exact hc b)
    (fun k hk => by
      rw [hlen2] at hk
      obtain ⟨v, hv⟩ := hcell' k hk
      simp only [hv, Option.getD_some])
    (fun i j x y hx hy => by
      rw [List.getElem?_map, Option.map_eq_some_iff] at hx
      obtain ⟨a', ha', rfl⟩ := hx
      obtain ⟨_, cs', h1, h2⟩ := hq i a' ha'
      have hj : j < sz := by
        have := (List.getElem?_eq_some_iff.1 hy).1
        rwa [hc] at this
      have hi : i < len := by
        have := (List.getElem?_eq_some_iff.1 ha').1
        omega
      unfold World.cells? at h1
      rw [if_pos (Nat.zero_le _)] at h1
      have h3 := mapM_some_get h1 j j (by simp [hj])
      have h4 : j < cs'.length := by
        have := mapM_some_length h1
        simp at this; omega
      rw [hadd] at h3
      have h5 : cs'[j]? = some cs'[j] := by simp [h4]
      rw [h5] at h3
      simp only [h3, Option.getD_some]
      exact h2.2 j y _ hy h5)
  rw [hlen2] at this
  exact this

def OpensF (enc : TypeId × Value → H) (P : Program) (W : World) (fs : List Field) (off : Nat) {α : Type} (g : α → List AV) (good : α → Prop) : Prop :=
  ∀ (n tot : Nat) (cs : List Value) (ys : List (DataW H × List MemPlace)), ys.length = fs.length → (∀ (i : Nat) (f : Field), fs[i]? = some f → DataW.trod enc P W 0 (fun _ => true) true n f.type ((cs.drop f.offset).take (P.cellsOf f.type)) = ys[i]?) →
    (∀ k ∈ DataW.weightsEach P (fs.map fun f : Field => f.type) (ys.map (·.1)), k ≤ reachBytes) → cs.length = tot → tot = off + (fs.map fun f : Field => P.cellsOf f.type).sum → ∃ a : α, good a ∧ RelL (E0 (oldB W)) W (g a) (cs.drop off)

theorem opensF_nil {off : Nat} : OpensF enc P W [] off (fun _ : Unit => []) (fun _ => True) := fun n tot cs ys _ _ _ h1 h2 => by
  refine ⟨(), trivial, ?_⟩
  rw [List.drop_eq_nil_of_le (by simp at h2; omega)]
  exact ⟨rfl, fun i a b h => by simp at h⟩
theorem opensF_cons {fd : Field} {fs : List Field} {off off' : Nat} {α β : Type} {f : α → AV} {g : β → List AV} {good : α → Prop} {good' : β → Prop} (ho : fd.offset = off) (ho' : off + P.cellsOf fd.type = off')
    (h : Opens enc P W fd.type f good) (h' : OpensF enc P W fs off' g good') : OpensF enc P W (fd :: fs) off (fun a : α × β => (f a.1).cells ++ g a.2) (fun a => good a.1 ∧ good' a.2) := fun n tot cs ys hl hy hw h1 h2 => by
  obtain ⟨y, ys, rfl⟩ : ∃ y ys', ys = y :: ys' := by
    cases ys with
    | nil => simp at hl
    | cons y ys => exact ⟨y, ys, rfl⟩
  have hy0 := hy 0 fd rfl
  simp only [List.getElem?_cons_zero] at hy0
  rw [ho] at hy0
  simp only [List.map_cons, DataW.weightsEach] at hw
  obtain ⟨a, g1, g2⟩ := h n _ y hy0 (fun k hk => hw k (List.mem_append_left _ hk))
  simp only [List.map_cons, List.sum_cons] at h2
  obtain ⟨b, g3, g4⟩ := h' n tot cs ys (by simpa using hl) (fun i f hf => by
    have := hy (i + 1) f (by simpa using hf)
    simpa using this) (fun k hk => hw k (List.mem_append_right _ hk)) h1 (by omega)
  refine ⟨(a, b), ⟨g1, g3⟩, ?_⟩
  have e : cs.drop off = (cs.drop off).take (P.cellsOf fd.type) ++ cs.drop off' := by
    rw [← ho', ← List.drop_drop, List.take_append_drop]
  rw [e]
  exact RelL.app g2 g4
theorem opens_struct {t : TypeId} {fs : Array Field} {α : Type} {g : α → List AV} {good : α → Prop} (ht : P.underlying t = some (.struct fs)) (hsum : P.cellsOf t = (fs.toList.map fun f : Field => P.cellsOf f.type).sum)
    (h : OpensF enc P W fs.toList 0 g good) : Opens enc P W t (fun a => .agg (g a)) good := fun n cs x hx hw => by
  obtain ⟨ys, n', rfl, rfl, hl, hs, hy⟩ := DataW.trod_struct ht hx
  obtain ⟨a, g1, g2⟩ := h n' _ cs ys (by rw [hs]; simp) (fun i f hf => hy i f (by simpa using hf)) (fun k hk => hw k (by
    simp only [DataW.weights, ht]; exact hk)) hl (by rw [Nat.zero_add, hsum])
  exact ⟨a, g1, by rw [List.drop_zero] at g2; exact g2⟩

theorem Opens.map {t : TypeId} {α β : Type} {f : α → AV} {good : α → Prop} {f' : β → AV} {good' : β → Prop} (h : Opens enc P W t f good) (φ : α → β) (hg : ∀ a, good a → good' (φ a)) (hf : ∀ a, good a → (f' (φ a)).cells = (f a).cells) : Opens enc P W t f' good' := fun n cs x hx hw => by
  obtain ⟨a, h1, h2⟩ := h n cs x hx hw
  exact ⟨φ a, hg a h1, by rw [hf a h1]; exact h2⟩
theorem Opens.at {t u : TypeId} {α : Type} {f : α → AV} {good : α → Prop} (e : t = u) (h : Opens enc P W u f good) : Opens enc P W t f good := e ▸ h

theorem Opens.argA {t : TypeId} {α : Type} {f : α → AV} {good : α → Prop} (h : Opens enc P W t f good) {r : Reach} {base : Nat} {v : Value} {d : DataW H} {ps : List MemPlace} (ht : tagg P t = true) (hf : ∀ a, ∃ cs, f a = .agg cs)
    (hval : Value.okWide P W r base t v) (hd : DataW.Trod enc P W 0 (fun _ => true) true t v d ps) (hw : ∀ k ∈ d.weights P t, k ≤ reachBytes) : ∃ a, good a ∧ Rel (E0 (oldB W)) W (f a) v := by
  obtain ⟨n, hn⟩ := hd
  obtain ⟨a, h1, h2⟩ := h n _ _ hn hw
  refine ⟨a, h1, ?_⟩
  obtain ⟨cs, hcs, _⟩ : ∃ cs, v = .agg cs ∧ True := by
    unfold Value.okWide at hval
    unfold tagg at ht
    split at hval
    · obtain ⟨cs, h, _⟩ := hval; exact ⟨cs, h, trivial⟩
    · obtain ⟨cs, h, _⟩ := hval; exact ⟨cs, h, trivial⟩
    · rename_i k1 k2
      revert ht
      cases hu : P.underlying t with
      | none => simp
      | some u =>
        cases u with
        | struct fs => exact absurd hu (k1 fs)
        | array m e => exact absurd hu (k2 m e)
        | _ => simp
  subst hcs
  obtain ⟨xs, hx⟩ := hf a
  rw [hx] at h2 ⊢
  exact .agg xs cs.toList h2.1 h2.2
theorem trodAll_stays (hl : laidOutB P = true) {W' : World} (hb : Below W.heap.size W W') {sp : Nat → Bool} : ∀ {ts : List TypeId} {vs : List Value} {ds : List (DataW H)} {ps : List MemPlace}, (∀ t ∈ ts, P.readableRec t = true ∧ t < P.types.size) →
    DataW.TrodAll enc P W 0 (fun _ => true) true ts vs ds ps → (∀ p ∈ ps, p.block < W.heap.size) → (∀ p ∈ ps, sp p.block = true) → DataW.TrodAll enc P W' 0 sp true ts vs ds ps
  | [], [], [], ps, _, h, _, _ => h
  | t :: ts, v :: vs, d :: ds, ps, hr, ⟨p, q, h1, h2, e⟩, hlt, hsp => by
    subst e
    exact ⟨p, q, WideElems.Trod_stays hl (hr t (List.mem_cons_self ..)).1 (hr t (List.mem_cons_self ..)).2 h1 (fun x hx => hb.same (hlt x (List.mem_append_left _ hx))) (fun x hx => hsp x (List.mem_append_left _ hx)),
      trodAll_stays hl hb (fun t ht => hr t (List.mem_cons_of_mem _ ht)) h2 (fun x hx => hlt x (List.mem_append_right _ hx)) (fun x hx => hsp x (List.mem_append_right _ hx)), rfl⟩
  | [], _ :: _, _, _, _, h, _, _ => h.elim
  | [], [], _ :: _, _, _, h, _, _ => h.elim
  | _ :: _, [], _, _, _, h, _, _ => h.elim
  | _ :: _, _ :: _, [], _, _, h, _, _ => h.elim
theorem weightsEach_at : ∀ {ts : List TypeId} {ds : List (DataW H)} {i : Nat} {t : TypeId} {d : DataW H}, ts[i]? = some t → ds[i]? = some d → ∀ k ∈ d.weights P t, k ∈ DataW.weightsEach P ts ds
  | t :: ts, d :: ds, 0, _, _, h1, h2, k, hk => by
    simp at h1 h2; subst h1 h2
    unfold DataW.weightsEach
    exact List.mem_append_left _ hk
  | t :: ts, d :: ds, i + 1, _, _, h1, h2, k, hk => by
    unfold DataW.weightsEach
    exact List.mem_append_right _ (weightsEach_at (ts := ts) (ds := ds) (by simpa using h1) (by simpa using h2) k hk)
  | [], _, i, _, _, h1, _, _, _ => by simp at h1
  | _ :: _, [], i, _, _, _, h2, _, _ => by simp at h2
end
end Go.Abs

/- Printed by a program: the functions' code without types. -/
namespace Go.Proofs.YtbiikomnhkbblaaGreat
open Go Go.Abs Go.Abs.C2 Go.Abs.Ins Go.Abs.Opd Go.Abs.TK Go.Abs.MK

def O (d : Nat) (i : Ins) : Op2 := Op2.mk (some d) none i
def G (d g : Nat) (b : Bool) (i : Ins) : Op2 := Op2.mk (some d) (some (g, b)) i
def N (k : Int) : Opd := Opd.c (AV.int IntKind.i64 k)
def M (n : Nat) : Ins := Ins.mov (Opd.t n)
def D (n : Nat) : Ins := Ins.ld1 (Opd.t n)
def F (n : Nat) : Opd := Opd.c (AV.func n [])
def B2 (o : BinOp) (x y : Opd) : Ins := Ins.bin o false false x y
def cFal : Opd := Opd.c (AV.bool false)
def cTru : Opd := Opd.c (AV.bool true)
theorem follows : Tryz.prog.follows .mixedOrders = true := by rfl

def b4 : F2 := (F2.mk 117 [RV.t 4] ((ops 0 [O 2 (box (t 0)), O 3 (box (t 1)), O 4 (mov cFal)]).seq (((ops 0 [O 15 (ldn 4 (t 2)), O 16 (call (F 10) [t 15]), O 17 (un UnOp.not (t 16)), O 18 (M 17), G 19 18 false (fa 3 (t 3)), G 20 18 false (D 19), G 21 18 false (lenS (t 20)), G 22 18 false (B2 .gtr (t 21) (N ((20)))), O 23 (pick (t 18) cTru (t 22))]).seq (C2.cond (t 23) ((ops 0 [O 24 (call (F 11) []), O 4 (M 24)]).seq ret) skip)).seq ((ops 0 [O 26 (ldn 4 (t 2)), O 27 (fa 0 (t 3)), O 28 (D 27), O 29 (fa 1 (t 3)), O 30 (D 29), O 31 (call (F 16) [t 26, t 28, t 30]), O 25 (M 31), O 32 (ext (t 25) 0), O 33 (ext (t 25) 1), O 5 (M 32), O 6 (M 33)]).seq ((ops 0 [O 35 (ldn 4 (t 2)), O 36 (fa 0 (t 3)), O 37 (D 36), O 38 (fa 1 (t 3)), O 39 (D 38), O 40 (call (F 17) [t 35, t 37, t 39]), O 34 (M 40), O 41 (ext (t 34) 0), O 42 (ext (t 34) 1), O 7 (M 41), O 8 (M 42)]).seq ((ops 0 [O 44 (ldn 4 (t 2)), O 45 (fa 0 (t 3)), O 46 (D 45), O 47 (fa 1 (t 3)), O 48 (D 47), O 49 (fa 3 (t 3)), O 50 (D 49), O 51 (call (F 18) [t 44, t 46, t 48, t 50]), O 43 (M 51), O 52 (ext (t 43) 0), O 53 (ext (t 43) 1), O 9 (M 52), O 10 (M 53)]).seq ((ops 0 [O 55 (ldn 4 (t 2)), O 56 (fa 0 (t 3)), O 57 (D 56), O 58 (fa 1 (t 3)), O 59 (D 58), O 60 (fa 3 (t 3)), O 61 (D 60), O 62 (call (F 19) [t 55, t 57, t 59, t 61]), O 54 (M 62), O 63 (ext (t 54) 0), O 64 (ext (t 54) 1), O 11 (M 63), O 12 (M 64)]).seq (((ops 0 [O 65 (M 5), O 66 (M 7), O 67 (call (F 20) [t 65, t 66]), O 68 (un UnOp.not (t 67)), O 69 (M 68), G 70 69 false (M 6), G 71 69 false (M 8), G 72 69 false (B2 .neq (t 70) (t 71)), O 73 (pick (t 69) cTru (t 72)), O 74 (M 73), G 75 74 false (M 9), G 76 74 false (M 11), G 77 74 false (bin BinOp.neq true false (t 75) (t 76)), O 78 (pick (t 74) cTru (t 77)), O 79 (M 78), G 80 79 false (M 10), G 81 79 false (M 12), G 82 79 false (B2 .neq (t 80) (t 81)), O 83 (pick (t 79) cTru (t 82))]).seq (C2.cond (t 83) ((ops 0 [O 4 (mov cFal)]).seq ret) skip)).seq ((ops 0 [O 85 (ldn 4 (t 2)), O 86 (fa 0 (t 3)), O 87 (D 86), O 88 (fa 1 (t 3)), O 89 (D 88), O 90 (fa 2 (t 3)), O 91 (D 90), O 92 (call (F 21) [t 85, t 87, t 89, t 91]), O 84 (M 92), O 93 (ext (t 84) 0), O 94 (ext (t 84) 1), O 13 (M 93), O 6 (M 94)]).seq ((ops 0 [O 96 (ldn 4 (t 2)), O 97 (fa 0 (t 3)), O 98 (D 97), O 99 (fa 1 (t 3)), O 100 (D 99), O 101 (fa 2 (t 3)), O 102 (D 101), O 103 (call (F 22) [t 96, t 98, t 100, t 102]), O 95 (M 103), O 104 (ext (t 95) 0), O 105 (ext (t 95) 1), O 14 (M 104), O 8 (M 105)]).seq ((ops 0 [O 106 (M 13), O 107 (M 14), O 108 (call (F 23) [t 106, t 107]), O 109 (M 108), G 110 109 true (M 6), G 111 109 true (M 8), G 112 109 true (B2 .eql (t 110) (t 111)), O 113 (pick (t 109) (t 112) cFal), O 114 (M 113), G 115 114 true (call (F 11) []), O 116 (pick (t 114) (t 115) cFal), O 4 (M 116)]).seq ret)))))))))))
theorem is4 : Is Tryz.prog 4 b4 := Is.mk' Tryz.func4 (by kernel_rfl)

def b10 : F2 := (F2.mk 37 [RV.t 2] ((ops 0 [O 1 (box (t 0)), O 2 (mov cFal)]).seq (((ops 0 [O 5 (fa 3 (t 1)), O 6 (D 5), O 7 (lenS (t 6)), O 8 (B2 .gtr (t 7) (N ((30))))]).seq (C2.cond (t 8) ((ops 0 [O 2 (mov cFal)]).seq ret) skip)).seq (((ops 0 [O 3 (mov (N ((0))))]).seq (block 0 (((ops 0 [O 9 (M 3), O 10 (fa 3 (t 1)), O 11 (D 10), O 12 (lenS (t 11)), O 13 (B2 .lss (t 9) (t 12))]).seq (C2.cond (t 13) skip (exit 0))).seq ((block 1 ((ops 0 [O 16 (fa 3 (t 1)), O 17 (D 16), O 18 (M 3), O 19 (ixaS 3 (t 17) (t 18)), O 20 (ldn 3 (t 19)), O 4 (alloc (AV.agg [AV.esl, AV.esl, AV.esl])), Op2.mk none none (Ins.st 3 (t 4) (t 20))]).seq ((ops 0 [O 21 (fa 0 (t 4)), O 22 (D 21), O 23 (lenS (t 22)), O 24 (B2 .gtr (t 23) (N ((10)))), O 25 (M 24), G 26 25 false (fa 1 (t 4)), G 27 25 false (D 26), G 28 25 false (call (F 42) [t 27, c (AV.int IntKind.i64 (30))]), G 29 25 false (un UnOp.not (t 28)), O 30 (pick (t 25) cTru (t 29)), O 31 (M 30), G 32 31 false (fa 2 (t 4)), G 33 31 false (D 32), G 34 31 false (call (F 42) [t 33, c (AV.int IntKind.i64 (30))]), G 35 31 false (un UnOp.not (t 34)), O 36 (pick (t 31) cTru (t 35))]).seq (C2.cond (t 36) ((ops 0 [O 2 (mov cFal)]).seq ret) skip)))).seq (ops 0 [O 14 (M 3), O 15 (B2 .add (t 14) (N ((1)))), O 3 (M 15)]))).loop)).seq ((ops 0 [O 2 (mov cTru)]).seq ret)))))
theorem is10 : Is Tryz.prog 10 b10 := Is.mk' Tryz.func10 (by kernel_rfl)

def b11 : F2 := (F2.mk 146 [RV.t 0] ((ops 0 [O 0 (mov cFal)]).seq ((ops 0 [O 19 (call (F 43) []), O 1 (alloc (AV.agg [AV.int IntKind.i64 (0), AV.int IntKind.i64 (0), AV.int IntKind.i64 (0), AV.esl])), Op2.mk none none (Ins.st 4 (t 1) (t 19))]).seq ((ops 0 [O 21 (ldn 4 (t 1)), O 22 (call (F 16) [t 21, c (AV.int IntKind.i64 (1)), c (AV.int IntKind.i64 (0))]), O 20 (M 22), O 23 (ext (t 20) 0), O 24 (ext (t 20) 1), O 2 (M 23), O 3 (M 24)]).seq ((ops 0 [O 26 (ldn 4 (t 1)), O 27 (call (F 21) [t 26, c (AV.int IntKind.i64 (1)), c (AV.int IntKind.i64 (0)), c (AV.int IntKind.i64 (0))]), O 25 (M 27), O 28 (ext (t 25) 0), O 29 (ext (t 25) 1), O 4 (M 28), O 5 (M 29)]).seq ((ops 0 [O 31 (ldn 4 (t 1)), O 32 (call (F 21) [t 31, c (AV.int IntKind.i64 (1)), c (AV.int IntKind.i64 (2)), c (AV.int IntKind.i64 (0))]), O 30 (M 32), O 33 (ext (t 30) 0), O 34 (ext (t 30) 1), O 6 (M 33), O 7 (M 34)]).seq ((ops 0 [O 36 (ldn 4 (t 1)), O 37 (bldS 1 2 [AV.int IntKind.i64 (0)] [(0, 1, c (AV.int IntKind.i64 (0))), (1, 1, c (AV.int IntKind.i64 (-1)))]), O 38 (call (F 18) [t 36, c (AV.int IntKind.i64 (1)), c (AV.int IntKind.i64 (2)), t 37]), O 35 (M 38), O 39 (ext (t 35) 0), O 40 (ext (t 35) 1), O 8 (M 39), O 9 (M 40)]).seq ((ops 0 [O 42 (ldn 4 (t 1)), O 43 (call (F 29) [t 42]), O 41 (M 43), O 44 (ext (t 41) 0), O 45 (ext (t 41) 1), O 10 (M 44), O 11 (M 45)]).seq ((ops 0 [O 47 (ldn 4 (t 1)), O 48 (call (F 31) [t 47]), O 46 (M 48), O 49 (ext (t 46) 0), O 50 (ext (t 46) 1), O 51 (ext (t 46) 2), O 12 (M 49), O 13 (M 50), O 14 (M 51)]).seq (((ops 0 [O 52 (M 3), O 53 (M 5), O 54 (B2 .add (t 52) (t 53)), O 55 (M 7), O 56 (B2 .add (t 54) (t 55)), O 57 (M 9), O 58 (B2 .add (t 56) (t 57)), O 59 (M 11), O 60 (B2 .add (t 58) (t 59)), O 61 (M 14), O 62 (B2 .add (t 60) (t 61)), O 63 (B2 .neq (t 62) (N ((0)))), O 64 (M 63), G 65 64 false (M 2), G 66 64 false (bldS 1 2 [AV.int IntKind.i64 (0)] [(0, 1, c (AV.int IntKind.i64 (1))), (1, 1, c (AV.int IntKind.i64 (1)))]), G 67 64 false (bldS 1 1 [AV.esl] [(0, 1, t 66)]), G 68 64 false (call (F 20) [t 65, t 67]), G 69 64 false (un UnOp.not (t 68)), O 70 (pick (t 64) cTru (t 69)), O 71 (M 70), G 72 71 false (M 4), G 73 71 false (bldS 1 1 [AV.int IntKind.i64 (0)] [(0, 1, c (AV.int IntKind.i64 (1)))]), G 74 71 false (call (F 23) [t 72, t 73]), G 75 71 false (un UnOp.not (t 74)), O 76 (pick (t 71) cTru (t 75)), O 77 (M 76), G 78 77 false (M 6), G 79 77 false (bldS 1 2 [AV.int IntKind.i64 (0)] [(0, 1, c (AV.int IntKind.i64 (0))), (1, 1, c (AV.int IntKind.i64 (1)))]), G 80 77 false (call (F 23) [t 78, t 79]), G 81 77 false (un UnOp.not (t 80)), O 82 (pick (t 77) cTru (t 81)), O 83 (M 82), G 84 83 false (M 8), G 85 83 false (un UnOp.not (t 84)), O 86 (pick (t 83) cTru (t 85)), O 87 (M 86), G 88 87 false (M 10), G 89 87 false (un UnOp.not (t 88)), O 90 (pick (t 87) cTru (t 89)), O 91 (M 90), G 92 91 false (M 12), G 93 91 false (B2 .neq (t 92) (N ((3)))), O 94 (pick (t 91) cTru (t 93)), O 95 (M 94), G 96 95 false (M 13), G 97 95 false (B2 .neq (t 96) (N ((4)))), O 98 (pick (t 95) cTru (t 97))]).seq (C2.cond (t 98) ((ops 0 [O 0 (mov cFal)]).seq ret) skip)).seq ((ops 0 [O 100 (ldn 4 (t 1)), O 101 (bldS 1 2 [AV.int IntKind.i64 (0)] [(0, 1, c (AV.int IntKind.i64 (1))), (1, 1, c (AV.int IntKind.i64 (0)))]), O 102 (call (F 26) [t 100, t 101]), O 99 (M 102), O 103 (ext (t 99) 0), O 104 (ext (t 99) 1), O 15 (alloc (AV.agg [AV.int IntKind.i64 (0), AV.int IntKind.i64 (0), AV.int IntKind.i64 (0), AV.esl])), Op2.mk none none (Ins.st 4 (t 15) (t 103)), O 3 (M 104)]).seq ((ops 0 [O 106 (ldn 4 (t 1)), O 107 (bldS 1 2 [AV.int IntKind.i64 (0)] [(0, 1, c (AV.int IntKind.i64 (0))), (1, 1, c (AV.int IntKind.i64 (2)))]), O 108 (call (F 24) [t 106, t 107]), O 105 (M 108), O 109 (ext (t 105) 0), O 110 (ext (t 105) 1), O 16 (alloc (AV.agg [AV.int IntKind.i64 (0), AV.int IntKind.i64 (0), AV.int IntKind.i64 (0), AV.esl])), Op2.mk none none (Ins.st 4 (t 16) (t 109)), O 5 (M 110)]).seq ((ops 0 [O 112 (ldn 4 (t 16)), O 113 (bldS 1 2 [AV.int IntKind.i64 (0)] [(0, 1, c (AV.int IntKind.i64 (0))), (1, 1, c (AV.int IntKind.i64 (1)))]), O 114 (call (F 12) [t 112, t 113]), O 111 (M 114), O 115 (ext (t 111) 0), O 116 (ext (t 111) 1), O 17 (M 115), O 18 (M 116)]).seq ((ops 0 [O 117 (M 3), O 118 (M 5), O 119 (B2 .add (t 117) (t 118)), O 120 (B2 .eql (t 119) (N ((0)))), O 121 (M 120), G 122 121 true (fa 3 (t 15)), G 123 121 true (D 122), G 124 121 true (lenS (t 123)), G 125 121 true (B2 .eql (t 124) (N ((3)))), O 126 (pick (t 121) (t 125) cFal), O 127 (M 126), G 128 127 true (fa 3 (t 15)), G 129 127 true (D 128), G 130 127 true (ixaS 3 (t 129) (N ((1)))), G 131 127 true (fa 0 (t 130)), G 132 127 true (D 131), G 133 127 true (bldS 1 2 [AV.int IntKind.i64 (0)] [(0, 1, c (AV.int IntKind.i64 (1))), (1, 1, c (AV.int IntKind.i64 (0)))]), G 134 127 true (call (F 23) [t 132, t 133]), O 135 (pick (t 127) (t 134) cFal), O 136 (M 135), G 137 136 true (fa 3 (t 16)), G 138 136 true (D 137), G 139 136 true (lenS (t 138)), G 140 136 true (B2 .eql (t 139) (N ((2)))), O 141 (pick (t 136) (t 140) cFal), O 142 (M 141), G 143 142 true (M 18), G 144 142 true (B2 .eql (t 143) (N ((6)))), O 145 (pick (t 142) (t 144) cFal), O 0 (M 145)]).seq ret))))))))))))))
theorem is11 : Is Tryz.prog 11 b11 := Is.mk' Tryz.func11 (by kernel_rfl)

def b12 : F2 := (F2.mk 24 [RV.t 4, RV.t 5] ((ops 0 [O 2 (box (t 0)), O 4 (mov (N ((0)))), O 5 (mov (N ((0))))]).seq (((ops 0 [O 9 (ldn 4 (t 2)), O 10 (call (F 14) [t 9]), O 6 (M 10)]).seq ((ops 0 [O 11 (M 6), O 12 (B2 .neq (t 11) (N ((0))))]).seq (C2.cond (t 12) ((ops 0 [O 13 (M 6), O 4 (mov (N ((0)))), O 5 (M 13)]).seq ret) skip))).seq ((ops 0 [O 15 (fa 3 (t 2)), O 16 (D 15), O 17 (M 1), O 18 (call (F 44) [t 16, t 17, c (AV.func 45 [])]), O 14 (M 18), O 19 (ext (t 14) 0), O 20 (ext (t 14) 1), O 7 (M 19), O 8 (M 20)]).seq (((ops 0 [O 21 (M 8), O 22 (un UnOp.not (t 21))]).seq (C2.cond (t 22) ((ops 0 [O 4 (mov (N ((0)))), O 5 (mov (N ((6))))]).seq ret) skip)).seq ((ops 0 [O 23 (M 7), O 4 (M 23), O 5 (mov (N ((0))))]).seq ret))))))
theorem is12 : Is Tryz.prog 12 b12 := Is.mk' Tryz.func12 (by kernel_rfl)

def b14 : F2 := (F2.mk 83 [RV.t 2] ((ops 0 [O 1 (box (t 0)), O 2 (mov (N ((0))))]).seq ((block 0 (((ops 0 [O 8 (fa 0 (t 1)), O 9 (D 8), O 10 (B2 .lss (t 9) (N ((1)))), O 11 (M 10), G 12 11 false (fa 0 (t 1)), G 13 11 false (D 12), G 14 11 false (B2 .gtr (t 13) (N ((5)))), O 15 (pick (t 11) cTru (t 14)), O 7 (M 15)]).seq (C2.cond (t 7) skip ((ops 0 [O 16 (fa 1 (t 1)), O 17 (D 16), O 18 (B2 .lss (t 17) (N ((1)))), O 19 (M 18), G 20 19 false (fa 1 (t 1)), G 21 19 false (D 20), G 22 19 false (B2 .gtr (t 21) (N ((8)))), O 23 (pick (t 19) cTru (t 22)), O 7 (M 23)]).seq (C2.cond (t 7) skip (ops 0 [O 24 (fa 2 (t 1)), O 25 (D 24), O 26 (B2 .lss (t 25) (N ((1)))), O 27 (M 26), G 28 27 false (fa 2 (t 1)), G 29 27 false (D 28), G 30 27 false (B2 .gtr (t 29) (N ((8)))), O 31 (pick (t 27) cTru (t 30)), O 7 (M 31)]))))).seq (C2.cond (t 7) ((ops 0 [O 2 (mov (N ((2))))]).seq ret) ((ops 0 [O 33 (fa 3 (t 1)), O 34 (D 33), O 35 (lenS (t 34)), O 36 (B2 .lss (t 35) (N ((1)))), O 37 (M 36), G 38 37 false (fa 3 (t 1)), G 39 37 false (D 38), G 40 37 false (lenS (t 39)), G 41 37 false (B2 .gtr (t 40) (N ((1024)))), O 42 (pick (t 37) cTru (t 41)), O 32 (M 42)]).seq (C2.cond (t 32) ((ops 0 [O 2 (mov (N ((5))))]).seq ret) skip))))).seq (((ops 0 [O 43 (fa 3 (t 1)), O 44 (D 43), O 45 (lenS (t 44)), O 46 (mov (N ((0))))]).seq (block 1 ((ops 0 [O 47 (B2 .lss (t 46) (t 45))]).seq ((C2.cond (t 47) skip (exit 1)).seq ((block 2 ((ops 0 [O 48 (M 46), O 49 (ixaS 3 (t 44) (t 46)), O 50 (ldn 3 (t 49)), O 4 (alloc (AV.agg [AV.esl, AV.esl, AV.esl])), O 3 (M 48), Op2.mk none none (Ins.st 3 (t 4) (t 50))]).seq (((ops 0 [O 51 (fa 0 (t 4)), O 52 (D 51), O 53 (fa 0 (t 1)), O 54 (D 53), O 55 (fa 1 (t 1)), O 56 (D 55), O 57 (call (F 48) [t 52, t 54, t 56]), O 5 (M 57)]).seq ((ops 0 [O 58 (M 5), O 59 (B2 .neq (t 58) (N ((0))))]).seq (C2.cond (t 59) ((ops 0 [O 60 (M 5), O 2 (M 60)]).seq ret) skip))).seq (((mixS 1 [O 61 (M 3), O 62 (B2 .gtr (t 61) (N ((0)))), O 63 (M 62), G 64 63 true (fa 3 (t 1)), G 65 63 true (D 64), G 66 63 true (M 3), G 67 63 true (B2 .sub (t 66) (N ((1)))), G 68 63 true (ixaS 3 (t 65) (t 67)), G 69 63 true (fa 0 (t 68)), G 70 63 true (D 69), G 71 63 true (fa 0 (t 4)), G 72 63 true (D 71), G 73 63 true (call (F 46) [t 70, t 72]), G 74 63 true (B2 .geq (t 73) (N ((0)))), O 75 (pick (t 63) (t 74) cFal)] [(0, 0), (1, 0), (2, 0), (3, 0), (4, 0), (5, 0), (6, 0), (7, 0), (8, 0), (9, 0), (10, 0), (11, 0), (12, 2), (13, 0), (14, 0)]).seq (C2.cond (t 75) ((ops 0 [O 2 (mov (N ((14))))]).seq ret) skip)).seq ((ops 0 [O 76 (ldn 4 (t 1)), O 77 (ldn 3 (t 4)), O 78 (call (F 49) [t 76, t 77]), O 6 (M 78)]).seq ((ops 0 [O 79 (M 6), O 80 (B2 .neq (t 79) (N ((0))))]).seq (C2.cond (t 80) ((ops 0 [O 81 (M 6), O 2 (M 81)]).seq ret) skip))))))).seq (ops 0 [O 82 (B2 .add (t 46) (N ((1)))), O 46 (M 82)])))).loop)).seq ((ops 0 [O 2 (mov (N ((0))))]).seq ret)))))
theorem is14 : Is Tryz.prog 14 b14 := Is.mk' Tryz.func14 (by kernel_rfl)

def b15 : F2 := (F2.mk 56 [RV.t 2] ((ops 0 [O 1 (box (t 0)), O 2 (mov (N ((0))))]).seq (((ops 0 [O 5 (fa 0 (t 1)), O 6 (D 5), O 7 (B2 .lss (t 6) (N ((1)))), O 8 (M 7), G 9 8 false (fa 0 (t 1)), G 10 8 false (D 9), G 11 8 false (B2 .gtr (t 10) (N ((5)))), O 12 (pick (t 8) cTru (t 11)), O 13 (M 12), G 14 13 false (fa 1 (t 1)), G 15 13 false (D 14), G 16 13 false (B2 .lss (t 15) (N ((1)))), O 17 (pick (t 13) cTru (t 16)), O 18 (M 17), G 19 18 false (fa 1 (t 1)), G 20 18 false (D 19), G 21 18 false (B2 .gtr (t 20) (N ((8)))), O 22 (pick (t 18) cTru (t 21)), O 23 (M 22), G 24 23 false (fa 2 (t 1)), G 25 23 false (D 24), G 26 23 false (B2 .lss (t 25) (N ((1)))), O 27 (pick (t 23) cTru (t 26)), O 28 (M 27), G 29 28 false (fa 2 (t 1)), G 30 28 false (D 29), G 31 28 false (B2 .gtr (t 30) (N ((8)))), O 32 (pick (t 28) cTru (t 31))]).seq (C2.cond (t 32) ((ops 0 [O 2 (mov (N ((2))))]).seq ret) skip)).seq (((ops 0 [O 33 (fa 3 (t 1)), O 34 (D 33), O 35 (lenS (t 34)), O 36 (B2 .lss (t 35) (N ((1)))), O 37 (M 36), G 38 37 false (fa 3 (t 1)), G 39 37 false (D 38), G 40 37 false (lenS (t 39)), G 41 37 false (B2 .gtr (t 40) (N ((1024)))), O 42 (pick (t 37) cTru (t 41))]).seq (C2.cond (t 42) ((ops 0 [O 2 (mov (N ((5))))]).seq ret) skip)).seq (((ops 0 [O 3 (mov (N ((0))))]).seq (block 0 (((ops 0 [O 43 (M 3), O 44 (fa 3 (t 1)), O 45 (D 44), O 46 (lenS (t 45)), O 47 (B2 .lss (t 43) (t 46))]).seq (C2.cond (t 47) skip (exit 0))).seq ((block 1 ((ops 0 [O 50 (ldn 4 (t 1)), O 51 (M 3), O 52 (call (F 50) [t 50, t 51]), O 4 (M 52)]).seq ((ops 0 [O 53 (M 4), O 54 (B2 .neq (t 53) (N ((0))))]).seq (C2.cond (t 54) ((ops 0 [O 55 (M 4), O 2 (M 55)]).seq ret) skip)))).seq (ops 0 [O 48 (M 3), O 49 (B2 .add (t 48) (N ((1)))), O 3 (M 49)]))).loop)).seq ((ops 0 [O 2 (mov (N ((0))))]).seq ret))))))
theorem is15 : Is Tryz.prog 15 b15 := Is.mk' Tryz.func15 (by kernel_rfl)

def b16 : F2 := (F2.mk 24 [RV.t 6, RV.t 7] ((ops 0 [O 3 (box (t 0)), O 6 (mov (c AV.esl)), O 7 (mov (N ((0))))]).seq (((ops 0 [O 9 (ldn 4 (t 3)), O 10 (M 1), O 11 (M 2), O 12 (call (F 51) [t 9, t 10, t 11]), O 8 (M 12)]).seq ((ops 0 [O 13 (M 8), O 14 (B2 .neq (t 13) (N ((0))))]).seq (C2.cond (t 14) ((ops 0 [O 15 (M 8), O 6 (mov (c AV.esl)), O 7 (M 15)]).seq ret) skip))).seq ((ops 0 [O 16 (fa 3 (t 3)), O 17 (D 16), O 18 (M 1), O 19 (ixaS 3 (t 17) (t 18)), O 20 (ldn 3 (t 19)), O 21 (M 2), O 22 (call (F 53) [t 20, t 21]), O 23 (call (F 52) [t 22]), O 6 (M 23), O 7 (mov (N ((0))))]).seq ret))))
theorem is16 : Is Tryz.prog 16 b16 := Is.mk' Tryz.func16 (by kernel_rfl)

def b17 : F2 := (F2.mk 23 [RV.t 6, RV.t 7] ((ops 0 [O 3 (box (t 0)), O 6 (mov (c AV.esl)), O 7 (mov (N ((0))))]).seq (((ops 0 [O 9 (ldn 4 (t 3)), O 10 (M 1), O 11 (M 2), O 12 (call (F 54) [t 9, t 10, t 11]), O 8 (M 12)]).seq ((ops 0 [O 13 (M 8), O 14 (B2 .neq (t 13) (N ((0))))]).seq (C2.cond (t 14) ((ops 0 [O 15 (M 8), O 6 (mov (c AV.esl)), O 7 (M 15)]).seq ret) skip))).seq ((ops 0 [O 16 (fa 3 (t 3)), O 17 (D 16), O 18 (M 1), O 19 (ixaS 3 (t 17) (t 18)), O 20 (ldn 3 (t 19)), O 21 (M 2), O 22 (call (F 55) [t 20, t 21]), O 6 (M 22), O 7 (mov (N ((0))))]).seq ret))))
theorem is17 : Is Tryz.prog 17 b17 := Is.mk' Tryz.func17 (by kernel_rfl)

def b18 : F2 := (F2.mk 35 [RV.t 8, RV.t 9] ((ops 0 [O 4 (box (t 0)), O 6 (box (t 2)), O 7 (box (t 3)), O 8 (mov cFal), O 9 (mov (N ((0))))]).seq (((ops 0 [O 11 (ldn 4 (t 4)), O 12 (M 1), O 13 (D 6), O 14 (call (F 51) [t 11, t 12, t 13]), O 10 (M 14)]).seq ((ops 0 [O 15 (M 10), O 16 (B2 .neq (t 15) (N ((0))))]).seq (C2.cond (t 16) ((ops 0 [O 17 (M 10), O 8 (mov cFal), O 9 (M 17)]).seq ret) skip))).seq (((ops 0 [O 18 (D 7), O 19 (lenS (t 18)), O 20 (fa 0 (t 4)), O 21 (D 20), O 22 (B2 .neq (t 19) (t 21))]).seq (C2.cond (t 22) ((ops 0 [O 8 (mov cFal), O 9 (mov (N ((15))))]).seq ret) skip)).seq (((ops 0 [O 23 (D 7), O 24 (mkfn 57 [t 4]), O 25 (call (F 56) [t 23, t 24])]).seq (C2.cond (t 25) ((ops 0 [O 8 (mov cFal), O 9 (mov (N ((2))))]).seq ret) skip)).seq ((mixS 1 [O 26 (fa 3 (t 4)), O 27 (D 26), O 28 (M 1), O 29 (ixaS 3 (t 27) (t 28)), O 30 (ldn 3 (t 29)), O 31 (D 6), O 32 (call (F 53) [t 30, t 31]), O 33 (mkfn 58 [t 7, t 6]), O 34 (call (F 40) [t 32, t 33]), O 8 (M 34), O 9 (mov (N ((0))))] [(0, 0), (1, 0), (2, 0), (3, 0), (4, 0), (5, 0), (7, 0), (6, 2), (8, 2), (9, 0), (10, 0)]).seq ret))))))
theorem is18 : Is Tryz.prog 18 b18 := Is.mk' Tryz.func18 (by kernel_rfl)

def b19 : F2 := (F2.mk 52 [RV.t 8, RV.t 9] ((ops 0 [O 4 (box (t 0)), O 8 (mov cFal), O 9 (mov (N ((0))))]).seq (((ops 0 [O 12 (ldn 4 (t 4)), O 13 (M 1), O 14 (M 2), O 15 (call (F 54) [t 12, t 13, t 14]), O 10 (M 15)]).seq ((ops 0 [O 16 (M 10), O 17 (B2 .neq (t 16) (N ((0))))]).seq (C2.cond (t 17) ((ops 0 [O 18 (M 10), O 8 (mov cFal), O 9 (M 18)]).seq ret) skip))).seq (((ops 0 [O 19 (M 3), O 20 (lenS (t 19)), O 21 (fa 0 (t 4)), O 22 (D 21), O 23 (B2 .neq (t 20) (t 22))]).seq (C2.cond (t 23) ((ops 0 [O 8 (mov cFal), O 9 (mov (N ((15))))]).seq ret) skip)).seq (((ops 0 [O 11 (mov (N ((0))))]).seq (block 0 (((ops 0 [O 24 (M 11), O 25 (fa 0 (t 4)), O 26 (D 25), O 27 (B2 .lss (t 24) (t 26))]).seq (C2.cond (t 27) skip (exit 0))).seq ((block 1 ((ops 1 [O 30 (M 3), O 31 (M 11), O 32 (ixaS 1 (t 30) (t 31)), O 33 (D 32), O 34 (B2 .lss (t 33) (N ((-1)))), O 35 (M 34), G 36 35 false (M 3), G 37 35 false (M 11), G 38 35 false (ixaS 1 (t 36) (t 37)), G 39 35 false (D 38), G 40 35 false (fa 2 (t 4)), G 41 35 false (D 40), G 42 35 false (B2 .geq (t 39) (t 41)), O 43 (pick (t 35) cTru (t 42))]).seq (C2.cond (t 43) ((ops 0 [O 8 (mov cFal), O 9 (mov (N ((2))))]).seq ret) skip))).seq (ops 0 [O 28 (M 11), O 29 (B2 .add (t 28) (N ((1)))), O 11 (M 29)]))).loop)).seq ((ops 0 [O 44 (fa 3 (t 4)), O 45 (D 44), O 46 (M 1), O 47 (ixaS 3 (t 45) (t 46)), O 48 (ldn 3 (t 47)), O 49 (M 2), O 50 (M 3), O 51 (call (F 60) [t 48, t 49, t 50]), O 8 (M 51), O 9 (mov (N ((0))))]).seq ret))))))
theorem is19 : Is Tryz.prog 19 b19 := Is.mk' Tryz.func19 (by kernel_rfl)

def b20 : F2 := (F2.mk 27 [RV.t 4] ((ops 0 [O 4 (mov cFal)]).seq (((ops 0 [O 6 (M 0), O 7 (lenS (t 6)), O 8 (M 1), O 9 (lenS (t 8)), O 10 (B2 .neq (t 7) (t 9))]).seq (C2.cond (t 10) ((ops 0 [O 4 (mov cFal)]).seq ret) skip)).seq (((ops 0 [O 5 (mov (N ((0))))]).seq (block 0 (((ops 0 [O 11 (M 5), O 12 (M 0), O 13 (lenS (t 12)), O 14 (B2 .lss (t 11) (t 13))]).seq (C2.cond (t 14) skip (exit 0))).seq ((block 1 ((mixS 1 [O 17 (M 0), O 18 (M 5), O 19 (ixaS 1 (t 17) (t 18)), O 20 (D 19), O 21 (M 1), O 22 (M 5), O 23 (ixaS 1 (t 21) (t 22)), O 24 (D 23), O 25 (call (F 61) [t 20, t 24]), O 26 (B2 .neq (t 25) (N ((0))))] [(0, 0), (1, 0), (2, 0), (3, 0), (4, 0), (5, 0), (6, 0), (7, 0), (8, 2), (9, 0)]).seq (C2.cond (t 26) ((ops 0 [O 4 (mov cFal)]).seq ret) skip))).seq (ops 0 [O 15 (M 5), O 16 (B2 .add (t 15) (N ((1)))), O 5 (M 16)]))).loop)).seq ((ops 0 [O 4 (mov cTru)]).seq ret)))))
theorem is20 : Is Tryz.prog 20 b20 := Is.mk' Tryz.func20 (by kernel_rfl)

def b21 : F2 := (F2.mk 53 [RV.t 8, RV.t 9] ((ops 0 [O 4 (box (t 0)), O 8 (mov (c AV.esl)), O 9 (mov (N ((0))))]).seq (((ops 0 [O 14 (ldn 4 (t 4)), O 15 (M 1), O 16 (M 2), O 17 (call (F 51) [t 14, t 15, t 16]), O 10 (M 17)]).seq ((ops 0 [O 18 (M 10), O 19 (B2 .neq (t 18) (N ((0))))]).seq (C2.cond (t 19) ((ops 0 [O 20 (M 10), O 8 (mov (c AV.esl)), O 9 (M 20)]).seq ret) skip))).seq (((ops 0 [O 21 (M 3), O 22 (B2 .lss (t 21) (N ((0)))), O 23 (M 22), G 24 23 false (M 3), G 25 23 false (fa 0 (t 4)), G 26 23 false (D 25), G 27 23 false (B2 .geq (t 24) (t 26)), O 28 (pick (t 23) cTru (t 27))]).seq (C2.cond (t 28) ((ops 0 [O 8 (mov (c AV.esl)), O 9 (mov (N ((2))))]).seq ret) skip)).seq ((ops 0 [O 11 (mov (c AV.esl))]).seq (((ops 0 [O 29 (fa 3 (t 4)), O 30 (D 29), O 31 (M 1), O 32 (ixaS 3 (t 30) (t 31)), O 33 (ldn 3 (t 32)), O 34 (M 2), O 35 (call (F 53) [t 33, t 34]), O 36 (lenS (t 35)), O 37 (mov (N ((0))))]).seq (block 0 ((ops 0 [O 38 (B2 .lss (t 37) (t 36))]).seq ((C2.cond (t 38) skip (exit 0)).seq ((block 1 ((ops 0 [O 39 (ixaS 1 (t 35) (t 37)), O 40 (D 39), O 13 (M 40)]).seq (ops 0 [O 41 (M 11), O 42 (M 13), O 43 (M 3), O 44 (ixaS 1 (t 42) (t 43)), O 45 (D 44), O 46 (bldS 1 1 [AV.int IntKind.i64 (0)] [(0, 1, t 45)]), O 47 (app 1 8 (t 41) (t 46)), O 11 (M 47)]))).seq (ops 0 [O 48 (B2 .add (t 37) (N ((1)))), O 37 (M 48)])))).loop)).seq ((ops 0 [O 49 (M 11), O 50 (call (F 62) [t 49])]).seq ((ops 0 [O 51 (M 11), O 52 (call (F 39) [t 51]), O 8 (M 52), O 9 (mov (N ((0))))]).seq ret))))))))
theorem is21 : Is Tryz.prog 21 b21 := Is.mk' Tryz.func21 (by kernel_rfl)

def b22 : F2 := (F2.mk 37 [RV.t 8, RV.t 9] ((ops 0 [O 4 (box (t 0)), O 8 (mov (c AV.esl)), O 9 (mov (N ((0))))]).seq (((ops 0 [O 11 (ldn 4 (t 4)), O 12 (M 1), O 13 (M 2), O 14 (call (F 54) [t 11, t 12, t 13]), O 10 (M 14)]).seq ((ops 0 [O 15 (M 10), O 16 (B2 .neq (t 15) (N ((0))))]).seq (C2.cond (t 16) ((ops 0 [O 17 (M 10), O 8 (mov (c AV.esl)), O 9 (M 17)]).seq ret) skip))).seq (((ops 0 [O 18 (M 3), O 19 (B2 .lss (t 18) (N ((0)))), O 20 (M 19), G 21 20 false (M 3), G 22 20 false (fa 0 (t 4)), G 23 20 false (D 22), G 24 20 false (B2 .geq (t 21) (t 23)), O 25 (pick (t 20) cTru (t 24))]).seq (C2.cond (t 25) ((ops 0 [O 8 (mov (c AV.esl)), O 9 (mov (N ((2))))]).seq ret) skip)).seq ((mixS 1 [O 26 (fa 3 (t 4)), O 27 (D 26), O 28 (M 1), O 29 (ixaS 3 (t 27) (t 28)), O 30 (ldn 3 (t 29)), O 31 (M 2), O 32 (call (F 55) [t 30, t 31]), O 33 (M 3), O 34 (fa 2 (t 4)), O 35 (D 34), O 36 (call (F 63) [t 32, t 33, t 35]), O 8 (M 36), O 9 (mov (N ((0))))] [(0, 0), (1, 0), (2, 0), (3, 0), (4, 0), (5, 0), (7, 0), (8, 0), (9, 0), (6, 1), (10, 2), (11, 0), (12, 0)]).seq ret)))))
theorem is22 : Is Tryz.prog 22 b22 := Is.mk' Tryz.func22 (by kernel_rfl)

def b23 : F2 := (F2.mk 26 [RV.t 4] ((ops 0 [O 4 (mov cFal)]).seq (((ops 0 [O 6 (M 0), O 7 (lenS (t 6)), O 8 (M 1), O 9 (lenS (t 8)), O 10 (B2 .neq (t 7) (t 9))]).seq (C2.cond (t 10) ((ops 0 [O 4 (mov cFal)]).seq ret) skip)).seq (((ops 0 [O 11 (M 0), O 12 (lenS (t 11)), O 13 (mov (N ((0))))]).seq (block 0 ((ops 0 [O 14 (B2 .lss (t 13) (t 12))]).seq ((C2.cond (t 14) skip (exit 0)).seq ((block 1 ((ops 0 [O 15 (M 13), O 5 (M 15)]).seq ((ops 1 [O 16 (M 0), O 17 (M 5), O 18 (ixaS 1 (t 16) (t 17)), O 19 (D 18), O 20 (M 1), O 21 (M 5), O 22 (ixaS 1 (t 20) (t 21)), O 23 (D 22), O 24 (B2 .neq (t 19) (t 23))]).seq (C2.cond (t 24) ((ops 0 [O 4 (mov cFal)]).seq ret) skip)))).seq (ops 0 [O 25 (B2 .add (t 13) (N ((1)))), O 13 (M 25)])))).loop)).seq ((ops 0 [O 4 (mov cTru)]).seq ret)))))
theorem is23 : Is Tryz.prog 23 b23 := Is.mk' Tryz.func23 (by kernel_rfl)

def b24 : F2 := (F2.mk 74 [RV.cn 4 4, RV.t 5] ((ops 0 [O 2 (box (t 0)), O 4 (alloc (AV.agg [AV.int IntKind.i64 (0), AV.int IntKind.i64 (0), AV.int IntKind.i64 (0), AV.esl])), O 5 (mov (N ((0))))]).seq (((ops 0 [O 11 (ldn 4 (t 2)), O 12 (call (F 14) [t 11]), O 6 (M 12)]).seq ((ops 0 [O 13 (M 6), O 14 (B2 .neq (t 13) (N ((0))))]).seq (C2.cond (t 14) ((ops 0 [O 15 (bld [AV.int IntKind.i64 (0), AV.int IntKind.i64 (0), AV.int IntKind.i64 (0), AV.esl] []), O 16 (M 6), Op2.mk none none (Ins.st 4 (t 4) (t 15)), O 5 (M 16)]).seq ret) skip))).seq (((ops 0 [O 17 (M 1), O 18 (lenS (t 17)), O 19 (B2 .lss (t 18) (N ((1)))), O 20 (M 19), G 21 20 false (M 1), G 22 20 false (lenS (t 21)), G 23 20 false (B2 .gtr (t 22) (N ((1024)))), O 24 (pick (t 20) cTru (t 23))]).seq (C2.cond (t 24) ((ops 0 [O 25 (bld [AV.int IntKind.i64 (0), AV.int IntKind.i64 (0), AV.int IntKind.i64 (0), AV.esl] []), Op2.mk none none (Ins.st 4 (t 4) (t 25)), O 5 (mov (N ((5))))]).seq ret) skip)).seq (((ops 0 [O 26 (M 1), O 27 (lenS (t 26)), O 28 (mov (N ((0))))]).seq (block 0 ((ops 0 [O 29 (B2 .lss (t 28) (t 27))]).seq ((C2.cond (t 29) skip (exit 0)).seq ((block 1 ((ops 0 [O 30 (M 28), O 31 (ixaS 1 (t 26) (t 28)), O 32 (D 31), O 7 (M 30), O 8 (M 32)]).seq (((ops 0 [O 33 (M 8), O 34 (B2 .lss (t 33) (N ((0)))), O 35 (M 34), G 36 35 false (M 8), G 37 35 false (fa 3 (t 2)), G 38 35 false (D 37), G 39 35 false (lenS (t 38)), G 40 35 false (B2 .geq (t 36) (t 39)), O 41 (pick (t 35) cTru (t 40))]).seq (C2.cond (t 41) ((ops 0 [O 42 (bld [AV.int IntKind.i64 (0), AV.int IntKind.i64 (0), AV.int IntKind.i64 (0), AV.esl] []), Op2.mk none none (Ins.st 4 (t 4) (t 42)), O 5 (mov (N ((6))))]).seq ret) skip)).seq ((ops 0 [O 43 (M 7), O 44 (B2 .gtr (t 43) (N ((0)))), O 45 (M 44), G 46 45 true (M 1), G 47 45 true (M 7), G 48 45 true (B2 .sub (t 47) (N ((1)))), G 49 45 true (ixaS 1 (t 46) (t 48)), G 50 45 true (D 49), G 51 45 true (M 8), G 52 45 true (B2 .geq (t 50) (t 51)), O 53 (pick (t 45) (t 52) cFal)]).seq (C2.cond (t 53) ((ops 0 [O 54 (bld [AV.int IntKind.i64 (0), AV.int IntKind.i64 (0), AV.int IntKind.i64 (0), AV.esl] []), Op2.mk none none (Ins.st 4 (t 4) (t 54)), O 5 (mov (N ((14))))]).seq ret) skip))))).seq (ops 0 [O 55 (B2 .add (t 28) (N ((1)))), O 28 (M 55)])))).loop)).seq ((ops 0 [O 56 (fa 0 (t 2)), O 57 (D 56), O 58 (fa 1 (t 2)), O 59 (D 58), O 60 (fa 2 (t 2)), O 61 (D 60), O 62 (bld [AV.int IntKind.i64 (0), AV.int IntKind.i64 (0), AV.int IntKind.i64 (0), AV.esl] [(0, 1, t 57), (1, 1, t 59), (2, 1, t 61)]), O 9 (alloc (AV.agg [AV.int IntKind.i64 (0), AV.int IntKind.i64 (0), AV.int IntKind.i64 (0), AV.esl])), Op2.mk none none (Ins.st 4 (t 9) (t 62))]).seq (((ops 0 [O 63 (ldn 4 (t 2)), O 64 (M 1), O 65 (call (F 64) [t 63, t 64])]).seq (block 2 (rangeF (t 65) [66] (ops 0 [O 10 (alloc (AV.agg [AV.esl, AV.esl, AV.esl])), Op2.mk none none (Ins.st 3 (t 10) (t 66))]) (block 3 (ops 0 [O 67 (fa 3 (t 9)), O 68 (D 67), O 69 (ldn 3 (t 10)), O 70 (bldS 3 1 [AV.esl, AV.esl, AV.esl] [(0, 3, t 69)]), O 71 (app 3 72 (t 68) (t 70)), O 72 (fa 3 (t 9)), Op2.mk none none (Ins.st 1 (t 72) (t 71))]))))).seq ((ops 0 [O 73 (ldn 4 (t 9)), Op2.mk none none (Ins.st 4 (t 4) (t 73)), O 5 (mov (N ((0))))]).seq ret))))))))
theorem is24 : Is Tryz.prog 24 b24 := Is.mk' Tryz.func24 (by kernel_rfl)

def b26 : F2 := (F2.mk 69 [RV.cn 4 4, RV.t 5] ((ops 0 [O 2 (box (t 0)), O 4 (alloc (AV.agg [AV.int IntKind.i64 (0), AV.int IntKind.i64 (0), AV.int IntKind.i64 (0), AV.esl])), O 5 (mov (N ((0))))]).seq (((ops 0 [O 11 (ldn 4 (t 2)), O 12 (call (F 14) [t 11]), O 6 (M 12)]).seq ((ops 0 [O 13 (M 6), O 14 (B2 .neq (t 13) (N ((0))))]).seq (C2.cond (t 14) ((ops 0 [O 15 (bld [AV.int IntKind.i64 (0), AV.int IntKind.i64 (0), AV.int IntKind.i64 (0), AV.esl] []), O 16 (M 6), Op2.mk none none (Ins.st 4 (t 4) (t 15)), O 5 (M 16)]).seq ret) skip))).seq (((ops 0 [O 17 (M 1), O 18 (call (F 65) [t 17]), O 7 (M 18)]).seq ((ops 0 [O 19 (M 7), O 20 (B2 .neq (t 19) (N ((0))))]).seq (C2.cond (t 20) ((ops 0 [O 21 (bld [AV.int IntKind.i64 (0), AV.int IntKind.i64 (0), AV.int IntKind.i64 (0), AV.esl] []), O 22 (M 7), Op2.mk none none (Ins.st 4 (t 4) (t 21)), O 5 (M 22)]).seq ret) skip))).seq (((ops 0 [O 23 (M 1), O 24 (lenS (t 23)), O 25 (fa 0 (t 2)), O 26 (D 25), O 27 (B2 .neq (t 24) (t 26))]).seq (C2.cond (t 27) ((ops 0 [O 28 (bld [AV.int IntKind.i64 (0), AV.int IntKind.i64 (0), AV.int IntKind.i64 (0), AV.esl] []), Op2.mk none none (Ins.st 4 (t 4) (t 28)), O 5 (mov (N ((22))))]).seq ret) skip)).seq ((ops 0 [O 29 (fa 0 (t 2)), O 30 (D 29), O 31 (fa 1 (t 2)), O 32 (D 31), O 33 (fa 2 (t 2)), O 34 (D 33), O 35 (bld [AV.int IntKind.i64 (0), AV.int IntKind.i64 (0), AV.int IntKind.i64 (0), AV.esl] [(0, 1, t 30), (1, 1, t 32), (2, 1, t 34)]), O 8 (alloc (AV.agg [AV.int IntKind.i64 (0), AV.int IntKind.i64 (0), AV.int IntKind.i64 (0), AV.esl])), Op2.mk none none (Ins.st 4 (t 8) (t 35))]).seq (((ops 0 [O 36 (fa 3 (t 2)), O 37 (D 36), O 38 (lenS (t 37)), O 39 (mov (N ((0))))]).seq (block 0 ((ops 0 [O 40 (B2 .lss (t 39) (t 38))]).seq ((C2.cond (t 40) skip (exit 0)).seq ((block 1 ((ops 0 [O 41 (ixaS 3 (t 37) (t 39)), O 42 (ldn 3 (t 41)), O 10 (alloc (AV.agg [AV.esl, AV.esl, AV.esl])), Op2.mk none none (Ins.st 3 (t 10) (t 42))]).seq (mixS 1 [O 43 (fa 3 (t 8)), O 44 (D 43), O 45 (fa 0 (t 10)), O 46 (D 45), O 47 (bldS 1 1 [AV.esl] [(0, 1, t 46)]), O 48 (M 1), O 49 (call (F 66) [t 47, t 48]), O 50 (ixaS 1 (t 49) (N ((0)))), O 51 (D 50), O 52 (fa 1 (t 10)), O 53 (D 52), O 54 (M 1), O 55 (call (F 66) [t 53, t 54]), O 56 (fa 2 (t 10)), O 57 (D 56), O 58 (M 1), O 59 (call (F 66) [t 57, t 58]), O 60 (bld [AV.esl, AV.esl, AV.esl] [(0, 1, t 51), (1, 1, t 55), (2, 1, t 59)]), O 61 (bldS 3 1 [AV.esl, AV.esl, AV.esl] [(0, 3, t 60)]), O 62 (app 3 72 (t 44) (t 61)), O 63 (fa 3 (t 8)), Op2.mk none none (Ins.st 1 (t 63) (t 62))] [(0, 0), (1, 0), (2, 0), (3, 0), (5, 0), (9, 0), (10, 0), (11, 0), (13, 0), (14, 0), (15, 0), (4, 1), (6, 1), (7, 0), (8, 0), (12, 1), (16, 1), (17, 0), (18, 1), (19, 2), (20, 0), (21, 2)]))).seq (ops 0 [O 64 (B2 .add (t 39) (N ((1)))), O 39 (M 64)])))).loop)).seq ((ops 0 [O 65 (fa 3 (t 8)), O 66 (D 65), O 67 (call (F 67) [t 66, c (AV.func 68 [])])]).seq ((ops 0 [O 68 (ldn 4 (t 8)), Op2.mk none none (Ins.st 4 (t 4) (t 68)), O 5 (mov (N ((0))))]).seq ret)))))))))
theorem is26 : Is Tryz.prog 26 b26 := Is.mk' Tryz.func26 (by kernel_rfl)

def b29 : F2 := (F2.mk 33 [RV.t 2, RV.t 3] ((ops 0 [O 1 (box (t 0)), O 2 (mov cFal), O 3 (mov (N ((0))))]).seq (((ops 0 [O 9 (ldn 4 (t 1)), O 10 (call (F 14) [t 9]), O 4 (M 10)]).seq ((ops 0 [O 11 (M 4), O 12 (B2 .neq (t 11) (N ((0))))]).seq (C2.cond (t 12) ((ops 0 [O 13 (M 4), O 2 (mov cFal), O 3 (M 13)]).seq ret) skip))).seq (((ops 0 [O 14 (fa 3 (t 1)), O 15 (D 14), O 16 (lenS (t 15)), O 17 (mov (N ((0))))]).seq (block 0 ((ops 0 [O 18 (B2 .lss (t 17) (t 16))]).seq ((C2.cond (t 18) skip (exit 0)).seq ((block 1 ((ops 0 [O 19 (ixaS 3 (t 15) (t 17)), O 20 (ldn 3 (t 19)), O 6 (alloc (AV.agg [AV.esl, AV.esl, AV.esl])), Op2.mk none none (Ins.st 3 (t 6) (t 20))]).seq ((ops 0 [O 21 (fa 1 (t 6)), O 22 (D 21), O 23 (lenS (t 22)), O 24 (mov (N ((0))))]).seq (block 2 ((ops 0 [O 25 (B2 .lss (t 24) (t 23))]).seq ((C2.cond (t 25) skip (exit 2)).seq ((block 3 ((ops 0 [O 26 (ixaS 1 (t 22) (t 24)), O 27 (D 26), O 8 (M 27)]).seq ((ops 0 [O 28 (M 8), O 29 (call (F 70) [t 28]), O 30 (un UnOp.not (t 29))]).seq (C2.cond (t 30) ((ops 0 [O 2 (mov cFal), O 3 (mov (N ((0))))]).seq ret) skip)))).seq (ops 0 [O 31 (B2 .add (t 24) (N ((1)))), O 24 (M 31)])))).loop)))).seq (ops 0 [O 32 (B2 .add (t 17) (N ((1)))), O 17 (M 32)])))).loop)).seq ((ops 0 [O 2 (mov cTru), O 3 (mov (N ((0))))]).seq ret)))))
theorem is29 : Is Tryz.prog 29 b29 := Is.mk' Tryz.func29 (by kernel_rfl)

def b31 : F2 := (F2.mk 31 [RV.t 2, RV.t 3, RV.t 4] ((ops 0 [O 1 (box (t 0)), O 2 (mov (N ((0)))), O 3 (mov (N ((0)))), O 4 (mov (N ((0))))]).seq (((ops 0 [O 9 (ldn 4 (t 1)), O 10 (call (F 14) [t 9]), O 5 (M 10)]).seq ((ops 0 [O 11 (M 5), O 12 (B2 .neq (t 11) (N ((0))))]).seq (C2.cond (t 12) ((ops 0 [O 13 (M 5), O 2 (mov (N ((0)))), O 3 (mov (N ((0)))), O 4 (M 13)]).seq ret) skip))).seq ((ops 0 [O 6 (mov (N ((0))))]).seq (((ops 0 [O 14 (fa 3 (t 1)), O 15 (D 14), O 16 (lenS (t 15)), O 17 (mov (N ((0))))]).seq (block 0 ((ops 0 [O 18 (B2 .lss (t 17) (t 16))]).seq ((C2.cond (t 18) skip (exit 0)).seq ((block 1 ((ops 0 [O 19 (ixaS 3 (t 15) (t 17)), O 20 (ldn 3 (t 19)), O 8 (alloc (AV.agg [AV.esl, AV.esl, AV.esl])), Op2.mk none none (Ins.st 3 (t 8) (t 20))]).seq (ops 0 [O 21 (M 6), O 22 (fa 1 (t 8)), O 23 (D 22), O 24 (lenS (t 23)), O 25 (B2 .add (t 21) (t 24)), O 6 (M 25)]))).seq (ops 0 [O 26 (B2 .add (t 17) (N ((1)))), O 17 (M 26)])))).loop)).seq ((ops 0 [O 27 (fa 3 (t 1)), O 28 (D 27), O 29 (lenS (t 28)), O 30 (M 6), O 2 (M 29), O 3 (M 30), O 4 (mov (N ((0))))]).seq ret))))))
theorem is31 : Is Tryz.prog 31 b31 := Is.mk' Tryz.func31 (by kernel_rfl)

def b37 : F2 := (F2.mk 8 [RV.t 2] ((ops 0 [O 2 (mov (c AV.esl))]).seq (((ops 0 [O 3 (M 0), O 4 (snil false (t 3))]).seq (C2.cond (t 4) ((ops 0 [O 2 (mov (c AV.esl))]).seq ret) skip)).seq ((ops 0 [O 5 (bldS 1 0 [AV.int IntKind.i64 (0)] []), O 6 (M 0), O 7 (app 1 8 (t 5) (t 6)), O 2 (M 7)]).seq ret))))
theorem is37 : Is Tryz.prog 37 b37 := Is.mk' Tryz.func37 (by kernel_rfl)

def b39 : F2 := (F2.mk 61 [RV.t 2] ((ops 0 [O 2 (mov (c AV.esl))]).seq (((ops 0 [O 6 (M 0), O 7 (lenS (t 6)), O 8 (B2 .lss (t 7) (N ((2))))]).seq (C2.cond (t 8) ((ops 0 [O 9 (M 0), O 2 (M 9)]).seq ret) skip)).seq (((ops 0 [O 3 (mov (N ((1))))]).seq (block 0 (((ops 0 [O 10 (M 3), O 11 (M 0), O 12 (lenS (t 11)), O 13 (B2 .lss (t 10) (t 12))]).seq (C2.cond (t 13) skip (exit 0))).seq ((block 1 ((ops 1 [O 16 (M 0), O 17 (M 3), O 18 (ixaS 1 (t 16) (t 17)), O 19 (D 18), O 20 (M 0), O 21 (M 3), O 22 (B2 .sub (t 21) (N ((1)))), O 23 (ixaS 1 (t 20) (t 22)), O 24 (D 23), O 25 (B2 .eql (t 19) (t 24))]).seq (C2.cond (t 25) ((ops 0 [O 26 (M 0), O 27 (M 3), O 28 (sls 1 (t 26) (some (t 27)) none none), O 4 (M 28)]).seq (((ops 0 [O 5 (mov (N ((1))))]).seq (block 2 (((ops 0 [O 29 (M 5), O 30 (M 4), O 31 (lenS (t 30)), O 32 (B2 .lss (t 29) (t 31))]).seq (C2.cond (t 32) skip (exit 2))).seq ((block 3 ((ops 1 [O 35 (M 4), O 36 (M 5), O 37 (ixaS 1 (t 35) (t 36)), O 38 (D 37), O 39 (M 4), O 40 (M 5), O 41 (B2 .sub (t 40) (N ((1)))), O 42 (ixaS 1 (t 39) (t 41)), O 43 (D 42), O 44 (B2 .neq (t 38) (t 43))]).seq (C2.cond (t 44) ((ops 0 [O 45 (M 0), O 46 (M 3), O 47 (M 4), O 48 (M 5), O 49 (ixaS 1 (t 47) (t 48)), O 50 (D 49), O 51 (ixaS 1 (t 45) (t 46)), Op2.mk none none (Ins.st 1 (t 51) (t 50))]).seq (ops 0 [O 52 (M 3), O 53 (B2 .add (t 52) (N ((1)))), O 3 (M 53)])) skip))).seq (ops 0 [O 33 (M 5), O 34 (B2 .add (t 33) (N ((1)))), O 5 (M 34)]))).loop)).seq ((ops 0 [O 54 (M 0), O 55 (M 3), O 56 (sls 1 (t 54) (some (t 55)) none none), Op2.mk none none (clr 1 (AV.int IntKind.i64 (0)) (t 56))]).seq ((ops 0 [O 57 (M 0), O 58 (M 3), O 59 (sls 1 (t 57) none (some (t 58)) none), O 2 (M 59)]).seq ret)))) skip))).seq (ops 0 [O 14 (M 3), O 15 (B2 .add (t 14) (N ((1)))), O 3 (M 15)]))).loop)).seq ((ops 0 [O 60 (M 0), O 2 (M 60)]).seq ret)))))
theorem is39 : Is Tryz.prog 39 b39 := Is.mk' Tryz.func39 (by kernel_rfl)

def b40 : F2 := (F2.mk 9 [RV.t 4] ((ops 0 [O 4 (mov cFal)]).seq ((ops 0 [O 5 (M 0), O 6 (M 1), O 7 (call (F 75) [t 5, t 6]), O 8 (B2 .geq (t 7) (N ((0)))), O 4 (M 8)]).seq ret)))
theorem is40 : Is Tryz.prog 40 b40 := Is.mk' Tryz.func40 (by kernel_rfl)

def b42 : F2 := (F2.mk 22 [RV.t 4] ((ops 0 [O 4 (mov cFal)]).seq (((ops 0 [O 6 (M 0), O 7 (lenS (t 6)), O 8 (M 1), O 9 (B2 .gtr (t 7) (t 8))]).seq (C2.cond (t 9) ((ops 0 [O 4 (mov cFal)]).seq ret) skip)).seq (((ops 0 [O 5 (mov (N ((0))))]).seq (block 0 (((ops 0 [O 10 (M 5), O 11 (M 0), O 12 (lenS (t 11)), O 13 (B2 .lss (t 10) (t 12))]).seq (C2.cond (t 13) skip (exit 0))).seq ((block 1 ((ops 0 [O 16 (M 0), O 17 (M 5), O 18 (ixaS 1 (t 16) (t 17)), O 19 (D 18), O 20 (lenS (t 19)), O 21 (B2 .gtr (t 20) (N ((10))))]).seq (C2.cond (t 21) ((ops 0 [O 4 (mov cFal)]).seq ret) skip))).seq (ops 0 [O 14 (M 5), O 15 (B2 .add (t 14) (N ((1)))), O 5 (M 15)]))).loop)).seq ((ops 0 [O 4 (mov cTru)]).seq ret)))))
theorem is42 : Is Tryz.prog 42 b42 := Is.mk' Tryz.func42 (by kernel_rfl)

def b43 : F2 := (F2.mk 18 [RV.cn 0 4] ((ops 0 [O 0 (alloc (AV.agg [AV.int IntKind.i64 (0), AV.int IntKind.i64 (0), AV.int IntKind.i64 (0), AV.esl]))]).seq ((ops 0 [O 1 (bldS 1 2 [AV.int IntKind.i64 (0)] [(0, 1, c (AV.int IntKind.i64 (0))), (1, 1, c (AV.int IntKind.i64 (0)))]), O 2 (bldS 1 2 [AV.int IntKind.i64 (0)] [(0, 1, c (AV.int IntKind.i64 (0))), (1, 1, c (AV.int IntKind.i64 (0)))]), O 3 (bldS 1 1 [AV.esl] [(0, 1, t 2)]), O 4 (bld [AV.esl, AV.esl, AV.esl] [(0, 1, t 1), (1, 1, t 3)]), O 5 (bldS 1 2 [AV.int IntKind.i64 (0)] [(0, 1, c (AV.int IntKind.i64 (0))), (1, 1, c (AV.int IntKind.i64 (1)))]), O 6 (bldS 1 2 [AV.int IntKind.i64 (0)] [(0, 1, c (AV.int IntKind.i64 (0))), (1, 1, c (AV.int IntKind.i64 (0)))]), O 7 (bldS 1 2 [AV.int IntKind.i64 (0)] [(0, 1, c (AV.int IntKind.i64 (1))), (1, 1, c (AV.int IntKind.i64 (1)))]), O 8 (bldS 1 2 [AV.esl] [(0, 1, t 6), (1, 1, t 7)]), O 9 (bldS 1 2 [AV.int IntKind.i64 (0)] [(0, 1, c (AV.int IntKind.i64 (1))), (1, 1, c (AV.int IntKind.i64 (1)))]), O 10 (bldS 1 1 [AV.esl] [(0, 1, t 9)]), O 11 (bld [AV.esl, AV.esl, AV.esl] [(0, 1, t 5), (1, 1, t 8), (2, 1, t 10)]), O 12 (bldS 1 2 [AV.int IntKind.i64 (0)] [(0, 1, c (AV.int IntKind.i64 (1))), (1, 1, c (AV.int IntKind.i64 (1)))]), O 13 (bldS 1 2 [AV.int IntKind.i64 (0)] [(0, 1, c (AV.int IntKind.i64 (1))), (1, 1, c (AV.int IntKind.i64 (1)))]), O 14 (bldS 1 1 [AV.esl] [(0, 1, t 13)]), O 15 (bld [AV.esl, AV.esl, AV.esl] [(0, 1, t 12), (1, 1, t 14)]), O 16 (bldS 3 3 [AV.esl, AV.esl, AV.esl] [(0, 3, t 4), (3, 3, t 11), (6, 3, t 15)]), O 17 (bld [AV.int IntKind.i64 (0), AV.int IntKind.i64 (0), AV.int IntKind.i64 (0), AV.esl] [(0, 1, c (AV.int IntKind.i64 (2))), (1, 1, c (AV.int IntKind.i64 (2))), (2, 1, c (AV.int IntKind.i64 (2))), (3, 1, t 16)]), Op2.mk none none (Ins.st 4 (t 0) (t 17))]).seq ret)))
theorem is43 : Is Tryz.prog 43 b43 := Is.mk' Tryz.func43 (by kernel_rfl)

def b44 : F2 := (F2.mk 49 [RV.t 6, RV.t 7] ((ops 0 [O 6 (mov (N ((0)))), O 7 (mov cFal)]).seq ((ops 0 [O 12 (M 0), O 13 (lenS (t 12)), O 8 (M 13)]).seq ((ops 0 [O 14 (M 8), O 9 (mov (N ((0)))), O 10 (M 14)]).seq ((block 0 (((ops 0 [O 15 (M 9), O 16 (M 10), O 17 (B2 .lss (t 15) (t 16))]).seq (C2.cond (t 17) skip (exit 0))).seq (block 1 ((ops 0 [O 18 (M 9), O 19 (M 10), O 20 (B2 .add (t 18) (t 19)), O 21 (conv IntKind.u64 (t 20)), O 22 (B2 .shr (t 21) (c (AV.int IntKind.u64 (1)))), O 23 (conv IntKind.i64 (t 22)), O 11 (M 23)]).seq ((ops 0 [O 24 (M 2), O 25 (M 0), O 26 (M 11), O 27 (ixaS 3 (t 25) (t 26)), O 28 (ldn 3 (t 27)), O 29 (M 1), O 30 (call (t 24) [t 28, t 29]), O 31 (B2 .lss (t 30) (N ((0))))]).seq (C2.cond (t 31) (ops 0 [O 32 (M 11), O 33 (B2 .add (t 32) (N ((1)))), O 9 (M 33)]) (ops 0 [O 34 (M 11), O 10 (M 34)])))))).loop).seq ((ops 0 [O 35 (M 9), O 36 (M 9), O 37 (M 8), O 38 (B2 .lss (t 36) (t 37)), O 39 (M 38), G 40 39 true (M 2), G 41 39 true (M 0), G 42 39 true (M 9), G 43 39 true (ixaS 3 (t 41) (t 42)), G 44 39 true (ldn 3 (t 43)), G 45 39 true (M 1), G 46 39 true (call (t 40) [t 44, t 45]), G 47 39 true (B2 .eql (t 46) (N ((0)))), O 48 (pick (t 39) (t 47) cFal), O 6 (M 35), O 7 (M 48)]).seq ret))))))
theorem is44 : Is Tryz.prog 44 b44 := Is.mk' Tryz.func44 (by kernel_rfl)

def b45 : F2 := (F2.mk 9 [RV.t 4] ((ops 0 [O 2 (box (t 0)), O 4 (mov (N ((0))))]).seq ((ops 0 [O 5 (fa 0 (t 2)), O 6 (D 5), O 7 (M 1), O 8 (call (F 46) [t 6, t 7]), O 4 (M 8)]).seq ret)))
theorem is45 : Is Tryz.prog 45 b45 := Is.mk' Tryz.func45 (by kernel_rfl)

def b46 : F2 := (F2.mk 36 [RV.t 4] ((ops 0 [O 4 (mov (N ((0))))]).seq (((ops 0 [O 9 (M 0), O 10 (lenS (t 9)), O 11 (mov (N ((0))))]).seq (block 0 ((ops 0 [O 12 (B2 .lss (t 11) (t 10))]).seq ((C2.cond (t 12) skip (exit 0)).seq ((block 1 ((ops 0 [O 13 (M 11), O 14 (ixaS 1 (t 9) (t 11)), O 15 (D 14), O 5 (M 13), O 6 (M 15)]).seq (((ops 0 [O 16 (M 5), O 17 (M 1), O 18 (lenS (t 17)), O 19 (B2 .geq (t 16) (t 18))]).seq (C2.cond (t 19) ((ops 0 [O 4 (mov (N ((1))))]).seq ret) skip)).seq ((ops 0 [O 20 (M 1), O 21 (M 5), O 22 (ixaS 1 (t 20) (t 21)), O 23 (D 22), O 7 (M 23)]).seq ((ops 0 [O 24 (M 6), O 25 (M 7), O 26 (call (F 76) [t 24, t 25]), O 8 (M 26)]).seq ((ops 0 [O 27 (M 8), O 28 (B2 .neq (t 27) (N ((0))))]).seq (C2.cond (t 28) ((ops 0 [O 29 (M 8), O 4 (M 29)]).seq ret) skip))))))).seq (ops 0 [O 30 (B2 .add (t 11) (N ((1)))), O 11 (M 30)])))).loop)).seq (((ops 0 [O 31 (M 0), O 32 (lenS (t 31)), O 33 (M 1), O 34 (lenS (t 33)), O 35 (B2 .lss (t 32) (t 34))]).seq (C2.cond (t 35) ((ops 0 [O 4 (mov (N ((-1))))]).seq ret) skip)).seq ((ops 0 [O 4 (mov (N ((0))))]).seq ret)))))
theorem is46 : Is Tryz.prog 46 b46 := Is.mk' Tryz.func46 (by kernel_rfl)

def b48 : F2 := (F2.mk 14 [RV.t 6] ((ops 0 [O 5 (box (t 2)), O 6 (mov (N ((0))))]).seq (((ops 0 [O 7 (M 0), O 8 (lenS (t 7)), O 9 (M 1), O 10 (B2 .neq (t 8) (t 9))]).seq (C2.cond (t 10) ((ops 0 [O 6 (mov (N ((15))))]).seq ret) skip)).seq (((ops 0 [O 11 (M 0), O 12 (mkfn 77 [t 5]), O 13 (call (F 56) [t 11, t 12])]).seq (C2.cond (t 13) ((ops 0 [O 6 (mov (N ((2))))]).seq ret) skip)).seq ((ops 0 [O 6 (mov (N ((0))))]).seq ret)))))
theorem is48 : Is Tryz.prog 48 b48 := Is.mk' Tryz.func48 (by kernel_rfl)

def b49 : F2 := (F2.mk 60 [RV.t 4] ((ops 0 [O 2 (box (t 0)), O 3 (box (t 1)), O 4 (mov (N ((0))))]).seq (((ops 0 [O 10 (fa 1 (t 3)), O 11 (D 10), O 12 (lenS (t 11)), O 13 (B2 .lss (t 12) (N ((1)))), O 14 (M 13), G 15 14 false (fa 1 (t 3)), G 16 14 false (D 15), G 17 14 false (lenS (t 16)), G 18 14 false (B2 .gtr (t 17) (N ((1024)))), O 19 (pick (t 14) cTru (t 18))]).seq (C2.cond (t 19) ((ops 0 [O 4 (mov (N ((5))))]).seq ret) skip)).seq (((ops 0 [O 20 (fa 1 (t 3)), O 21 (D 20), O 22 (lenS (t 21)), O 23 (mov (N ((0))))]).seq (block 0 ((ops 0 [O 24 (B2 .lss (t 23) (t 22))]).seq ((C2.cond (t 24) skip (exit 0)).seq ((block 1 ((ops 0 [O 25 (M 23), O 26 (ixaS 1 (t 21) (t 23)), O 27 (D 26), O 5 (M 25), O 6 (M 27)]).seq (((ops 0 [O 28 (M 6), O 29 (fa 0 (t 2)), O 30 (D 29), O 31 (fa 2 (t 2)), O 32 (D 31), O 33 (call (F 48) [t 28, t 30, t 32]), O 7 (M 33)]).seq ((ops 0 [O 34 (M 7), O 35 (B2 .neq (t 34) (N ((0))))]).seq (C2.cond (t 35) ((ops 0 [O 36 (M 7), O 4 (M 36)]).seq ret) skip))).seq ((ops 0 [O 37 (fa 1 (t 3)), O 38 (D 37), O 39 (M 5), O 40 (call (F 78) [t 38, t 39])]).seq (C2.cond (t 40) ((ops 0 [O 4 (mov (N ((14))))]).seq ret) skip))))).seq (ops 0 [O 41 (B2 .add (t 23) (N ((1)))), O 23 (M 41)])))).loop)).seq (((ops 0 [O 42 (fa 2 (t 3)), O 43 (D 42), O 44 (lenS (t 43)), O 45 (mov (N ((0))))]).seq (block 2 ((ops 0 [O 46 (B2 .lss (t 45) (t 44))]).seq ((C2.cond (t 46) skip (exit 2)).seq ((block 3 ((ops 0 [O 47 (M 45), O 48 (ixaS 1 (t 43) (t 45)), O 49 (D 48), O 8 (M 47), O 9 (M 49)]).seq (((ops 0 [O 50 (fa 1 (t 3)), O 51 (D 50), O 52 (M 9), O 53 (call (F 79) [t 51, t 52]), O 54 (un UnOp.not (t 53))]).seq (C2.cond (t 54) ((ops 0 [O 4 (mov (N ((6))))]).seq ret) skip)).seq ((ops 0 [O 55 (fa 2 (t 3)), O 56 (D 55), O 57 (M 8), O 58 (call (F 78) [t 56, t 57])]).seq (C2.cond (t 58) ((ops 0 [O 4 (mov (N ((14))))]).seq ret) skip))))).seq (ops 0 [O 59 (B2 .add (t 45) (N ((1)))), O 45 (M 59)])))).loop)).seq ((ops 0 [O 4 (mov (N ((0))))]).seq ret))))))
theorem is49 : Is Tryz.prog 49 b49 := Is.mk' Tryz.func49 (by kernel_rfl)

def b50 : F2 := (F2.mk 120 [RV.t 4] ((ops 0 [O 2 (box (t 0)), O 4 (mov (N ((0))))]).seq ((ops 0 [O 10 (fa 3 (t 2)), O 11 (D 10), O 12 (M 1), O 13 (ixaS 3 (t 11) (t 12)), O 14 (ldn 3 (t 13)), O 5 (alloc (AV.agg [AV.esl, AV.esl, AV.esl])), Op2.mk none none (Ins.st 3 (t 5) (t 14))]).seq (((ops 0 [O 15 (fa 0 (t 5)), O 16 (D 15), O 17 (fa 0 (t 2)), O 18 (D 17), O 19 (fa 1 (t 2)), O 20 (D 19), O 21 (call (F 80) [t 16, t 18, t 20]), O 6 (M 21)]).seq ((ops 0 [O 22 (M 6), O 23 (B2 .neq (t 22) (N ((0))))]).seq (C2.cond (t 23) ((ops 0 [O 24 (M 6), O 4 (M 24)]).seq ret) skip))).seq (((mixS 1 [O 25 (M 1), O 26 (B2 .gtr (t 25) (N ((0)))), O 27 (M 26), G 28 27 true (fa 3 (t 2)), G 29 27 true (D 28), G 30 27 true (M 1), G 31 27 true (B2 .sub (t 30) (N ((1)))), G 32 27 true (ixaS 3 (t 29) (t 31)), G 33 27 true (fa 0 (t 32)), G 34 27 true (D 33), G 35 27 true (fa 0 (t 5)), G 36 27 true (D 35), G 37 27 true (call (F 61) [t 34, t 36]), G 38 27 true (B2 .geq (t 37) (N ((0)))), O 39 (pick (t 27) (t 38) cFal)] [(0, 0), (1, 0), (2, 0), (3, 0), (4, 0), (5, 0), (6, 0), (7, 0), (8, 0), (9, 0), (10, 0), (11, 0), (12, 2), (13, 0), (14, 0)]).seq (C2.cond (t 39) ((ops 0 [O 4 (mov (N ((14))))]).seq ret) skip)).seq (((ops 0 [O 40 (fa 1 (t 5)), O 41 (D 40), O 42 (lenS (t 41)), O 43 (B2 .lss (t 42) (N ((1)))), O 44 (M 43), G 45 44 false (fa 1 (t 5)), G 46 44 false (D 45), G 47 44 false (lenS (t 46)), G 48 44 false (B2 .gtr (t 47) (N ((1024)))), O 49 (pick (t 44) cTru (t 48))]).seq (C2.cond (t 49) ((ops 0 [O 4 (mov (N ((5))))]).seq ret) skip)).seq (((ops 0 [O 7 (mov (N ((0))))]).seq (block 0 (((ops 0 [O 50 (M 7), O 51 (fa 1 (t 5)), O 52 (D 51), O 53 (lenS (t 52)), O 54 (B2 .lss (t 50) (t 53))]).seq (C2.cond (t 54) skip (exit 0))).seq ((block 1 (((mixS 1 [O 57 (fa 1 (t 5)), O 58 (D 57), O 59 (M 7), O 60 (ixaS 1 (t 58) (t 59)), O 61 (D 60), O 62 (fa 0 (t 2)), O 63 (D 62), O 64 (fa 2 (t 2)), O 65 (D 64), O 66 (call (F 80) [t 61, t 63, t 65]), O 8 (M 66)] [(0, 0), (1, 0), (2, 0), (3, 0), (4, 0), (5, 0), (6, 0), (7, 0), (8, 0), (9, 2), (10, 0)]).seq ((ops 0 [O 67 (M 8), O 68 (B2 .neq (t 67) (N ((0))))]).seq (C2.cond (t 68) ((ops 0 [O 69 (M 8), O 4 (M 69)]).seq ret) skip))).seq ((mixS 1 [O 70 (M 7), O 71 (B2 .gtr (t 70) (N ((0)))), O 72 (M 71), G 73 72 true (fa 1 (t 5)), G 74 72 true (D 73), G 75 72 true (M 7), G 76 72 true (B2 .sub (t 75) (N ((1)))), G 77 72 true (ixaS 1 (t 74) (t 76)), G 78 72 true (D 77), G 79 72 true (fa 1 (t 5)), G 80 72 true (D 79), G 81 72 true (M 7), G 82 72 true (ixaS 1 (t 80) (t 81)), G 83 72 true (D 82), G 84 72 true (call (F 61) [t 78, t 83]), G 85 72 true (B2 .geq (t 84) (N ((0)))), O 86 (pick (t 72) (t 85) cFal)] [(0, 0), (1, 0), (2, 0), (3, 0), (4, 0), (5, 0), (6, 0), (7, 0), (8, 0), (9, 0), (10, 0), (11, 0), (12, 0), (13, 0), (14, 2), (15, 0), (16, 0)]).seq (C2.cond (t 86) ((ops 0 [O 4 (mov (N ((14))))]).seq ret) skip)))).seq (ops 0 [O 55 (M 7), O 56 (B2 .add (t 55) (N ((1)))), O 7 (M 56)]))).loop)).seq (((ops 0 [O 9 (mov (N ((0))))]).seq (block 2 (((ops 0 [O 87 (M 9), O 88 (fa 2 (t 5)), O 89 (D 88), O 90 (lenS (t 89)), O 91 (B2 .lss (t 87) (t 90))]).seq (C2.cond (t 91) skip (exit 2))).seq ((block 3 (((mixS 1 [O 94 (fa 1 (t 5)), O 95 (D 94), O 96 (fa 2 (t 5)), O 97 (D 96), O 98 (M 9), O 99 (ixaS 1 (t 97) (t 98)), O 100 (D 99), O 101 (call (F 81) [t 95, t 100]), O 102 (un UnOp.not (t 101))] [(0, 0), (1, 0), (2, 0), (3, 0), (4, 0), (5, 0), (6, 0), (7, 2), (8, 0)]).seq (C2.cond (t 102) ((ops 0 [O 4 (mov (N ((6))))]).seq ret) skip)).seq ((mixS 1 [O 103 (M 9), O 104 (B2 .gtr (t 103) (N ((0)))), O 105 (M 104), G 106 105 true (fa 2 (t 5)), G 107 105 true (D 106), G 108 105 true (M 9), G 109 105 true (B2 .sub (t 108) (N ((1)))), G 110 105 true (ixaS 1 (t 107) (t 109)), G 111 105 true (D 110), G 112 105 true (fa 2 (t 5)), G 113 105 true (D 112), G 114 105 true (M 9), G 115 105 true (ixaS 1 (t 113) (t 114)), G 116 105 true (D 115), G 117 105 true (call (F 61) [t 111, t 116]), G 118 105 true (B2 .geq (t 117) (N ((0)))), O 119 (pick (t 105) (t 118) cFal)] [(0, 0), (1, 0), (2, 0), (3, 0), (4, 0), (5, 0), (6, 0), (7, 0), (8, 0), (9, 0), (10, 0), (11, 0), (12, 0), (13, 0), (14, 2), (15, 0), (16, 0)]).seq (C2.cond (t 119) ((ops 0 [O 4 (mov (N ((14))))]).seq ret) skip)))).seq (ops 0 [O 92 (M 9), O 93 (B2 .add (t 92) (N ((1)))), O 9 (M 93)]))).loop)).seq ((ops 0 [O 4 (mov (N ((0))))]).seq ret)))))))))
theorem is50 : Is Tryz.prog 50 b50 := Is.mk' Tryz.func50 (by kernel_rfl)

def b51 : F2 := (F2.mk 33 [RV.t 6] ((ops 0 [O 3 (box (t 0)), O 6 (mov (N ((0))))]).seq (((ops 0 [O 8 (ldn 4 (t 3)), O 9 (call (F 14) [t 8]), O 7 (M 9)]).seq ((ops 0 [O 10 (M 7), O 11 (B2 .neq (t 10) (N ((0))))]).seq (C2.cond (t 11) ((ops 0 [O 12 (M 7), O 6 (M 12)]).seq ret) skip))).seq ((block 0 ((ops 0 [O 14 (M 1), O 15 (B2 .lss (t 14) (N ((0)))), O 16 (M 15), G 17 16 false (M 1), G 18 16 false (fa 3 (t 3)), G 19 16 false (D 18), G 20 16 false (lenS (t 19)), G 21 16 false (B2 .geq (t 17) (t 20)), O 22 (pick (t 16) cTru (t 21)), O 13 (M 22)]).seq (C2.cond (t 13) ((ops 0 [O 6 (mov (N ((6))))]).seq ret) ((ops 0 [O 24 (M 2), O 25 (B2 .lss (t 24) (N ((0)))), O 26 (M 25), G 27 26 false (M 2), G 28 26 false (fa 0 (t 3)), G 29 26 false (D 28), G 30 26 false (B2 .shl (N ((1))) (t 29)), G 31 26 false (B2 .geq (t 27) (t 30)), O 32 (pick (t 26) cTru (t 31)), O 23 (M 32)]).seq (C2.cond (t 23) ((ops 0 [O 6 (mov (N ((2))))]).seq ret) skip))))).seq ((ops 0 [O 6 (mov (N ((0))))]).seq ret)))))
theorem is51 : Is Tryz.prog 51 b51 := Is.mk' Tryz.func51 (by kernel_rfl)

def b52 : F2 := (F2.mk 19 [RV.t 2] ((ops 0 [O 2 (mov (c AV.esl))]).seq ((ops 0 [O 3 (mov (c AV.esl))]).seq (((ops 0 [O 6 (M 0), O 7 (lenS (t 6)), O 8 (mov (N ((0))))]).seq (block 0 ((ops 0 [O 9 (B2 .lss (t 8) (t 7))]).seq ((C2.cond (t 9) skip (exit 0)).seq ((block 1 ((ops 0 [O 10 (ixaS 1 (t 6) (t 8)), O 11 (D 10), O 5 (M 11)]).seq (ops 0 [O 12 (M 3), O 13 (M 5), O 14 (call (F 37) [t 13]), O 15 (bldS 1 1 [AV.esl] [(0, 1, t 14)]), O 16 (app 1 24 (t 12) (t 15)), O 3 (M 16)]))).seq (ops 0 [O 17 (B2 .add (t 8) (N ((1)))), O 8 (M 17)])))).loop)).seq ((ops 0 [O 18 (M 3), O 2 (M 18)]).seq ret)))))
theorem is52 : Is Tryz.prog 52 b52 := Is.mk' Tryz.func52 (by kernel_rfl)

def b53 : F2 := (F2.mk 17 [RV.t 4] ((ops 0 [O 2 (box (t 0)), O 4 (mov (c AV.esl))]).seq (((ops 0 [O 5 (M 1), O 6 (B2 .eql (t 5) (N ((0)))), O 7 (M 6), G 8 7 true (fa 2 (t 2)), G 9 7 true (D 8), G 10 7 true (lenS (t 9)), G 11 7 true (B2 .gtr (t 10) (N ((0)))), O 12 (pick (t 7) (t 11) cFal)]).seq (C2.cond (t 12) ((ops 0 [O 13 (fa 2 (t 2)), O 14 (D 13), O 4 (M 14)]).seq ret) skip)).seq ((ops 0 [O 15 (fa 1 (t 2)), O 16 (D 15), O 4 (M 16)]).seq ret))))
theorem is53 : Is Tryz.prog 53 b53 := Is.mk' Tryz.func53 (by kernel_rfl)

def b54 : F2 := (F2.mk 31 [RV.t 6] ((ops 0 [O 3 (box (t 0)), O 6 (mov (N ((0))))]).seq (((ops 0 [O 8 (ldn 4 (t 3)), O 9 (call (F 15) [t 8]), O 7 (M 9)]).seq ((ops 0 [O 10 (M 7), O 11 (B2 .neq (t 10) (N ((0))))]).seq (C2.cond (t 11) ((ops 0 [O 12 (M 7), O 6 (M 12)]).seq ret) skip))).seq (((ops 0 [O 13 (M 1), O 14 (B2 .lss (t 13) (N ((0)))), O 15 (M 14), G 16 15 false (M 1), G 17 15 false (fa 3 (t 3)), G 18 15 false (D 17), G 19 15 false (lenS (t 18)), G 20 15 false (B2 .geq (t 16) (t 19)), O 21 (pick (t 15) cTru (t 20))]).seq (C2.cond (t 21) ((ops 0 [O 6 (mov (N ((6))))]).seq ret) skip)).seq (((ops 0 [O 22 (M 2), O 23 (B2 .lss (t 22) (N ((0)))), O 24 (M 23), G 25 24 false (M 2), G 26 24 false (fa 0 (t 3)), G 27 24 false (D 26), G 28 24 false (call (F 82) [t 27]), G 29 24 false (B2 .gtr (t 25) (t 28)), O 30 (pick (t 24) cTru (t 29))]).seq (C2.cond (t 30) ((ops 0 [O 6 (mov (N ((2))))]).seq ret) skip)).seq ((ops 0 [O 6 (mov (N ((0))))]).seq ret))))))
theorem is54 : Is Tryz.prog 54 b54 := Is.mk' Tryz.func54 (by kernel_rfl)

def b55 : F2 := (F2.mk 17 [RV.t 4] ((ops 0 [O 2 (box (t 0)), O 4 (mov (c AV.esl))]).seq (((ops 0 [O 5 (M 1), O 6 (B2 .eql (t 5) (N ((0)))), O 7 (M 6), G 8 7 true (fa 2 (t 2)), G 9 7 true (D 8), G 10 7 true (lenS (t 9)), G 11 7 true (B2 .gtr (t 10) (N ((0)))), O 12 (pick (t 7) (t 11) cFal)]).seq (C2.cond (t 12) ((ops 0 [O 13 (fa 2 (t 2)), O 14 (D 13), O 4 (M 14)]).seq ret) skip)).seq ((ops 0 [O 15 (fa 1 (t 2)), O 16 (D 15), O 4 (M 16)]).seq ret))))
theorem is55 : Is Tryz.prog 55 b55 := Is.mk' Tryz.func55 (by kernel_rfl)

def b56 : F2 := (F2.mk 9 [RV.t 4] ((ops 0 [O 4 (mov cFal)]).seq ((ops 0 [O 5 (M 0), O 6 (M 1), O 7 (call (F 83) [t 5, t 6]), O 8 (B2 .geq (t 7) (N ((0)))), O 4 (M 8)]).seq ret)))
theorem is56 : Is Tryz.prog 56 b56 := Is.mk' Tryz.func56 (by kernel_rfl)

def b57 : F2 := (F2.mk 12 [RV.t 3] ((ops 0 [O 3 (mov cFal)]).seq ((ops 0 [O 4 (M 0), O 5 (B2 .lss (t 4) (N ((-1)))), O 6 (M 5), G 7 6 false (M 0), G 8 6 false (fa 2 (t 1)), G 9 6 false (D 8), G 10 6 false (B2 .geq (t 7) (t 9)), O 11 (pick (t 6) cTru (t 10)), O 3 (M 11)]).seq ret)))
theorem is57 : Is Tryz.prog 57 b57 := Is.mk' Tryz.func57 (by kernel_rfl)

def b58 : F2 := (F2.mk 9 [RV.t 4] ((ops 0 [O 4 (mov cFal)]).seq ((ops 0 [O 5 (M 0), O 6 (D 1), O 7 (D 2), O 8 (call (F 59) [t 5, t 6, t 7]), O 4 (M 8)]).seq ret)))
theorem is58 : Is Tryz.prog 58 b58 := Is.mk' Tryz.func58 (by kernel_rfl)

def b59 : F2 := (F2.mk 30 [RV.t 6] ((ops 0 [O 6 (mov cFal)]).seq (((ops 0 [O 9 (M 0), O 10 (lenS (t 9)), O 11 (mov (N ((0))))]).seq (block 0 ((ops 0 [O 12 (B2 .lss (t 11) (t 10))]).seq ((C2.cond (t 12) skip (exit 0)).seq ((block 1 ((ops 0 [O 13 (M 11), O 14 (ixaS 1 (t 9) (t 11)), O 15 (D 14), O 7 (M 13), O 8 (M 15)]).seq ((ops 0 [O 16 (M 2), O 17 (M 7), O 18 (B2 .shr (t 16) (t 17)), O 19 (B2 .and (t 18) (N ((1)))), O 20 (B2 .eql (t 19) (N ((0)))), O 21 (M 20), G 22 21 true (M 1), G 23 21 true (M 7), G 24 21 true (ixaS 1 (t 22) (t 23)), G 25 21 true (D 24), G 26 21 true (M 8), G 27 21 true (B2 .neq (t 25) (t 26)), O 28 (pick (t 21) (t 27) cFal)]).seq (C2.cond (t 28) ((ops 0 [O 6 (mov cFal)]).seq ret) skip)))).seq (ops 0 [O 29 (B2 .add (t 11) (N ((1)))), O 11 (M 29)])))).loop)).seq ((ops 0 [O 6 (mov cTru)]).seq ret))))
theorem is59 : Is Tryz.prog 59 b59 := Is.mk' Tryz.func59 (by kernel_rfl)

def b60 : F2 := (F2.mk 25 [RV.t 6] ((ops 0 [O 3 (box (t 0)), O 6 (mov cFal)]).seq ((ops 0 [O 9 (ldn 3 (t 3)), O 10 (M 1), O 11 (call (F 55) [t 9, t 10]), O 7 (M 11)]).seq (((ops 0 [O 8 (mov (N ((0))))]).seq (block 0 (((ops 0 [O 12 (M 8), O 13 (M 7), O 14 (lenS (t 13)), O 15 (B2 .lss (t 12) (t 14))]).seq (C2.cond (t 15) skip (exit 0))).seq ((block 1 ((ops 0 [O 18 (M 7), O 19 (M 8), O 20 (ixaS 1 (t 18) (t 19)), O 21 (D 20), O 22 (M 1), O 23 (M 2), O 24 (call (F 84) [t 21, t 22, t 23])]).seq (C2.cond (t 24) ((ops 0 [O 6 (mov cTru)]).seq ret) skip))).seq (ops 0 [O 16 (M 8), O 17 (B2 .add (t 16) (N ((1)))), O 8 (M 17)]))).loop)).seq ((ops 0 [O 6 (mov cFal)]).seq ret)))))
theorem is60 : Is Tryz.prog 60 b60 := Is.mk' Tryz.func60 (by kernel_rfl)

def b61 : F2 := (F2.mk 46 [RV.t 4] ((ops 0 [O 4 (mov (N ((0))))]).seq (((ops 0 [O 5 (mov (N ((0))))]).seq (block 0 (((ops 0 [O 6 (M 5), O 7 (M 0), O 8 (lenS (t 7)), O 9 (B2 .lss (t 6) (t 8)), O 10 (M 9), G 11 10 true (M 5), G 12 10 true (M 1), G 13 10 true (lenS (t 12)), G 14 10 true (B2 .lss (t 11) (t 13)), O 15 (pick (t 10) (t 14) cFal)]).seq (C2.cond (t 15) skip (exit 0))).seq ((block 1 (((ops 1 [O 18 (M 0), O 19 (M 5), O 20 (ixaS 1 (t 18) (t 19)), O 21 (D 20), O 22 (M 1), O 23 (M 5), O 24 (ixaS 1 (t 22) (t 23)), O 25 (D 24), O 26 (B2 .lss (t 21) (t 25))]).seq (C2.cond (t 26) ((ops 0 [O 4 (mov (N ((-1))))]).seq ret) skip)).seq ((ops 1 [O 27 (M 0), O 28 (M 5), O 29 (ixaS 1 (t 27) (t 28)), O 30 (D 29), O 31 (M 1), O 32 (M 5), O 33 (ixaS 1 (t 31) (t 32)), O 34 (D 33), O 35 (B2 .gtr (t 30) (t 34))]).seq (C2.cond (t 35) ((ops 0 [O 4 (mov (N ((1))))]).seq ret) skip)))).seq (ops 0 [O 16 (M 5), O 17 (B2 .add (t 16) (N ((1)))), O 5 (M 17)]))).loop)).seq (((ops 0 [O 36 (M 0), O 37 (lenS (t 36)), O 38 (M 1), O 39 (lenS (t 38)), O 40 (B2 .lss (t 37) (t 39))]).seq (C2.cond (t 40) ((ops 0 [O 4 (mov (N ((-1))))]).seq ret) skip)).seq (((ops 0 [O 41 (M 0), O 42 (lenS (t 41)), O 43 (M 1), O 44 (lenS (t 43)), O 45 (B2 .gtr (t 42) (t 44))]).seq (C2.cond (t 45) ((ops 0 [O 4 (mov (N ((1))))]).seq ret) skip)).seq ((ops 0 [O 4 (mov (N ((0))))]).seq ret))))))
theorem is61 : Is Tryz.prog 61 b61 := Is.mk' Tryz.func61 (by kernel_rfl)

def b62 : F2 := (F2.mk 11 [] ((ops 0 [O 3 (M 0), O 4 (lenS (t 3)), O 2 (M 4)]).seq (ops 0 [O 5 (M 0), O 6 (M 2), O 7 (M 2), O 8 (conv IntKind.u64 (t 7)), O 9 (call (F 86) [t 8]), O 10 (call (F 85) [t 5, c (AV.int IntKind.i64 (0)), t 6, t 9])])))
theorem is62 : Is Tryz.prog 62 b62 := Is.mk' Tryz.func62 (by kernel_rfl)

def b63 : F2 := (F2.mk 40 [RV.t 6] ((ops 0 [O 6 (mov (c AV.esl))]).seq ((ops 0 [O 7 (mov (c AV.esl))]).seq (((ops 0 [O 8 (mov (N ((0))))]).seq (block 0 (((ops 0 [O 11 (M 8), O 12 (M 2), O 13 (B2 .lss (t 11) (t 12))]).seq (C2.cond (t 13) skip (exit 0))).seq ((block 1 ((ops 0 [O 9 (mov cFal)]).seq (((ops 0 [O 10 (mov (N ((0))))]).seq (block 2 (((ops 0 [O 16 (M 10), O 17 (M 0), O 18 (lenS (t 17)), O 19 (B2 .lss (t 16) (t 18))]).seq (C2.cond (t 19) skip (exit 2))).seq ((block 3 (ops 0 [O 22 (M 9), O 23 (M 22), G 24 23 false (M 0), G 25 23 false (M 10), G 26 23 false (ixaS 1 (t 24) (t 25)), G 27 23 false (D 26), G 28 23 false (M 1), G 29 23 false (ixaS 1 (t 27) (t 28)), G 30 23 false (D 29), G 31 23 false (M 8), G 32 23 false (B2 .eql (t 30) (t 31)), O 33 (pick (t 23) cTru (t 32)), O 9 (M 33)])).seq (ops 0 [O 20 (M 10), O 21 (B2 .add (t 20) (N ((1)))), O 10 (M 21)]))).loop)).seq ((ops 0 [O 34 (M 9)]).seq (C2.cond (t 34) (ops 0 [O 35 (M 7), O 36 (M 8), O 37 (bldS 1 1 [AV.int IntKind.i64 (0)] [(0, 1, t 36)]), O 38 (app 1 8 (t 35) (t 37)), O 7 (M 38)]) skip))))).seq (ops 0 [O 14 (M 8), O 15 (B2 .add (t 14) (N ((1)))), O 8 (M 15)]))).loop)).seq ((ops 0 [O 39 (M 7), O 6 (M 39)]).seq ret)))))
theorem is63 : Is Tryz.prog 63 b63 := Is.mk' Tryz.func63 (by kernel_rfl)

def b64 : F2 := (F2.mk 6 [RV.t 4] ((ops 0 [O 2 (box (t 0)), O 3 (box (t 1)), O 4 (mov (c AV.nilf))]).seq ((ops 0 [O 5 (mkfn 87 [t 3, t 2]), O 4 (M 5)]).seq ret)))
theorem is64 : Is Tryz.prog 64 b64 := Is.mk' Tryz.func64 (by kernel_rfl)

def b65 : F2 := (F2.mk 33 [RV.t 2] ((ops 0 [O 2 (mov (N ((0))))]).seq (((ops 0 [O 7 (M 0), O 8 (lenS (t 7)), O 9 (call (F 88) [t 8]), O 3 (M 9)]).seq ((ops 0 [O 10 (M 3), O 11 (B2 .neq (t 10) (N ((0))))]).seq (C2.cond (t 11) ((ops 0 [O 12 (M 3), O 2 (M 12)]).seq ret) skip))).seq ((ops 0 [O 4 (alloc (AV.agg [AV.bool false, AV.bool false, AV.bool false, AV.bool false, AV.bool false]))]).seq (((ops 0 [O 13 (M 0), O 14 (lenS (t 13)), O 15 (mov (N ((0))))]).seq (block 0 ((ops 0 [O 16 (B2 .lss (t 15) (t 14))]).seq ((C2.cond (t 16) skip (exit 0)).seq ((block 1 ((ops 0 [O 17 (ixaS 1 (t 13) (t 15)), O 18 (D 17), O 6 (M 18)]).seq (((ops 0 [O 19 (M 6), O 20 (B2 .lss (t 19) (N ((0)))), O 21 (M 20), G 22 21 false (M 6), G 23 21 false (M 0), G 24 21 false (lenS (t 23)), G 25 21 false (B2 .geq (t 22) (t 24)), O 26 (pick (t 21) cTru (t 25))]).seq (C2.cond (t 26) ((ops 0 [O 2 (mov (N ((2))))]).seq ret) skip)).seq (((ops 0 [O 27 (M 6), O 28 (ixaA 5 1 (t 4) (t 27)), O 29 (D 28)]).seq (C2.cond (t 29) ((ops 0 [O 2 (mov (N ((7))))]).seq ret) skip)).seq (ops 0 [O 30 (M 6), O 31 (ixaA 5 1 (t 4) (t 30)), Op2.mk none none (Ins.st 1 (t 31) cTru)]))))).seq (ops 0 [O 32 (B2 .add (t 15) (N ((1)))), O 15 (M 32)])))).loop)).seq ((ops 0 [O 2 (mov (N ((0))))]).seq ret))))))
theorem is65 : Is Tryz.prog 65 b65 := Is.mk' Tryz.func65 (by kernel_rfl)

def b66 : F2 := (F2.mk 30 [RV.t 4] ((ops 0 [O 4 (mov (c AV.esl))]).seq ((ops 0 [O 5 (mov (c AV.esl))]).seq (((ops 0 [O 10 (M 0), O 11 (lenS (t 10)), O 12 (mov (N ((0))))]).seq (block 0 ((ops 0 [O 13 (B2 .lss (t 12) (t 11))]).seq ((C2.cond (t 13) skip (exit 0)).seq ((block 1 ((ops 0 [O 14 (ixaS 1 (t 10) (t 12)), O 15 (D 14), O 7 (M 15)]).seq ((ops 0 [O 17 (M 1), O 18 (M 7), O 19 (call (F 89) [t 17, t 18]), O 16 (M 19), O 20 (ext (t 16) 0), O 21 (ext (t 16) 1), O 8 (M 20), O 9 (M 21)]).seq (ops 0 [O 22 (M 5), O 23 (M 8), O 24 (bldS 1 1 [AV.esl] [(0, 1, t 23)]), O 25 (app 1 24 (t 22) (t 24)), O 5 (M 25)])))).seq (ops 0 [O 26 (B2 .add (t 12) (N ((1)))), O 12 (M 26)])))).loop)).seq ((ops 0 [O 27 (M 5), O 28 (call (F 90) [t 27, c (AV.func 46 [])])]).seq ((ops 0 [O 29 (M 5), O 4 (M 29)]).seq ret))))))
theorem is66 : Is Tryz.prog 66 b66 := Is.mk' Tryz.func66 (by kernel_rfl)

def b67 : F2 := (F2.mk 14 [] ((ops 0 [O 5 (M 0), O 6 (lenS (t 5)), O 4 (M 6)]).seq (ops 0 [O 7 (M 0), O 8 (M 4), O 9 (M 4), O 10 (conv IntKind.u64 (t 9)), O 11 (call (F 86) [t 10]), O 12 (M 1), O 13 (call (F 91) [t 7, c (AV.int IntKind.i64 (0)), t 8, t 11, t 12])])))
theorem is67 : Is Tryz.prog 67 b67 := Is.mk' Tryz.func67 (by kernel_rfl)

def b68 : F2 := (F2.mk 10 [RV.t 4] ((ops 0 [O 2 (box (t 0)), O 3 (box (t 1)), O 4 (mov (N ((0))))]).seq ((ops 0 [O 5 (fa 0 (t 2)), O 6 (D 5), O 7 (fa 0 (t 3)), O 8 (D 7), O 9 (call (F 46) [t 6, t 8]), O 4 (M 9)]).seq ret)))
theorem is68 : Is Tryz.prog 68 b68 := Is.mk' Tryz.func68 (by kernel_rfl)

def b70 : F2 := (F2.mk 7 [RV.t 2] ((ops 0 [O 1 (box (t 0)), O 2 (mov cFal)]).seq ((ops 0 [O 3 (D 1), O 4 (mkfn 94 [t 1]), O 5 (call (F 56) [t 3, t 4]), O 6 (un UnOp.not (t 5)), O 2 (M 6)]).seq ret)))
theorem is70 : Is Tryz.prog 70 b70 := Is.mk' Tryz.func70 (by kernel_rfl)

def b74 : F2 := (F2.mk 17 [RV.t 4] ((ops 0 [O 4 (mov cFal)]).seq ((ops 0 [O 5 (M 0), O 6 (call (F 96) [t 5]), O 7 (M 6), G 8 7 true (M 1), G 9 7 true (call (F 96) [t 8]), G 10 7 true (un UnOp.not (t 9)), O 11 (pick (t 7) (t 10) cFal), O 12 (M 11), G 13 12 false (M 0), G 14 12 false (M 1), G 15 12 false (B2 .lss (t 13) (t 14)), O 16 (pick (t 12) cTru (t 15)), O 4 (M 16)]).seq ret)))
theorem is74 : Is Tryz.prog 74 b74 := Is.mk' Tryz.func74 (by kernel_rfl)

def b75 : F2 := (F2.mk 19 [RV.t 4] ((ops 0 [O 4 (mov (N ((0))))]).seq (((ops 0 [O 6 (M 0), O 7 (lenS (t 6)), O 8 (mov (N ((0))))]).seq (block 0 ((ops 0 [O 9 (B2 .lss (t 8) (t 7))]).seq ((C2.cond (t 9) skip (exit 0)).seq ((block 1 ((ops 0 [O 10 (M 8), O 5 (M 10)]).seq ((ops 0 [O 11 (M 1), O 12 (M 0), O 13 (M 5), O 14 (ixaS 1 (t 12) (t 13)), O 15 (D 14), O 16 (call (t 11) [t 15])]).seq (C2.cond (t 16) ((ops 0 [O 17 (M 5), O 4 (M 17)]).seq ret) skip)))).seq (ops 0 [O 18 (B2 .add (t 8) (N ((1)))), O 8 (M 18)])))).loop)).seq ((ops 0 [O 4 (mov (N ((-1))))]).seq ret))))
theorem is75 : Is Tryz.prog 75 b75 := Is.mk' Tryz.func75 (by kernel_rfl)

def b76 : F2 := (F2.mk 20 [RV.t 4] ((ops 0 [O 4 (mov (N ((0))))]).seq ((ops 0 [O 7 (M 0), O 8 (call (F 96) [t 7]), O 5 (M 8)]).seq ((ops 0 [O 9 (M 1), O 10 (call (F 96) [t 9]), O 6 (M 10)]).seq (((ops 0 [O 11 (M 5)]).seq (C2.cond (t 11) (((ops 0 [O 12 (M 6)]).seq (C2.cond (t 12) ((ops 0 [O 4 (mov (N ((0))))]).seq ret) skip)).seq ((ops 0 [O 4 (mov (N ((-1))))]).seq ret)) skip)).seq (((ops 0 [O 13 (M 6)]).seq (C2.cond (t 13) ((ops 0 [O 4 (mov (N ((1))))]).seq ret) skip)).seq (((ops 0 [O 14 (M 0), O 15 (M 1), O 16 (B2 .lss (t 14) (t 15))]).seq (C2.cond (t 16) ((ops 0 [O 4 (mov (N ((-1))))]).seq ret) skip)).seq (((ops 0 [O 17 (M 0), O 18 (M 1), O 19 (B2 .gtr (t 17) (t 18))]).seq (C2.cond (t 19) ((ops 0 [O 4 (mov (N ((1))))]).seq ret) skip)).seq ((ops 0 [O 4 (mov (N ((0))))]).seq ret)))))))))
theorem is76 : Is Tryz.prog 76 b76 := Is.mk' Tryz.func76 (by kernel_rfl)

def b77 : F2 := (F2.mk 11 [RV.t 3] ((ops 0 [O 3 (mov cFal)]).seq ((ops 0 [O 4 (M 0), O 5 (B2 .lss (t 4) (N ((0)))), O 6 (M 5), G 7 6 false (M 0), G 8 6 false (D 1), G 9 6 false (B2 .geq (t 7) (t 8)), O 10 (pick (t 6) cTru (t 9)), O 3 (M 10)]).seq ret)))
theorem is77 : Is Tryz.prog 77 b77 := Is.mk' Tryz.func77 (by kernel_rfl)

def b78 : F2 := (F2.mk 20 [RV.t 4] ((ops 0 [O 4 (mov cFal)]).seq ((mixS 1 [O 5 (M 1), O 6 (B2 .gtr (t 5) (N ((0)))), O 7 (M 6), G 8 7 true (M 0), G 9 7 true (M 1), G 10 7 true (B2 .sub (t 9) (N ((1)))), G 11 7 true (ixaS 1 (t 8) (t 10)), G 12 7 true (D 11), G 13 7 true (M 0), G 14 7 true (M 1), G 15 7 true (ixaS 1 (t 13) (t 14)), G 16 7 true (D 15), G 17 7 true (call (F 46) [t 12, t 16]), G 18 7 true (B2 .geq (t 17) (N ((0)))), O 19 (pick (t 7) (t 18) cFal), O 4 (M 19)] [(0, 0), (1, 0), (2, 0), (3, 0), (4, 0), (5, 0), (6, 0), (7, 0), (8, 0), (9, 0), (10, 0), (11, 0), (12, 2), (13, 0), (14, 0), (15, 0)]).seq ret)))
theorem is78 : Is Tryz.prog 78 b78 := Is.mk' Tryz.func78 (by kernel_rfl)

def b79 : F2 := (F2.mk 8 [RV.t 4] ((ops 0 [O 3 (box (t 1)), O 4 (mov cFal)]).seq ((ops 0 [O 5 (M 0), O 6 (mkfn 97 [t 3]), O 7 (call (F 40) [t 5, t 6]), O 4 (M 7)]).seq ret)))
theorem is79 : Is Tryz.prog 79 b79 := Is.mk' Tryz.func79 (by kernel_rfl)

def b80 : F2 := (F2.mk 30 [RV.t 6] ((ops 0 [O 6 (mov (N ((0))))]).seq (((ops 0 [O 8 (M 0), O 9 (lenS (t 8)), O 10 (M 1), O 11 (B2 .neq (t 9) (t 10))]).seq (C2.cond (t 11) ((ops 0 [O 6 (mov (N ((15))))]).seq ret) skip)).seq (((ops 0 [O 7 (mov (N ((0))))]).seq (block 0 (((ops 0 [O 12 (M 7), O 13 (M 1), O 14 (B2 .lss (t 12) (t 13))]).seq (C2.cond (t 14) skip (exit 0))).seq ((block 1 ((ops 0 [O 17 (M 0), O 18 (M 7), O 19 (ixaS 1 (t 17) (t 18)), O 20 (D 19), O 21 (B2 .lss (t 20) (N ((0)))), O 22 (M 21), G 23 22 false (M 0), G 24 22 false (M 7), G 25 22 false (ixaS 1 (t 23) (t 24)), G 26 22 false (D 25), G 27 22 false (M 2), G 28 22 false (B2 .geq (t 26) (t 27)), O 29 (pick (t 22) cTru (t 28))]).seq (C2.cond (t 29) ((ops 0 [O 6 (mov (N ((2))))]).seq ret) skip))).seq (ops 0 [O 15 (M 7), O 16 (B2 .add (t 15) (N ((1)))), O 7 (M 16)]))).loop)).seq ((ops 0 [O 6 (mov (N ((0))))]).seq ret)))))
theorem is80 : Is Tryz.prog 80 b80 := Is.mk' Tryz.func80 (by kernel_rfl)

def b81 : F2 := (F2.mk 19 [RV.t 4] ((ops 0 [O 4 (mov cFal)]).seq (((ops 0 [O 5 (mov (N ((0))))]).seq (block 0 (((ops 0 [O 6 (M 5), O 7 (M 0), O 8 (lenS (t 7)), O 9 (B2 .lss (t 6) (t 8))]).seq (C2.cond (t 9) skip (exit 0))).seq ((block 1 ((ops 0 [O 12 (M 0), O 13 (M 5), O 14 (ixaS 1 (t 12) (t 13)), O 15 (D 14), O 16 (M 1), O 17 (call (F 61) [t 15, t 16]), O 18 (B2 .eql (t 17) (N ((0))))]).seq (C2.cond (t 18) ((ops 0 [O 4 (mov cTru)]).seq ret) skip))).seq (ops 0 [O 10 (M 5), O 11 (B2 .add (t 10) (N ((1)))), O 5 (M 11)]))).loop)).seq ((ops 0 [O 4 (mov cFal)]).seq ret))))
theorem is81 : Is Tryz.prog 81 b81 := Is.mk' Tryz.func81 (by kernel_rfl)

def b82 : F2 := (F2.mk 6 [RV.t 2] ((ops 0 [O 2 (mov (N ((0))))]).seq ((ops 0 [O 3 (M 0), O 4 (call (F 98) [t 3]), O 5 (B2 .sub (t 4) (N ((1)))), O 2 (M 5)]).seq ret)))
theorem is82 : Is Tryz.prog 82 b82 := Is.mk' Tryz.func82 (by kernel_rfl)

def b83 : F2 := (F2.mk 19 [RV.t 4] ((ops 0 [O 4 (mov (N ((0))))]).seq (((ops 0 [O 6 (M 0), O 7 (lenS (t 6)), O 8 (mov (N ((0))))]).seq (block 0 ((ops 0 [O 9 (B2 .lss (t 8) (t 7))]).seq ((C2.cond (t 9) skip (exit 0)).seq ((block 1 ((ops 0 [O 10 (M 8), O 5 (M 10)]).seq ((ops 0 [O 11 (M 1), O 12 (M 0), O 13 (M 5), O 14 (ixaS 1 (t 12) (t 13)), O 15 (D 14), O 16 (call (t 11) [t 15])]).seq (C2.cond (t 16) ((ops 0 [O 17 (M 5), O 4 (M 17)]).seq ret) skip)))).seq (ops 0 [O 18 (B2 .add (t 8) (N ((1)))), O 8 (M 18)])))).loop)).seq ((ops 0 [O 4 (mov (N ((-1))))]).seq ret))))
theorem is83 : Is Tryz.prog 83 b83 := Is.mk' Tryz.func83 (by kernel_rfl)

def b84 : F2 := (F2.mk 29 [RV.t 6] ((ops 0 [O 6 (mov cFal)]).seq (((ops 0 [O 7 (mov (N ((0))))]).seq (block 0 (((ops 0 [O 8 (M 7), O 9 (M 0), O 10 (lenS (t 9)), O 11 (B2 .lss (t 8) (t 10))]).seq (C2.cond (t 11) skip (exit 0))).seq ((block 1 ((mixS 1 [O 14 (M 1), O 15 (M 7), O 16 (call (F 99) [t 14, t 15]), O 17 (un UnOp.not (t 16)), O 18 (M 17), G 19 18 true (M 2), G 20 18 true (M 7), G 21 18 true (ixaS 1 (t 19) (t 20)), G 22 18 true (D 21), G 23 18 true (M 0), G 24 18 true (M 7), G 25 18 true (ixaS 1 (t 23) (t 24)), G 26 18 true (D 25), G 27 18 true (B2 .neq (t 22) (t 26)), O 28 (pick (t 18) (t 27) cFal)] [(0, 0), (1, 0), (2, 1), (3, 0), (4, 0), (5, 0), (6, 0), (7, 0), (8, 0), (9, 0), (10, 0), (11, 0), (12, 0), (13, 0), (14, 0)]).seq (C2.cond (t 28) ((ops 0 [O 6 (mov cFal)]).seq ret) skip))).seq (ops 0 [O 12 (M 7), O 13 (B2 .add (t 12) (N ((1)))), O 7 (M 13)]))).loop)).seq ((ops 0 [O 6 (mov cTru)]).seq ret))))
theorem is84 : Is Tryz.prog 84 b84 := Is.mk' Tryz.func84 (by kernel_rfl)

def b85 : F2 := (F2.mk 134 [] ((ops 0 [O 8 (mov cTru)]).seq ((ops 0 [O 9 (mov cTru)]).seq (block 0 (block 1 ((ops 0 [O 19 (M 2), O 20 (M 1), O 21 (B2 .sub (t 19) (t 20)), O 10 (M 21)]).seq (((ops 0 [O 22 (M 10), O 23 (B2 .leq (t 22) (N ((12))))]).seq (C2.cond (t 23) ((ops 0 [O 24 (M 0), O 25 (M 1), O 26 (M 2), O 27 (call (F 100) [t 24, t 25, t 26])]).seq ret) skip)).seq (((ops 0 [O 28 (M 3), O 29 (B2 .eql (t 28) (N ((0))))]).seq (C2.cond (t 29) ((ops 0 [O 30 (M 0), O 31 (M 1), O 32 (M 2), O 33 (call (F 101) [t 30, t 31, t 32])]).seq ret) skip)).seq (((ops 0 [O 34 (M 8), O 35 (un UnOp.not (t 34))]).seq (C2.cond (t 35) ((ops 0 [O 36 (M 0), O 37 (M 1), O 38 (M 2), O 39 (call (F 102) [t 36, t 37, t 38])]).seq (ops 0 [O 40 (M 3), O 41 (B2 .sub (t 40) (N ((1)))), O 3 (M 41)])) skip)).seq ((ops 0 [O 43 (M 0), O 44 (M 1), O 45 (M 2), O 46 (call (F 103) [t 43, t 44, t 45]), O 42 (M 46), O 47 (ext (t 42) 0), O 48 (ext (t 42) 1), O 11 (M 47), O 12 (M 48)]).seq (((ops 0 [O 49 (M 12), O 50 (B2 .eql (t 49) (N ((2))))]).seq (C2.cond (t 50) ((ops 0 [O 51 (M 0), O 52 (M 1), O 53 (M 2), O 54 (call (F 104) [t 51, t 52, t 53])]).seq ((ops 0 [O 55 (M 2), O 56 (B2 .sub (t 55) (N ((1)))), O 57 (M 11), O 58 (M 1), O 59 (B2 .sub (t 57) (t 58)), O 60 (B2 .sub (t 56) (t 59)), O 11 (M 60)]).seq (ops 0 [O 12 (mov (N ((1))))]))) skip)).seq (((ops 0 [O 61 (M 8), O 62 (M 61), G 63 62 true (M 9), O 64 (pick (t 62) (t 63) cFal), O 65 (M 64), G 66 65 true (M 12), G 67 65 true (B2 .eql (t 66) (N ((1)))), O 68 (pick (t 65) (t 67) cFal)]).seq (C2.cond (t 68) ((ops 0 [O 69 (M 0), O 70 (M 1), O 71 (M 2), O 72 (call (F 105) [t 69, t 70, t 71])]).seq (C2.cond (t 72) ret skip)) skip)).seq (((mixS 1 [O 73 (M 1), O 74 (B2 .gtr (t 73) (N ((0)))), O 75 (M 74), G 76 75 true (M 0), G 77 75 true (M 1), G 78 75 true (B2 .sub (t 77) (N ((1)))), G 79 75 true (ixaS 1 (t 76) (t 78)), G 80 75 true (D 79), G 81 75 true (M 0), G 82 75 true (M 11), G 83 75 true (ixaS 1 (t 81) (t 82)), G 84 75 true (D 83), G 85 75 true (call (F 74) [t 80, t 84]), G 86 75 true (un UnOp.not (t 85)), O 87 (pick (t 75) (t 86) cFal)] [(0, 0), (1, 0), (2, 0), (3, 0), (4, 0), (5, 0), (6, 0), (7, 0), (8, 0), (9, 0), (10, 0), (11, 0), (12, 2), (13, 0), (14, 0)]).seq (C2.cond (t 87) ((ops 0 [O 88 (M 0), O 89 (M 1), O 90 (M 2), O 91 (M 11), O 92 (call (F 106) [t 88, t 89, t 90, t 91]), O 13 (M 92)]).seq ((ops 0 [O 93 (M 13), O 1 (M 93)]).seq (exit 1))) skip)).seq ((ops 0 [O 95 (M 0), O 96 (M 1), O 97 (M 2), O 98 (M 11), O 99 (call (F 107) [t 95, t 96, t 97, t 98]), O 94 (M 99), O 100 (ext (t 94) 0), O 101 (ext (t 94) 1), O 14 (M 100), O 15 (M 101)]).seq ((ops 0 [O 102 (M 15), O 9 (M 102)]).seq ((ops 0 [O 103 (M 14), O 104 (M 1), O 105 (B2 .sub (t 103) (t 104)), O 106 (M 2), O 107 (M 14), O 108 (B2 .sub (t 106) (t 107)), O 16 (M 105), O 17 (M 108)]).seq ((ops 0 [O 109 (M 10), O 110 (B2 .quo (t 109) (N ((8)))), O 18 (M 110)]).seq ((ops 0 [O 111 (M 16), O 112 (M 17), O 113 (B2 .lss (t 111) (t 112))]).seq (C2.cond (t 113) ((ops 0 [O 114 (M 16), O 115 (M 18), O 116 (B2 .geq (t 114) (t 115)), O 8 (M 116)]).seq ((ops 0 [O 117 (M 0), O 118 (M 1), O 119 (M 14), O 120 (M 3), O 121 (call (F 85) [t 117, t 118, t 119, t 120])]).seq (ops 0 [O 122 (M 14), O 123 (B2 .add (t 122) (N ((1)))), O 1 (M 123)]))) ((ops 0 [O 124 (M 17), O 125 (M 18), O 126 (B2 .geq (t 124) (t 125)), O 8 (M 126)]).seq ((ops 0 [O 127 (M 0), O 128 (M 14), O 129 (B2 .add (t 128) (N ((1)))), O 130 (M 2), O 131 (M 3), O 132 (call (F 85) [t 127, t 129, t 130, t 131])]).seq (ops 0 [O 133 (M 14), O 2 (M 133)])))))))))))))))))).loop))))
theorem is85 : Is Tryz.prog 85 b85 := Is.mk' Tryz.func85 (by kernel_rfl)

def b86 : F2 := (F2.mk 8 [RV.t 2] ((ops 0 [O 2 (mov (N ((0))))]).seq ((C2.cond cFal ((ops 0 [O 3 (M 0), O 4 (conv IntKind.u32 (t 3)), O 5 (call (F 108) [t 4]), O 2 (M 5)]).seq ret) skip).seq ((ops 0 [O 6 (M 0), O 7 (call (F 109) [t 6]), O 2 (M 7)]).seq ret))))
theorem is86 : Is Tryz.prog 86 b86 := Is.mk' Tryz.func86 (by kernel_rfl)

def b87 : F2 := (F2.mk 32 [] ((ops 0 [O 7 (D 1), O 8 (lenS (t 7)), O 9 (mov (N ((0))))]).seq (block 0 ((ops 0 [O 10 (B2 .lss (t 9) (t 8))]).seq ((C2.cond (t 10) skip (exit 0)).seq ((block 1 ((ops 0 [O 11 (ixaS 1 (t 7) (t 9)), O 12 (D 11), O 5 (M 12)]).seq ((ops 0 [O 13 (fa 3 (t 2)), O 14 (D 13), O 15 (M 5), O 16 (ixaS 3 (t 14) (t 15)), O 17 (ldn 3 (t 16)), O 6 (alloc (AV.agg [AV.esl, AV.esl, AV.esl])), Op2.mk none none (Ins.st 3 (t 6) (t 17))]).seq ((mixS 1 [O 18 (M 0), O 19 (fa 0 (t 6)), O 20 (D 19), O 21 (call (F 37) [t 20]), O 22 (fa 1 (t 6)), O 23 (D 22), O 24 (call (F 52) [t 23]), O 25 (fa 2 (t 6)), O 26 (D 25), O 27 (call (F 52) [t 26]), O 28 (bld [AV.esl, AV.esl, AV.esl] [(0, 1, t 21), (1, 1, t 24), (2, 1, t 27)]), O 29 (call (t 18) [t 28]), O 30 (un UnOp.not (t 29))] [(0, 0), (1, 0), (2, 0), (4, 0), (5, 0), (7, 0), (8, 0), (3, 1), (6, 1), (9, 2), (10, 0), (11, 2), (12, 0)]).seq (C2.cond (t 30) ret skip))))).seq (ops 0 [O 31 (B2 .add (t 9) (N ((1)))), O 9 (M 31)])))).loop)))
theorem is87 : Is Tryz.prog 87 b87 := Is.mk' Tryz.func87 (by kernel_rfl)

def b88 : F2 := (F2.mk 9 [RV.t 2] ((ops 0 [O 2 (mov (N ((0))))]).seq (((ops 0 [O 3 (M 0), O 4 (B2 .lss (t 3) (N ((1)))), O 5 (M 4), G 6 5 false (M 0), G 7 5 false (B2 .gtr (t 6) (N ((5)))), O 8 (pick (t 5) cTru (t 7))]).seq (C2.cond (t 8) ((ops 0 [O 2 (mov (N ((2))))]).seq ret) skip)).seq ((ops 0 [O 2 (mov (N ((0))))]).seq ret))))
theorem is88 : Is Tryz.prog 88 b88 := Is.mk' Tryz.func88 (by kernel_rfl)

def b89 : F2 := (F2.mk 39 [RV.t 4, RV.t 5] ((ops 0 [O 4 (mov (c AV.esl)), O 5 (mov (N ((0))))]).seq (((ops 0 [O 10 (M 0), O 11 (call (F 65) [t 10]), O 6 (M 11)]).seq ((ops 0 [O 12 (M 6), O 13 (B2 .neq (t 12) (N ((0))))]).seq (C2.cond (t 13) ((ops 0 [O 14 (M 6), O 4 (mov (c AV.esl)), O 5 (M 14)]).seq ret) skip))).seq (((ops 0 [O 15 (M 1), O 16 (lenS (t 15)), O 17 (M 0), O 18 (lenS (t 17)), O 19 (B2 .neq (t 16) (t 18))]).seq (C2.cond (t 19) ((ops 0 [O 4 (mov (c AV.esl)), O 5 (mov (N ((15))))]).seq ret) skip)).seq ((ops 0 [O 20 (M 1), O 21 (lenS (t 20)), O 22 (mks 1 8 [AV.int IntKind.i64 (0)] (t 21) (t 21)), O 7 (M 22)]).seq (((ops 0 [O 23 (M 0), O 24 (lenS (t 23)), O 25 (mov (N ((0))))]).seq (block 0 ((ops 0 [O 26 (B2 .lss (t 25) (t 24))]).seq ((C2.cond (t 26) skip (exit 0)).seq ((block 1 ((ops 0 [O 27 (M 25), O 28 (ixaS 1 (t 23) (t 25)), O 29 (D 28), O 8 (M 27), O 9 (M 29)]).seq (ops 0 [O 30 (M 7), O 31 (M 9), O 32 (M 1), O 33 (M 8), O 34 (ixaS 1 (t 32) (t 33)), O 35 (D 34), O 36 (ixaS 1 (t 30) (t 31)), Op2.mk none none (Ins.st 1 (t 36) (t 35))]))).seq (ops 0 [O 37 (B2 .add (t 25) (N ((1)))), O 25 (M 37)])))).loop)).seq ((ops 0 [O 38 (M 7), O 4 (M 38), O 5 (mov (N ((0))))]).seq ret)))))))
theorem is89 : Is Tryz.prog 89 b89 := Is.mk' Tryz.func89 (by kernel_rfl)

def b90 : F2 := (F2.mk 14 [] ((ops 0 [O 5 (M 0), O 6 (lenS (t 5)), O 4 (M 6)]).seq (ops 0 [O 7 (M 0), O 8 (M 4), O 9 (M 4), O 10 (conv IntKind.u64 (t 9)), O 11 (call (F 86) [t 10]), O 12 (M 1), O 13 (call (F 110) [t 7, c (AV.int IntKind.i64 (0)), t 8, t 11, t 12])])))
theorem is90 : Is Tryz.prog 90 b90 := Is.mk' Tryz.func90 (by kernel_rfl)

def b91 : F2 := (F2.mk 148 [] ((ops 0 [O 10 (mov cTru)]).seq ((ops 0 [O 11 (mov cTru)]).seq (block 0 (block 1 ((ops 0 [O 21 (M 2), O 22 (M 1), O 23 (B2 .sub (t 21) (t 22)), O 12 (M 23)]).seq (((ops 0 [O 24 (M 12), O 25 (B2 .leq (t 24) (N ((12))))]).seq (C2.cond (t 25) ((ops 0 [O 26 (M 0), O 27 (M 1), O 28 (M 2), O 29 (M 4), O 30 (call (F 111) [t 26, t 27, t 28, t 29])]).seq ret) skip)).seq (((ops 0 [O 31 (M 3), O 32 (B2 .eql (t 31) (N ((0))))]).seq (C2.cond (t 32) ((ops 0 [O 33 (M 0), O 34 (M 1), O 35 (M 2), O 36 (M 4), O 37 (call (F 112) [t 33, t 34, t 35, t 36])]).seq ret) skip)).seq (((ops 0 [O 38 (M 10), O 39 (un UnOp.not (t 38))]).seq (C2.cond (t 39) ((ops 0 [O 40 (M 0), O 41 (M 1), O 42 (M 2), O 43 (M 4), O 44 (call (F 113) [t 40, t 41, t 42, t 43])]).seq (ops 0 [O 45 (M 3), O 46 (B2 .sub (t 45) (N ((1)))), O 3 (M 46)])) skip)).seq ((ops 0 [O 48 (M 0), O 49 (M 1), O 50 (M 2), O 51 (M 4), O 52 (call (F 114) [t 48, t 49, t 50, t 51]), O 47 (M 52), O 53 (ext (t 47) 0), O 54 (ext (t 47) 1), O 13 (M 53), O 14 (M 54)]).seq (((ops 0 [O 55 (M 14), O 56 (B2 .eql (t 55) (N ((2))))]).seq (C2.cond (t 56) ((ops 0 [O 57 (M 0), O 58 (M 1), O 59 (M 2), O 60 (M 4), O 61 (call (F 115) [t 57, t 58, t 59, t 60])]).seq ((ops 0 [O 62 (M 2), O 63 (B2 .sub (t 62) (N ((1)))), O 64 (M 13), O 65 (M 1), O 66 (B2 .sub (t 64) (t 65)), O 67 (B2 .sub (t 63) (t 66)), O 13 (M 67)]).seq (ops 0 [O 14 (mov (N ((1))))]))) skip)).seq (((ops 0 [O 68 (M 10), O 69 (M 68), G 70 69 true (M 11), O 71 (pick (t 69) (t 70) cFal), O 72 (M 71), G 73 72 true (M 14), G 74 72 true (B2 .eql (t 73) (N ((1)))), O 75 (pick (t 72) (t 74) cFal)]).seq (C2.cond (t 75) ((ops 0 [O 76 (M 0), O 77 (M 1), O 78 (M 2), O 79 (M 4), O 80 (call (F 116) [t 76, t 77, t 78, t 79])]).seq (C2.cond (t 80) ret skip)) skip)).seq (((mixS 1 [O 81 (M 1), O 82 (B2 .gtr (t 81) (N ((0)))), O 83 (M 82), G 84 83 true (M 4), G 85 83 true (M 0), G 86 83 true (M 1), G 87 83 true (B2 .sub (t 86) (N ((1)))), G 88 83 true (ixaS 3 (t 85) (t 87)), G 89 83 true (ldn 3 (t 88)), G 90 83 true (M 0), G 91 83 true (M 13), G 92 83 true (ixaS 3 (t 90) (t 91)), G 93 83 true (ldn 3 (t 92)), G 94 83 true (call (t 84) [t 89, t 93]), G 95 83 true (B2 .lss (t 94) (N ((0)))), G 96 83 true (un UnOp.not (t 95)), O 97 (pick (t 83) (t 96) cFal)] [(0, 0), (1, 0), (2, 0), (3, 0), (4, 0), (5, 0), (6, 0), (7, 0), (8, 0), (9, 0), (10, 0), (11, 0), (12, 0), (13, 2), (14, 0), (15, 0), (16, 0)]).seq (C2.cond (t 97) ((ops 0 [O 98 (M 0), O 99 (M 1), O 100 (M 2), O 101 (M 13), O 102 (M 4), O 103 (call (F 117) [t 98, t 99, t 100, t 101, t 102]), O 15 (M 103)]).seq ((ops 0 [O 104 (M 15), O 1 (M 104)]).seq (exit 1))) skip)).seq ((ops 0 [O 106 (M 0), O 107 (M 1), O 108 (M 2), O 109 (M 13), O 110 (M 4), O 111 (call (F 118) [t 106, t 107, t 108, t 109, t 110]), O 105 (M 111), O 112 (ext (t 105) 0), O 113 (ext (t 105) 1), O 16 (M 112), O 17 (M 113)]).seq ((ops 0 [O 114 (M 17), O 11 (M 114)]).seq ((ops 0 [O 115 (M 16), O 116 (M 1), O 117 (B2 .sub (t 115) (t 116)), O 118 (M 2), O 119 (M 16), O 120 (B2 .sub (t 118) (t 119)), O 18 (M 117), O 19 (M 120)]).seq ((ops 0 [O 121 (M 12), O 122 (B2 .quo (t 121) (N ((8)))), O 20 (M 122)]).seq ((ops 0 [O 123 (M 18), O 124 (M 19), O 125 (B2 .lss (t 123) (t 124))]).seq (C2.cond (t 125) ((ops 0 [O 126 (M 18), O 127 (M 20), O 128 (B2 .geq (t 126) (t 127)), O 10 (M 128)]).seq ((ops 0 [O 129 (M 0), O 130 (M 1), O 131 (M 16), O 132 (M 3), O 133 (M 4), O 134 (call (F 91) [t 129, t 130, t 131, t 132, t 133])]).seq (ops 0 [O 135 (M 16), O 136 (B2 .add (t 135) (N ((1)))), O 1 (M 136)]))) ((ops 0 [O 137 (M 19), O 138 (M 20), O 139 (B2 .geq (t 137) (t 138)), O 10 (M 139)]).seq ((ops 0 [O 140 (M 0), O 141 (M 16), O 142 (B2 .add (t 141) (N ((1)))), O 143 (M 2), O 144 (M 3), O 145 (M 4), O 146 (call (F 91) [t 140, t 142, t 143, t 144, t 145])]).seq (ops 0 [O 147 (M 16), O 2 (M 147)])))))))))))))))))).loop))))
theorem is91 : Is Tryz.prog 91 b91 := Is.mk' Tryz.func91 (by kernel_rfl)

def b94 : F2 := (F2.mk 9 [RV.t 3] ((ops 0 [O 3 (mov cFal)]).seq ((ops 0 [O 4 (M 0), O 5 (D 1), O 6 (ixaS 1 (t 5) (N ((0)))), O 7 (D 6), O 8 (B2 .neq (t 4) (t 7)), O 3 (M 8)]).seq ret)))
theorem is94 : Is Tryz.prog 94 b94 := Is.mk' Tryz.func94 (by kernel_rfl)

def b96 : F2 := (F2.mk 6 [RV.t 2] ((ops 0 [O 2 (mov cFal)]).seq ((ops 0 [O 3 (M 0), O 4 (M 0), O 5 (B2 .neq (t 3) (t 4)), O 2 (M 5)]).seq ret)))
theorem is96 : Is Tryz.prog 96 b96 := Is.mk' Tryz.func96 (by kernel_rfl)

def b97 : F2 := (F2.mk 7 [RV.t 3] ((ops 0 [O 3 (mov cFal)]).seq ((ops 0 [O 4 (M 0), O 5 (D 1), O 6 (call (F 23) [t 4, t 5]), O 3 (M 6)]).seq ret)))
theorem is97 : Is Tryz.prog 97 b97 := Is.mk' Tryz.func97 (by kernel_rfl)

def b98 : F2 := (F2.mk 13 [RV.t 2] ((ops 0 [O 2 (mov (N ((0))))]).seq ((ops 0 [O 3 (mov (N ((1))))]).seq (((ops 0 [O 4 (mov (N ((0))))]).seq (block 0 (((ops 0 [O 5 (M 4), O 6 (M 0), O 7 (B2 .lss (t 5) (t 6))]).seq (C2.cond (t 7) skip (exit 0))).seq ((block 1 (ops 0 [O 10 (M 3), O 11 (B2 .mul (t 10) (N ((2)))), O 3 (M 11)])).seq (ops 0 [O 8 (M 4), O 9 (B2 .add (t 8) (N ((1)))), O 4 (M 9)]))).loop)).seq ((ops 0 [O 12 (M 3), O 2 (M 12)]).seq ret)))))
theorem is98 : Is Tryz.prog 98 b98 := Is.mk' Tryz.func98 (by kernel_rfl)

def b99 : F2 := (F2.mk 11 [RV.t 4] ((ops 0 [O 4 (mov cFal)]).seq ((ops 0 [O 5 (M 0), O 6 (M 1), O 7 (call (F 98) [t 6]), O 8 (B2 .quo (t 5) (t 7)), O 9 (B2 .rem (t 8) (N ((2)))), O 10 (B2 .eql (t 9) (N ((1)))), O 4 (M 10)]).seq ret)))
theorem is99 : Is Tryz.prog 99 b99 := Is.mk' Tryz.func99 (by kernel_rfl)

def b100 : F2 := (F2.mk 49 [] ((ops 0 [O 8 (M 1), O 9 (B2 .add (t 8) (N ((1)))), O 6 (M 9)]).seq (block 0 (((ops 0 [O 10 (M 6), O 11 (M 2), O 12 (B2 .lss (t 10) (t 11))]).seq (C2.cond (t 12) skip (exit 0))).seq ((block 1 ((ops 0 [O 15 (M 6), O 7 (M 15)]).seq (block 2 (((mixS 1 [O 16 (M 7), O 17 (M 1), O 18 (B2 .gtr (t 16) (t 17)), O 19 (M 18), G 20 19 true (M 0), G 21 19 true (M 7), G 22 19 true (ixaS 1 (t 20) (t 21)), G 23 19 true (D 22), G 24 19 true (M 0), G 25 19 true (M 7), G 26 19 true (B2 .sub (t 25) (N ((1)))), G 27 19 true (ixaS 1 (t 24) (t 26)), G 28 19 true (D 27), G 29 19 true (call (F 74) [t 23, t 28]), O 30 (pick (t 19) (t 29) cFal)] [(0, 0), (1, 0), (2, 0), (3, 0), (4, 0), (5, 0), (6, 0), (7, 0), (8, 0), (9, 0), (10, 0), (11, 0), (12, 0), (13, 2), (14, 0)]).seq (C2.cond (t 30) skip (exit 2))).seq ((block 3 (ops 1 [O 33 (M 0), O 34 (M 7), O 35 (M 0), O 36 (M 7), O 37 (B2 .sub (t 36) (N ((1)))), O 38 (M 0), O 39 (M 7), O 40 (B2 .sub (t 39) (N ((1)))), O 41 (ixaS 1 (t 38) (t 40)), O 42 (D 41), O 43 (M 0), O 44 (M 7), O 45 (ixaS 1 (t 43) (t 44)), O 46 (D 45), O 47 (ixaS 1 (t 33) (t 34)), Op2.mk none none (Ins.st 1 (t 47) (t 42)), O 48 (ixaS 1 (t 35) (t 37)), Op2.mk none none (Ins.st 1 (t 48) (t 46))])).seq (ops 0 [O 31 (M 7), O 32 (B2 .sub (t 31) (N ((1)))), O 7 (M 32)]))).loop))).seq (ops 0 [O 13 (M 6), O 14 (B2 .add (t 13) (N ((1)))), O 6 (M 14)]))).loop)))
theorem is100 : Is Tryz.prog 100 b100 := Is.mk' Tryz.func100 (by kernel_rfl)

def b101 : F2 := (F2.mk 56 [] ((ops 0 [O 11 (M 1), O 6 (M 11)]).seq ((ops 0 [O 7 (mov (N ((0))))]).seq ((ops 0 [O 12 (M 2), O 13 (M 1), O 14 (B2 .sub (t 12) (t 13)), O 8 (M 14)]).seq (((ops 0 [O 15 (M 8), O 16 (B2 .sub (t 15) (N ((1)))), O 17 (B2 .quo (t 16) (N ((2)))), O 9 (M 17)]).seq (block 0 (((ops 0 [O 18 (M 9), O 19 (B2 .geq (t 18) (N ((0))))]).seq (C2.cond (t 19) skip (exit 0))).seq ((block 1 (ops 0 [O 22 (M 0), O 23 (M 9), O 24 (M 8), O 25 (M 6), O 26 (call (F 120) [t 22, t 23, t 24, t 25])])).seq (ops 0 [O 20 (M 9), O 21 (B2 .sub (t 20) (N ((1)))), O 9 (M 21)]))).loop)).seq ((ops 0 [O 27 (M 8), O 28 (B2 .sub (t 27) (N ((1)))), O 10 (M 28)]).seq (block 2 (((ops 0 [O 29 (M 10), O 30 (B2 .geq (t 29) (N ((0))))]).seq (C2.cond (t 30) skip (exit 2))).seq ((block 3 ((ops 1 [O 33 (M 0), O 34 (M 6), O 35 (M 0), O 36 (M 6), O 37 (M 10), O 38 (B2 .add (t 36) (t 37)), O 39 (M 0), O 40 (M 6), O 41 (M 10), O 42 (B2 .add (t 40) (t 41)), O 43 (ixaS 1 (t 39) (t 42)), O 44 (D 43), O 45 (M 0), O 46 (M 6), O 47 (ixaS 1 (t 45) (t 46)), O 48 (D 47), O 49 (ixaS 1 (t 33) (t 34)), Op2.mk none none (Ins.st 1 (t 49) (t 44)), O 50 (ixaS 1 (t 35) (t 38)), Op2.mk none none (Ins.st 1 (t 50) (t 48))]).seq (ops 0 [O 51 (M 0), O 52 (M 7), O 53 (M 10), O 54 (M 6), O 55 (call (F 120) [t 51, t 52, t 53, t 54])]))).seq (ops 0 [O 31 (M 10), O 32 (B2 .sub (t 31) (N ((1)))), O 10 (M 32)]))).loop)))))))
theorem is101 : Is Tryz.prog 101 b101 := Is.mk' Tryz.func101 (by kernel_rfl)

def b102 : F2 := (F2.mk 65 [] ((ops 0 [O 11 (M 2), O 12 (M 1), O 13 (B2 .sub (t 11) (t 12)), O 6 (M 13)]).seq ((ops 0 [O 14 (M 6), O 15 (B2 .geq (t 14) (N ((8))))]).seq (C2.cond (t 15) ((ops 0 [O 16 (M 6), O 17 (conv IntKind.u64 (t 16)), O 7 (alloc (AV.int IntKind.u64 (0))), Op2.mk none none (Ins.st 1 (t 7) (t 17))]).seq ((ops 0 [O 18 (M 6), O 19 (call (F 121) [t 18]), O 8 (M 19)]).seq ((ops 0 [O 20 (M 1), O 21 (M 6), O 22 (B2 .quo (t 21) (N ((4)))), O 23 (B2 .mul (t 22) (N ((2)))), O 24 (B2 .add (t 20) (t 23)), O 25 (B2 .sub (t 24) (N ((1)))), O 9 (M 25)]).seq (block 0 (((ops 0 [O 26 (M 9), O 27 (M 1), O 28 (M 6), O 29 (B2 .quo (t 28) (N ((4)))), O 30 (B2 .mul (t 29) (N ((2)))), O 31 (B2 .add (t 27) (t 30)), O 32 (B2 .add (t 31) (N ((1)))), O 33 (B2 .leq (t 26) (t 32))]).seq (C2.cond (t 33) skip (exit 0))).seq ((block 1 ((ops 0 [O 36 (call (F 122) [t 7]), O 37 (M 8), O 38 (B2 .sub (t 37) (c (AV.int IntKind.u64 (1)))), O 39 (B2 .and (t 36) (t 38)), O 40 (conv IntKind.i64 (t 39)), O 10 (M 40)]).seq (((ops 0 [O 41 (M 10), O 42 (M 6), O 43 (B2 .geq (t 41) (t 42))]).seq (C2.cond (t 43) (ops 0 [O 44 (M 10), O 45 (M 6), O 46 (B2 .sub (t 44) (t 45)), O 10 (M 46)]) skip)).seq (ops 1 [O 47 (M 0), O 48 (M 9), O 49 (M 0), O 50 (M 1), O 51 (M 10), O 52 (B2 .add (t 50) (t 51)), O 53 (M 0), O 54 (M 1), O 55 (M 10), O 56 (B2 .add (t 54) (t 55)), O 57 (ixaS 1 (t 53) (t 56)), O 58 (D 57), O 59 (M 0), O 60 (M 9), O 61 (ixaS 1 (t 59) (t 60)), O 62 (D 61), O 63 (ixaS 1 (t 47) (t 48)), Op2.mk none none (Ins.st 1 (t 63) (t 58)), O 64 (ixaS 1 (t 49) (t 52)), Op2.mk none none (Ins.st 1 (t 64) (t 62))])))).seq (ops 0 [O 34 (M 9), O 35 (B2 .add (t 34) (N ((1)))), O 9 (M 35)]))).loop)))) skip))))
theorem is102 : Is Tryz.prog 102 b102 := Is.mk' Tryz.func102 (by kernel_rfl)

def b103 : F2 := (F2.mk 57 [RV.t 6, RV.t 7] ((ops 0 [O 6 (mov (N ((0)))), O 7 (mov (N ((0))))]).seq ((ops 0 [O 13 (M 2), O 14 (M 1), O 15 (B2 .sub (t 13) (t 14)), O 8 (M 15)]).seq ((ops 0 [O 9 (alloc (AV.int IntKind.i64 (0)))]).seq ((ops 0 [O 16 (M 1), O 17 (M 8), O 18 (B2 .quo (t 17) (N ((4)))), O 19 (B2 .mul (t 18) (N ((1)))), O 20 (B2 .add (t 16) (t 19)), O 10 (M 20)]).seq ((ops 0 [O 21 (M 1), O 22 (M 8), O 23 (B2 .quo (t 22) (N ((4)))), O 24 (B2 .mul (t 23) (N ((2)))), O 25 (B2 .add (t 21) (t 24)), O 11 (M 25)]).seq ((ops 0 [O 26 (M 1), O 27 (M 8), O 28 (B2 .quo (t 27) (N ((4)))), O 29 (B2 .mul (t 28) (N ((3)))), O 30 (B2 .add (t 26) (t 29)), O 12 (M 30)]).seq (((ops 0 [O 31 (M 8), O 32 (B2 .geq (t 31) (N ((8))))]).seq (C2.cond (t 32) (((ops 0 [O 33 (M 8), O 34 (B2 .geq (t 33) (N ((50))))]).seq (C2.cond (t 34) ((ops 0 [O 35 (M 0), O 36 (M 10), O 37 (call (F 123) [t 35, t 36, t 9]), O 10 (M 37)]).seq ((ops 0 [O 38 (M 0), O 39 (M 11), O 40 (call (F 123) [t 38, t 39, t 9]), O 11 (M 40)]).seq (ops 0 [O 41 (M 0), O 42 (M 12), O 43 (call (F 123) [t 41, t 42, t 9]), O 12 (M 43)]))) skip)).seq (ops 0 [O 44 (M 0), O 45 (M 10), O 46 (M 11), O 47 (M 12), O 48 (call (F 124) [t 44, t 45, t 46, t 47, t 9]), O 11 (M 48)])) skip)).seq ((ops 0 [O 49 (D 9)]).seq (block 0 ((ops 0 [O 52 (B2 .eql (t 49) (N ((0)))), O 51 (M 52)]).seq (C2.cond (t 51) ((ops 0 [O 53 (M 11), O 6 (M 53), O 7 (mov (N ((1))))]).seq ret) ((ops 0 [O 55 (B2 .eql (t 49) (N ((12)))), O 54 (M 55)]).seq (C2.cond (t 54) ((ops 0 [O 56 (M 11), O 6 (M 56), O 7 (mov (N ((2))))]).seq ret) ((ops 0 [O 50 (M 11), O 6 (M 50), O 7 (mov (N ((0))))]).seq ret)))))))))))))))
theorem is103 : Is Tryz.prog 103 b103 := Is.mk' Tryz.func103 (by kernel_rfl)

def b104 : F2 := (F2.mk 32 [] ((ops 0 [O 8 (M 1), O 6 (M 8)]).seq ((ops 0 [O 9 (M 2), O 10 (B2 .sub (t 9) (N ((1)))), O 7 (M 10)]).seq (block 0 (((ops 0 [O 11 (M 6), O 12 (M 7), O 13 (B2 .lss (t 11) (t 12))]).seq (C2.cond (t 13) skip (exit 0))).seq (block 1 ((ops 1 [O 14 (M 0), O 15 (M 6), O 16 (M 0), O 17 (M 7), O 18 (M 0), O 19 (M 7), O 20 (ixaS 1 (t 18) (t 19)), O 21 (D 20), O 22 (M 0), O 23 (M 6), O 24 (ixaS 1 (t 22) (t 23)), O 25 (D 24), O 26 (ixaS 1 (t 14) (t 15)), Op2.mk none none (Ins.st 1 (t 26) (t 21)), O 27 (ixaS 1 (t 16) (t 17)), Op2.mk none none (Ins.st 1 (t 27) (t 25))]).seq ((ops 0 [O 28 (M 6), O 29 (B2 .add (t 28) (N ((1)))), O 6 (M 29)]).seq (ops 0 [O 30 (M 7), O 31 (B2 .sub (t 30) (N ((1)))), O 7 (M 31)]))))).loop))))
theorem is104 : Is Tryz.prog 104 b104 := Is.mk' Tryz.func104 (by kernel_rfl)

def b105 : F2 := (F2.mk 133 [RV.t 6] ((ops 0 [O 6 (mov cFal)]).seq ((ops 0 [O 11 (M 1), O 12 (B2 .add (t 11) (N ((1)))), O 7 (M 12)]).seq (((ops 0 [O 8 (mov (N ((0))))]).seq (block 0 (((ops 0 [O 13 (M 8), O 14 (B2 .lss (t 13) (N ((5))))]).seq (C2.cond (t 14) skip (exit 0))).seq ((block 1 ((block 2 (((mixS 1 [O 17 (M 7), O 18 (M 2), O 19 (B2 .lss (t 17) (t 18)), O 20 (M 19), G 21 20 true (M 0), G 22 20 true (M 7), G 23 20 true (ixaS 1 (t 21) (t 22)), G 24 20 true (D 23), G 25 20 true (M 0), G 26 20 true (M 7), G 27 20 true (B2 .sub (t 26) (N ((1)))), G 28 20 true (ixaS 1 (t 25) (t 27)), G 29 20 true (D 28), G 30 20 true (call (F 74) [t 24, t 29]), G 31 20 true (un UnOp.not (t 30)), O 32 (pick (t 20) (t 31) cFal)] [(0, 0), (1, 0), (2, 0), (3, 0), (4, 0), (5, 0), (6, 0), (7, 0), (8, 0), (9, 0), (10, 0), (11, 0), (12, 0), (13, 2), (14, 0), (15, 0)]).seq (C2.cond (t 32) skip (exit 2))).seq (block 3 (ops 0 [O 33 (M 7), O 34 (B2 .add (t 33) (N ((1)))), O 7 (M 34)]))).loop).seq (((ops 0 [O 35 (M 7), O 36 (M 2), O 37 (B2 .eql (t 35) (t 36))]).seq (C2.cond (t 37) ((ops 0 [O 6 (mov cTru)]).seq ret) skip)).seq (((ops 0 [O 38 (M 2), O 39 (M 1), O 40 (B2 .sub (t 38) (t 39)), O 41 (B2 .lss (t 40) (N ((50))))]).seq (C2.cond (t 41) ((ops 0 [O 6 (mov cFal)]).seq ret) skip)).seq ((ops 1 [O 42 (M 0), O 43 (M 7), O 44 (M 0), O 45 (M 7), O 46 (B2 .sub (t 45) (N ((1)))), O 47 (M 0), O 48 (M 7), O 49 (B2 .sub (t 48) (N ((1)))), O 50 (ixaS 1 (t 47) (t 49)), O 51 (D 50), O 52 (M 0), O 53 (M 7), O 54 (ixaS 1 (t 52) (t 53)), O 55 (D 54), O 56 (ixaS 1 (t 42) (t 43)), Op2.mk none none (Ins.st 1 (t 56) (t 51)), O 57 (ixaS 1 (t 44) (t 46)), Op2.mk none none (Ins.st 1 (t 57) (t 55))]).seq (((ops 0 [O 58 (M 7), O 59 (M 1), O 60 (B2 .sub (t 58) (t 59)), O 61 (B2 .geq (t 60) (N ((2))))]).seq (C2.cond (t 61) ((ops 0 [O 62 (M 7), O 63 (B2 .sub (t 62) (N ((1)))), O 9 (M 63)]).seq (block 4 (((ops 0 [O 64 (M 9), O 65 (B2 .geq (t 64) (N ((1))))]).seq (C2.cond (t 65) skip (exit 4))).seq ((block 5 (((mixS 1 [O 68 (M 0), O 69 (M 9), O 70 (ixaS 1 (t 68) (t 69)), O 71 (D 70), O 72 (M 0), O 73 (M 9), O 74 (B2 .sub (t 73) (N ((1)))), O 75 (ixaS 1 (t 72) (t 74)), O 76 (D 75), O 77 (call (F 74) [t 71, t 76]), O 78 (un UnOp.not (t 77))] [(0, 0), (1, 0), (2, 0), (3, 0), (4, 0), (5, 0), (6, 0), (7, 0), (8, 0), (9, 2), (10, 0)]).seq (C2.cond (t 78) (exit 4) skip)).seq (ops 1 [O 79 (M 0), O 80 (M 9), O 81 (M 0), O 82 (M 9), O 83 (B2 .sub (t 82) (N ((1)))), O 84 (M 0), O 85 (M 9), O 86 (B2 .sub (t 85) (N ((1)))), O 87 (ixaS 1 (t 84) (t 86)), O 88 (D 87), O 89 (M 0), O 90 (M 9), O 91 (ixaS 1 (t 89) (t 90)), O 92 (D 91), O 93 (ixaS 1 (t 79) (t 80)), Op2.mk none none (Ins.st 1 (t 93) (t 88)), O 94 (ixaS 1 (t 81) (t 83)), Op2.mk none none (Ins.st 1 (t 94) (t 92))]))).seq (ops 0 [O 66 (M 9), O 67 (B2 .sub (t 66) (N ((1)))), O 9 (M 67)]))).loop)) skip)).seq ((ops 0 [O 95 (M 2), O 96 (M 7), O 97 (B2 .sub (t 95) (t 96)), O 98 (B2 .geq (t 97) (N ((2))))]).seq (C2.cond (t 98) ((ops 0 [O 99 (M 7), O 100 (B2 .add (t 99) (N ((1)))), O 10 (M 100)]).seq (block 6 (((ops 0 [O 101 (M 10), O 102 (M 2), O 103 (B2 .lss (t 101) (t 102))]).seq (C2.cond (t 103) skip (exit 6))).seq ((block 7 (((mixS 1 [O 106 (M 0), O 107 (M 10), O 108 (ixaS 1 (t 106) (t 107)), O 109 (D 108), O 110 (M 0), O 111 (M 10), O 112 (B2 .sub (t 111) (N ((1)))), O 113 (ixaS 1 (t 110) (t 112)), O 114 (D 113), O 115 (call (F 74) [t 109, t 114]), O 116 (un UnOp.not (t 115))] [(0, 0), (1, 0), (2, 0), (3, 0), (4, 0), (5, 0), (6, 0), (7, 0), (8, 0), (9, 2), (10, 0)]).seq (C2.cond (t 116) (exit 6) skip)).seq (ops 1 [O 117 (M 0), O 118 (M 10), O 119 (M 0), O 120 (M 10), O 121 (B2 .sub (t 120) (N ((1)))), O 122 (M 0), O 123 (M 10), O 124 (B2 .sub (t 123) (N ((1)))), O 125 (ixaS 1 (t 122) (t 124)), O 126 (D 125), O 127 (M 0), O 128 (M 10), O 129 (ixaS 1 (t 127) (t 128)), O 130 (D 129), O 131 (ixaS 1 (t 117) (t 118)), Op2.mk none none (Ins.st 1 (t 131) (t 126)), O 132 (ixaS 1 (t 119) (t 121)), Op2.mk none none (Ins.st 1 (t 132) (t 130))]))).seq (ops 0 [O 104 (M 10), O 105 (B2 .add (t 104) (N ((1)))), O 10 (M 105)]))).loop)) skip)))))))).seq (ops 0 [O 15 (M 8), O 16 (B2 .add (t 15) (N ((1)))), O 8 (M 16)]))).loop)).seq ((ops 0 [O 6 (mov cFal)]).seq ret)))))
theorem is105 : Is Tryz.prog 105 b105 := Is.mk' Tryz.func105 (by kernel_rfl)

def b106 : F2 := (F2.mk 84 [RV.t 8] ((ops 0 [O 8 (mov (N ((0))))]).seq ((ops 1 [O 11 (M 0), O 12 (M 1), O 13 (M 0), O 14 (M 3), O 15 (M 0), O 16 (M 3), O 17 (ixaS 1 (t 15) (t 16)), O 18 (D 17), O 19 (M 0), O 20 (M 1), O 21 (ixaS 1 (t 19) (t 20)), O 22 (D 21), O 23 (ixaS 1 (t 11) (t 12)), Op2.mk none none (Ins.st 1 (t 23) (t 18)), O 24 (ixaS 1 (t 13) (t 14)), Op2.mk none none (Ins.st 1 (t 24) (t 22))]).seq ((ops 0 [O 25 (M 1), O 26 (B2 .add (t 25) (N ((1)))), O 27 (M 2), O 28 (B2 .sub (t 27) (N ((1)))), O 9 (M 26), O 10 (M 28)]).seq ((block 0 (block 1 ((block 2 (((mixS 1 [O 29 (M 9), O 30 (M 10), O 31 (B2 .leq (t 29) (t 30)), O 32 (M 31), G 33 32 true (M 0), G 34 32 true (M 1), G 35 32 true (ixaS 1 (t 33) (t 34)), G 36 32 true (D 35), G 37 32 true (M 0), G 38 32 true (M 9), G 39 32 true (ixaS 1 (t 37) (t 38)), G 40 32 true (D 39), G 41 32 true (call (F 74) [t 36, t 40]), G 42 32 true (un UnOp.not (t 41)), O 43 (pick (t 32) (t 42) cFal)] [(0, 0), (1, 0), (2, 0), (3, 0), (4, 0), (5, 0), (6, 0), (7, 0), (8, 0), (9, 0), (10, 0), (11, 0), (12, 2), (13, 0), (14, 0)]).seq (C2.cond (t 43) skip (exit 2))).seq (block 3 (ops 0 [O 44 (M 9), O 45 (B2 .add (t 44) (N ((1)))), O 9 (M 45)]))).loop).seq ((block 4 (((mixS 1 [O 46 (M 9), O 47 (M 10), O 48 (B2 .leq (t 46) (t 47)), O 49 (M 48), G 50 49 true (M 0), G 51 49 true (M 1), G 52 49 true (ixaS 1 (t 50) (t 51)), G 53 49 true (D 52), G 54 49 true (M 0), G 55 49 true (M 10), G 56 49 true (ixaS 1 (t 54) (t 55)), G 57 49 true (D 56), G 58 49 true (call (F 74) [t 53, t 57]), O 59 (pick (t 49) (t 58) cFal)] [(0, 0), (1, 0), (2, 0), (3, 0), (4, 0), (5, 0), (6, 0), (7, 0), (8, 0), (9, 0), (10, 0), (11, 0), (12, 2), (13, 0)]).seq (C2.cond (t 59) skip (exit 4))).seq (block 5 (ops 0 [O 60 (M 10), O 61 (B2 .sub (t 60) (N ((1)))), O 10 (M 61)]))).loop).seq (((ops 0 [O 62 (M 9), O 63 (M 10), O 64 (B2 .gtr (t 62) (t 63))]).seq (C2.cond (t 64) (exit 0) skip)).seq ((ops 1 [O 65 (M 0), O 66 (M 9), O 67 (M 0), O 68 (M 10), O 69 (M 0), O 70 (M 10), O 71 (ixaS 1 (t 69) (t 70)), O 72 (D 71), O 73 (M 0), O 74 (M 9), O 75 (ixaS 1 (t 73) (t 74)), O 76 (D 75), O 77 (ixaS 1 (t 65) (t 66)), Op2.mk none none (Ins.st 1 (t 77) (t 72)), O 78 (ixaS 1 (t 67) (t 68)), Op2.mk none none (Ins.st 1 (t 78) (t 76))]).seq ((ops 0 [O 79 (M 9), O 80 (B2 .add (t 79) (N ((1)))), O 9 (M 80)]).seq (ops 0 [O 81 (M 10), O 82 (B2 .sub (t 81) (N ((1)))), O 10 (M 82)]))))))).loop).seq ((ops 0 [O 83 (M 9), O 8 (M 83)]).seq ret))))))
theorem is106 : Is Tryz.prog 106 b106 := Is.mk' Tryz.func106 (by kernel_rfl)

def b107 : F2 := (F2.mk 168 [RV.t 8, RV.t 9] ((ops 0 [O 8 (mov (N ((0)))), O 9 (mov cFal)]).seq ((ops 1 [O 12 (M 0), O 13 (M 1), O 14 (M 0), O 15 (M 3), O 16 (M 0), O 17 (M 3), O 18 (ixaS 1 (t 16) (t 17)), O 19 (D 18), O 20 (M 0), O 21 (M 1), O 22 (ixaS 1 (t 20) (t 21)), O 23 (D 22), O 24 (ixaS 1 (t 12) (t 13)), Op2.mk none none (Ins.st 1 (t 24) (t 19)), O 25 (ixaS 1 (t 14) (t 15)), Op2.mk none none (Ins.st 1 (t 25) (t 23))]).seq ((ops 0 [O 26 (M 1), O 27 (B2 .add (t 26) (N ((1)))), O 28 (M 2), O 29 (B2 .sub (t 28) (N ((1)))), O 10 (M 27), O 11 (M 29)]).seq ((block 0 (((mixS 1 [O 30 (M 10), O 31 (M 11), O 32 (B2 .leq (t 30) (t 31)), O 33 (M 32), G 34 33 true (M 0), G 35 33 true (M 10), G 36 33 true (ixaS 1 (t 34) (t 35)), G 37 33 true (D 36), G 38 33 true (M 0), G 39 33 true (M 1), G 40 33 true (ixaS 1 (t 38) (t 39)), G 41 33 true (D 40), G 42 33 true (call (F 74) [t 37, t 41]), O 43 (pick (t 33) (t 42) cFal)] [(0, 0), (1, 0), (2, 0), (3, 0), (4, 0), (5, 0), (6, 0), (7, 0), (8, 0), (9, 0), (10, 0), (11, 0), (12, 2), (13, 0)]).seq (C2.cond (t 43) skip (exit 0))).seq (block 1 (ops 0 [O 44 (M 10), O 45 (B2 .add (t 44) (N ((1)))), O 10 (M 45)]))).loop).seq ((block 2 (((mixS 1 [O 46 (M 10), O 47 (M 11), O 48 (B2 .leq (t 46) (t 47)), O 49 (M 48), G 50 49 true (M 0), G 51 49 true (M 11), G 52 49 true (ixaS 1 (t 50) (t 51)), G 53 49 true (D 52), G 54 49 true (M 0), G 55 49 true (M 1), G 56 49 true (ixaS 1 (t 54) (t 55)), G 57 49 true (D 56), G 58 49 true (call (F 74) [t 53, t 57]), G 59 49 true (un UnOp.not (t 58)), O 60 (pick (t 49) (t 59) cFal)] [(0, 0), (1, 0), (2, 0), (3, 0), (4, 0), (5, 0), (6, 0), (7, 0), (8, 0), (9, 0), (10, 0), (11, 0), (12, 2), (13, 0), (14, 0)]).seq (C2.cond (t 60) skip (exit 2))).seq (block 3 (ops 0 [O 61 (M 11), O 62 (B2 .sub (t 61) (N ((1)))), O 11 (M 62)]))).loop).seq (((ops 0 [O 63 (M 10), O 64 (M 11), O 65 (B2 .gtr (t 63) (t 64))]).seq (C2.cond (t 65) ((ops 1 [O 66 (M 0), O 67 (M 11), O 68 (M 0), O 69 (M 1), O 70 (M 0), O 71 (M 1), O 72 (ixaS 1 (t 70) (t 71)), O 73 (D 72), O 74 (M 0), O 75 (M 11), O 76 (ixaS 1 (t 74) (t 75)), O 77 (D 76), O 78 (ixaS 1 (t 66) (t 67)), Op2.mk none none (Ins.st 1 (t 78) (t 73)), O 79 (ixaS 1 (t 68) (t 69)), Op2.mk none none (Ins.st 1 (t 79) (t 77))]).seq ((ops 0 [O 80 (M 11), O 8 (M 80), O 9 (mov cTru)]).seq ret)) skip)).seq ((ops 1 [O 81 (M 0), O 82 (M 10), O 83 (M 0), O 84 (M 11), O 85 (M 0), O 86 (M 11), O 87 (ixaS 1 (t 85) (t 86)), O 88 (D 87), O 89 (M 0), O 90 (M 10), O 91 (ixaS 1 (t 89) (t 90)), O 92 (D 91), O 93 (ixaS 1 (t 81) (t 82)), Op2.mk none none (Ins.st 1 (t 93) (t 88)), O 94 (ixaS 1 (t 83) (t 84)), Op2.mk none none (Ins.st 1 (t 94) (t 92))]).seq ((ops 0 [O 95 (M 10), O 96 (B2 .add (t 95) (N ((1)))), O 10 (M 96)]).seq ((ops 0 [O 97 (M 11), O 98 (B2 .sub (t 97) (N ((1)))), O 11 (M 98)]).seq ((block 4 (block 5 ((block 6 (((mixS 1 [O 99 (M 10), O 100 (M 11), O 101 (B2 .leq (t 99) (t 100)), O 102 (M 101), G 103 102 true (M 0), G 104 102 true (M 10), G 105 102 true (ixaS 1 (t 103) (t 104)), G 106 102 true (D 105), G 107 102 true (M 0), G 108 102 true (M 1), G 109 102 true (ixaS 1 (t 107) (t 108)), G 110 102 true (D 109), G 111 102 true (call (F 74) [t 106, t 110]), O 112 (pick (t 102) (t 111) cFal)] [(0, 0), (1, 0), (2, 0), (3, 0), (4, 0), (5, 0), (6, 0), (7, 0), (8, 0), (9, 0), (10, 0), (11, 0), (12, 2), (13, 0)]).seq (C2.cond (t 112) skip (exit 6))).seq (block 7 (ops 0 [O 113 (M 10), O 114 (B2 .add (t 113) (N ((1)))), O 10 (M 114)]))).loop).seq ((block 8 (((mixS 1 [O 115 (M 10), O 116 (M 11), O 117 (B2 .leq (t 115) (t 116)), O 118 (M 117), G 119 118 true (M 0), G 120 118 true (M 11), G 121 118 true (ixaS 1 (t 119) (t 120)), G 122 118 true (D 121), G 123 118 true (M 0), G 124 118 true (M 1), G 125 118 true (ixaS 1 (t 123) (t 124)), G 126 118 true (D 125), G 127 118 true (call (F 74) [t 122, t 126]), G 128 118 true (un UnOp.not (t 127)), O 129 (pick (t 118) (t 128) cFal)] [(0, 0), (1, 0), (2, 0), (3, 0), (4, 0), (5, 0), (6, 0), (7, 0), (8, 0), (9, 0), (10, 0), (11, 0), (12, 2), (13, 0), (14, 0)]).seq (C2.cond (t 129) skip (exit 8))).seq (block 9 (ops 0 [O 130 (M 11), O 131 (B2 .sub (t 130) (N ((1)))), O 11 (M 131)]))).loop).seq (((ops 0 [O 132 (M 10), O 133 (M 11), O 134 (B2 .gtr (t 132) (t 133))]).seq (C2.cond (t 134) (exit 4) skip)).seq ((ops 1 [O 135 (M 0), O 136 (M 10), O 137 (M 0), O 138 (M 11), O 139 (M 0), O 140 (M 11), O 141 (ixaS 1 (t 139) (t 140)), O 142 (D 141), O 143 (M 0), O 144 (M 10), O 145 (ixaS 1 (t 143) (t 144)), O 146 (D 145), O 147 (ixaS 1 (t 135) (t 136)), Op2.mk none none (Ins.st 1 (t 147) (t 142)), O 148 (ixaS 1 (t 137) (t 138)), Op2.mk none none (Ins.st 1 (t 148) (t 146))]).seq ((ops 0 [O 149 (M 10), O 150 (B2 .add (t 149) (N ((1)))), O 10 (M 150)]).seq (ops 0 [O 151 (M 11), O 152 (B2 .sub (t 151) (N ((1)))), O 11 (M 152)]))))))).loop).seq ((ops 1 [O 153 (M 0), O 154 (M 11), O 155 (M 0), O 156 (M 1), O 157 (M 0), O 158 (M 1), O 159 (ixaS 1 (t 157) (t 158)), O 160 (D 159), O 161 (M 0), O 162 (M 11), O 163 (ixaS 1 (t 161) (t 162)), O 164 (D 163), O 165 (ixaS 1 (t 153) (t 154)), Op2.mk none none (Ins.st 1 (t 165) (t 160)), O 166 (ixaS 1 (t 155) (t 156)), Op2.mk none none (Ins.st 1 (t 166) (t 164))]).seq ((ops 0 [O 167 (M 11), O 8 (M 167), O 9 (mov cFal)]).seq ret)))))))))))))
theorem is107 : Is Tryz.prog 107 b107 := Is.mk' Tryz.func107 (by kernel_rfl)

def b109 : F2 := (F2.mk 25 [RV.t 2] ((ops 0 [O 2 (mov (N ((0))))]).seq (((ops 0 [O 3 (M 0), O 4 (B2 .geq (t 3) (c (AV.int IntKind.u64 (4294967296))))]).seq (C2.cond (t 4) ((ops 0 [O 5 (M 0), O 6 (B2 .shr (t 5) (c (AV.int IntKind.u64 (32)))), O 0 (M 6)]).seq (ops 0 [O 2 (mov (N ((32))))])) skip)).seq (((ops 0 [O 7 (M 0), O 8 (B2 .geq (t 7) (c (AV.int IntKind.u64 (65536))))]).seq (C2.cond (t 8) ((ops 0 [O 9 (M 0), O 10 (B2 .shr (t 9) (c (AV.int IntKind.u64 (16)))), O 0 (M 10)]).seq (ops 0 [O 11 (M 2), O 12 (B2 .add (t 11) (N ((16)))), O 2 (M 12)])) skip)).seq (((ops 0 [O 13 (M 0), O 14 (B2 .geq (t 13) (c (AV.int IntKind.u64 (256))))]).seq (C2.cond (t 14) ((ops 0 [O 15 (M 0), O 16 (B2 .shr (t 15) (c (AV.int IntKind.u64 (8)))), O 0 (M 16)]).seq (ops 0 [O 17 (M 2), O 18 (B2 .add (t 17) (N ((8)))), O 2 (M 18)])) skip)).seq ((ops 0 [O 19 (M 2), O 20 (M 0), O 21 (conv IntKind.u8 (t 20)), O 22 (ixStr (c (AV.str (ByteArray.mk (Array.mk [0, 1, 2, 2, 3, 3, 3, 3, 4, 4, 4, 4, 4, 4, 4, 4, 5, 5, 5, 5, 5, 5, 5, 5, 5, 5, 5, 5, 5, 5, 5, 5, 6, 6, 6, 6, 6, 6, 6, 6, 6, 6, 6, 6, 6, 6, 6, 6, 6, 6, 6, 6, 6, 6, 6, 6, 6, 6, 6, 6, 6, 6, 6, 6, 7, 7, 7, 7, 7, 7, 7, 7, 7, 7, 7, 7, 7, 7, 7, 7, 7, 7, 7, 7, 7, 7, 7, 7, 7, 7, 7, 7, 7, 7, 7, 7, 7, 7, 7, 7, 7, 7, 7, 7, 7, 7, 7, 7, 7, 7, 7, 7, 7, 7, 7, 7, 7, 7, 7, 7, 7, 7, 7, 7, 7, 7, 7, 7, 8, 8, 8, 8, 8, 8, 8, 8, 8, 8, 8, 8, 8, 8, 8, 8, 8, 8, 8, 8, 8, 8, 8, 8, 8, 8, 8, 8, 8, 8, 8, 8, 8, 8, 8, 8, 8, 8, 8, 8, 8, 8, 8, 8, 8, 8, 8, 8, 8, 8, 8, 8, 8, 8, 8, 8, 8, 8, 8, 8, 8, 8, 8, 8, 8, 8, 8, 8, 8, 8, 8, 8, 8, 8, 8, 8, 8, 8, 8, 8, 8, 8, 8, 8, 8, 8, 8, 8, 8, 8, 8, 8, 8, 8, 8, 8, 8, 8, 8, 8, 8, 8, 8, 8, 8, 8, 8, 8, 8, 8, 8, 8, 8, 8, 8, 8, 8, 8, 8, 8, 8, 8, 8, 8, 8, 8, 8, 8])))) (t 21)), O 23 (conv IntKind.i64 (t 22)), O 24 (B2 .add (t 19) (t 23)), O 2 (M 24)]).seq ret))))))
theorem is109 : Is Tryz.prog 109 b109 := Is.mk' Tryz.func109 (by kernel_rfl)

def b110 : F2 := (F2.mk 148 [] ((ops 0 [O 10 (mov cTru)]).seq ((ops 0 [O 11 (mov cTru)]).seq (block 0 (block 1 ((ops 0 [O 21 (M 2), O 22 (M 1), O 23 (B2 .sub (t 21) (t 22)), O 12 (M 23)]).seq (((ops 0 [O 24 (M 12), O 25 (B2 .leq (t 24) (N ((12))))]).seq (C2.cond (t 25) ((ops 0 [O 26 (M 0), O 27 (M 1), O 28 (M 2), O 29 (M 4), O 30 (call (F 125) [t 26, t 27, t 28, t 29])]).seq ret) skip)).seq (((ops 0 [O 31 (M 3), O 32 (B2 .eql (t 31) (N ((0))))]).seq (C2.cond (t 32) ((ops 0 [O 33 (M 0), O 34 (M 1), O 35 (M 2), O 36 (M 4), O 37 (call (F 126) [t 33, t 34, t 35, t 36])]).seq ret) skip)).seq (((ops 0 [O 38 (M 10), O 39 (un UnOp.not (t 38))]).seq (C2.cond (t 39) ((ops 0 [O 40 (M 0), O 41 (M 1), O 42 (M 2), O 43 (M 4), O 44 (call (F 127) [t 40, t 41, t 42, t 43])]).seq (ops 0 [O 45 (M 3), O 46 (B2 .sub (t 45) (N ((1)))), O 3 (M 46)])) skip)).seq ((ops 0 [O 48 (M 0), O 49 (M 1), O 50 (M 2), O 51 (M 4), O 52 (call (F 128) [t 48, t 49, t 50, t 51]), O 47 (M 52), O 53 (ext (t 47) 0), O 54 (ext (t 47) 1), O 13 (M 53), O 14 (M 54)]).seq (((ops 0 [O 55 (M 14), O 56 (B2 .eql (t 55) (N ((2))))]).seq (C2.cond (t 56) ((ops 0 [O 57 (M 0), O 58 (M 1), O 59 (M 2), O 60 (M 4), O 61 (call (F 129) [t 57, t 58, t 59, t 60])]).seq ((ops 0 [O 62 (M 2), O 63 (B2 .sub (t 62) (N ((1)))), O 64 (M 13), O 65 (M 1), O 66 (B2 .sub (t 64) (t 65)), O 67 (B2 .sub (t 63) (t 66)), O 13 (M 67)]).seq (ops 0 [O 14 (mov (N ((1))))]))) skip)).seq (((ops 0 [O 68 (M 10), O 69 (M 68), G 70 69 true (M 11), O 71 (pick (t 69) (t 70) cFal), O 72 (M 71), G 73 72 true (M 14), G 74 72 true (B2 .eql (t 73) (N ((1)))), O 75 (pick (t 72) (t 74) cFal)]).seq (C2.cond (t 75) ((ops 0 [O 76 (M 0), O 77 (M 1), O 78 (M 2), O 79 (M 4), O 80 (call (F 130) [t 76, t 77, t 78, t 79])]).seq (C2.cond (t 80) ret skip)) skip)).seq (((mixS 1 [O 81 (M 1), O 82 (B2 .gtr (t 81) (N ((0)))), O 83 (M 82), G 84 83 true (M 4), G 85 83 true (M 0), G 86 83 true (M 1), G 87 83 true (B2 .sub (t 86) (N ((1)))), G 88 83 true (ixaS 1 (t 85) (t 87)), G 89 83 true (D 88), G 90 83 true (M 0), G 91 83 true (M 13), G 92 83 true (ixaS 1 (t 90) (t 91)), G 93 83 true (D 92), G 94 83 true (call (t 84) [t 89, t 93]), G 95 83 true (B2 .lss (t 94) (N ((0)))), G 96 83 true (un UnOp.not (t 95)), O 97 (pick (t 83) (t 96) cFal)] [(0, 0), (1, 0), (2, 0), (3, 0), (4, 0), (5, 0), (6, 0), (7, 0), (8, 0), (9, 0), (10, 0), (11, 0), (12, 0), (13, 2), (14, 0), (15, 0), (16, 0)]).seq (C2.cond (t 97) ((ops 0 [O 98 (M 0), O 99 (M 1), O 100 (M 2), O 101 (M 13), O 102 (M 4), O 103 (call (F 131) [t 98, t 99, t 100, t 101, t 102]), O 15 (M 103)]).seq ((ops 0 [O 104 (M 15), O 1 (M 104)]).seq (exit 1))) skip)).seq ((ops 0 [O 106 (M 0), O 107 (M 1), O 108 (M 2), O 109 (M 13), O 110 (M 4), O 111 (call (F 132) [t 106, t 107, t 108, t 109, t 110]), O 105 (M 111), O 112 (ext (t 105) 0), O 113 (ext (t 105) 1), O 16 (M 112), O 17 (M 113)]).seq ((ops 0 [O 114 (M 17), O 11 (M 114)]).seq ((ops 0 [O 115 (M 16), O 116 (M 1), O 117 (B2 .sub (t 115) (t 116)), O 118 (M 2), O 119 (M 16), O 120 (B2 .sub (t 118) (t 119)), O 18 (M 117), O 19 (M 120)]).seq ((ops 0 [O 121 (M 12), O 122 (B2 .quo (t 121) (N ((8)))), O 20 (M 122)]).seq ((ops 0 [O 123 (M 18), O 124 (M 19), O 125 (B2 .lss (t 123) (t 124))]).seq (C2.cond (t 125) ((ops 0 [O 126 (M 18), O 127 (M 20), O 128 (B2 .geq (t 126) (t 127)), O 10 (M 128)]).seq ((ops 0 [O 129 (M 0), O 130 (M 1), O 131 (M 16), O 132 (M 3), O 133 (M 4), O 134 (call (F 110) [t 129, t 130, t 131, t 132, t 133])]).seq (ops 0 [O 135 (M 16), O 136 (B2 .add (t 135) (N ((1)))), O 1 (M 136)]))) ((ops 0 [O 137 (M 19), O 138 (M 20), O 139 (B2 .geq (t 137) (t 138)), O 10 (M 139)]).seq ((ops 0 [O 140 (M 0), O 141 (M 16), O 142 (B2 .add (t 141) (N ((1)))), O 143 (M 2), O 144 (M 3), O 145 (M 4), O 146 (call (F 110) [t 140, t 142, t 143, t 144, t 145])]).seq (ops 0 [O 147 (M 16), O 2 (M 147)])))))))))))))))))).loop))))
theorem is110 : Is Tryz.prog 110 b110 := Is.mk' Tryz.func110 (by kernel_rfl)

def b111 : F2 := (F2.mk 53 [] ((ops 0 [O 10 (M 1), O 11 (B2 .add (t 10) (N ((1)))), O 8 (M 11)]).seq (block 0 (((ops 0 [O 12 (M 8), O 13 (M 2), O 14 (B2 .lss (t 12) (t 13))]).seq (C2.cond (t 14) skip (exit 0))).seq ((block 1 ((ops 0 [O 17 (M 8), O 9 (M 17)]).seq (block 2 (((mixS 1 [O 18 (M 9), O 19 (M 1), O 20 (B2 .gtr (t 18) (t 19)), O 21 (M 20), G 22 21 true (M 3), G 23 21 true (M 0), G 24 21 true (M 9), G 25 21 true (ixaS 3 (t 23) (t 24)), G 26 21 true (ldn 3 (t 25)), G 27 21 true (M 0), G 28 21 true (M 9), G 29 21 true (B2 .sub (t 28) (N ((1)))), G 30 21 true (ixaS 3 (t 27) (t 29)), G 31 21 true (ldn 3 (t 30)), G 32 21 true (call (t 22) [t 26, t 31]), G 33 21 true (B2 .lss (t 32) (N ((0)))), O 34 (pick (t 21) (t 33) cFal)] [(0, 0), (1, 0), (2, 0), (3, 0), (4, 0), (5, 0), (6, 0), (7, 0), (8, 0), (9, 0), (10, 0), (11, 0), (12, 0), (13, 0), (14, 2), (15, 0), (16, 0)]).seq (C2.cond (t 34) skip (exit 2))).seq ((block 3 (ops 1 [O 37 (M 0), O 38 (M 9), O 39 (M 0), O 40 (M 9), O 41 (B2 .sub (t 40) (N ((1)))), O 42 (M 0), O 43 (M 9), O 44 (B2 .sub (t 43) (N ((1)))), O 45 (ixaS 3 (t 42) (t 44)), O 46 (ldn 3 (t 45)), O 47 (M 0), O 48 (M 9), O 49 (ixaS 3 (t 47) (t 48)), O 50 (ldn 3 (t 49)), O 51 (ixaS 3 (t 37) (t 38)), Op2.mk none none (Ins.st 3 (t 51) (t 46)), O 52 (ixaS 3 (t 39) (t 41)), Op2.mk none none (Ins.st 3 (t 52) (t 50))])).seq (ops 0 [O 35 (M 9), O 36 (B2 .sub (t 35) (N ((1)))), O 9 (M 36)]))).loop))).seq (ops 0 [O 15 (M 8), O 16 (B2 .add (t 15) (N ((1)))), O 8 (M 16)]))).loop)))
theorem is111 : Is Tryz.prog 111 b111 := Is.mk' Tryz.func111 (by kernel_rfl)

def b120 : F2 := (F2.mk 76 [] ((ops 0 [O 10 (M 1), O 8 (M 10)]).seq (block 0 (block 1 ((ops 0 [O 11 (M 8), O 12 (B2 .mul (N ((2))) (t 11)), O 13 (B2 .add (t 12) (N ((1)))), O 9 (M 13)]).seq (((ops 0 [O 14 (M 9), O 15 (M 2), O 16 (B2 .geq (t 14) (t 15))]).seq (C2.cond (t 16) (exit 0) skip)).seq (((mixS 1 [O 17 (M 9), O 18 (B2 .add (t 17) (N ((1)))), O 19 (M 2), O 20 (B2 .lss (t 18) (t 19)), O 21 (M 20), G 22 21 true (M 0), G 23 21 true (M 3), G 24 21 true (M 9), G 25 21 true (B2 .add (t 23) (t 24)), G 26 21 true (ixaS 1 (t 22) (t 25)), G 27 21 true (D 26), G 28 21 true (M 0), G 29 21 true (M 3), G 30 21 true (M 9), G 31 21 true (B2 .add (t 29) (t 30)), G 32 21 true (B2 .add (t 31) (N ((1)))), G 33 21 true (ixaS 1 (t 28) (t 32)), G 34 21 true (D 33), G 35 21 true (call (F 74) [t 27, t 34]), O 36 (pick (t 21) (t 35) cFal)] [(0, 0), (1, 0), (2, 0), (3, 0), (4, 0), (5, 0), (6, 0), (7, 0), (8, 0), (9, 0), (10, 0), (11, 0), (12, 0), (13, 0), (14, 0), (15, 0), (16, 0), (17, 0), (18, 2), (19, 0)]).seq (C2.cond (t 36) (ops 0 [O 37 (M 9), O 38 (B2 .add (t 37) (N ((1)))), O 9 (M 38)]) skip)).seq (((mixS 1 [O 39 (M 0), O 40 (M 3), O 41 (M 8), O 42 (B2 .add (t 40) (t 41)), O 43 (ixaS 1 (t 39) (t 42)), O 44 (D 43), O 45 (M 0), O 46 (M 3), O 47 (M 9), O 48 (B2 .add (t 46) (t 47)), O 49 (ixaS 1 (t 45) (t 48)), O 50 (D 49), O 51 (call (F 74) [t 44, t 50]), O 52 (un UnOp.not (t 51))] [(0, 0), (1, 0), (2, 0), (3, 0), (4, 0), (5, 0), (6, 0), (7, 0), (8, 0), (9, 0), (10, 0), (11, 0), (12, 2), (13, 0)]).seq (C2.cond (t 52) ret skip)).seq ((ops 1 [O 53 (M 0), O 54 (M 3), O 55 (M 8), O 56 (B2 .add (t 54) (t 55)), O 57 (M 0), O 58 (M 3), O 59 (M 9), O 60 (B2 .add (t 58) (t 59)), O 61 (M 0), O 62 (M 3), O 63 (M 9), O 64 (B2 .add (t 62) (t 63)), O 65 (ixaS 1 (t 61) (t 64)), O 66 (D 65), O 67 (M 0), O 68 (M 3), O 69 (M 8), O 70 (B2 .add (t 68) (t 69)), O 71 (ixaS 1 (t 67) (t 70)), O 72 (D 71), O 73 (ixaS 1 (t 53) (t 56)), Op2.mk none none (Ins.st 1 (t 73) (t 66)), O 74 (ixaS 1 (t 57) (t 60)), Op2.mk none none (Ins.st 1 (t 74) (t 72))]).seq (ops 0 [O 75 (M 9), O 8 (M 75)]))))))).loop)))
theorem is120 : Is Tryz.prog 120 b120 := Is.mk' Tryz.func120 (by kernel_rfl)

def b121 : F2 := (F2.mk 7 [RV.t 2] ((ops 0 [O 2 (mov (c (AV.int IntKind.u64 (0))))]).seq ((ops 0 [O 3 (M 0), O 4 (conv IntKind.u64 (t 3)), O 5 (call (F 86) [t 4]), O 6 (B2 .shl (c (AV.int IntKind.u64 (1))) (t 5)), O 2 (M 6)]).seq ret)))
theorem is121 : Is Tryz.prog 121 b121 := Is.mk' Tryz.func121 (by kernel_rfl)

def b122 : F2 := (F2.mk 33 [RV.t 2] ((ops 0 [O 2 (mov (c (AV.int IntKind.u64 (0))))]).seq ((ops 1 [O 3 (M 0), O 4 (nilck (t 3)), O 5 (D 4), O 6 (M 0), O 7 (nilck (t 6)), O 8 (D 7), O 9 (B2 .shl (t 8) (c (AV.int IntKind.u64 (13)))), O 10 (B2 .xor (t 5) (t 9)), O 11 (nilck (t 3)), Op2.mk none none (Ins.st 1 (t 11) (t 10))]).seq ((ops 1 [O 12 (M 0), O 13 (nilck (t 12)), O 14 (D 13), O 15 (M 0), O 16 (nilck (t 15)), O 17 (D 16), O 18 (B2 .shr (t 17) (c (AV.int IntKind.u64 (7)))), O 19 (B2 .xor (t 14) (t 18)), O 20 (nilck (t 12)), Op2.mk none none (Ins.st 1 (t 20) (t 19))]).seq ((ops 1 [O 21 (M 0), O 22 (nilck (t 21)), O 23 (D 22), O 24 (M 0), O 25 (nilck (t 24)), O 26 (D 25), O 27 (B2 .shl (t 26) (c (AV.int IntKind.u64 (17)))), O 28 (B2 .xor (t 23) (t 27)), O 29 (nilck (t 21)), Op2.mk none none (Ins.st 1 (t 29) (t 28))]).seq ((ops 0 [O 30 (M 0), O 31 (nilck (t 30)), O 32 (D 31), O 2 (M 32)]).seq ret))))))
theorem is122 : Is Tryz.prog 122 b122 := Is.mk' Tryz.func122 (by kernel_rfl)

def b123 : F2 := (F2.mk 15 [RV.t 6] ((ops 0 [O 6 (mov (N ((0))))]).seq ((ops 0 [O 7 (M 0), O 8 (M 1), O 9 (B2 .sub (t 8) (N ((1)))), O 10 (M 1), O 11 (M 1), O 12 (B2 .add (t 11) (N ((1)))), O 13 (M 2), O 14 (call (F 124) [t 7, t 9, t 10, t 12, t 13]), O 6 (M 14)]).seq ret)))
theorem is123 : Is Tryz.prog 123 b123 := Is.mk' Tryz.func123 (by kernel_rfl)

def b124 : F2 := (F2.mk 36 [RV.t 10] ((ops 0 [O 10 (mov (N ((0))))]).seq ((ops 0 [O 12 (M 0), O 13 (M 1), O 14 (M 2), O 15 (M 4), O 16 (call (F 136) [t 12, t 13, t 14, t 15]), O 11 (M 16), O 17 (ext (t 11) 0), O 18 (ext (t 11) 1), O 1 (M 17), O 2 (M 18)]).seq ((ops 0 [O 20 (M 0), O 21 (M 2), O 22 (M 3), O 23 (M 4), O 24 (call (F 136) [t 20, t 21, t 22, t 23]), O 19 (M 24), O 25 (ext (t 19) 0), O 26 (ext (t 19) 1), O 2 (M 25), O 3 (M 26)]).seq ((ops 0 [O 28 (M 0), O 29 (M 1), O 30 (M 2), O 31 (M 4), O 32 (call (F 136) [t 28, t 29, t 30, t 31]), O 27 (M 32), O 33 (ext (t 27) 0), O 34 (ext (t 27) 1), O 1 (M 33), O 2 (M 34)]).seq ((ops 0 [O 35 (M 2), O 10 (M 35)]).seq ret))))))
theorem is124 : Is Tryz.prog 124 b124 := Is.mk' Tryz.func124 (by kernel_rfl)

def b125 : F2 := (F2.mk 53 [] ((ops 0 [O 10 (M 1), O 11 (B2 .add (t 10) (N ((1)))), O 8 (M 11)]).seq (block 0 (((ops 0 [O 12 (M 8), O 13 (M 2), O 14 (B2 .lss (t 12) (t 13))]).seq (C2.cond (t 14) skip (exit 0))).seq ((block 1 ((ops 0 [O 17 (M 8), O 9 (M 17)]).seq (block 2 (((mixS 1 [O 18 (M 9), O 19 (M 1), O 20 (B2 .gtr (t 18) (t 19)), O 21 (M 20), G 22 21 true (M 3), G 23 21 true (M 0), G 24 21 true (M 9), G 25 21 true (ixaS 1 (t 23) (t 24)), G 26 21 true (D 25), G 27 21 true (M 0), G 28 21 true (M 9), G 29 21 true (B2 .sub (t 28) (N ((1)))), G 30 21 true (ixaS 1 (t 27) (t 29)), G 31 21 true (D 30), G 32 21 true (call (t 22) [t 26, t 31]), G 33 21 true (B2 .lss (t 32) (N ((0)))), O 34 (pick (t 21) (t 33) cFal)] [(0, 0), (1, 0), (2, 0), (3, 0), (4, 0), (5, 0), (6, 0), (7, 0), (8, 0), (9, 0), (10, 0), (11, 0), (12, 0), (13, 0), (14, 2), (15, 0), (16, 0)]).seq (C2.cond (t 34) skip (exit 2))).seq ((block 3 (ops 1 [O 37 (M 0), O 38 (M 9), O 39 (M 0), O 40 (M 9), O 41 (B2 .sub (t 40) (N ((1)))), O 42 (M 0), O 43 (M 9), O 44 (B2 .sub (t 43) (N ((1)))), O 45 (ixaS 1 (t 42) (t 44)), O 46 (D 45), O 47 (M 0), O 48 (M 9), O 49 (ixaS 1 (t 47) (t 48)), O 50 (D 49), O 51 (ixaS 1 (t 37) (t 38)), Op2.mk none none (Ins.st 1 (t 51) (t 46)), O 52 (ixaS 1 (t 39) (t 41)), Op2.mk none none (Ins.st 1 (t 52) (t 50))])).seq (ops 0 [O 35 (M 9), O 36 (B2 .sub (t 35) (N ((1)))), O 9 (M 36)]))).loop))).seq (ops 0 [O 15 (M 8), O 16 (B2 .add (t 15) (N ((1)))), O 8 (M 16)]))).loop)))
theorem is125 : Is Tryz.prog 125 b125 := Is.mk' Tryz.func125 (by kernel_rfl)

def b136 : F2 := (F2.mk 28 [RV.t 8, RV.t 9] ((ops 0 [O 8 (mov (N ((0)))), O 9 (mov (N ((0))))]).seq (((mixS 1 [O 10 (M 0), O 11 (M 2), O 12 (ixaS 1 (t 10) (t 11)), O 13 (D 12), O 14 (M 0), O 15 (M 1), O 16 (ixaS 1 (t 14) (t 15)), O 17 (D 16), O 18 (call (F 74) [t 13, t 17])] [(0, 0), (1, 0), (2, 0), (3, 0), (4, 0), (5, 0), (6, 0), (7, 0), (8, 2)]).seq (C2.cond (t 18) ((ops 0 [O 19 (M 3), O 20 (nilck (t 19)), O 21 (D 20), O 22 (B2 .add (t 21) (N ((1)))), O 23 (nilck (t 19)), Op2.mk none none (Ins.st 1 (t 23) (t 22))]).seq ((ops 0 [O 24 (M 2), O 25 (M 1), O 8 (M 24), O 9 (M 25)]).seq ret)) skip)).seq ((ops 0 [O 26 (M 1), O 27 (M 2), O 8 (M 26), O 9 (M 27)]).seq ret))))
theorem is136 : Is Tryz.prog 136 b136 := Is.mk' Tryz.func136 (by kernel_rfl)

end Go.Proofs.YtbiikomnhkbblaaGreat
