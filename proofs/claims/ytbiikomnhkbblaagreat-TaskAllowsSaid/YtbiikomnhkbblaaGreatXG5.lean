/- Texts of this claim, one after the other: U1, U2v, U3v, U4v, U5v, U6v, U7v, U8v, U9v, U10v, U11v, U12v, U13v, U2o, U3o, U4o, U5o, U6o, U7o, U8o, U10o. -/
import Derived.Test.YtbiikomnhkbblaaGreatXG4

set_option linter.unusedSimpArgs false
set_option linter.unusedVariables false

/- U1: contracts of functions and plain laws; for all inputs that the theorems name. -/
namespace Go.Proofs.YtbiikomnhkbblaaGreat
open Go Go.Abs

/-! ### rows that are permuted between two places -/
def swp {α : Type} [Inhabited α] (L : List α) (i j : Nat) : List α := (L.set i (L.getD j default)).set j (L.getD i default)
structure PermR {α : Type} [Inhabited α] (a b : Nat) (L L' : List α) : Prop where
  len : L'.length = L.length
  out : ∀ i, i < a ∨ b ≤ i → L'.getD i default = L.getD i default
  perm : L'.Perm L
section
variable {α : Type} [Inhabited α] {a b a' b' : Nat} {L L' L'' : List α}
theorem getD_set {l : List α} {i j : Nat} {x : α} (h : i < l.length) : (l.set i x).getD j default = if i = j then x else l.getD j default := by
  simp only [List.getD, List.getElem?_set]
  split
  · rename_i e; subst e; simp [h]
  · rfl
theorem swp_len (i j : Nat) : (swp L i j).length = L.length := by simp [swp]
theorem swp_get {i j : Nat} (hi : i < L.length) (hj : j < L.length) (k : Nat) : (swp L i j).getD k default = if k = j then L.getD i default else if k = i then L.getD j default else L.getD k default := by
  unfold swp
  rw [getD_set (by simpa using hj), getD_set hi]
  by_cases e : k = j
  · subst e; simp
  · rw [if_neg (fun h => e h.symm), if_neg e]
    by_cases e2 : k = i
    · subst e2; simp
    · rw [if_neg (fun h => e2 h.symm), if_neg e2]
theorem swp_perm {i j : Nat} (hi : i < L.length) (hj : j < L.length) : (swp L i j).Perm L := by
  unfold swp
  have e1 : L.getD i default = L[i] := by simp [List.getD, hi]
  have e2 : L.getD j default = L[j] := by simp [List.getD, hj]
  rw [e1, e2]
  exact List.set_set_perm hi hj
theorem PermR.refl : PermR a b L L := ⟨rfl, fun _ _ => rfl, List.Perm.refl _⟩
theorem PermR.trans (h : PermR a b L L') (k : PermR a b L' L'') : PermR a b L L'' := ⟨k.len.trans h.len, fun i hi => (k.out i hi).trans (h.out i hi), k.perm.trans h.perm⟩
theorem PermR.mono (h : PermR a' b' L L') (h1 : a ≤ a') (h2 : b' ≤ b) : PermR a b L L' := ⟨h.len, fun i hi => h.out i (by omega), h.perm⟩
theorem PermR.swap {i j : Nat} (h1 : a ≤ i ∧ i < b) (h2 : a ≤ j ∧ j < b) (hb : b ≤ L.length) : PermR a b L (swp L i j) :=
  ⟨swp_len i j, fun k hk => by rw [swp_get (by omega) (by omega), if_neg (by omega), if_neg (by omega)], swp_perm (by omega) (by omega)⟩
theorem ext_getD {l m : List α} (hl : l.length = m.length) (h : ∀ i, i < l.length → l.getD i default = m.getD i default) : l = m :=
  List.ext_getElem hl (fun i h1 h2 => by
    have := h i h1
    simpa [List.getD, h1, h2] using this)
theorem PermR.mid (h : PermR a b L L') (hab : a ≤ b) (hb : b ≤ L.length) : ((L'.drop a).take (b - a)).Perm ((L.drop a).take (b - a)) := by
  have e1 : ∀ M : List α, b ≤ M.length → M = M.take a ++ ((M.drop a).take (b - a) ++ M.drop b) := fun M hM => by
    have : M.drop b = (M.drop a).drop (b - a) := by rw [List.drop_drop]; congr 1; omega
    rw [this, List.take_append_drop, List.take_append_drop]
  have t : L'.take a = L.take a := ext_getD (by simp [h.len]) (fun i hi => by
    have hi' : i < a := by simp at hi; omega
    rw [getD_take hi', getD_take hi']; exact h.out i (.inl hi'))
  have d : L'.drop b = L.drop b := ext_getD (by simp [h.len]) (fun i hi => by
    have e : ∀ M : List α, (M.drop b).getD i default = M.getD (b + i) default := fun M => by simp [List.getD, List.getElem?_drop]
    rw [e, e]; exact h.out (b + i) (.inr (by omega)))
  have p := h.perm
  rw [e1 L' (by rw [h.len]; exact hb), e1 L hb, t, d] at p
  exact (List.perm_append_right_iff _).1 ((List.perm_append_left_iff _).1 p)
theorem mem_mid {M : List α} {x : α} (hab : a ≤ b) (hb : b ≤ M.length) : x ∈ (M.drop a).take (b - a) ↔ ∃ i, a ≤ i ∧ i < b ∧ M.getD i default = x := by
  constructor
  · intro h
    obtain ⟨j, hj, e⟩ := List.getElem_of_mem h
    have hj' : j < b - a := by simp at hj; omega
    refine ⟨a + j, by omega, by omega, ?_⟩
    rw [← e]
    simp [List.getD, List.getElem_take, List.getElem_drop, show a + j < M.length by omega]
  · rintro ⟨i, h1, h2, rfl⟩
    rw [List.mem_iff_getElem?]
    refine ⟨i - a, ?_⟩
    rw [List.getElem?_take, if_pos (by omega), List.getElem?_drop, show a + (i - a) = i by omega]
    simp [List.getD, show i < M.length by omega]
theorem PermR.all {p : α → Prop} (h : PermR a b L L') (hab : a ≤ b) (hb : b ≤ L.length) (hp : ∀ i, a ≤ i → i < b → p (L.getD i default)) : ∀ i, a ≤ i → i < b → p (L'.getD i default) := by
  intro i h1 h2
  have hm : L'.getD i default ∈ (L'.drop a).take (b - a) := (mem_mid hab (by rw [h.len]; exact hb)).2 ⟨i, h1, h2, rfl⟩
  obtain ⟨j, k1, k2, e⟩ := (mem_mid hab hb).1 ((h.mid hab hb).mem_iff.1 hm)
  rw [← e]; exact hp j k1 k2
end

structure Ord {α : Type} (K : α → α → Int) : Prop where
  irr : ∀ x, ¬ K x x < 0
  asym : ∀ x y, K x y < 0 → ¬ K y x < 0
  negtr : ∀ x y z, ¬ K y x < 0 → ¬ K z y < 0 → ¬ K z x < 0
def SortedR {α : Type} [Inhabited α] (K : α → α → Int) (a b : Nat) (L : List α) : Prop := ∀ i j, a ≤ i → i < j → j < b → ¬ K (L.getD j default) (L.getD i default) < 0
theorem SortedR.one {α : Type} [Inhabited α] {K : α → α → Int} {a b : Nat} {L : List α} (h : b ≤ a + 1) : SortedR K a b L := fun i j h1 h2 h3 => by omega
end Go.Proofs.YtbiikomnhkbblaaGreat

/- U2v: contracts of functions and plain laws; for all inputs that the theorems name. -/
namespace Go.Proofs.YtbiikomnhkbblaaGreat
open Go Go.Abs
open Nat (reduceEqDiff reduceAdd reduceLeDiff)

/-! ### what a sort is given: rows of one cell an element, and a comparison -/
structure Cmp {α : Type} (P : Program) (f : α → AV) (K : α → α → Int) (G : α → Prop) (g : Nat) (caps : List AV) : Prop where
  cells : ∀ x, (f x).cells = [f x]
  one : ∀ x, (f x).one = true
  dat : ∀ x, Dat (f x)
  dcaps : ∀ x ∈ caps, Dat x
  run : ∀ x y, G x → G y → Go.Abs.Pure P g (f x :: f y :: caps) (.int .i64 (K x y))
  ord : Ord K
theorem lput_mapG {α : Type} {f : α → AV} {l : List α} {k : Nat} {x : α} (h : k < l.length) : lput (l.map f) k [f x] = (l.set k x).map f := by
  simp only [lput, List.map_set, List.length_cons, List.length_nil, Nat.zero_add]
  rw [List.set_eq_take_append_cons_drop, if_pos (by simpa using h)]
  simp
theorem hupd_two (H : Hp) (b : Nat) (x y : List AV) : hupd (hupd H b x) b y = hupd H b y := by
  funext i; unfold hupd; split <;> rfl
theorem hupd_id {H : Hp} {b : Nat} {cs : List AV} (h : H b = some cs) : H = hupd H b cs := by
  funext i
  by_cases e : i = b
  · subst e; rw [hupd_self', h]
  · rw [hupd_ne e]

def AlmostR {α : Type} [Inhabited α] (K : α → α → Int) (a i j : Nat) (M : List α) : Prop := ∀ p q, a ≤ p → p < q → q ≤ i → q ≠ j → ¬ K (M.getD q default) (M.getD p default) < 0
section
variable {α : Type} [Inhabited α] {f : α → AV} {K : α → α → Int} {G : α → Prop} {g : Nat} {caps : List AV}
theorem AlmostR.start {a i : Nat} {M : List α} (h : SortedR K a i M) : AlmostR K a i i M := fun p q h1 h2 h3 h4 => h p q h1 h2 (by omega)
theorem AlmostR.done {a i j : Nat} {M : List α} (hK : Ord K) (h : AlmostR K a i j M) (hj : j = a ∨ (a < j ∧ ¬ K (M.getD j default) (M.getD (j - 1) default) < 0)) : SortedR K a (i + 1) M := by
  intro p q h1 h2 h3
  by_cases e : q = j
  · subst e
    rcases hj with hj | ⟨hj, hk⟩
    · omega
    · by_cases e2 : p = q - 1
      · rw [e2]; exact hk
      · exact hK.negtr _ _ _ (h p (q - 1) h1 (by omega) (by omega) (by omega)) hk
  · exact h p q h1 h2 (by omega) e
theorem AlmostR.step {a i j : Nat} {M : List α} (hK : Ord K) (h : AlmostR K a i (j + 1) M) (haj : a ≤ j) (hji : j + 1 ≤ i) (hi : i < M.length) (hk : K (M.getD (j + 1) default) (M.getD j default) < 0) : AlmostR K a i j (swp M (j + 1) j) := by
  intro p q h1 h2 h3 h4
  rw [swp_get (by omega) (by omega), swp_get (by omega) (by omega)]
  rw [if_neg h4]
  by_cases e1 : q = j + 1
  · rw [if_pos e1]
    by_cases e2 : p = j
    · rw [if_pos e2]; exact hK.asym _ _ hk
    · rw [if_neg e2, if_neg (by omega)]
      exact h p j h1 (by omega) (by omega) (by omega)
  · rw [if_neg e1]
    by_cases e2 : p = j
    · rw [if_pos e2]; exact h (j + 1) q (by omega) (by omega) h3 e1
    · rw [if_neg e2]
      by_cases e3 : p = j + 1
      · rw [if_pos e3]; exact h j q (by omega) (by omega) h3 e1
      · rw [if_neg e3]; exact h p q h1 h2 h3 e1
theorem SortedR.mono {a b a' b' : Nat} {M : List α} (h : SortedR K a b M) (h1 : a ≤ a') (h2 : b' ≤ b) : SortedR K a' b' M := fun p q k1 k2 k3 => h p q (by omega) k2 (by omega)
theorem PermR.mem {a b : Nat} {L M : List α} (h : PermR a b L M) (hG : ∀ x ∈ L, G x) : ∀ x ∈ M, G x := fun x hx => hG x (h.perm.mem_iff.1 hx)
attribute [local irreducible] awp2 aops2 ains aloop athen bbind obind gbind acond res1 Go.Abs.Fn PCall Go.Abs.Pure SnapArgs SnapL Yl

end
end Go.Proofs.YtbiikomnhkbblaaGreat

/- U3v: contracts of functions and plain laws; for all inputs that the theorems name. -/
namespace Go.Proofs.YtbiikomnhkbblaaGreat
open Go Go.Abs
open Nat (reduceEqDiff reduceAdd reduceLeDiff)

/-! ### heaps -/
def Kid (p c : Nat) : Prop := c = 2 * p + 1 ∨ c = 2 * p + 2
def HeapR {α : Type} [Inhabited α] (K : α → α → Int) (a hi r : Nat) (M : List α) : Prop := ∀ p c, r ≤ p → Kid p c → c < hi → ¬ K (M.getD (a + p) default) (M.getD (a + c) default) < 0
structure SiftR {α : Type} [Inhabited α] (K : α → α → Int) (a hi lo root : Nat) (M : List α) : Prop where
  le : lo ≤ root
  heap : ∀ p c, lo ≤ p → p ≠ root → Kid p c → c < hi → ¬ K (M.getD (a + p) default) (M.getD (a + c) default) < 0
  up : ∀ q c, lo ≤ q → Kid q root → Kid root c → c < hi → ¬ K (M.getD (a + q) default) (M.getD (a + c) default) < 0
section
variable {α : Type} [Inhabited α] {f : α → AV} {K : α → α → Int} {G : α → Prop} {g : Nat} {caps : List AV}
theorem SiftR.start {a hi lo : Nat} {M : List α} (h : HeapR K a hi (lo + 1) M) : SiftR K a hi lo lo M :=
  ⟨Nat.le_refl _, fun p c h1 h2 => h p c (by omega), fun q c h1 h2 => by unfold Kid at h2; omega⟩
theorem SiftR.leaf {a hi lo root : Nat} {M : List α} (h : SiftR K a hi lo root M) (hr : hi ≤ 2 * root + 1) : HeapR K a hi lo M := fun p c h1 h2 h3 => by
  by_cases e : p = root
  · subst e; unfold Kid at h2; omega
  · exact h.heap p c h1 e h2 h3
theorem SiftR.stop {a hi lo root c : Nat} {M : List α} (hK : Ord K) (h : SiftR K a hi lo root M) (hb : ∀ d, Kid root d → d < hi → ¬ K (M.getD (a + c) default) (M.getD (a + d) default) < 0) (hn : ¬ K (M.getD (a + root) default) (M.getD (a + c) default) < 0) : HeapR K a hi lo M := fun p d h1 h2 h3 => by
  by_cases e : p = root
  · subst e; exact hK.negtr _ _ _ (hb d h2 h3) hn
  · exact h.heap p d h1 e h2 h3
theorem SiftR.step {a hi lo root c : Nat} {M : List α} (hK : Ord K) (h : SiftR K a hi lo root M) (hkid : Kid root c) (hc : c < hi) (hM : a + hi ≤ M.length) (hb : ∀ d, Kid root d → d < hi → ¬ K (M.getD (a + c) default) (M.getD (a + d) default) < 0) (hn : K (M.getD (a + root) default) (M.getD (a + c) default) < 0) : SiftR K a hi lo c (swp M (a + root) (a + c)) := by
  have hrc : root < c := by unfold Kid at hkid; omega
  have hg : ∀ k, (swp M (a + root) (a + c)).getD (a + k) default = if k = c then M.getD (a + root) default else if k = root then M.getD (a + c) default else M.getD (a + k) default := fun k => by
    rw [swp_get (by omega) (by omega)]
    by_cases e : k = c
    · rw [if_pos (by omega), if_pos e]
    · rw [if_neg (by omega), if_neg e]
      by_cases e2 : k = root
      · rw [if_pos (by omega), if_pos e2]
      · rw [if_neg (by omega), if_neg e2]
  refine ⟨by have := h.le; omega, fun p d h1 h2 h3 h4 => ?_, fun q d h1 h2 h3 h4 => ?_⟩
  · rw [hg, hg, if_neg h2]
    by_cases e1 : p = root
    · rw [if_pos e1]
      subst e1
      by_cases e2 : d = c
      · rw [if_pos e2]; exact hK.asym _ _ hn
      · rw [if_neg e2, if_neg (by unfold Kid at h3; omega)]; exact hb d h3 h4
    · rw [if_neg e1]
      have hdc : d ≠ c := fun e => by subst e; unfold Kid at h3 hkid; omega
      rw [if_neg hdc]
      by_cases e2 : d = root
      · rw [if_pos e2]; subst e2; exact h.up p c h1 h3 hkid hc
      · rw [if_neg e2]; exact h.heap p d h1 e1 h3 h4
  · have eq : q = root := by unfold Kid at h2 hkid; omega
    subst eq
    rw [hg, hg, if_neg (by omega), if_pos rfl, if_neg (by unfold Kid at h3; omega), if_neg (by unfold Kid at h3; omega)]
    exact h.heap c d (by omega) (by omega) h3 h4
theorem swp_lput {M : List α} {i j : Nat} (hi : i < M.length) (hj : j < M.length) : ∃ M1 : List α, M1.length = M.length ∧ lput (M.map f) i [f (M.getD j default)] = M1.map f ∧ lput (M1.map f) j [f (M.getD i default)] = (swp M i j).map f :=
  ⟨M.set i (M.getD j default), by simp, lput_mapG hi, by rw [lput_mapG (by simpa using hj)]; rfl⟩
theorem toNat_two {a c : Nat} : ((a : Int) + (c : Int)).toNat = a + c := by omega
theorem toNat_three {a c : Nat} : ((a : Int) + (c : Int) + 1).toNat = a + (c + 1) := by omega
attribute [local irreducible] awp2 aops2 ains aloop athen bbind obind gbind acond res1 Go.Abs.Fn PCall Go.Abs.Pure SnapArgs SnapL Yl

end
end Go.Proofs.YtbiikomnhkbblaaGreat

/- U4v: contracts of functions and plain laws; for all inputs that the theorems name. -/
namespace Go.Proofs.YtbiikomnhkbblaaGreat
open Go Go.Abs
open Nat (reduceEqDiff reduceAdd reduceLeDiff)

/-! ### heapSortCmpFunc -/
section
variable {α : Type} [Inhabited α] {f : α → AV} {K : α → α → Int} {G : α → Prop} {g : Nat} {caps : List AV}
theorem HeapR.top {a hi : Nat} {M : List α} (hK : Ord K) (h : HeapR K a hi 0 M) : ∀ p, p < hi → ¬ K (M.getD a default) (M.getD (a + p) default) < 0 := by
  intro p
  induction p using Nat.strongRecOn with
  | ind p ih =>
    intro hp
    by_cases e : p = 0
    · subst e; exact hK.irr _
    · have k : Kid ((p - 1) / 2) p := by unfold Kid; omega
      exact hK.negtr _ _ _ (h _ p (Nat.zero_le _) k hp) (ih ((p - 1) / 2) (by omega) (by omega))
structure TailR {α : Type} [Inhabited α] (K : α → α → Int) (a e k : Nat) (M : List α) : Prop where
  sort : SortedR K k e M
  ge : ∀ p q, a ≤ p → p < k → k ≤ q → q < e → ¬ K (M.getD q default) (M.getD p default) < 0
theorem TailR.step {a e k : Nat} {M N : List α} (hK : Ord K) (ht : TailR K a e (a + (k + 1)) M) (hh : HeapR K a (k + 1) 0 M) (he : a + (k + 1) ≤ e) (hM : e ≤ M.length) (hp : PermR a (a + k) (swp M a (a + k)) N) : TailR K a e (a + k) N := by
  have hg : ∀ j, (swp M a (a + k)).getD j default = if j = a + k then M.getD a default else if j = a then M.getD (a + k) default else M.getD j default := fun j => swp_get (by omega) (by omega) j
  have hmax := hh.top hK
  have lo : ∀ q, a + k ≤ q → q < e → ∀ p, a ≤ p → p < a + k → ¬ K (N.getD q default) (N.getD p default) < 0 := by
    intro q h1 h2
    rw [hp.out q (.inr h1), hg]
    have hl : (swp M a (a + k)).length = M.length := swp_len _ _
    refine hp.all (p := fun x => ¬ K (if q = a + k then M.getD a default else if q = a then M.getD (a + k) default else M.getD q default) x < 0) (by omega) (by omega) ?_
    intro p k1 k2
    rw [hg, if_neg (by omega : ¬ p = a + k)]
    by_cases e1 : q = a + k
    · rw [if_pos e1]
      by_cases e2 : p = a
      · rw [if_pos e2]; exact hmax k (by omega)
      · rw [if_neg e2]
        have := hmax (p - a) (by omega)
        rw [show a + (p - a) = p by omega] at this
        exact this
    · rw [if_neg e1, if_neg (by omega : ¬ q = a)]
      by_cases e2 : p = a
      · rw [if_pos e2]; exact ht.ge (a + k) q (by omega) (by omega) (by omega) h2
      · rw [if_neg e2]; exact ht.ge p q k1 (by omega) (by omega) h2
  refine ⟨fun p q h1 h2 h3 => ?_, fun p q h1 h2 h3 h4 => lo q h3 h4 p h1 h2⟩
  rw [hp.out p (.inr h1), hp.out q (.inr (by omega)), hg, hg, if_neg (by omega : ¬ q = a + k), if_neg (by omega : ¬ q = a)]
  by_cases e1 : p = a + k
  · rw [if_pos e1]; exact ht.ge a q (Nat.le_refl _) (by omega) (by omega) h3
  · rw [if_neg e1, if_neg (by omega : ¬ p = a)]; exact ht.sort p q (by omega) h2 h3
theorem HeapR.swapTop {a k : Nat} {M : List α} (h : HeapR K a (k + 1) 0 M) (hM : a + (k + 1) ≤ M.length) : HeapR K a k 1 (swp M a (a + k)) := by
  intro p c h1 h2 h3
  have hg : ∀ j, (swp M a (a + k)).getD j default = if j = a + k then M.getD a default else if j = a then M.getD (a + k) default else M.getD j default := fun j => swp_get (by omega) (by omega) j
  have : p < c := by unfold Kid at h2; omega
  rw [hg, hg, if_neg (by omega), if_neg (by omega), if_neg (by omega), if_neg (by omega)]
  exact h p c (Nat.zero_le _) h2 (by omega)
theorem TailR.start {a e : Nat} {M : List α} : TailR K a e e M := ⟨fun p q h1 h2 h3 => by omega, fun p q h1 h2 h3 h4 => by omega⟩
theorem TailR.done {a e : Nat} {M : List α} (h : TailR K a e a M) : SortedR K a e M := h.sort
theorem HeapR.start {a hi r : Nat} {M : List α} (hr : hi ≤ 2 * r + 1) : HeapR K a hi r M := fun p c h1 h2 h3 => by unfold Kid at h2; omega
attribute [local irreducible] awp2 aops2 ains aloop athen bbind obind gbind acond res1 Go.Abs.Fn PCall Go.Abs.Pure SnapArgs SnapL Yl

end
end Go.Proofs.YtbiikomnhkbblaaGreat

/- U5v: contracts of functions and plain laws; for all inputs that the theorems name. -/
namespace Go.Proofs.YtbiikomnhkbblaaGreat
open Go Go.Abs
open Nat (reduceEqDiff reduceAdd reduceLeDiff)

/-! ### reverseRange, order2, median, choosePivot -/
section
variable {α : Type} [Inhabited α] {f : α → AV} {K : α → α → Int} {G : α → Prop} {g : Nat} {caps : List AV}
def anil : AV → Option AV
  | .ptr b n o => some (.ptr b n o)
  | .iptr c o => some (.iptr c o)
  | .func f c => some (.func f c)
  | _ => none
theorem SV3 : (∀ (T : Tm) (H : Hp) (x : Opd), ival T H (.nilck x) = anil (ov T x)) ∧ (∀ b n o : Nat, anil (.ptr b n o) = some (.ptr b n o)) := ⟨fun T H x => by
  simp only [ival]
  cases ov T x <;> rfl, fun _ _ _ => rfl⟩
attribute [local irreducible] awp2 aops2 ains aloop athen bbind obind gbind acond res1 Go.Abs.Fn PCall Go.Abs.Pure SnapArgs SnapL Yl

end
end Go.Proofs.YtbiikomnhkbblaaGreat

/- U6v: contracts of functions and plain laws; for all inputs that the theorems name. -/
namespace Go.Proofs.YtbiikomnhkbblaaGreat
open Go Go.Abs
open Nat (reduceEqDiff reduceAdd reduceLeDiff)

section
variable {α : Type} [Inhabited α] {f : α → AV} {K : α → α → Int} {G : α → Prop} {g : Nat} {caps : List AV}
attribute [local irreducible] awp2 aops2 ains aloop athen bbind obind gbind acond res1 Go.Abs.Fn PCall Go.Abs.Pure SnapArgs SnapL Yl

end
end Go.Proofs.YtbiikomnhkbblaaGreat

/- U7v: contracts of functions and plain laws; for all inputs that the theorems name. -/
namespace Go.Proofs.YtbiikomnhkbblaaGreat
open Go Go.Abs
open Nat (reduceEqDiff reduceAdd reduceLeDiff)

/-! ### partialInsertionSortCmpFunc -/
def LowR {α : Type} [Inhabited α] (K : α → α → Int) (a e : Nat) (M : List α) : Prop := ∀ q, 0 < a → a ≤ q → q < e → ¬ K (M.getD q default) (M.getD (a - 1) default) < 0
section
variable {α : Type} [Inhabited α] {f : α → AV} {K : α → α → Int} {G : α → Prop} {g : Nat} {caps : List AV}
theorem LowR.perm {a e : Nat} {L M : List α} (h : LowR K a e L) (hp : PermR a e L M) (hae : a ≤ e) (he : e ≤ L.length) : LowR K a e M := fun q h0 h1 h2 => by
  rw [hp.out (a - 1) (.inl (by omega))]
  exact hp.all (p := fun x => ¬ K x (L.getD (a - 1) default) < 0) hae he (fun i k1 k2 => h i h0 k1 k2) q h1 h2
theorem SortedR.out {a i e : Nat} {L M : List α} (h : SortedR K a i L) (hp : PermR i e L M) : SortedR K a i M := fun p q h1 h2 h3 => by
  rw [hp.out p (.inl (by omega)), hp.out q (.inl h3)]; exact h p q h1 h2 h3
theorem SortedR.snoc {a i : Nat} {M : List α} (hK : Ord K) (h : SortedR K a i M) (ha : a < i) (hn : ¬ K (M.getD i default) (M.getD (i - 1) default) < 0) : SortedR K a (i + 1) M := fun p q h1 h2 h3 => by
  by_cases e : q = i
  · subst e
    by_cases e2 : p = q - 1
    · rw [e2]; exact hn
    · exact hK.negtr _ _ _ (h p (q - 1) h1 (by omega) (by omega)) hn
  · exact h p q h1 h2 (by omega)
attribute [local irreducible] awp2 aops2 ains aloop athen bbind obind gbind acond res1 Go.Abs.Fn PCall Go.Abs.Pure SnapArgs SnapL Yl

end
end Go.Proofs.YtbiikomnhkbblaaGreat

/- U8v: contracts of functions and plain laws; for all inputs that the theorems name. -/
namespace Go.Proofs.YtbiikomnhkbblaaGreat
open Go Go.Abs
open Nat (reduceEqDiff reduceAdd reduceLeDiff)

/-! ### partitionEqualCmpFunc, partitionCmpFunc -/
structure PartR {α : Type} [Inhabited α] (P : α → Prop) (a e mu i j : Nat) (M : List α) : Prop where
  lo : a + 1 ≤ i
  mid : i ≤ j + 1
  hi : j < e
  mu : j + 1 - i ≤ mu
  up : ∀ p, a + 1 ≤ p → p < i → P (M.getD p default)
  dn : ∀ q, j < q → q < e → ¬ P (M.getD q default)
section
variable {α : Type} [Inhabited α] {f : α → AV} {K : α → α → Int} {G : α → Prop} {g : Nat} {caps : List AV}
theorem PartR.start {P : α → Prop} {a m : Nat} {M : List α} (h : a ≤ m) : PartR P a (m + 1) (m + 1 - (a + 1)) (a + 1) m M := ⟨Nat.le_refl _, by omega, by omega, Nat.le_refl _, fun p h1 h2 => by omega, fun q h1 h2 => by omega⟩
theorem PartR.stepUp {P : α → Prop} {a e mu i j : Nat} {M : List α} (h : PartR P a e mu i j M) (hij : i ≤ j) (hp : P (M.getD i default)) : PartR P a e mu (i + 1) j M :=
  ⟨by have := h.lo; omega, by omega, h.hi, by have := h.mu; omega, fun p h1 h2 => by
    by_cases e : p = i
    · rw [e]; exact hp
    · exact h.up p h1 (by omega), h.dn⟩
theorem PartR.stepDn {P : α → Prop} {a e mu i k : Nat} {M : List α} (h : PartR P a e mu i (k + 1) M) (hij : i ≤ k + 1) (hp : ¬ P (M.getD (k + 1) default)) : PartR P a e mu i k M :=
  ⟨h.lo, hij, by have := h.hi; omega, by have := h.mu; omega, h.up, fun q h1 h2 => by
    by_cases e : q = k + 1
    · rw [e]; exact hp
    · exact h.dn q (by omega) h2⟩
theorem PartR.swap {P : α → Prop} {a e mu i k : Nat} {M : List α} (h : PartR P a e mu i (k + 1) M) (hM : e ≤ M.length) (hij : i ≤ k + 1) (hi : ¬ P (M.getD i default)) (hj : P (M.getD (k + 1) default)) : PartR P a e (k + 1 - (i + 1)) (i + 1) k (swp M i (k + 1)) ∧ k + 1 - (i + 1) < mu := by
  have hne : i ≠ k + 1 := fun e => hi (by rw [e]; exact hj)
  have hh := h.hi
  have hlo := h.lo
  have hmu := h.mu
  refine ⟨⟨by omega, by omega, by omega, Nat.le_refl _, fun p h1 h2 => ?_, fun q h1 h2 => ?_⟩, by omega⟩
  · rw [swp_get (by omega) (by omega), if_neg (by omega)]
    by_cases e : p = i
    · rw [if_pos e]; exact hj
    · rw [if_neg e]; exact h.up p h1 (by omega)
  · rw [swp_get (by omega) (by omega)]
    by_cases e : q = k + 1
    · rw [if_pos e]; exact hi
    · rw [if_neg e, if_neg (by omega)]; exact h.dn q (by omega) h2
theorem swp_keep {M : List α} {i j k : Nat} (hi : i < M.length) (hj : j < M.length) (h1 : k ≠ i) (h2 : k ≠ j) : (swp M i j).getD k default = M.getD k default := by
  rw [swp_get hi hj, if_neg h2, if_neg h1]
attribute [local irreducible] awp2 aops2 ains aloop athen bbind obind gbind acond res1 Go.Abs.Fn PCall Go.Abs.Pure SnapArgs SnapL Yl
theorem PartR.done {P : α → Prop} {a e mu i j : Nat} {M : List α} {v : α} (hK : Ord K) (h : PartR P a e mu i j M) (hM : e ≤ M.length) (hji : j < i) (hv : M.getD a default = v) (hP : ∀ x, P x ↔ K x v < 0) : a ≤ j ∧ j < e ∧ (∀ p, a ≤ p → p < j → K ((swp M j a).getD p default) ((swp M j a).getD j default) < 0) ∧ (∀ q, j < q → q < e → ¬ K ((swp M j a).getD q default) ((swp M j a).getD j default) < 0) := by
  have hlo := h.lo; have hmid := h.mid; have hhi := h.hi
  have ej : (swp M j a).getD j default = v := by
    rw [swp_get (by omega) (by omega)]
    split
    · rename_i e; rw [e, hv]
    · rw [if_pos rfl, hv]
  rw [ej]
  refine ⟨by omega, by omega, fun p h1 h2 => ?_, fun q h1 h2 => ?_⟩
  · rw [swp_get (by omega) (by omega)]
    by_cases e : p = a
    · rw [if_pos e]; exact (hP _).1 (h.up j (by omega) hji)
    · rw [if_neg e, if_neg (by omega)]; exact (hP _).1 (h.up p (by omega) (by omega))
  · rw [swp_get (by omega) (by omega), if_neg (by omega), if_neg (by omega), ← hP]; exact h.dn q h1 h2

end
end Go.Proofs.YtbiikomnhkbblaaGreat

/- U9v: contracts of functions and plain laws; for all inputs that the theorems name. -/
namespace Go.Proofs.YtbiikomnhkbblaaGreat
open Go Go.Abs
open Nat (reduceEqDiff reduceAdd reduceLeDiff)

/-! ### bits.Len, nextPowerOfTwo, xorshift -/
def len8 (x : Nat) : Nat := if x = 0 then 0 else Nat.log2 x + 1
def len8tab : ByteArray := ByteArray.mk (Array.mk [0,1,2,2,3,3,3,3,4,4,4,4,4,4,4,4,5,5,5,5,5,5,5,5,5,5,5,5,5,5,5,5,6,6,6,6,6,6,6,6,6,6,6,6,6,6,6,6,6,6,6,6,6,6,6,6,6,6,6,6,6,6,6,6,7,7,7,7,7,7,7,7,7,7,7,7,7,7,7,7,7,7,7,7,7,7,7,7,7,7,7,7,7,7,7,7,7,7,7,7,7,7,7,7,7,7,7,7,7,7,7,7,7,7,7,7,7,7,7,7,7,7,7,7,7,7,7,7,8,8,8,8,8,8,8,8,8,8,8,8,8,8,8,8,8,8,8,8,8,8,8,8,8,8,8,8,8,8,8,8,8,8,8,8,8,8,8,8,8,8,8,8,8,8,8,8,8,8,8,8,8,8,8,8,8,8,8,8,8,8,8,8,8,8,8,8,8,8,8,8,8,8,8,8,8,8,8,8,8,8,8,8,8,8,8,8,8,8,8,8,8,8,8,8,8,8,8,8,8,8,8,8,8,8,8,8,8,8,8,8,8,8,8,8,8,8,8,8,8,8,8,8,8,8,8,8])
theorem len8_lt (x : Nat) : x < 2 ^ len8 x := by
  unfold len8
  split
  · omega
  · exact Nat.lt_log2_self
theorem len8_le {x : Nat} (h : 0 < x) : 2 ^ len8 x ≤ 2 * x := by
  unfold len8
  rw [if_neg (by omega), Nat.pow_succ]
  have := Nat.log2_self_le (n := x) (by omega)
  omega
theorem len8_tab {x : Nat} (hx : x < 256) : aixStr (.str (ByteArray.mk (Array.mk [0,1,2,2,3,3,3,3,4,4,4,4,4,4,4,4,5,5,5,5,5,5,5,5,5,5,5,5,5,5,5,5,6,6,6,6,6,6,6,6,6,6,6,6,6,6,6,6,6,6,6,6,6,6,6,6,6,6,6,6,6,6,6,6,7,7,7,7,7,7,7,7,7,7,7,7,7,7,7,7,7,7,7,7,7,7,7,7,7,7,7,7,7,7,7,7,7,7,7,7,7,7,7,7,7,7,7,7,7,7,7,7,7,7,7,7,7,7,7,7,7,7,7,7,7,7,7,7,8,8,8,8,8,8,8,8,8,8,8,8,8,8,8,8,8,8,8,8,8,8,8,8,8,8,8,8,8,8,8,8,8,8,8,8,8,8,8,8,8,8,8,8,8,8,8,8,8,8,8,8,8,8,8,8,8,8,8,8,8,8,8,8,8,8,8,8,8,8,8,8,8,8,8,8,8,8,8,8,8,8,8,8,8,8,8,8,8,8,8,8,8,8,8,8,8,8,8,8,8,8,8,8,8,8,8,8,8,8,8,8,8,8,8,8,8,8,8,8,8,8,8,8,8,8,8,8]))) (.int .u8 (x : Nat)) = some (.int .u8 (len8 x : Nat)) := by
  have h1 : len8tab.size = 256 := by decide +kernel
  have h2 : ∀ i : Fin 256, (len8tab[i.val]?.getD 0).toNat = len8 i.val := by decide +kernel
  rw [SV2.2.2.2.2.2.2.2.2]
  have h3 := h2 ⟨x, hx⟩
  change (if 0 ≤ (x : Int) ∧ (x : Int) < len8tab.size then some (AV.int .u8 (len8tab[(x : Int).toNat]?.getD 0).toNat) else none) = _
  rw [if_pos ⟨by omega, by rw [h1]; omega⟩, Int.toNat_natCast]
  simp only at h3
  rw [h3]
theorem len8_up {x s k : Nat} (hk : k = len8 (x / 2 ^ s)) (h : 0 < x / 2 ^ s) : x < 2 ^ (k + s) ∧ 2 ^ (k + s) ≤ 2 * x := by
  subst hk
  have h1 := len8_lt (x / 2 ^ s)
  have h2 := len8_le h
  have hp : 0 < 2 ^ s := Nat.pow_pos (by omega)
  rw [Nat.pow_add]
  constructor
  · have := (Nat.div_lt_iff_lt_mul hp).1 h1
    exact this
  · calc 2 ^ len8 (x / 2 ^ s) * 2 ^ s ≤ 2 * (x / 2 ^ s) * 2 ^ s := Nat.mul_le_mul_right _ h2
      _ = 2 * (x / 2 ^ s * 2 ^ s) := by rw [Nat.mul_assoc]
      _ ≤ 2 * x := Nat.mul_le_mul_left _ (Nat.div_mul_le_self x (2 ^ s))
theorem len8_small {x : Nat} (hx : x < 256) : len8 x ≤ 8 := by
  rcases Nat.eq_zero_or_pos x with e | e
  · subst e; decide
  · have h := len8_le e
    rcases Nat.lt_or_ge 8 (len8 x) with h1 | h1
    · have := Nat.pow_le_pow_right (n := 2) (by omega) h1
      omega
    · exact h1
theorem wrapU64 {x : Int} (h : 0 ≤ x) (h2 : x < 18446744073709551616) : IntKind.wrap .u64 x = x := by
  simp only [IntKind.bits, IntKind.wrap, IntKind.signed]; simp; omega
theorem wrapU8 {x : Int} (h : 0 ≤ x) (h2 : x < 256) : IntKind.wrap .u8 x = x := by
  simp only [IntKind.bits, IntKind.wrap, IntKind.signed]; simp; omega
def xr (a b : Int) : Int := IntKind.wrap .u64 (BitVec.ofInt 64 a ^^^ BitVec.ofInt 64 b).toNat
def sl13 (a : Int) : Int := IntKind.wrap .u64 (a * 2 ^ 13)
def sl17 (a : Int) : Int := IntKind.wrap .u64 (a * 2 ^ 17)
def sr7 (a : Int) : Int := a.fdiv (2 ^ 7)
theorem SX : (∀ a b : Int, abin2 .xor false false (.int .u64 a) (.int .u64 b) = some (.int .u64 (xr a b))) ∧ (∀ a : Int, abin2 .shl false false (.int .u64 a) (.int .u64 13) = some (.int .u64 (sl13 a))) ∧
    (∀ a : Int, abin2 .shl false false (.int .u64 a) (.int .u64 17) = some (.int .u64 (sl17 a))) ∧ (∀ a : Int, abin2 .shr false false (.int .u64 a) (.int .u64 7) = some (.int .u64 (sr7 a))) :=
  ⟨fun _ _ => rfl, fun _ => rfl, fun _ => rfl, fun _ => rfl⟩
attribute [irreducible] xr sl13 sl17 sr7
attribute [local irreducible] awp2 aops2 ains aloop athen bbind obind gbind acond res1 Go.Abs.Fn PCall Go.Abs.Pure SnapArgs SnapL Yl

theorem next_c {H : Hp} {c nx : Nat} {s : Int} (hcc : H c = some [.int .u64 s]) : Abs.Fn Tryz.prog 122 [.ptr c 1 0] H nx fun r H' nx' => nx' = nx ∧ ∃ s' : Int, r = .int .u64 s' ∧ H' = hupd H c [.int .u64 s'] := by
  refine Abs.Fn.of_c2 follows is122 (Nat.le_of_ble_eq_true rfl) ?_
  simp only [b122, O, G, N, M, D, F, B2, cFal, cTru]
  have ls : ∀ x y : AV, lput [x] 0 [y] = [y] := fun _ _ => rfl
  simp only [lput, List.length_cons, List.length_nil, Nat.zero_add] at ls
  repeat' (first | apply w_seq | apply w_ops0 | apply w_ops1 | apply w_ret | apply a_n | apply o_nil | (apply o_val rfl rfl; (focus ((try simp (disch := omega) only [simB0, ZA, reduceEqDiff, ↓reduceIte, reduceAdd, reduceLeDiff, ZV, reduceCtorEq, hcc, SV3, SX, ls]); first | with_reducible rfl | (apply s_ite; (focus omega); with_reducible rfl)))) | (apply e_st rfl; (iterate 4 (focus ((try simp only [simB0, ZA, reduceEqDiff, ↓reduceIte, reduceAdd, reduceLeDiff, hcc, SV3, SX, ls]); (try with_reducible rfl); done))); (focus (simp only [SO, Bool.and_self, one_encV, one_encVV, hcc, SV3, SX, ls])); (iterate 3 (focus ((try simp only [SL, reduceAdd, Nat.reduceMul, List.length_map]); first | done | omega)))) | (refine e_ends rfl ?_) | (apply r_1; (focus (simp only [rv, simB0, ZA, reduceEqDiff, ↓reduceIte, reduceAdd, reduceLeDiff, hcc, SV3, SX, ls]; with_reducible rfl))))
  exact ⟨rfl, _, rfl, by rw [hupd_two, hupd_two]; rfl⟩

set_option maxRecDepth 100000 in
theorem len64_c {H : Hp} {nx x : Nat} (hx : 0 < x) (h2 : x < 4294967296) : Abs.Fn Tryz.prog 109 [.int .u64 x] H nx fun r H' nx' => nx' = nx ∧ H' = H ∧ ∃ k : Nat, r = .int .i64 k ∧ x < 2 ^ k ∧ 2 ^ k ≤ 2 * x := by
  refine Abs.Fn.of_c2 follows is109 (Nat.le_of_ble_eq_true rfl) ?_
  delta b109
  generalize hT : AV.str (ByteArray.mk (Array.mk [0,1,2,2,3,3,3,3,4,4,4,4,4,4,4,4,5,5,5,5,5,5,5,5,5,5,5,5,5,5,5,5,6,6,6,6,6,6,6,6,6,6,6,6,6,6,6,6,6,6,6,6,6,6,6,6,6,6,6,6,6,6,6,6,7,7,7,7,7,7,7,7,7,7,7,7,7,7,7,7,7,7,7,7,7,7,7,7,7,7,7,7,7,7,7,7,7,7,7,7,7,7,7,7,7,7,7,7,7,7,7,7,7,7,7,7,7,7,7,7,7,7,7,7,7,7,7,7,8,8,8,8,8,8,8,8,8,8,8,8,8,8,8,8,8,8,8,8,8,8,8,8,8,8,8,8,8,8,8,8,8,8,8,8,8,8,8,8,8,8,8,8,8,8,8,8,8,8,8,8,8,8,8,8,8,8,8,8,8,8,8,8,8,8,8,8,8,8,8,8,8,8,8,8,8,8,8,8,8,8,8,8,8,8,8,8,8,8,8,8,8,8,8,8,8,8,8,8,8,8,8,8,8,8,8,8,8,8,8,8,8,8,8,8,8,8,8,8,8,8,8,8,8,8,8,8])) = tb
  have htab : ∀ x : Nat, x < 256 → aixStr tb (.int .u8 (x : Nat)) = some (.int .u8 (len8 x : Nat)) := fun x hx => by rw [← hT]; exact len8_tab hx
  clear hT
  have s16 : ∀ z : Nat, abin2 .shr false false (.int .u64 (z : Nat)) (.int .u64 16) = some (.int .u64 ((z / 2 ^ 16 : Nat) : Int)) := fun z => shr_nat (b := 16) (k := .u64) (k' := .u64) (by decide)
  have s8 : ∀ z : Nat, abin2 .shr false false (.int .u64 (z : Nat)) (.int .u64 8) = some (.int .u64 ((z / 2 ^ 8 : Nat) : Int)) := fun z => shr_nat (b := 8) (k := .u64) (k' := .u64) (by decide)
  by_cases h16 : 65536 ≤ x
  · obtain ⟨y, hy⟩ : ∃ y, x / 2 ^ 16 = y := ⟨_, rfl⟩
    have hy1 : 0 < y := by omega
    have hy2 : y < 65536 := by omega
    by_cases h8 : 256 ≤ y
    · obtain ⟨z, hz⟩ : ∃ z, y / 2 ^ 8 = z := ⟨_, rfl⟩
      have hz1 : 0 < z := by omega
      have hz2 : z < 256 := by omega
      have hl := len8_small hz2
      have w8 : IntKind.wrap .u8 (z : Int) = z := wrapU8 (by omega) (by omega)
      have ht := htab z hz2
      repeat' (first | apply w_seq | apply w_ops0 | apply w_skip | apply w_ret | apply a_n | apply o_nil | (apply o_val rfl rfl; (focus ((try simp (disch := omega) only [simB0, ZA, reduceEqDiff, ↓reduceIte, reduceAdd, reduceLeDiff, ZV, reduceCtorEq, s16, s8, hy, hz, w8, ht]); first | with_reducible rfl | (apply s_ite; (focus omega); with_reducible rfl)))) | (apply w_cond; (focus ((try simp only [simB0, ZA, reduceEqDiff, ↓reduceIte, reduceAdd, reduceLeDiff, s16, s8, hy, hz, w8, ht]); (try with_reducible rfl); done)); all_goals (intro _hg; (try simp only [ZB] at _hg); try first | exact absurd trivial _hg | (exfalso; omega))) | (refine e_ends rfl ?_) | (apply r_1; (focus (simp only [rv, simB0, ZA, reduceEqDiff, ↓reduceIte, reduceAdd, reduceLeDiff, s16, s8, hy, hz, w8, ht]; with_reducible rfl))))
      have e : x / 2 ^ 24 = z := by rw [← hz, ← hy, Nat.div_div_eq_div_mul]
      exact ⟨rfl, rfl, len8 z + 24, by congr 1; omega, len8_up (by rw [e]) (by omega)⟩
    · have hl := len8_small (x := y) (by omega)
      have w8 : IntKind.wrap .u8 (y : Int) = y := wrapU8 (by omega) (by omega)
      have ht := htab y (by omega)
      repeat' (first | apply w_seq | apply w_ops0 | apply w_skip | apply w_ret | apply a_n | apply o_nil | (apply o_val rfl rfl; (focus ((try simp (disch := omega) only [simB0, ZA, reduceEqDiff, ↓reduceIte, reduceAdd, reduceLeDiff, ZV, reduceCtorEq, s16, s8, hy, w8, ht]); first | with_reducible rfl | (apply s_ite; (focus omega); with_reducible rfl)))) | (apply w_cond; (focus ((try simp only [simB0, ZA, reduceEqDiff, ↓reduceIte, reduceAdd, reduceLeDiff, s16, s8, hy, w8, ht]); (try with_reducible rfl); done)); all_goals (intro _hg; (try simp only [ZB] at _hg); try first | exact absurd trivial _hg | (exfalso; omega))) | (refine e_ends rfl ?_) | (apply r_1; (focus (simp only [rv, simB0, ZA, reduceEqDiff, ↓reduceIte, reduceAdd, reduceLeDiff, s16, s8, hy, w8, ht]; with_reducible rfl))))
      exact ⟨rfl, rfl, len8 y + 16, by congr 1; omega, len8_up (by rw [hy]) (by omega)⟩
  · by_cases h8 : 256 ≤ x
    · obtain ⟨z, hz⟩ : ∃ z, x / 2 ^ 8 = z := ⟨_, rfl⟩
      have hz1 : 0 < z := by omega
      have hz2 : z < 256 := by omega
      have hl := len8_small hz2
      have w8 : IntKind.wrap .u8 (z : Int) = z := wrapU8 (by omega) (by omega)
      have ht := htab z hz2
      repeat' (first | apply w_seq | apply w_ops0 | apply w_skip | apply w_ret | apply a_n | apply o_nil | (apply o_val rfl rfl; (focus ((try simp (disch := omega) only [simB0, ZA, reduceEqDiff, ↓reduceIte, reduceAdd, reduceLeDiff, ZV, reduceCtorEq, s16, s8, hz, w8, ht]); first | with_reducible rfl | (apply s_ite; (focus omega); with_reducible rfl)))) | (apply w_cond; (focus ((try simp only [simB0, ZA, reduceEqDiff, ↓reduceIte, reduceAdd, reduceLeDiff, s16, s8, hz, w8, ht]); (try with_reducible rfl); done)); all_goals (intro _hg; (try simp only [ZB] at _hg); try first | exact absurd trivial _hg | (exfalso; omega))) | (refine e_ends rfl ?_) | (apply r_1; (focus (simp only [rv, simB0, ZA, reduceEqDiff, ↓reduceIte, reduceAdd, reduceLeDiff, s16, s8, hz, w8, ht]; with_reducible rfl))))
      exact ⟨rfl, rfl, len8 z + 8, by congr 1; omega, len8_up (by rw [hz]) (by omega)⟩
    · have hl := len8_small (x := x) (by omega)
      have w8 : IntKind.wrap .u8 (x : Int) = x := wrapU8 (by omega) (by omega)
      have ht := htab x (by omega)
      repeat' (first | apply w_seq | apply w_ops0 | apply w_skip | apply w_ret | apply a_n | apply o_nil | (apply o_val rfl rfl; (focus ((try simp (disch := omega) only [simB0, ZA, reduceEqDiff, ↓reduceIte, reduceAdd, reduceLeDiff, ZV, reduceCtorEq, w8, ht]); first | with_reducible rfl | (apply s_ite; (focus omega); with_reducible rfl)))) | (apply w_cond; (focus ((try simp only [simB0, ZA, reduceEqDiff, ↓reduceIte, reduceAdd, reduceLeDiff, w8, ht]); (try with_reducible rfl); done)); all_goals (intro _hg; (try simp only [ZB] at _hg); try first | exact absurd trivial _hg | (exfalso; omega))) | (refine e_ends rfl ?_) | (apply r_1; (focus (simp only [rv, simB0, ZA, reduceEqDiff, ↓reduceIte, reduceAdd, reduceLeDiff, w8, ht]; with_reducible rfl))))
      exact ⟨rfl, rfl, len8 x + 0, by congr 1; omega, len8_up (s := 0) (by simp) (by simpa using hx)⟩

theorem len_c {H : Hp} {nx x : Nat} (hx : 0 < x) (h2 : x < 4294967296) : Abs.Fn Tryz.prog 86 [.int .u64 x] H nx fun r H' nx' => nx' = nx ∧ H' = H ∧ ∃ k : Nat, r = .int .i64 k ∧ x < 2 ^ k ∧ 2 ^ k ≤ 2 * x := by
  refine Abs.Fn.of_c2 follows is86 (Nat.le_of_ble_eq_true rfl) ?_
  simp only [b86, O, G, N, M, D, F, B2, cFal, cTru]
  repeat' (first | apply w_seq | apply w_ops0 | apply w_skip | apply a_n | apply o_nil | (apply o_val rfl rfl; (focus ((try simp (disch := omega) only [simB0, ZA, reduceEqDiff, ↓reduceIte, reduceAdd, reduceLeDiff, ZV, reduceCtorEq]); first | with_reducible rfl | (apply s_ite; (focus omega); with_reducible rfl)))) | (apply w_condF; (focus (simp only [simB0, ZA, reduceEqDiff, ↓reduceIte, reduceAdd, reduceLeDiff]; done))))
  refine o_callE (by ((try simp only [simB0, ZA, reduceEqDiff, ↓reduceIte, reduceAdd, reduceLeDiff]); (try with_reducible rfl))) (by ((try simp only [simB0, ZA, reduceEqDiff, ↓reduceIte, reduceAdd, reduceLeDiff]); (try with_reducible rfl))) (len64_c hx h2) ?_
  rintro _ _ _ ⟨rfl, rfl, k, rfl, h3, h4⟩
  repeat' (first | apply w_ret | apply a_n | apply o_nil | (apply o_val rfl rfl; (focus ((try simp (disch := omega) only [simB0, ZA, reduceEqDiff, ↓reduceIte, reduceAdd, reduceLeDiff, ZV, reduceCtorEq]); first | with_reducible rfl | (apply s_ite; (focus omega); with_reducible rfl)))) | (refine e_ends rfl ?_) | (apply r_1; (focus (simp only [rv, simB0, ZA, reduceEqDiff, ↓reduceIte, reduceAdd, reduceLeDiff]; with_reducible rfl))))
  exact ⟨rfl, rfl, k, rfl, h3, h4⟩

theorem npot_c {H : Hp} {nx x : Nat} (hx : 0 < x) (h2 : x ≤ 1000000000) : Abs.Fn Tryz.prog 121 [.int .i64 x] H nx fun r H' nx' => nx' = nx ∧ H' = H ∧ ∃ k : Nat, r = .int .u64 ((2 ^ k : Nat) : Int) ∧ x < 2 ^ k ∧ 2 ^ k ≤ 2 * x := by
  have w : IntKind.wrap .u64 (x : Int) = x := wrapU64 (by omega) (by omega)
  refine Abs.Fn.of_c2 follows is121 (Nat.le_of_ble_eq_true rfl) ?_
  simp only [b121, O, G, N, M, D, F, B2, cFal, cTru]
  repeat' (first | apply w_seq | apply w_ops0 | apply a_n | apply o_nil | (apply o_val rfl rfl; (focus ((try simp (disch := omega) only [simB0, ZA, reduceEqDiff, ↓reduceIte, reduceAdd, reduceLeDiff, ZV, reduceCtorEq, w]); first | with_reducible rfl | (apply s_ite; (focus omega); with_reducible rfl)))))
  refine o_callE (by ((try simp only [simB0, ZA, reduceEqDiff, ↓reduceIte, reduceAdd, reduceLeDiff]); (try with_reducible rfl))) (by ((try simp only [simB0, ZA, reduceEqDiff, ↓reduceIte, reduceAdd, reduceLeDiff, w]); (try with_reducible rfl))) (len_c hx (by omega)) ?_
  rintro _ _ _ ⟨rfl, rfl, k, rfl, h3, h4⟩
  have hk : k ≤ 62 := by
    rcases Nat.lt_or_ge 62 k with h | h
    · have := Nat.pow_le_pow_right (n := 2) (by omega) h
      omega
    · exact h
  have sh : abin2 .shl false false (.int .u64 1) (.int .i64 (k : Int)) = some (.int .u64 ((2 ^ k : Nat) : Int)) := by
    have h := shl_nat (k := .u64) (k' := .i64) (a := 1) (b := k) (tb := false) (tf := false) (by show k ≤ 64; omega) (by show 1 * 2 ^ k < 2 ^ 63; omega)
    rw [Nat.one_mul] at h
    exact h
  repeat' (first | apply w_ret | apply a_n | apply o_nil | (apply o_val rfl rfl; (focus ((try simp (disch := omega) only [simB0, ZA, reduceEqDiff, ↓reduceIte, reduceAdd, reduceLeDiff, ZV, reduceCtorEq, sh]); first | with_reducible rfl | (apply s_ite; (focus omega); with_reducible rfl)))) | (refine e_ends rfl ?_) | (apply r_1; (focus (simp only [rv, simB0, ZA, reduceEqDiff, ↓reduceIte, reduceAdd, reduceLeDiff, sh]; with_reducible rfl))))
  exact ⟨rfl, rfl, k, rfl, h3, h4⟩
end Go.Proofs.YtbiikomnhkbblaaGreat

/- U10v: contracts of functions and plain laws; for all inputs that the theorems name. -/
namespace Go.Proofs.YtbiikomnhkbblaaGreat
open Go Go.Abs
open Nat (reduceEqDiff reduceAdd reduceLeDiff)

/-! ### breakPatternsCmpFunc -/
theorem and_some {a : Int} {m : Nat} (hm : m < 18446744073709551616) : ∃ r : Nat, abin2 .and false false (.int .u64 a) (.int .u64 (m : Nat)) = some (.int .u64 (r : Nat)) ∧ r ≤ m := by
  refine ⟨(BitVec.ofInt 64 a).toNat &&& m, ?_, Nat.and_le_right⟩
  show (if (IntKind.u64 = IntKind.u64) then aarith .and .u64 a m else none) = _
  rw [if_pos rfl]
  have h : (BitVec.ofInt 64 a &&& BitVec.ofInt 64 (m : Int)).toNat = (BitVec.ofInt 64 a).toNat &&& m := by
    rw [BitVec.toNat_and]
    congr 1
    simp [BitVec.toNat_ofInt]
    omega
  have h2 : (BitVec.ofInt 64 a).toNat &&& m ≤ m := Nat.and_le_right
  show some (AV.int .u64 (IntKind.wrap .u64 ((BitVec.ofInt 64 a &&& BitVec.ofInt 64 (m : Int)).toNat : Int))) = _
  rw [h, wrapU64 (by omega) (by omega)]
section
variable {α : Type} [Inhabited α] {f : α → AV} {K : α → α → Int} {G : α → Prop} {g : Nat} {caps : List AV}
attribute [local irreducible] awp2 aops2 ains aloop athen bbind obind gbind acond res1 Go.Abs.Fn PCall Go.Abs.Pure SnapArgs SnapL Yl

end
end Go.Proofs.YtbiikomnhkbblaaGreat

/- U11v: contracts of functions and plain laws; for all inputs that the theorems name. -/
namespace Go.Proofs.YtbiikomnhkbblaaGreat
open Go Go.Abs

/-! ### pdqsort: the plain part -/
structure PS (H H1 : Hp) (nx n1 b : Nat) (cs : List AV) : Prop where
  at_ : H1 b = some cs
  fr : ∀ i, i < nx → i ≠ b → H1 i = H i
  le : nx ≤ n1
section
variable {H H1 H2 : Hp} {nx n1 n2 b : Nat} {cs cs' : List AV}
theorem PS.upd (h : PS H H1 nx n1 b cs) : PS H (hupd H1 b cs') nx n1 b cs' := ⟨hupd_self', fun i k1 k2 => by rw [hupd_ne k2]; exact h.fr i k1 k2, h.le⟩
theorem PS.new {v : List AV} (hb : b < nx) (h : PS H H1 nx n1 b cs) : PS H (hupd H1 n1 v) nx (n1 + 1) b cs :=
  have h1 := h.le
  ⟨by rw [hupd_ne (by omega)]; exact h.at_, fun i k1 k2 => by rw [hupd_ne (by omega)]; exact h.fr i k1 k2, by omega⟩
theorem PS.rec_ (h : PS H H1 nx n1 b cs) (h1 : H2 b = some cs') (h2 : ∀ i, i < n1 → i ≠ b → H2 i = H1 i) (h3 : n1 ≤ n2) : PS H H2 nx n2 b cs' :=
  have h4 := h.le
  ⟨h1, fun i k1 k2 => by rw [h2 i (by omega) k2]; exact h.fr i k1 k2, by omega⟩
end
section
variable {α : Type} [Inhabited α] {f : α → AV} {K : α → α → Int} {G : α → Prop} {g : Nat} {caps : List AV}
structure PI {α : Type} [Inhabited α] (K : α → α → Int) (a e : Nat) (L : List α) (a1 e1 : Nat) (M : List α) : Prop where
  lo : a ≤ a1
  mid : a1 ≤ e1
  hi : e1 ≤ e
  len : e ≤ L.length
  perm : PermR a e L M
  low : LowR K a1 e1 M
  close : ∀ N, PermR a1 e1 M N → SortedR K a1 e1 N → SortedR K a e N
variable {a e a1 e1 : Nat} {L M N : List α}
theorem PI.mlen (h : PI K a e L a1 e1 M) : e1 ≤ M.length := by rw [h.perm.len]; exact Nat.le_trans h.hi h.len
theorem PI.start (h1 : a ≤ e) (h2 : e ≤ L.length) (h3 : LowR K a e L) : PI K a e L a e L := ⟨Nat.le_refl _, h1, Nat.le_refl _, h2, .refl, h3, fun _ _ h => h⟩
theorem PI.swap (h : PI K a e L a1 e1 M) (hp : PermR a1 e1 M N) : PI K a e L a1 e1 N :=
  ⟨h.lo, h.mid, h.hi, h.len, h.perm.trans (hp.mono h.lo h.hi), h.low.perm hp h.mid h.mlen, fun N' k1 k2 => h.close N' (hp.trans k1) k2⟩
theorem PI.done (h : PI K a e L a1 e1 M) (hp : PermR a1 e1 M N) (hs : SortedR K a1 e1 N) : PermR a e L N ∧ SortedR K a e N := ⟨h.perm.trans (hp.mono h.lo h.hi), h.close N hp hs⟩
theorem PI.equal {v : α} {m : Nat} (hK : Ord K) (h : PI K a e L a1 e1 M) (hp : PermR a1 e1 M N) (hv : ¬ K (M.getD (a1 - 1) default) v < 0) (ha : 0 < a1) (hm : a1 < m ∧ m ≤ e1) (h1 : ∀ p, a1 ≤ p → p < m → ¬ K v (N.getD p default) < 0) (h2 : ∀ q, m ≤ q → q < e1 → K v (N.getD q default) < 0) : PI K a e L m e1 N := by
  have hN := h.swap hp
  have hlow := hN.low
  have ho : N.getD (a1 - 1) default = M.getD (a1 - 1) default := hp.out _ (.inl (by omega))
  refine ⟨by have := h.lo; omega, hm.2, h.hi, h.len, hN.perm, fun q k0 k1 k2 => hK.negtr _ _ _ (h1 (m - 1) (by omega) (by omega)) (hK.asym _ _ (h2 q k1 k2)), fun N' k1 k2 => hN.close N' (k1.mono (by omega) (Nat.le_refl _)) (fun p q c1 c2 c3 => ?_)⟩
  by_cases e1' : m ≤ p
  · exact k2 p q e1' c2 c3
  · rw [k1.out p (.inl (by omega))]
    refine hK.negtr _ _ _ (h1 p c1 (by omega)) ?_
    by_cases e2 : m ≤ q
    · exact hK.asym _ _ (k1.all (p := fun x => K v x < 0) hm.2 hN.mlen h2 q e2 c3)
    · rw [k1.out q (.inl (by omega))]
      exact hK.negtr _ _ _ hv (by rw [← ho]; exact hlow q ha (by omega) c3)
theorem SortedR.glue {m : Nat} (hK : Ord K) (h1 : SortedR K a1 m N) (h2 : SortedR K (m + 1) e1 N) (h3 : ∀ p, a1 ≤ p → p < m → ¬ K (N.getD m default) (N.getD p default) < 0) (h4 : ∀ q, m < q → q < e1 → ¬ K (N.getD q default) (N.getD m default) < 0) : SortedR K a1 e1 N := fun p q k1 k2 k3 => by
  by_cases c1 : q < m
  · exact h1 p q k1 k2 c1
  · by_cases c2 : m < p
    · exact h2 p q c2 k2 k3
    · by_cases c3 : p = m
      · subst c3; exact h4 q (by omega) k3
      · by_cases c4 : q = m
        · subst c4; exact h3 p k1 k2
        · exact hK.negtr _ _ _ (h3 p k1 (by omega)) (h4 q (by omega) k3)
structure TwoS {α : Type} [Inhabited α] (K : α → α → Int) (a1 e1 m : Nat) (N : List α) : Prop where
  mid : a1 ≤ m ∧ m < e1
  lt : ∀ p, a1 ≤ p → p < m → ¬ K (N.getD m default) (N.getD p default) < 0
  ge : ∀ q, m < q → q < e1 → ¬ K (N.getD q default) (N.getD m default) < 0
theorem TwoS.left {m : Nat} {N' : List α} (h : TwoS K a1 e1 m N) (hp : PermR a1 m N N') (hl : e1 ≤ N.length) : TwoS K a1 e1 m N' :=
  have hm := h.mid
  ⟨hm, by
    rw [hp.out m (.inr (Nat.le_refl _))]
    exact hp.all (p := fun x => ¬ K (N.getD m default) x < 0) hm.1 (by omega) h.lt, fun q k1 k2 => by rw [hp.out m (.inr (Nat.le_refl _)), hp.out q (.inr (by omega))]; exact h.ge q k1 k2⟩
theorem TwoS.right {m : Nat} {N' : List α} (h : TwoS K a1 e1 m N) (hp : PermR (m + 1) e1 N N') (hl : e1 ≤ N.length) : TwoS K a1 e1 m N' :=
  have hm := h.mid
  ⟨hm, fun p k1 k2 => by rw [hp.out m (.inl (by omega)), hp.out p (.inl (by omega))]; exact h.lt p k1 k2, by
    rw [hp.out m (.inl (by omega))]
    exact fun q k1 k2 => hp.all (p := fun x => ¬ K x (N.getD m default) < 0) (by omega) hl (fun i c1 c2 => h.ge i (by omega) c2) q (by omega) k2⟩
theorem PI.left {m : Nat} (hK : Ord K) (h : PI K a e L a1 e1 M) (ht : TwoS K a1 e1 m M) (hp : PermR a1 m M N) (hs : SortedR K a1 m N) : PI K a e L (m + 1) e1 N := by
  have hm := ht.mid
  have hN := h.swap (hp.mono (Nat.le_refl _) (by omega))
  have htN := ht.left hp h.mlen
  refine ⟨by have := h.lo; omega, by omega, h.hi, h.len, hN.perm, fun q k0 k1 k2 => by rw [Nat.add_sub_cancel]; exact htN.ge q k1 k2, fun N' k1 k2 => hN.close N' (k1.mono (by omega) (Nat.le_refl _)) ?_⟩
  have ht' := htN.right k1 hN.mlen
  exact SortedR.glue hK (fun p q c1 c2 c3 => by rw [k1.out p (.inl (by omega)), k1.out q (.inl (by omega))]; exact hs p q c1 c2 c3) k2 ht'.lt ht'.ge
theorem PI.right {m : Nat} (hK : Ord K) (h : PI K a e L a1 e1 M) (ht : TwoS K a1 e1 m M) (hp : PermR (m + 1) e1 M N) (hs : SortedR K (m + 1) e1 N) : PI K a e L a1 m N := by
  have hm := ht.mid
  have hN := h.swap (hp.mono (by omega) (Nat.le_refl _))
  have htN := ht.right hp h.mlen
  refine ⟨h.lo, hm.1, by have := h.hi; omega, h.len, hN.perm, fun q k0 k1 k2 => hN.low q k0 k1 (by omega), fun N' k1 k2 => hN.close N' (k1.mono (Nat.le_refl _) (by omega)) ?_⟩
  have ht' := htN.left k1 hN.mlen
  exact SortedR.glue hK k2 (fun p q c1 c2 c3 => by rw [k1.out p (.inr (by omega)), k1.out q (.inr (by omega))]; exact hs p q c1 c2 c3) ht'.lt ht'.ge
theorem LowR.sub {a e a' e' : Nat} {M : List α} (h : LowR K a e M) (ha : a' = a) (he : e' ≤ e) : LowR K a' e' M := fun q k0 k1 k2 => by subst ha; exact h q k0 k1 (by omega)
end
end Go.Proofs.YtbiikomnhkbblaaGreat

/- U12v: contracts of functions and plain laws; for all inputs that the theorems name. -/
namespace Go.Proofs.YtbiikomnhkbblaaGreat
open Go Go.Abs
open Nat (reduceEqDiff reduceAdd reduceLeDiff)

/-! ### pdqsortCmpFunc -/
section
variable {α : Type} [Inhabited α] {f : α → AV} {K : α → α → Int} {G : α → Prop} {g : Nat} {caps : List AV}
attribute [local irreducible] awp2 aops2 ains aloop athen bbind obind gbind acond res1 Go.Abs.Fn PCall Go.Abs.Pure SnapArgs SnapL Yl

end
end Go.Proofs.YtbiikomnhkbblaaGreat

/- U13v: contracts of functions and plain laws; for all inputs that the theorems name. -/
namespace Go.Proofs.YtbiikomnhkbblaaGreat
open Go Go.Abs
open Nat (reduceEqDiff reduceAdd reduceLeDiff)

/-! ### SortFunc -/
section
variable {α : Type} [Inhabited α] {f : α → AV} {K : α → α → Int} {G : α → Prop} {g : Nat} {caps : List AV}
attribute [local irreducible] awp2 aops2 ains aloop athen bbind obind gbind acond res1 Go.Abs.Fn PCall Go.Abs.Pure SnapArgs SnapL Yl

end
end Go.Proofs.YtbiikomnhkbblaaGreat

/- U2o: contracts of functions and plain laws; for all inputs that the theorems name. -/
namespace Go.Proofs.YtbiikomnhkbblaaGreat
open Go Go.Abs
open Nat (reduceEqDiff reduceAdd reduceLeDiff)

/-! ### pdqsort with cmp.Less -/
structure CmpO {α : Type} (P : Program) (f : α → AV) (K : α → α → Int) (G : α → Prop) : Prop where
  cells : ∀ x, (f x).cells = [f x]
  one : ∀ x, (f x).one = true
  dat : ∀ x, Dat (f x)
  run : ∀ x y, G x → G y → Go.Abs.Pure P 74 [f x, f y] (.bool (decide (K x y < 0)))
  ord : Ord K
section
variable {α : Type} [Inhabited α] {f : α → AV} {K : α → α → Int} {G : α → Prop}
attribute [local irreducible] awp2 aops2 ains aloop athen bbind obind gbind acond res1 Go.Abs.Fn PCall Go.Abs.Pure SnapArgs SnapL Yl
theorem ins_o (hc : CmpO Tryz.prog f K G) {L : List α} {H : Hp} {b nx n a e : Nat} (hH : H b = some (L.map f)) (hn : L.length = n) (hG : ∀ x ∈ L, G x) (hae : a ≤ e) (hen : e ≤ n) (hn2 : n ≤ 1000000000) :
    Abs.Fn Tryz.prog 100 [.msl b n 1 0 n, .int .i64 a, .int .i64 e] H nx fun r H' nx' => nx' = nx ∧ ∃ L', H' = hupd H b (L'.map f) ∧ PermR a e L L' ∧ SortedR K a e L' := by
  refine Abs.Fn.of_c2 follows is100 (Nat.le_of_ble_eq_true rfl) ?_
  simp only [b100, O, G, N, M, D, F, B2, cFal, cTru]
  repeat' (first | apply w_seq | apply w_ops0 | apply w_block | apply a_n | apply o_nil | (apply o_val rfl rfl; (focus ((try simp (disch := omega) only [simB0, ZA, reduceEqDiff, ↓reduceIte, reduceAdd, reduceLeDiff, ZV, reduceCtorEq]); first | with_reducible rfl | (apply s_ite; (focus omega); with_reducible rfl)))) | apply w_loop)
  refine loopI (X := Nat × List α) (fun x => [(0, .msl b n 1 0 n), (1, .int .i64 a), (2, .int .i64 e), (6, .int .i64 (x.1 : Nat))]) (fun x H' nx' => a + 1 ≤ x.1 ∧ (x.1 ≤ e ∨ x.1 = a + 1) ∧ H' = hupd H b (x.2.map f) ∧ nx' = nx ∧ PermR a e L x.2 ∧ SortedR K a x.1 x.2) (fun x => e + 1 - x.1) (a + 1, L) ⟨Nat.le_refl _, .inr rfl, hupd_id hH, rfl, .refl, SortedR.one (Nat.le_refl _)⟩ (by simp (disch := omega) only [agr, ZG, reduceEqDiff, ↓reduceIte]) ?_
  rintro ⟨i, M0⟩ H' nx' ⟨h1, h2, rfl, rfl, hp0, hs0⟩
  dsimp only at *
  have hl0 : M0.length = n := by rw [hp0.len, hn]
  by_cases hi : i < e
  rotate_left
  · repeat' (first | apply w_seq | apply w_ops0 | apply w_exit | apply a_n | apply a_x | apply o_nil | (apply o_val rfl rfl; (focus ((try simp (disch := omega) only [simB0, ZA, reduceEqDiff, ↓reduceIte, reduceAdd, reduceLeDiff, ZV, reduceCtorEq]); first | with_reducible rfl | (apply s_ite; (focus omega); with_reducible rfl)))) | (apply w_cond; (focus ((try simp only [simB0, ZA, reduceEqDiff, ↓reduceIte, reduceAdd, reduceLeDiff]); (try with_reducible rfl); done)); all_goals (intro _hg; (try simp only [ZB] at _hg); try first | exact absurd trivial _hg | (exfalso; omega))) | (refine e_ends rfl ?_) | apply r_0)
    exact ⟨rfl, M0, rfl, hp0, hs0.mono (Nat.le_refl _) (by omega)⟩
  repeat' (first | apply w_seq | apply w_ops0 | apply w_block | apply w_skip | apply a_n | apply o_nil | (apply o_val rfl rfl; (focus ((try simp (disch := omega) only [simB0, ZA, reduceEqDiff, ↓reduceIte, reduceAdd, reduceLeDiff, ZV, reduceCtorEq]); first | with_reducible rfl | (apply s_ite; (focus omega); with_reducible rfl)))) | (apply w_cond; (focus ((try simp only [simB0, ZA, reduceEqDiff, ↓reduceIte, reduceAdd, reduceLeDiff]); (try with_reducible rfl); done)); all_goals (intro _hg; (try simp only [ZB] at _hg); try first | exact absurd trivial _hg | (exfalso; omega))) | apply w_loop)
  refine loopI (X := Nat × List α) (fun x => [(0, .msl b n 1 0 n), (1, .int .i64 a), (2, .int .i64 e), (6, .int .i64 (i : Nat)), (7, .int .i64 (x.1 : Nat))]) (fun x H' nxx => a ≤ x.1 ∧ x.1 ≤ i ∧ H' = hupd H b (x.2.map f) ∧ nxx = nx' ∧ PermR a e L x.2 ∧ AlmostR K a i x.1 x.2) (fun x => x.1) (i, M0) ⟨by omega, Nat.le_refl _, rfl, rfl, hp0, .start hs0⟩ (by simp (disch := omega) only [agr, ZG, reduceEqDiff, ↓reduceIte]) ?_
  clear hp0 hs0 hl0
  rintro ⟨j, M⟩ H' nxx ⟨a1, a2, rfl, rfl, hp, hal⟩
  dsimp only at *
  have hl : M.length = n := by rw [hp.len, hn]
  have hGM := hp.mem hG
  by_cases hja : j = a
  · subst hja
    repeat' (first | apply w_seq | apply w_ops0 | apply w_mixS1 | apply w_exit | apply a_n | apply a_x | apply o_nil | (apply o_val rfl rfl; (focus ((try simp (disch := omega) only [simB0, ZA, reduceEqDiff, ↓reduceIte, reduceAdd, reduceLeDiff, ZV, reduceCtorEq]); first | with_reducible rfl | (apply s_ite; (focus omega); with_reducible rfl)))) | (apply o_gF; (focus (simp only [simB0, ZA, reduceEqDiff, ↓reduceIte, reduceAdd, reduceLeDiff, or_true, true_or]; done))) | (apply o_gB; (focus ((try simp only [simB0, ZA, reduceEqDiff, ↓reduceIte, reduceAdd, reduceLeDiff]); (try with_reducible rfl); done)); all_goals (intro _hg; (try simp only [ZB] at _hg); try first | exact absurd trivial _hg | (exfalso; omega))) | (apply w_condF; (focus (simp only [simB0, ZA, reduceEqDiff, ↓reduceIte, reduceAdd, reduceLeDiff]; done))))
    exact ⟨(i + 1, M), by dsimp only; omega, ⟨by dsimp only; omega, .inl (by dsimp only; omega), rfl, rfl, hp, hal.done hc.ord (.inl rfl)⟩, by simp (disch := omega) only [agr, ZG, reduceEqDiff, ↓reduceIte]⟩
  · obtain ⟨k, rfl⟩ : ∃ k, j = k + 1 := ⟨j - 1, by omega⟩
    have tj : ((k + 1 : Nat) : Int) - 1 = (k : Int) := by omega
    have lc := hc.run (M.getD (k + 1) default) (M.getD k default) (hGM _ (mem_getD (by omega))) (hGM _ (mem_getD (by omega)))
    have d1 := hc.dat (M.getD (k + 1) default)
    have d2 := hc.dat (M.getD k default)
    generalize hKK : K (M.getD (k + 1) default) (M.getD k default) = kk at lc
    by_cases hlt : kk < 0
    · obtain ⟨M1, hl1, lm1, lm2⟩ : ∃ M1 : List α, M1.length = n ∧ lput (M.map f) (k + 1) [f (M.getD k default)] = M1.map f ∧ lput (M1.map f) k [f (M.getD (k + 1) default)] = (swp M (k + 1) k).map f :=
        ⟨M.set (k + 1) (M.getD k default), by simp [hl], lput_mapG (by omega), by rw [lput_mapG (by simp; omega)]; rfl⟩
      have lm3 := lm2
      simp only [lput, List.length_cons, List.length_nil, Nat.zero_add] at lm1 lm2
      repeat' (first | apply w_seq | apply w_ops0 | apply w_ops1 | apply w_mixS1 | apply w_block | apply w_skip | apply a_n | apply o_nil | (apply o_val rfl rfl; (focus ((try simp (disch := omega) only [simB0, ZA, reduceEqDiff, ↓reduceIte, reduceAdd, reduceLeDiff, ZV, reduceCtorEq, tj, Int.toNat_natCast, lm1, lm2, hc.cells, hc.one]); first | with_reducible rfl | (apply s_ite; (focus omega); with_reducible rfl)))) | (apply o_callD; (iterate 2 (focus ((try simp only [simB0, ZA, reduceEqDiff, ↓reduceIte, reduceAdd, reduceLeDiff, tj, Int.toNat_natCast, lm1, lm2, hc.cells, hc.one]); (try with_reducible rfl); done))); (focus (first | (exact lc))); (focus ((first | refine snap_plain ?_ rfl | apply snap_data); repeat' (first | exact snapL_nil | apply snapL_i | apply snapL_dat | exact d1 | exact d2 | exact snapL_nil)))) | (apply e_st rfl; (iterate 4 (focus ((try simp only [simB0, ZA, reduceEqDiff, ↓reduceIte, reduceAdd, reduceLeDiff, tj, Int.toNat_natCast, lm1, lm2, hc.cells, hc.one]); (try with_reducible rfl); done))); (focus (simp only [SO, Bool.and_self, one_encV, one_encVV, tj, Int.toNat_natCast, lm1, lm2, hc.cells, hc.one])); (iterate 3 (focus ((try simp only [SL, reduceAdd, Nat.reduceMul, List.length_map]); first | done | omega)))) | (apply o_gT; (focus (simp only [simB0, ZA, reduceEqDiff, ↓reduceIte, reduceAdd, reduceLeDiff, tj, Int.toNat_natCast, lm1, lm2, hc.cells, hc.one]; done))) | ((first | apply o_gB | apply w_cond); (focus ((try simp only [simB0, ZA, reduceEqDiff, ↓reduceIte, reduceAdd, reduceLeDiff, tj, Int.toNat_natCast, lm1, lm2, hc.cells, hc.one]); (try with_reducible rfl); done)); all_goals (intro _hg; (try simp only [ZB] at _hg); try first | exact absurd trivial _hg | (exfalso; omega))))
      refine ⟨(k, swp M (k + 1) k), by dsimp only; omega, ⟨by dsimp only; omega, by dsimp only; omega, ?_, rfl, hp.trans (PermR.swap (by omega) (by omega) (by omega)), hal.step hc.ord (by omega) (by omega) (by omega) (by rw [hKK]; exact hlt)⟩, by simp (disch := omega) only [agr, ZG, reduceEqDiff, ↓reduceIte, tj]⟩
      dsimp only
      rw [hupd_two, hupd_two, lm3]
    · repeat' (first | apply w_seq | apply w_ops0 | apply w_mixS1 | apply w_exit | apply a_n | apply a_x | apply o_nil | (apply o_val rfl rfl; (focus ((try simp (disch := omega) only [simB0, ZA, reduceEqDiff, ↓reduceIte, reduceAdd, reduceLeDiff, ZV, reduceCtorEq, tj, Int.toNat_natCast, hc.cells, hc.one]); first | with_reducible rfl | (apply s_ite; (focus omega); with_reducible rfl)))) | (apply o_callD; (iterate 2 (focus ((try simp only [simB0, ZA, reduceEqDiff, ↓reduceIte, reduceAdd, reduceLeDiff, tj, Int.toNat_natCast, hc.cells, hc.one]); (try with_reducible rfl); done))); (focus (first | (exact lc))); (focus ((first | refine snap_plain ?_ rfl | apply snap_data); repeat' (first | exact snapL_nil | apply snapL_i | apply snapL_dat | exact d1 | exact d2 | exact snapL_nil)))) | (apply o_gT; (focus (simp only [simB0, ZA, reduceEqDiff, ↓reduceIte, reduceAdd, reduceLeDiff, tj, Int.toNat_natCast, hc.cells, hc.one]; done))) | ((first | apply o_gB | apply w_cond); (focus ((try simp only [simB0, ZA, reduceEqDiff, ↓reduceIte, reduceAdd, reduceLeDiff, tj, Int.toNat_natCast, hc.cells, hc.one]); (try with_reducible rfl); done)); all_goals (intro _hg; (try simp only [ZB] at _hg); try first | exact absurd trivial _hg | (exfalso; omega))))
      exact ⟨(i + 1, M), by dsimp only; omega, ⟨by dsimp only; omega, .inl (by dsimp only; omega), rfl, rfl, hp, hal.done hc.ord (.inr ⟨by omega, by rw [Nat.add_sub_cancel, hKK]; exact hlt⟩)⟩, by simp (disch := omega) only [agr, ZG, reduceEqDiff, ↓reduceIte]⟩
end
end Go.Proofs.YtbiikomnhkbblaaGreat

/- U3o: contracts of functions and plain laws; for all inputs that the theorems name. -/
namespace Go.Proofs.YtbiikomnhkbblaaGreat
open Go Go.Abs
open Nat (reduceEqDiff reduceAdd reduceLeDiff)
section
variable {α : Type} [Inhabited α] {f : α → AV} {K : α → α → Int} {G : α → Prop}
attribute [local irreducible] awp2 aops2 ains aloop athen bbind obind gbind acond res1 Go.Abs.Fn PCall Go.Abs.Pure SnapArgs SnapL Yl
theorem sift_o (hc : CmpO Tryz.prog f K G) {L : List α} {H : Hp} {b nx n a lo hi : Nat} (hH : H b = some (L.map f)) (hn : L.length = n) (hG : ∀ x ∈ L, G x) (hhi : a + hi ≤ n) (hn2 : n ≤ 1000000000) (hlo : lo ≤ n) (hheap : HeapR K a hi (lo + 1) L) :
    Abs.Fn Tryz.prog 120 [.msl b n 1 0 n, .int .i64 lo, .int .i64 hi, .int .i64 a] H nx fun r H' nx' => nx' = nx ∧ ∃ L', H' = hupd H b (L'.map f) ∧ PermR a (a + hi) L L' ∧ HeapR K a hi lo L' := by
  refine Abs.Fn.of_c2 follows is120 (Nat.le_of_ble_eq_true rfl) ?_
  simp only [b120, O, G, N, M, D, F, B2, cFal, cTru]
  repeat' (first | apply w_seq | apply w_ops0 | apply w_block | apply a_n | apply o_nil | (apply o_val rfl rfl; (focus ((try simp (disch := omega) only [simB0, ZA, reduceEqDiff, ↓reduceIte, reduceAdd, reduceLeDiff, ZV, reduceCtorEq]); first | with_reducible rfl | (apply s_ite; (focus omega); with_reducible rfl)))) | apply w_loop)
  refine loopI (X := Nat × List α) (fun x => [(0, .msl b n 1 0 n), (2, .int .i64 hi), (3, .int .i64 a), (8, .int .i64 (x.1 : Nat))]) (fun x H' nx' => x.1 ≤ n ∧ H' = hupd H b (x.2.map f) ∧ nx' = nx ∧ PermR a (a + hi) L x.2 ∧ SiftR K a hi lo x.1 x.2) (fun x => n + 1 - x.1) (lo, L) ⟨hlo, hupd_id hH, rfl, .refl, .start hheap⟩ (by simp (disch := omega) only [agr, ZG, reduceEqDiff, ↓reduceIte]) ?_
  rintro ⟨root, M⟩ H' nx' ⟨h0, rfl, rfl, hp, hs⟩
  dsimp only at *
  have hl : M.length = n := by rw [hp.len, hn]
  have hGM := hp.mem hG
  by_cases hch : 2 * root + 1 < hi
  rotate_left
  · repeat' (first | apply w_seq | apply w_ops0 | apply w_block | apply w_exit | apply a_n | apply a_x | apply o_nil | (apply o_val rfl rfl; (focus ((try simp (disch := omega) only [simB0, ZA, reduceEqDiff, ↓reduceIte, reduceAdd, reduceLeDiff, ZV, reduceCtorEq]); first | with_reducible rfl | (apply s_ite; (focus omega); with_reducible rfl)))) | (apply w_cond; (focus ((try simp only [simB0, ZA, reduceEqDiff, ↓reduceIte, reduceAdd, reduceLeDiff]); (try with_reducible rfl); done)); all_goals (intro _hg; (try simp only [ZB] at _hg); try first | exact absurd trivial _hg | (exfalso; omega))) | (refine e_ends rfl ?_) | apply r_0)
    exact ⟨rfl, M, rfl, hp, hs.leaf (by omega)⟩
  have tch : (2 : Int) * (root : Int) + 1 = ((2 * root + 1 : Nat) : Int) := by omega
  have tch2 : ((2 * root + 1 : Nat) : Int) + 1 = ((2 * root + 1 + 1 : Nat) : Int) := by omega
  have w1 : IntKind.wrap .i64 (2 * (root : Int)) = 2 * (root : Int) := wrap64 (by omega) (by omega)
  -- the greater child
  obtain ⟨c, hkid, hchi, hbest, hsel⟩ : ∃ c, Kid root c ∧ c < hi ∧ (∀ d, Kid root d → d < hi → ¬ K (M.getD (a + c) default) (M.getD (a + d) default) < 0) ∧ ((c = 2 * root + 1 + 1 ∧ K (M.getD (a + (2 * root + 1)) default) (M.getD (a + (2 * root + 1 + 1)) default) < 0) ∨ (c = 2 * root + 1 ∧ (2 * root + 1 + 1 < hi → ¬ K (M.getD (a + (2 * root + 1)) default) (M.getD (a + (2 * root + 1 + 1)) default) < 0))) := by
    by_cases h2 : 2 * root + 1 + 1 < hi ∧ K (M.getD (a + (2 * root + 1)) default) (M.getD (a + (2 * root + 1 + 1)) default) < 0
    · refine ⟨2 * root + 1 + 1, .inr rfl, h2.1, fun d hd hd2 => ?_, .inl ⟨rfl, h2.2⟩⟩
      rcases hd with rfl | rfl
      · exact hc.ord.asym _ _ h2.2
      · exact hc.ord.irr _
    · refine ⟨2 * root + 1, .inl rfl, hch, fun d hd hd2 => ?_, .inr ⟨rfl, fun h h3 => h2 ⟨h, h3⟩⟩⟩
      rcases hd with rfl | rfl
      · exact hc.ord.irr _
      · exact fun h3 => h2 ⟨hd2, h3⟩
  have lc2 := hc.run (M.getD (a + root) default) (M.getD (a + c) default) (hGM _ (mem_getD (by omega))) (hGM _ (mem_getD (by omega)))
  have e1 := hc.dat (M.getD (a + root) default)
  have e2 := hc.dat (M.getD (a + c) default)
  generalize hK2 : K (M.getD (a + root) default) (M.getD (a + c) default) = k2 at lc2
  refine w_block ?_
  refine w_seqC (fun T H'' nx'' => T 0 = .msl b n 1 0 n ∧ T 2 = .int .i64 hi ∧ T 3 = .int .i64 a ∧ n = n ∧ T 8 = .int .i64 (root : Nat) ∧ T 9 = .int .i64 ((2 * root + 1 : Nat) : Int) ∧ H'' = hupd H b (M.map f) ∧ nx' = nx'') ?_ ?_
  · repeat' (first | apply w_ops0 | apply a_n | apply o_nil | (apply o_val rfl rfl; (focus ((try simp (disch := omega) only [simB0, ZA, reduceEqDiff, ↓reduceIte, reduceAdd, reduceLeDiff, ZV, reduceCtorEq, w1, tch]); first | with_reducible rfl | (apply s_ite; (focus omega); with_reducible rfl)))))
    exact ⟨rfl, rfl, rfl, rfl, rfl, rfl, rfl, rfl⟩
  rintro T _ _ ⟨t0, t2, t3, tF, t8, t9, rfl, rfl⟩
  refine w_seqC (fun T H'' nx'' => T 0 = .msl b n 1 0 n ∧ T 2 = .int .i64 hi ∧ T 3 = .int .i64 a ∧ n = n ∧ T 8 = .int .i64 (root : Nat) ∧ T 9 = .int .i64 ((2 * root + 1 : Nat) : Int) ∧ H'' = hupd H b (M.map f) ∧ nx' = nx'') ?_ ?_
  · repeat' (first | apply w_seq | apply w_ops0 | apply w_skip | apply a_n | apply o_nil | (apply o_val rfl rfl; (focus ((try simp (disch := omega) only [simB0, ZA, reduceEqDiff, ↓reduceIte, reduceAdd, reduceLeDiff, ZV, reduceCtorEq, t0, t2, t3, tF, t8, t9]); first | with_reducible rfl | (apply s_ite; (focus omega); with_reducible rfl)))) | (apply w_cond; (focus ((try simp only [simB0, ZA, reduceEqDiff, ↓reduceIte, reduceAdd, reduceLeDiff, t0, t2, t3, tF, t8, t9]); (try with_reducible rfl); done)); all_goals (intro _hg; (try simp only [ZB] at _hg); try first | exact absurd trivial _hg | (exfalso; omega))))
    all_goals exact ⟨by ((try simp only [simB0, ZA, reduceEqDiff, ↓reduceIte, reduceAdd, reduceLeDiff, t0]); (try with_reducible rfl)), by ((try simp only [simB0, ZA, reduceEqDiff, ↓reduceIte, reduceAdd, reduceLeDiff, t2]); (try with_reducible rfl)), by ((try simp only [simB0, ZA, reduceEqDiff, ↓reduceIte, reduceAdd, reduceLeDiff, t3]); (try with_reducible rfl)), by ((try simp only [simB0, ZA, reduceEqDiff, ↓reduceIte, reduceAdd, reduceLeDiff, tF]); (try with_reducible rfl)), by ((try simp only [simB0, ZA, reduceEqDiff, ↓reduceIte, reduceAdd, reduceLeDiff, t8]); (try with_reducible rfl)), by ((try simp only [simB0, ZA, reduceEqDiff, ↓reduceIte, reduceAdd, reduceLeDiff, t9]); (try with_reducible rfl)), rfl, rfl⟩
  clear t0 t2 t3 tF t8 t9
  rintro T _ _ ⟨t0, t2, t3, tF, t8, t9, rfl, rfl⟩
  refine w_seqC (fun T H'' nx'' => T 0 = .msl b n 1 0 n ∧ T 2 = .int .i64 hi ∧ T 3 = .int .i64 a ∧ n = n ∧ T 8 = .int .i64 (root : Nat) ∧ T 9 = .int .i64 (c : Nat) ∧ H'' = hupd H b (M.map f) ∧ nx' = nx'') ?_ ?_
  · by_cases h2 : 2 * root + 1 + 1 < hi
    · have lc1 := hc.run (M.getD (a + (2 * root + 1)) default) (M.getD (a + (2 * root + 1 + 1)) default) (hGM _ (mem_getD (by omega))) (hGM _ (mem_getD (by omega)))
      have e3 := hc.dat (M.getD (a + (2 * root + 1)) default)
      have e4 := hc.dat (M.getD (a + (2 * root + 1 + 1)) default)
      generalize hK1 : K (M.getD (a + (2 * root + 1)) default) (M.getD (a + (2 * root + 1 + 1)) default) = k1 at lc1 hsel
      have hlt : decide (((2 * root + 1 + 1 : Nat) : Int) < (hi : Int)) = true := decide_eq_true (by omega)
      generalize 2 * root + 1 = ch at *
      rcases hsel with ⟨rfl, hk1⟩ | ⟨rfl, hk1⟩
      · repeat' (first | apply w_seq | apply w_ops0 | apply w_mixS1 | apply a_n | apply o_nil | (apply o_val rfl rfl; (focus ((try simp (disch := omega) only [simB0, ZA, reduceEqDiff, ↓reduceIte, reduceAdd, reduceLeDiff, ZV, reduceCtorEq, t0, t2, t3, tF, t8, t9, tch2, hlt, toNat_two, toNat_three, hc.cells, hc.one]); first | with_reducible rfl | (apply s_ite; (focus omega); with_reducible rfl)))) | (apply o_callD; (iterate 2 (focus ((try simp only [simB0, ZA, reduceEqDiff, ↓reduceIte, reduceAdd, reduceLeDiff, t0, t2, t3, tF, t8, t9, tch2, hlt, toNat_two, toNat_three, hc.cells, hc.one]); (try with_reducible rfl); done))); (focus (first | (exact lc1))); (focus ((first | refine snap_plain ?_ rfl | apply snap_data); repeat' (first | exact snapL_nil | apply snapL_i | apply snapL_dat | exact e3 | exact e4 | exact snapL_nil)))) | (apply o_gT; (focus (simp only [simB0, ZA, reduceEqDiff, ↓reduceIte, reduceAdd, reduceLeDiff, t0, t2, t3, tF, t8, t9, tch2, hlt, toNat_two, toNat_three, hc.cells, hc.one]; done))) | (apply w_cond; (focus ((try simp only [simB0, ZA, reduceEqDiff, ↓reduceIte, reduceAdd, reduceLeDiff, t0, t2, t3, tF, t8, t9, tch2, hlt, toNat_two, toNat_three, hc.cells, hc.one]); (try with_reducible rfl); done)); all_goals (intro _hg; (try simp only [ZB] at _hg); try first | exact absurd trivial _hg | (exfalso; omega))))
        all_goals exact ⟨by ((try simp only [simB0, ZA, reduceEqDiff, ↓reduceIte, reduceAdd, reduceLeDiff, t0]); (try with_reducible rfl)), by ((try simp only [simB0, ZA, reduceEqDiff, ↓reduceIte, reduceAdd, reduceLeDiff, t2]); (try with_reducible rfl)), by ((try simp only [simB0, ZA, reduceEqDiff, ↓reduceIte, reduceAdd, reduceLeDiff, t3]); (try with_reducible rfl)), by ((try simp only [simB0, ZA, reduceEqDiff, ↓reduceIte, reduceAdd, reduceLeDiff, tF]); (try with_reducible rfl)), by ((try simp only [simB0, ZA, reduceEqDiff, ↓reduceIte, reduceAdd, reduceLeDiff, t8]); (try with_reducible rfl)), by ((try simp only [simB0, ZA, reduceEqDiff, ↓reduceIte, reduceAdd, reduceLeDiff, t9]); (try with_reducible rfl)), rfl, rfl⟩
      · have hk1 := hk1 h2
        repeat' (first | apply w_seq | apply w_mixS1 | apply w_skip | apply a_n | apply o_nil | (apply o_val rfl rfl; (focus ((try simp (disch := omega) only [simB0, ZA, reduceEqDiff, ↓reduceIte, reduceAdd, reduceLeDiff, ZV, reduceCtorEq, t0, t2, t3, tF, t8, t9, tch2, hlt, toNat_two, toNat_three, hc.cells, hc.one]); first | with_reducible rfl | (apply s_ite; (focus omega); with_reducible rfl)))) | (apply o_callD; (iterate 2 (focus ((try simp only [simB0, ZA, reduceEqDiff, ↓reduceIte, reduceAdd, reduceLeDiff, t0, t2, t3, tF, t8, t9, tch2, hlt, toNat_two, toNat_three, hc.cells, hc.one]); (try with_reducible rfl); done))); (focus (first | (exact lc1))); (focus ((first | refine snap_plain ?_ rfl | apply snap_data); repeat' (first | exact snapL_nil | apply snapL_i | apply snapL_dat | exact e3 | exact e4 | exact snapL_nil)))) | (apply o_gT; (focus (simp only [simB0, ZA, reduceEqDiff, ↓reduceIte, reduceAdd, reduceLeDiff, t0, t2, t3, tF, t8, t9, tch2, hlt, toNat_two, toNat_three, hc.cells, hc.one]; done))) | (apply w_cond; (focus ((try simp only [simB0, ZA, reduceEqDiff, ↓reduceIte, reduceAdd, reduceLeDiff, t0, t2, t3, tF, t8, t9, tch2, hlt, toNat_two, toNat_three, hc.cells, hc.one]); (try with_reducible rfl); done)); all_goals (intro _hg; (try simp only [ZB] at _hg); try first | exact absurd trivial _hg | (exfalso; omega))))
        all_goals exact ⟨by ((try simp only [simB0, ZA, reduceEqDiff, ↓reduceIte, reduceAdd, reduceLeDiff, t0]); (try with_reducible rfl)), by ((try simp only [simB0, ZA, reduceEqDiff, ↓reduceIte, reduceAdd, reduceLeDiff, t2]); (try with_reducible rfl)), by ((try simp only [simB0, ZA, reduceEqDiff, ↓reduceIte, reduceAdd, reduceLeDiff, t3]); (try with_reducible rfl)), by ((try simp only [simB0, ZA, reduceEqDiff, ↓reduceIte, reduceAdd, reduceLeDiff, tF]); (try with_reducible rfl)), by ((try simp only [simB0, ZA, reduceEqDiff, ↓reduceIte, reduceAdd, reduceLeDiff, t8]); (try with_reducible rfl)), by ((try simp only [simB0, ZA, reduceEqDiff, ↓reduceIte, reduceAdd, reduceLeDiff, t9]); (try with_reducible rfl)), rfl, rfl⟩
    · have hlt : decide (((2 * root + 1 + 1 : Nat) : Int) < (hi : Int)) = false := decide_eq_false (by omega)
      have hcc : c = 2 * root + 1 := by
        rcases hsel with ⟨rfl, _⟩ | ⟨rfl, _⟩
        · omega
        · rfl
      subst hcc
      repeat' (first | apply w_seq | apply w_mixS1 | apply w_skip | apply a_n | apply o_nil | (apply o_val rfl rfl; (focus ((try simp (disch := omega) only [simB0, ZA, reduceEqDiff, ↓reduceIte, reduceAdd, reduceLeDiff, ZV, reduceCtorEq, t0, t2, t3, tF, t8, t9, tch2, hlt]); first | with_reducible rfl | (apply s_ite; (focus omega); with_reducible rfl)))) | (apply o_gF; (focus (simp only [simB0, ZA, reduceEqDiff, ↓reduceIte, reduceAdd, reduceLeDiff, or_true, true_or, t0, t2, t3, tF, t8, t9, tch2, hlt]; done))) | (apply w_condF; (focus (simp only [simB0, ZA, reduceEqDiff, ↓reduceIte, reduceAdd, reduceLeDiff, t0, t2, t3, tF, t8, t9, tch2, hlt]; done))))
      all_goals exact ⟨by ((try simp only [simB0, ZA, reduceEqDiff, ↓reduceIte, reduceAdd, reduceLeDiff, t0]); (try with_reducible rfl)), by ((try simp only [simB0, ZA, reduceEqDiff, ↓reduceIte, reduceAdd, reduceLeDiff, t2]); (try with_reducible rfl)), by ((try simp only [simB0, ZA, reduceEqDiff, ↓reduceIte, reduceAdd, reduceLeDiff, t3]); (try with_reducible rfl)), by ((try simp only [simB0, ZA, reduceEqDiff, ↓reduceIte, reduceAdd, reduceLeDiff, tF]); (try with_reducible rfl)), by ((try simp only [simB0, ZA, reduceEqDiff, ↓reduceIte, reduceAdd, reduceLeDiff, t8]); (try with_reducible rfl)), by ((try simp only [simB0, ZA, reduceEqDiff, ↓reduceIte, reduceAdd, reduceLeDiff, t9]); (try with_reducible rfl)), rfl, rfl⟩
  clear t0 t2 t3 tF t8 t9 hsel
  rintro T _ _ ⟨t0, t2, t3, tF, t8, t9, rfl, rfl⟩
  by_cases hk2 : k2 < 0
  · obtain ⟨M1, hl1, lm1, lm2⟩ := swp_lput (f := f) (M := M) (i := a + root) (j := a + c) (by omega) (by omega)
    have lm3 := lm2
    simp only [lput, List.length_cons, List.length_nil, Nat.zero_add] at lm1 lm2
    repeat' (first | apply w_seq | apply w_ops0 | apply w_ops1 | apply w_mixS1 | apply w_skip | apply a_n | apply o_nil | (apply o_val rfl rfl; (focus ((try simp (disch := omega) only [simB0, ZA, reduceEqDiff, ↓reduceIte, reduceAdd, reduceLeDiff, ZV, reduceCtorEq, t0, t2, t3, tF, t8, t9, toNat_two, lm1, lm2, hc.cells, hc.one]); first | with_reducible rfl | (apply s_ite; (focus omega); with_reducible rfl)))) | (apply o_callD; (iterate 2 (focus ((try simp only [simB0, ZA, reduceEqDiff, ↓reduceIte, reduceAdd, reduceLeDiff, t0, t2, t3, tF, t8, t9, toNat_two, lm1, lm2, hc.cells, hc.one]); (try with_reducible rfl); done))); (focus (first | (exact lc2))); (focus ((first | refine snap_plain ?_ rfl | apply snap_data); repeat' (first | exact snapL_nil | apply snapL_i | apply snapL_dat | exact e1 | exact e2 | exact snapL_nil)))) | (apply e_st rfl; (iterate 4 (focus ((try simp only [simB0, ZA, reduceEqDiff, ↓reduceIte, reduceAdd, reduceLeDiff, t0, t2, t3, tF, t8, t9, toNat_two, lm1, lm2, hc.cells, hc.one]); (try with_reducible rfl); done))); (focus (simp only [SO, Bool.and_self, one_encV, one_encVV, t0, t2, t3, tF, t8, t9, toNat_two, lm1, lm2, hc.cells, hc.one])); (iterate 3 (focus ((try simp only [SL, reduceAdd, Nat.reduceMul, List.length_map]); first | done | omega)))) | (apply w_cond; (focus ((try simp only [simB0, ZA, reduceEqDiff, ↓reduceIte, reduceAdd, reduceLeDiff, t0, t2, t3, tF, t8, t9, toNat_two, lm1, lm2, hc.cells, hc.one]); (try with_reducible rfl); done)); all_goals (intro _hg; (try simp only [ZB] at _hg); try first | exact absurd trivial _hg | (exfalso; omega))))
    have hrc : root < c := by unfold Kid at hkid; omega
    have hcn : c < n := by omega
    refine ⟨(c, swp M (a + root) (a + c)), by dsimp only; omega, ⟨by dsimp only; omega, ?_, rfl, hp.trans (PermR.swap (by omega) (by omega) (by omega)), hs.step hc.ord hkid hchi (by omega) hbest (by rw [hK2]; exact hk2)⟩, by simp (disch := omega) only [agr, ZG, reduceEqDiff, ↓reduceIte, t0, t2, t3, tF]⟩
    dsimp only
    rw [hupd_two, hupd_two, lm3]
  · repeat' (first | apply w_seq | apply w_mixS1 | apply w_ret | apply a_n | apply a_r | apply o_nil | (apply o_val rfl rfl; (focus ((try simp (disch := omega) only [simB0, ZA, reduceEqDiff, ↓reduceIte, reduceAdd, reduceLeDiff, ZV, reduceCtorEq, t0, t2, t3, tF, t8, t9, toNat_two, hc.cells, hc.one]); first | with_reducible rfl | (apply s_ite; (focus omega); with_reducible rfl)))) | (apply o_callD; (iterate 2 (focus ((try simp only [simB0, ZA, reduceEqDiff, ↓reduceIte, reduceAdd, reduceLeDiff, t0, t2, t3, tF, t8, t9, toNat_two, hc.cells, hc.one]); (try with_reducible rfl); done))); (focus (first | (exact lc2))); (focus ((first | refine snap_plain ?_ rfl | apply snap_data); repeat' (first | exact snapL_nil | apply snapL_i | apply snapL_dat | exact e1 | exact e2 | exact snapL_nil)))) | (apply w_cond; (focus ((try simp only [simB0, ZA, reduceEqDiff, ↓reduceIte, reduceAdd, reduceLeDiff, t0, t2, t3, tF, t8, t9, toNat_two, hc.cells, hc.one]); (try with_reducible rfl); done)); all_goals (intro _hg; (try simp only [ZB] at _hg); try first | exact absurd trivial _hg | (exfalso; omega))) | (refine e_ends rfl ?_) | apply r_0)
    exact ⟨rfl, M, rfl, hp, hs.stop hc.ord hbest (by rw [hK2]; exact hk2)⟩
end
end Go.Proofs.YtbiikomnhkbblaaGreat

/- U4o: contracts of functions and plain laws; for all inputs that the theorems name. -/
namespace Go.Proofs.YtbiikomnhkbblaaGreat
open Go Go.Abs
open Nat (reduceEqDiff reduceAdd reduceLeDiff)
section
variable {α : Type} [Inhabited α] {f : α → AV} {K : α → α → Int} {G : α → Prop}
attribute [local irreducible] awp2 aops2 ains aloop athen bbind obind gbind acond res1 Go.Abs.Fn PCall Go.Abs.Pure SnapArgs SnapL Yl
theorem heap_o (hc : CmpO Tryz.prog f K G) {L : List α} {H : Hp} {b nx n a e : Nat} (hH : H b = some (L.map f)) (hn : L.length = n) (hG : ∀ x ∈ L, G x) (hae : a ≤ e) (hen : e ≤ n) (hn2 : n ≤ 1000000000) :
    Abs.Fn Tryz.prog 101 [.msl b n 1 0 n, .int .i64 a, .int .i64 e] H nx fun r H' nx' => nx' = nx ∧ ∃ L', H' = hupd H b (L'.map f) ∧ PermR a e L L' ∧ SortedR K a e L' := by
  obtain ⟨h, rfl⟩ : ∃ h, e = a + h := ⟨e - a, by omega⟩
  refine Abs.Fn.of_c2 follows is101 (Nat.le_of_ble_eq_true rfl) ?_
  simp only [b101, O, G, N, M, D, F, B2, cFal, cTru]
  have te : ((a + h : Nat) : Int) - (a : Int) = (h : Int) := by omega
  obtain ⟨r, tr, hr, hrn⟩ : ∃ r : Nat, abin2 .quo false false (.int .i64 ((h : Int) - 1)) (.int .i64 2) = some (.int .i64 (r : Int)) ∧ h ≤ 2 * (r + 1) + 1 ∧ r ≤ h := by
    rcases Nat.eq_zero_or_pos h with e | e
    · subst e; exact ⟨0, rfl, by omega, by omega⟩
    · refine ⟨(h - 1) / 2, ?_, by omega, by omega⟩
      rw [quo_pos (by omega) (by omega) (by omega)]
      congr 2
      omega
  repeat' (first | apply w_seq | apply w_ops0 | apply w_block | apply a_n | apply o_nil | (apply o_val rfl rfl; (focus ((try simp (disch := omega) only [simB0, ZA, reduceEqDiff, ↓reduceIte, reduceAdd, reduceLeDiff, ZV, reduceCtorEq, te, tr]); first | with_reducible rfl | (apply s_ite; (focus omega); with_reducible rfl)))) | apply w_loop)
  refine loopI (X := Nat × List α) (fun x => [(0, .msl b n 1 0 n), (1, .int .i64 a), (6, .int .i64 a), (7, .int .i64 0), (8, .int .i64 h), (9, .int .i64 ((x.1 : Nat) - 1))]) (fun x H' nxx => x.1 ≤ n + 1 ∧ H' = hupd H b (x.2.map f) ∧ nx = nxx ∧ PermR a (a + h) L x.2 ∧ HeapR K a h x.1 x.2) (fun x => x.1) (r + 1, L) ⟨by dsimp only; omega, hupd_id hH, rfl, .refl, HeapR.start (by dsimp only; omega)⟩ (by simp (disch := omega) only [agr, ZG, reduceEqDiff, ↓reduceIte, Int.add_sub_cancel]) ?_
  rintro ⟨i, M⟩ H' nxx ⟨h1, rfl, rfl, hp, hh⟩
  dsimp only at *
  have hl : M.length = n := by rw [hp.len, hn]
  have hGM := hp.mem hG
  rcases Nat.eq_zero_or_pos i with e | e
  · subst e
    repeat' (first | apply w_seq | apply w_ops0 | apply w_block | apply w_exit | apply a_n | apply a_x | apply o_nil | (apply o_val rfl rfl; (focus ((try simp (disch := omega) only [simB0, ZA, reduceEqDiff, ↓reduceIte, reduceAdd, reduceLeDiff, ZV, reduceCtorEq]); first | with_reducible rfl | (apply s_ite; (focus omega); with_reducible rfl)))) | (apply w_cond; (focus ((try simp only [simB0, ZA, reduceEqDiff, ↓reduceIte, reduceAdd, reduceLeDiff]); (try with_reducible rfl); done)); all_goals (intro _hg; (try simp only [ZB] at _hg); try first | exact absurd trivial _hg | (exfalso; omega))) | apply w_loop)
    clear hGM
    refine loopI (X := Nat × List α) (fun x => [(0, .msl b n 1 0 n), (6, .int .i64 a), (7, .int .i64 0), (10, .int .i64 ((x.1 : Nat) - 1))]) (fun x H' nxx' => x.1 ≤ h ∧ H' = hupd H b (x.2.map f) ∧ nx = nxx' ∧ PermR a (a + h) L x.2 ∧ HeapR K a x.1 0 x.2 ∧ TailR K a (a + h) (a + x.1) x.2) (fun x => x.1) (h, M) ⟨Nat.le_refl _, rfl, rfl, hp, hh, .start⟩ (by simp (disch := omega) only [agr, ZG, reduceEqDiff, ↓reduceIte, Int.add_sub_cancel]) ?_
    clear hp hh hl
    rintro ⟨i, M⟩ H' nxx ⟨h1, rfl, rfl, hp, hh, ht⟩
    dsimp only at *
    have hl : M.length = n := by rw [hp.len, hn]
    have hGM := hp.mem hG
    rcases Nat.eq_zero_or_pos i with e | e
    · subst e
      repeat' (first | apply w_seq | apply w_ops0 | apply w_exit | apply a_n | apply a_x | apply o_nil | (apply o_val rfl rfl; (focus ((try simp (disch := omega) only [simB0, ZA, reduceEqDiff, ↓reduceIte, reduceAdd, reduceLeDiff, ZV, reduceCtorEq]); first | with_reducible rfl | (apply s_ite; (focus omega); with_reducible rfl)))) | (apply w_cond; (focus ((try simp only [simB0, ZA, reduceEqDiff, ↓reduceIte, reduceAdd, reduceLeDiff]); (try with_reducible rfl); done)); all_goals (intro _hg; (try simp only [ZB] at _hg); try first | exact absurd trivial _hg | (exfalso; omega))) | (refine e_ends rfl ?_) | apply r_0)
      exact ⟨rfl, M, rfl, hp, ht.done⟩
    · obtain ⟨k, rfl⟩ : ∃ k, i = k + 1 := ⟨i - 1, by omega⟩
      have tj : ((k + 1 : Nat) : Int) - 1 = (k : Int) := by omega
      obtain ⟨M1, hl1, lm1, lm2⟩ := swp_lput (f := f) (M := M) (i := a) (j := a + k) (by omega) (by omega)
      have lm3 := lm2
      simp only [lput, List.length_cons, List.length_nil, Nat.zero_add] at lm1 lm2
      have hp1 : PermR a (a + h) L (swp M a (a + k)) := hp.trans (PermR.swap (by omega) (by omega) (by omega))
      have hsl : (swp M a (a + k)).length = n := by rw [hp1.len, hn]
      repeat' (first | apply w_seq | apply w_ops0 | apply w_ops1 | apply w_block | apply w_skip | apply a_n | apply o_nil | (apply o_val rfl rfl; (focus ((try simp (disch := omega) only [simB0, ZA, reduceEqDiff, ↓reduceIte, reduceAdd, reduceLeDiff, ZV, reduceCtorEq, tj, toNat_two, lm1, lm2, hc.cells, hc.one]); first | with_reducible rfl | (apply s_ite; (focus omega); with_reducible rfl)))) | (apply e_st rfl; (iterate 4 (focus ((try simp only [simB0, ZA, reduceEqDiff, ↓reduceIte, reduceAdd, reduceLeDiff, tj, toNat_two, lm1, lm2, hc.cells, hc.one]); (try with_reducible rfl); done))); (focus (simp only [SO, Bool.and_self, one_encV, one_encVV, tj, toNat_two, lm1, lm2, hc.cells, hc.one])); (iterate 3 (focus ((try simp only [SL, reduceAdd, Nat.reduceMul, List.length_map]); first | done | omega)))) | (apply w_cond; (focus ((try simp only [simB0, ZA, reduceEqDiff, ↓reduceIte, reduceAdd, reduceLeDiff, tj, toNat_two, lm1, lm2, hc.cells, hc.one]); (try with_reducible rfl); done)); all_goals (intro _hg; (try simp only [ZB] at _hg); try first | exact absurd trivial _hg | (exfalso; omega))))
      refine o_callE (by ((try simp only [simB0, ZA, reduceEqDiff, ↓reduceIte, reduceAdd, reduceLeDiff]); (try with_reducible rfl))) (by ((try simp only [simB0, ZA, reduceEqDiff, ↓reduceIte, reduceAdd, reduceLeDiff, tj, Int.natCast_zero]); (try with_reducible rfl))) (sift_o hc (b := b) (L := swp M a (a + k)) (a := a) (lo := 0) (hi := k) (by rw [hupd_two, hupd_two, hupd_self', ← lm3]) hsl (hp1.mem hG) (by omega) (by omega) (by omega) (hh.swapTop (by omega))) ?_
      rintro _ _ _ ⟨rfl, N, rfl, hpN, hhN⟩
      repeat' (first | apply w_ops0 | apply a_n | apply o_nil | (apply o_val rfl rfl; (focus ((try simp (disch := omega) only [simB0, ZA, reduceEqDiff, ↓reduceIte, reduceAdd, reduceLeDiff, ZV, reduceCtorEq, tj]); first | with_reducible rfl | (apply s_ite; (focus omega); with_reducible rfl)))))
      exact ⟨(k, N), by dsimp only; omega, ⟨by dsimp only; omega, by dsimp only; rw [hupd_two, hupd_two, hupd_two], rfl, hp1.trans (hpN.mono (Nat.le_refl _) (by omega)), hhN, ht.step hc.ord hh (by omega) (by omega) hpN⟩, by simp (disch := omega) only [agr, ZG, reduceEqDiff, ↓reduceIte]⟩
  · obtain ⟨k, rfl⟩ : ∃ k, i = k + 1 := ⟨i - 1, by omega⟩
    have tj : ((k + 1 : Nat) : Int) - 1 = (k : Int) := by omega
    repeat' (first | apply w_seq | apply w_ops0 | apply w_block | apply w_skip | apply a_n | apply o_nil | (apply o_val rfl rfl; (focus ((try simp (disch := omega) only [simB0, ZA, reduceEqDiff, ↓reduceIte, reduceAdd, reduceLeDiff, ZV, reduceCtorEq, tj]); first | with_reducible rfl | (apply s_ite; (focus omega); with_reducible rfl)))) | (apply w_cond; (focus ((try simp only [simB0, ZA, reduceEqDiff, ↓reduceIte, reduceAdd, reduceLeDiff, tj]); (try with_reducible rfl); done)); all_goals (intro _hg; (try simp only [ZB] at _hg); try first | exact absurd trivial _hg | (exfalso; omega))))
    refine o_callE (by ((try simp only [simB0, ZA, reduceEqDiff, ↓reduceIte, reduceAdd, reduceLeDiff]); (try with_reducible rfl))) (by ((try simp only [simB0, ZA, reduceEqDiff, ↓reduceIte, reduceAdd, reduceLeDiff]); (try with_reducible rfl))) (sift_o hc (L := M) (a := a) (lo := k) (hi := h) hupd_self' hl hGM (by omega) (by omega) (by omega) hh) ?_
    rintro _ _ _ ⟨rfl, N, rfl, hpN, hhN⟩
    repeat' (first | apply w_ops0 | apply a_n | apply o_nil | (apply o_val rfl rfl; (focus ((try simp (disch := omega) only [simB0, ZA, reduceEqDiff, ↓reduceIte, reduceAdd, reduceLeDiff, ZV, reduceCtorEq, tj]); first | with_reducible rfl | (apply s_ite; (focus omega); with_reducible rfl)))))
    exact ⟨(k, N), by dsimp only; omega, ⟨by dsimp only; omega, by dsimp only; rw [hupd_two], rfl, hp.trans hpN, hhN⟩, by simp (disch := omega) only [agr, ZG, reduceEqDiff, ↓reduceIte]⟩
end
end Go.Proofs.YtbiikomnhkbblaaGreat

/- U5o: contracts of functions and plain laws; for all inputs that the theorems name. -/
namespace Go.Proofs.YtbiikomnhkbblaaGreat
open Go Go.Abs
open Nat (reduceEqDiff reduceAdd reduceLeDiff)
section
variable {α : Type} [Inhabited α] {f : α → AV} {K : α → α → Int} {G : α → Prop}
attribute [local irreducible] awp2 aops2 ains aloop athen bbind obind gbind acond res1 Go.Abs.Fn PCall Go.Abs.Pure SnapArgs SnapL Yl
theorem rev_o (hc : CmpO Tryz.prog f K G) {L : List α} {H : Hp} {b nx n a e : Nat} (hH : H b = some (L.map f)) (hn : L.length = n) (hae : a < e) (hen : e ≤ n) (hn2 : n ≤ 1000000000) :
    Abs.Fn Tryz.prog 104 [.msl b n 1 0 n, .int .i64 a, .int .i64 e] H nx fun r H' nx' => nx' = nx ∧ ∃ L', H' = hupd H b (L'.map f) ∧ PermR a e L L' := by
  obtain ⟨m, rfl⟩ : ∃ m, e = m + 1 := ⟨e - 1, by omega⟩
  have te : ((m + 1 : Nat) : Int) - 1 = (m : Int) := by omega
  refine Abs.Fn.of_c2 follows is104 (Nat.le_of_ble_eq_true rfl) ?_
  simp only [b104, O, G, N, M, D, F, B2, cFal, cTru]
  repeat' (first | apply w_seq | apply w_ops0 | apply w_block | apply a_n | apply o_nil | (apply o_val rfl rfl; (focus ((try simp (disch := omega) only [simB0, ZA, reduceEqDiff, ↓reduceIte, reduceAdd, reduceLeDiff, ZV, reduceCtorEq, te]); first | with_reducible rfl | (apply s_ite; (focus omega); with_reducible rfl)))) | apply w_loop)
  refine loopI (X := Nat × Nat × List α) (fun x => [(0, .msl b n 1 0 n), (6, .int .i64 (x.1 : Nat)), (7, .int .i64 (x.2.1 : Nat))]) (fun x H' nxx => a ≤ x.1 ∧ x.2.1 ≤ m ∧ H' = hupd H b (x.2.2.map f) ∧ nx = nxx ∧ PermR a (m + 1) L x.2.2) (fun x => x.2.1) (a, m, L) ⟨Nat.le_refl _, Nat.le_refl _, hupd_id hH, rfl, .refl⟩ (by simp (disch := omega) only [agr, ZG, reduceEqDiff, ↓reduceIte]) ?_
  rintro ⟨i, j, M⟩ H' nxx ⟨h1, h2, rfl, rfl, hp⟩
  dsimp only at *
  have hl : M.length = n := by rw [hp.len, hn]
  by_cases hij : i < j
  · obtain ⟨k, rfl⟩ : ∃ k, j = k + 1 := ⟨j - 1, by omega⟩
    have tj : ((k + 1 : Nat) : Int) - 1 = (k : Int) := by omega
    have ti : ((i : Nat) : Int) + 1 = ((i + 1 : Nat) : Int) := by omega
    obtain ⟨M1, hl1, lm1, lm2⟩ := swp_lput (f := f) (M := M) (i := i) (j := k + 1) (by omega) (by omega)
    have lm3 := lm2
    simp only [lput, List.length_cons, List.length_nil, Nat.zero_add] at lm1 lm2
    repeat' (first | apply w_seq | apply w_ops0 | apply w_ops1 | apply w_block | apply w_skip | apply a_n | apply o_nil | (apply o_val rfl rfl; (focus ((try simp (disch := omega) only [simB0, ZA, reduceEqDiff, ↓reduceIte, reduceAdd, reduceLeDiff, ZV, reduceCtorEq, tj, ti, lm1, lm2, hc.cells, hc.one]); first | with_reducible rfl | (apply s_ite; (focus omega); with_reducible rfl)))) | (apply e_st rfl; (iterate 4 (focus ((try simp only [simB0, ZA, reduceEqDiff, ↓reduceIte, reduceAdd, reduceLeDiff, tj, ti, lm1, lm2, hc.cells, hc.one]); (try with_reducible rfl); done))); (focus (simp only [SO, Bool.and_self, one_encV, one_encVV, tj, ti, lm1, lm2, hc.cells, hc.one])); (iterate 3 (focus ((try simp only [SL, reduceAdd, Nat.reduceMul, List.length_map]); first | done | omega)))) | (apply w_cond; (focus ((try simp only [simB0, ZA, reduceEqDiff, ↓reduceIte, reduceAdd, reduceLeDiff, tj, ti, lm1, lm2, hc.cells, hc.one]); (try with_reducible rfl); done)); all_goals (intro _hg; (try simp only [ZB] at _hg); try first | exact absurd trivial _hg | (exfalso; omega))))
    exact ⟨(i + 1, k, swp M i (k + 1)), by dsimp only; omega, ⟨by dsimp only; omega, by dsimp only; omega, by dsimp only; rw [hupd_two, hupd_two, lm3], rfl, hp.trans (PermR.swap (by omega) (by omega) (by omega))⟩, by simp (disch := omega) only [agr, ZG, reduceEqDiff, ↓reduceIte]⟩
  · repeat' (first | apply w_seq | apply w_ops0 | apply w_exit | apply a_n | apply a_x | apply o_nil | (apply o_val rfl rfl; (focus ((try simp (disch := omega) only [simB0, ZA, reduceEqDiff, ↓reduceIte, reduceAdd, reduceLeDiff, ZV, reduceCtorEq]); first | with_reducible rfl | (apply s_ite; (focus omega); with_reducible rfl)))) | (apply w_cond; (focus ((try simp only [simB0, ZA, reduceEqDiff, ↓reduceIte, reduceAdd, reduceLeDiff]); (try with_reducible rfl); done)); all_goals (intro _hg; (try simp only [ZB] at _hg); try first | exact absurd trivial _hg | (exfalso; omega))) | (refine e_ends rfl ?_) | apply r_0)
    exact ⟨rfl, M, rfl, hp⟩

theorem order2_o (hc : CmpO Tryz.prog f K G) {L : List α} {H : Hp} {b c nx n i j s : Nat} (hH : H b = some (L.map f)) (hcc : H c = some [.int .i64 (s : Nat)]) (hn : L.length = n) (hG : ∀ x ∈ L, G x) (hi : i < n) (hj : j < n) (hn2 : n ≤ 1000000000) (hs : s ≤ 100) :
    Abs.Fn Tryz.prog 136 [.msl b n 1 0 n, .int .i64 i, .int .i64 j, .ptr c 1 0] H nx fun r H' nx' => nx' = nx ∧ ∃ i' j' s' : Nat, r = .tup [.int .i64 i', .int .i64 j'] ∧ ((i' = i ∧ j' = j) ∨ (i' = j ∧ j' = i)) ∧ s' ≤ s + 1 ∧ H' = hupd H c [.int .i64 s'] := by
  refine Abs.Fn.of_c2 follows is136 (Nat.le_of_ble_eq_true rfl) ?_
  simp only [b136, O, G, N, M, D, F, B2, cFal, cTru]
  have lc := hc.run (L.getD j default) (L.getD i default) (hG _ (mem_getD (by omega))) (hG _ (mem_getD (by omega)))
  have e1 := hc.dat (L.getD j default)
  have e2 := hc.dat (L.getD i default)
  have ts : ((s : Nat) : Int) + 1 = ((s + 1 : Nat) : Int) := by omega
  have ls : ∀ x y : AV, lput [x] 0 [y] = [y] := fun _ _ => rfl
  simp only [lput, List.length_cons, List.length_nil, Nat.zero_add] at ls
  generalize hKK : K (L.getD j default) (L.getD i default) = kk at lc
  by_cases hlt : kk < 0
  · repeat' (first | apply w_seq | apply w_ops0 | apply w_mixS1 | apply w_ret | apply a_n | apply a_r | apply o_nil | (apply o_val rfl rfl; (focus ((try simp (disch := omega) only [simB0, ZA, reduceEqDiff, ↓reduceIte, reduceAdd, reduceLeDiff, ZV, reduceCtorEq, hH, hcc, Int.toNat_natCast, hc.cells, hc.one, ts, ls, SV3]); first | with_reducible rfl | (apply s_ite; (focus omega); with_reducible rfl)))) | (apply o_callD; (iterate 2 (focus ((try simp only [simB0, ZA, reduceEqDiff, ↓reduceIte, reduceAdd, reduceLeDiff, hH, hcc, Int.toNat_natCast, hc.cells, hc.one, ts, ls, SV3]); (try with_reducible rfl); done))); (focus (first | (exact lc))); (focus ((first | refine snap_plain ?_ rfl | apply snap_data); repeat' (first | exact snapL_nil | apply snapL_i | apply snapL_dat | exact e1 | exact e2 | exact snapL_nil)))) | (apply e_st rfl; (iterate 4 (focus ((try simp only [simB0, ZA, reduceEqDiff, ↓reduceIte, reduceAdd, reduceLeDiff, hH, hcc, Int.toNat_natCast, hc.cells, hc.one, ts, ls, SV3]); (try with_reducible rfl); done))); (focus (simp only [SO, Bool.and_self, one_encV, one_encVV, hH, hcc, Int.toNat_natCast, hc.cells, hc.one, ts, ls, SV3])); (iterate 3 (focus ((try simp only [SL, reduceAdd, Nat.reduceMul, List.length_map]); first | done | omega)))) | (apply w_cond; (focus ((try simp only [simB0, ZA, reduceEqDiff, ↓reduceIte, reduceAdd, reduceLeDiff, hH, hcc, Int.toNat_natCast, hc.cells, hc.one, ts, ls, SV3]); (try with_reducible rfl); done)); all_goals (intro _hg; (try simp only [ZB] at _hg); try first | exact absurd trivial _hg | (exfalso; omega))) | (refine e_ends rfl ?_) | (apply r_2; (iterate 2 (focus (simp only [rv, simB0, ZA, reduceEqDiff, ↓reduceIte, reduceAdd, reduceLeDiff, hH, hcc, Int.toNat_natCast, hc.cells, hc.one, ts, ls, SV3]; with_reducible rfl)))))
    exact ⟨rfl, j, i, s + 1, rfl, .inr ⟨rfl, rfl⟩, Nat.le_refl _, rfl⟩
  · repeat' (first | apply w_seq | apply w_ops0 | apply w_mixS1 | apply w_skip | apply w_ret | apply a_n | apply o_nil | (apply o_val rfl rfl; (focus ((try simp (disch := omega) only [simB0, ZA, reduceEqDiff, ↓reduceIte, reduceAdd, reduceLeDiff, ZV, reduceCtorEq, hH, hcc, Int.toNat_natCast, hc.cells, hc.one]); first | with_reducible rfl | (apply s_ite; (focus omega); with_reducible rfl)))) | (apply o_callD; (iterate 2 (focus ((try simp only [simB0, ZA, reduceEqDiff, ↓reduceIte, reduceAdd, reduceLeDiff, hH, hcc, Int.toNat_natCast, hc.cells, hc.one]); (try with_reducible rfl); done))); (focus (first | (exact lc))); (focus ((first | refine snap_plain ?_ rfl | apply snap_data); repeat' (first | exact snapL_nil | apply snapL_i | apply snapL_dat | exact e1 | exact e2 | exact snapL_nil)))) | (apply w_cond; (focus ((try simp only [simB0, ZA, reduceEqDiff, ↓reduceIte, reduceAdd, reduceLeDiff, hH, hcc, Int.toNat_natCast, hc.cells, hc.one]); (try with_reducible rfl); done)); all_goals (intro _hg; (try simp only [ZB] at _hg); try first | exact absurd trivial _hg | (exfalso; omega))) | (refine e_ends rfl ?_) | (apply r_2; (iterate 2 (focus (simp only [rv, simB0, ZA, reduceEqDiff, ↓reduceIte, reduceAdd, reduceLeDiff, hH, hcc, Int.toNat_natCast, hc.cells, hc.one]; with_reducible rfl)))))
    exact ⟨rfl, i, j, s, rfl, .inl ⟨rfl, rfl⟩, Nat.le_succ _, hupd_id hcc⟩
end
end Go.Proofs.YtbiikomnhkbblaaGreat

/- U6o: contracts of functions and plain laws; for all inputs that the theorems name. -/
namespace Go.Proofs.YtbiikomnhkbblaaGreat
open Go Go.Abs
open Nat (reduceEqDiff reduceAdd reduceLeDiff)
section
variable {α : Type} [Inhabited α] {f : α → AV} {K : α → α → Int} {G : α → Prop}
attribute [local irreducible] awp2 aops2 ains aloop athen bbind obind gbind acond res1 Go.Abs.Fn PCall Go.Abs.Pure SnapArgs SnapL Yl
theorem median_o (hc : CmpO Tryz.prog f K G) {L : List α} {H : Hp} {b c nx n i j k s lo hi : Nat} (hH : H b = some (L.map f)) (hbc : b ≠ c) (hcc : H c = some [.int .i64 (s : Nat)]) (hn : L.length = n) (hG : ∀ x ∈ L, G x) (hi1 : lo ≤ i ∧ i < hi) (hj1 : lo ≤ j ∧ j < hi) (hk1 : lo ≤ k ∧ k < hi) (hhi : hi ≤ n) (hn2 : n ≤ 1000000000) (hs : s ≤ 50) :
    Abs.Fn Tryz.prog 124 [.msl b n 1 0 n, .int .i64 i, .int .i64 j, .int .i64 k, .ptr c 1 0] H nx fun r H' nx' => nx' = nx ∧ ∃ p s' : Nat, r = .int .i64 p ∧ lo ≤ p ∧ p < hi ∧ s' ≤ s + 3 ∧ H' = hupd H c [.int .i64 s'] := by
  refine Abs.Fn.of_c2 follows is124 (Nat.le_of_ble_eq_true rfl) ?_
  simp only [b124, O, G, N, M, D, F, B2, cFal, cTru]
  repeat' (first | apply w_seq | apply w_ops0 | apply a_n | apply o_nil | (apply o_val rfl rfl; (focus ((try simp (disch := omega) only [simB0, ZA, reduceEqDiff, ↓reduceIte, reduceAdd, reduceLeDiff, ZV, reduceCtorEq]); first | with_reducible rfl | (apply s_ite; (focus omega); with_reducible rfl)))))
  refine o_callE (by ((try simp only [simB0, ZA, reduceEqDiff, ↓reduceIte, reduceAdd, reduceLeDiff]); (try with_reducible rfl))) (by ((try simp only [simB0, ZA, reduceEqDiff, ↓reduceIte, reduceAdd, reduceLeDiff]); (try with_reducible rfl))) (order2_o hc (b := b) hH hcc hn hG (i := i) (j := j) (by omega) (by omega) hn2 (by omega)) ?_
  rintro _ _ _ ⟨rfl, i1, j1, s1, rfl, h1, hs1, rfl⟩
  repeat' (first | apply w_seq | apply w_ops0 | apply a_n | apply o_nil | (apply o_val rfl rfl; (focus ((try simp (disch := omega) only [simB0, ZA, reduceEqDiff, ↓reduceIte, reduceAdd, reduceLeDiff, ZV, reduceCtorEq]); first | with_reducible rfl | (apply s_ite; (focus omega); with_reducible rfl)))))
  refine o_callE (by ((try simp only [simB0, ZA, reduceEqDiff, ↓reduceIte, reduceAdd, reduceLeDiff]); (try with_reducible rfl))) (by ((try simp only [simB0, ZA, reduceEqDiff, ↓reduceIte, reduceAdd, reduceLeDiff]); (try with_reducible rfl))) (order2_o hc (b := b) (by rw [hupd_ne hbc]; exact hH) hupd_self' hn hG (i := j1) (j := k) (by omega) (by omega) hn2 (by omega)) ?_
  rintro _ _ _ ⟨rfl, j2, k2, s2, rfl, h2, hs2, rfl⟩
  repeat' (first | apply w_seq | apply w_ops0 | apply a_n | apply o_nil | (apply o_val rfl rfl; (focus ((try simp (disch := omega) only [simB0, ZA, reduceEqDiff, ↓reduceIte, reduceAdd, reduceLeDiff, ZV, reduceCtorEq]); first | with_reducible rfl | (apply s_ite; (focus omega); with_reducible rfl)))))
  refine o_callE (by ((try simp only [simB0, ZA, reduceEqDiff, ↓reduceIte, reduceAdd, reduceLeDiff]); (try with_reducible rfl))) (by ((try simp only [simB0, ZA, reduceEqDiff, ↓reduceIte, reduceAdd, reduceLeDiff]); (try with_reducible rfl))) (order2_o hc (b := b) (by rw [hupd_two, hupd_ne hbc]; exact hH) hupd_self' hn hG (i := i1) (j := j2) (by omega) (by omega) hn2 (by omega)) ?_
  rintro _ _ _ ⟨rfl, i3, j3, s3, rfl, h3, hs3, rfl⟩
  repeat' (first | apply w_seq | apply w_ops0 | apply w_ret | apply a_n | apply o_nil | (apply o_val rfl rfl; (focus ((try simp (disch := omega) only [simB0, ZA, reduceEqDiff, ↓reduceIte, reduceAdd, reduceLeDiff, ZV, reduceCtorEq]); first | with_reducible rfl | (apply s_ite; (focus omega); with_reducible rfl)))) | (refine e_ends rfl ?_) | (apply r_1; (focus (simp only [rv, simB0, ZA, reduceEqDiff, ↓reduceIte, reduceAdd, reduceLeDiff]; with_reducible rfl))))
  exact ⟨rfl, j3, s3, rfl, by omega, by omega, by omega, by rw [hupd_two, hupd_two]⟩

theorem medAdj_o (hc : CmpO Tryz.prog f K G) {L : List α} {H : Hp} {b c nx n i s lo hi : Nat} (hH : H b = some (L.map f)) (hbc : b ≠ c) (hcc : H c = some [.int .i64 (s : Nat)]) (hn : L.length = n) (hG : ∀ x ∈ L, G x) (hi1 : lo + 1 ≤ i ∧ i + 1 < hi) (hhi : hi ≤ n) (hn2 : n ≤ 1000000000) (hs : s ≤ 50) :
    Abs.Fn Tryz.prog 123 [.msl b n 1 0 n, .int .i64 i, .ptr c 1 0] H nx fun r H' nx' => nx' = nx ∧ ∃ p s' : Nat, r = .int .i64 p ∧ lo ≤ p ∧ p < hi ∧ s' ≤ s + 3 ∧ H' = hupd H c [.int .i64 s'] := by
  obtain ⟨m, rfl⟩ : ∃ m, i = m + 1 := ⟨i - 1, by omega⟩
  have t1 : ((m + 1 : Nat) : Int) - 1 = (m : Int) := by omega
  have t2 : ((m + 1 : Nat) : Int) + 1 = ((m + 1 + 1 : Nat) : Int) := by omega
  refine Abs.Fn.of_c2 follows is123 (Nat.le_of_ble_eq_true rfl) ?_
  simp only [b123, O, G, N, M, D, F, B2, cFal, cTru]
  repeat' (first | apply w_seq | apply w_ops0 | apply a_n | apply o_nil | (apply o_val rfl rfl; (focus ((try simp (disch := omega) only [simB0, ZA, reduceEqDiff, ↓reduceIte, reduceAdd, reduceLeDiff, ZV, reduceCtorEq, t1, t2]); first | with_reducible rfl | (apply s_ite; (focus omega); with_reducible rfl)))))
  refine o_callE (by ((try simp only [simB0, ZA, reduceEqDiff, ↓reduceIte, reduceAdd, reduceLeDiff]); (try with_reducible rfl))) (by ((try simp only [simB0, ZA, reduceEqDiff, ↓reduceIte, reduceAdd, reduceLeDiff]); (try with_reducible rfl))) (median_o hc (b := b) hH hbc hcc hn hG (i := m) (j := m + 1) (k := m + 1 + 1) (lo := lo) (hi := hi) (by omega) (by omega) (by omega) hhi hn2 hs) ?_
  rintro _ _ _ ⟨rfl, p, s1, rfl, h1, h2, hs1, rfl⟩
  repeat' (first | apply w_ret | apply a_n | apply o_nil | (apply o_val rfl rfl; (focus ((try simp (disch := omega) only [simB0, ZA, reduceEqDiff, ↓reduceIte, reduceAdd, reduceLeDiff, ZV, reduceCtorEq]); first | with_reducible rfl | (apply s_ite; (focus omega); with_reducible rfl)))) | (refine e_ends rfl ?_) | (apply r_1; (focus (simp only [rv, simB0, ZA, reduceEqDiff, ↓reduceIte, reduceAdd, reduceLeDiff]; with_reducible rfl))))
  exact ⟨rfl, p, s1, rfl, h1, h2, hs1, rfl⟩

theorem choose_o (hc : CmpO Tryz.prog f K G) {L : List α} {H : Hp} {b nx n a e : Nat} (hH : H b = some (L.map f)) (hbx : b < nx) (hn : L.length = n) (hG : ∀ x ∈ L, G x) (hae : a + 8 ≤ e) (hen : e ≤ n) (hn2 : n ≤ 1000000000) :
    Abs.Fn Tryz.prog 103 [.msl b n 1 0 n, .int .i64 a, .int .i64 e] H nx fun r H' nx' => nx' = nx + 1 ∧ ∃ (p : Nat) (hint : Int) (v : List AV), r = .tup [.int .i64 p, .int .i64 hint] ∧ a ≤ p ∧ p < e ∧ H' = hupd H nx v := by
  obtain ⟨l, rfl⟩ : ∃ l, e = a + l := ⟨e - a, by omega⟩
  have te : ((a + l : Nat) : Int) - (a : Int) = (l : Int) := by omega
  obtain ⟨q, hq⟩ : ∃ q, l / 4 = q := ⟨_, rfl⟩
  have tq : abin2 .quo false false (.int .i64 (l : Int)) (.int .i64 4) = some (.int .i64 (q : Int)) := by
    rw [quo_pos (by omega) (by omega) (by omega)]
    congr 2
    omega
  have w1 : (a : Int) + (q : Int) * 1 = ((a + q : Nat) : Int) := by omega
  have w2 : (a : Int) + (q : Int) * 2 = ((a + q * 2 : Nat) : Int) := by omega
  have w3 : (a : Int) + (q : Int) * 3 = ((a + q * 3 : Nat) : Int) := by omega
  have hbn : b ≠ nx := by omega
  refine Abs.Fn.of_c2 follows is103 (Nat.le_of_ble_eq_true rfl) ?_
  simp only [b103, O, G, N, M, D, F, B2, cFal, cTru]
  have last : ∀ (s : Nat) (H1 : Hp), H1 = hupd (hupd H nx [.int .i64 0]) nx [.int .i64 s] → H1 nx = some [.int .i64 (s : Nat)] := fun s H1 h => by rw [h]; exact hupd_self'
  have hHn : ∀ v, hupd H nx v b = some (L.map f) := fun v => by rw [hupd_ne hbn]; exact hH
  by_cases h50 : 50 ≤ l
  · repeat' (first | apply w_seq | apply w_ops0 | apply a_n | apply o_nil | (apply o_val rfl rfl; (focus ((try simp (disch := omega) only [simB0, ZA, reduceEqDiff, ↓reduceIte, reduceAdd, reduceLeDiff, ZV, reduceCtorEq, te, tq, w1, w2, w3]); first | with_reducible rfl | (apply s_ite; (focus omega); with_reducible rfl)))) | (apply e_alloc rfl; (focus ((try simp only [simB0, ZA, reduceEqDiff, ↓reduceIte, reduceAdd, reduceLeDiff, te, tq, w1, w2, w3]); (try with_reducible rfl); done)); (focus (simp only [SO, Bool.and_self, one_encV, one_encVV, te, tq, w1, w2, w3]))) | (apply w_cond; (focus ((try simp only [simB0, ZA, reduceEqDiff, ↓reduceIte, reduceAdd, reduceLeDiff, te, tq, w1, w2, w3]); (try with_reducible rfl); done)); all_goals (intro _hg; (try simp only [ZB] at _hg); try first | exact absurd trivial _hg | (exfalso; omega))))
    refine o_callE (by ((try simp only [simB0, ZA, reduceEqDiff, ↓reduceIte, reduceAdd, reduceLeDiff]); (try with_reducible rfl))) (by ((try simp only [simB0, ZA, reduceEqDiff, ↓reduceIte, reduceAdd, reduceLeDiff]); (try with_reducible rfl))) (medAdj_o hc (b := b) (c := nx) (s := 0) (i := a + q) (lo := a) (hi := a + l) (hHn _) hbn hupd_self' hn hG (by omega) (by omega) hn2 (by omega)) ?_
    rintro _ _ _ ⟨rfl, p1, s1, rfl, k1, k2, hs1, rfl⟩
    rw [hupd_two]
    repeat' (first | apply w_seq | apply w_ops0 | apply a_n | apply o_nil | (apply o_val rfl rfl; (focus ((try simp (disch := omega) only [simB0, ZA, reduceEqDiff, ↓reduceIte, reduceAdd, reduceLeDiff, ZV, reduceCtorEq]); first | with_reducible rfl | (apply s_ite; (focus omega); with_reducible rfl)))))
    refine o_callE (by ((try simp only [simB0, ZA, reduceEqDiff, ↓reduceIte, reduceAdd, reduceLeDiff]); (try with_reducible rfl))) (by ((try simp only [simB0, ZA, reduceEqDiff, ↓reduceIte, reduceAdd, reduceLeDiff]); (try with_reducible rfl))) (medAdj_o hc (b := b) (c := nx) (s := s1) (i := a + q * 2) (lo := a) (hi := a + l) (hHn _) hbn hupd_self' hn hG (by omega) (by omega) hn2 (by omega)) ?_
    rintro _ _ _ ⟨rfl, p2, s2, rfl, k3, k4, hs2, rfl⟩
    rw [hupd_two]
    repeat' (first | apply w_ops0 | apply a_n | apply o_nil | (apply o_val rfl rfl; (focus ((try simp (disch := omega) only [simB0, ZA, reduceEqDiff, ↓reduceIte, reduceAdd, reduceLeDiff, ZV, reduceCtorEq]); first | with_reducible rfl | (apply s_ite; (focus omega); with_reducible rfl)))))
    refine o_callE (by ((try simp only [simB0, ZA, reduceEqDiff, ↓reduceIte, reduceAdd, reduceLeDiff]); (try with_reducible rfl))) (by ((try simp only [simB0, ZA, reduceEqDiff, ↓reduceIte, reduceAdd, reduceLeDiff]); (try with_reducible rfl))) (medAdj_o hc (b := b) (c := nx) (s := s2) (i := a + q * 3) (lo := a) (hi := a + l) (hHn _) hbn hupd_self' hn hG (by omega) (by omega) hn2 (by omega)) ?_
    rintro _ _ _ ⟨rfl, p3, s3, rfl, k5, k6, hs3, rfl⟩
    rw [hupd_two]
    repeat' (first | apply w_ops0 | apply a_n | apply o_nil | (apply o_val rfl rfl; (focus ((try simp (disch := omega) only [simB0, ZA, reduceEqDiff, ↓reduceIte, reduceAdd, reduceLeDiff, ZV, reduceCtorEq]); first | with_reducible rfl | (apply s_ite; (focus omega); with_reducible rfl)))))
    refine o_callE (by ((try simp only [simB0, ZA, reduceEqDiff, ↓reduceIte, reduceAdd, reduceLeDiff]); (try with_reducible rfl))) (by ((try simp only [simB0, ZA, reduceEqDiff, ↓reduceIte, reduceAdd, reduceLeDiff]); (try with_reducible rfl))) (median_o hc (b := b) (c := nx) (s := s3) (i := p1) (j := p2) (k := p3) (lo := a) (hi := a + l) (hHn _) hbn hupd_self' hn hG (by omega) (by omega) (by omega) (by omega) hn2 (by omega)) ?_
    rintro _ _ _ ⟨rfl, p4, s4, rfl, k7, k8, hs4, rfl⟩
    rw [hupd_two]
    repeat' (first | apply w_seq | apply w_ops0 | apply w_block | apply w_ret | apply a_n | apply o_nil | (apply o_val rfl rfl; (focus ((try simp (disch := omega) only [simB0, ZA, reduceEqDiff, ↓reduceIte, reduceAdd, reduceLeDiff, ZV, reduceCtorEq]); first | with_reducible rfl | (apply s_ite; (focus omega); with_reducible rfl)))) | (apply w_cond; (focus ((try simp only [simB0, ZA, reduceEqDiff, ↓reduceIte, reduceAdd, reduceLeDiff]); (try with_reducible rfl); done)); all_goals (intro _hg; (try simp only [ZB] at _hg); try first | exact absurd trivial _hg | (exfalso; omega))) | (refine e_ends rfl ?_) | (apply r_2; (iterate 2 (focus (simp only [rv, simB0, ZA, reduceEqDiff, ↓reduceIte, reduceAdd, reduceLeDiff]; with_reducible rfl)))))
    all_goals exact ⟨rfl, p4, _, _, rfl, by omega, by omega, rfl⟩
  · repeat' (first | apply w_seq | apply w_ops0 | apply w_skip | apply a_n | apply o_nil | (apply o_val rfl rfl; (focus ((try simp (disch := omega) only [simB0, ZA, reduceEqDiff, ↓reduceIte, reduceAdd, reduceLeDiff, ZV, reduceCtorEq, te, tq, w1, w2, w3]); first | with_reducible rfl | (apply s_ite; (focus omega); with_reducible rfl)))) | (apply e_alloc rfl; (focus ((try simp only [simB0, ZA, reduceEqDiff, ↓reduceIte, reduceAdd, reduceLeDiff, te, tq, w1, w2, w3]); (try with_reducible rfl); done)); (focus (simp only [SO, Bool.and_self, one_encV, one_encVV, te, tq, w1, w2, w3]))) | (apply w_cond; (focus ((try simp only [simB0, ZA, reduceEqDiff, ↓reduceIte, reduceAdd, reduceLeDiff, te, tq, w1, w2, w3]); (try with_reducible rfl); done)); all_goals (intro _hg; (try simp only [ZB] at _hg); try first | exact absurd trivial _hg | (exfalso; omega))))
    refine o_callE (by ((try simp only [simB0, ZA, reduceEqDiff, ↓reduceIte, reduceAdd, reduceLeDiff]); (try with_reducible rfl))) (by ((try simp only [simB0, ZA, reduceEqDiff, ↓reduceIte, reduceAdd, reduceLeDiff]); (try with_reducible rfl))) (median_o hc (b := b) (c := nx) (s := 0) (i := a + q) (j := a + q * 2) (k := a + q * 3) (lo := a) (hi := a + l) (hHn _) hbn hupd_self' hn hG (by omega) (by omega) (by omega) (by omega) hn2 (by omega)) ?_
    rintro _ _ _ ⟨rfl, p4, s4, rfl, k7, k8, hs4, rfl⟩
    rw [hupd_two]
    repeat' (first | apply w_seq | apply w_ops0 | apply w_block | apply w_ret | apply a_n | apply o_nil | (apply o_val rfl rfl; (focus ((try simp (disch := omega) only [simB0, ZA, reduceEqDiff, ↓reduceIte, reduceAdd, reduceLeDiff, ZV, reduceCtorEq]); first | with_reducible rfl | (apply s_ite; (focus omega); with_reducible rfl)))) | (apply w_cond; (focus ((try simp only [simB0, ZA, reduceEqDiff, ↓reduceIte, reduceAdd, reduceLeDiff]); (try with_reducible rfl); done)); all_goals (intro _hg; (try simp only [ZB] at _hg); try first | exact absurd trivial _hg | (exfalso; omega))) | (refine e_ends rfl ?_) | (apply r_2; (iterate 2 (focus (simp only [rv, simB0, ZA, reduceEqDiff, ↓reduceIte, reduceAdd, reduceLeDiff]; with_reducible rfl)))))
    all_goals exact ⟨rfl, p4, _, _, rfl, by omega, by omega, rfl⟩
end
end Go.Proofs.YtbiikomnhkbblaaGreat

/- U7o: contracts of functions and plain laws; for all inputs that the theorems name. -/
namespace Go.Proofs.YtbiikomnhkbblaaGreat
open Go Go.Abs
open Nat (reduceEqDiff reduceAdd reduceLeDiff)
section
variable {α : Type} [Inhabited α] {f : α → AV} {K : α → α → Int} {G : α → Prop}
attribute [local irreducible] awp2 aops2 ains aloop athen bbind obind gbind acond res1 Go.Abs.Fn PCall Go.Abs.Pure SnapArgs SnapL Yl
theorem partial_o (hc : CmpO Tryz.prog f K G) {L : List α} {H : Hp} {b nx n a e : Nat} (hH : H b = some (L.map f)) (hn : L.length = n) (hG : ∀ x ∈ L, G x) (hae : a < e) (hen : e ≤ n) (hn2 : n ≤ 1000000000) (hlow : LowR K a e L) :
    Abs.Fn Tryz.prog 105 [.msl b n 1 0 n, .int .i64 a, .int .i64 e] H nx fun r H' nx' => nx' = nx ∧ ∃ L' t, r = .bool t ∧ H' = hupd H b (L'.map f) ∧ PermR a e L L' ∧ (t = true → SortedR K a e L') := by
  refine Abs.Fn.of_c2 follows is105 (Nat.le_of_ble_eq_true rfl) ?_
  simp only [b105, O, G, N, M, D, F, B2, cFal, cTru]
  -- mkU7
  repeat' (first | apply w_seq | apply w_ops0 | apply w_block | apply a_n | apply o_nil | (apply o_val rfl rfl; (focus ((try simp (disch := omega) only [simB0, ZA, reduceEqDiff, ↓reduceIte, reduceAdd, reduceLeDiff, ZV, reduceCtorEq]); first | with_reducible rfl | (apply s_ite; (focus omega); with_reducible rfl)))) | apply w_loop)
  refine loopI (X := Nat × Nat × List α) (fun x => [(0, .msl b n 1 0 n), (1, .int .i64 a), (2, .int .i64 e), (7, .int .i64 (x.2.1 : Nat)), (8, .int .i64 (x.1 : Nat))]) (fun x H' nxx => x.1 ≤ 5 ∧ a + 1 ≤ x.2.1 ∧ x.2.1 ≤ e ∧ H' = hupd H b (x.2.2.map f) ∧ nx = nxx ∧ PermR a e L x.2.2 ∧ SortedR K a x.2.1 x.2.2) (fun x => 5 - x.1) (0, a + 1, L) ⟨by dsimp only; omega, Nat.le_refl _, hae, hupd_id hH, rfl, .refl, SortedR.one (Nat.le_refl _)⟩ (by simp (disch := omega) only [agr, ZG, reduceEqDiff, ↓reduceIte]) ?_
  rintro ⟨jj, i0, M0⟩ H' nxx ⟨h1, h2, h3, rfl, rfl, hp0, hs0⟩
  dsimp only at *
  by_cases h5 : jj = 5
  · subst h5
    repeat' (first | apply w_seq | apply w_ops0 | apply w_exit | apply w_ret | apply a_n | apply a_x | apply o_nil | (apply o_val rfl rfl; (focus ((try simp (disch := omega) only [simB0, ZA, reduceEqDiff, ↓reduceIte, reduceAdd, reduceLeDiff, ZV, reduceCtorEq]); first | with_reducible rfl | (apply s_ite; (focus omega); with_reducible rfl)))) | (apply w_cond; (focus ((try simp only [simB0, ZA, reduceEqDiff, ↓reduceIte, reduceAdd, reduceLeDiff]); (try with_reducible rfl); done)); all_goals (intro _hg; (try simp only [ZB] at _hg); try first | exact absurd trivial _hg | (exfalso; omega))) | (refine e_ends rfl ?_) | (apply r_1; (focus (simp only [rv, simB0, ZA, reduceEqDiff, ↓reduceIte, reduceAdd, reduceLeDiff]; with_reducible rfl))))
    exact ⟨rfl, M0, false, rfl, rfl, hp0, fun h => absurd h (by decide)⟩
  have hl : M0.length = n := by rw [hp0.len, hn]
  have hGM := hp0.mem hG
  refine w_seqC (fun T H'' nx'' => T 0 = .msl b n 1 0 n ∧ T 1 = .int .i64 a ∧ T 2 = .int .i64 e ∧ n = n ∧ T 7 = .int .i64 (i0 : Nat) ∧ T 8 = .int .i64 (jj : Nat) ∧ H'' = hupd H b ((M0).map f) ∧ nx = nx'') ?_ ?_
  · repeat' (first | apply w_seq | apply w_ops0 | apply w_skip | apply a_n | apply o_nil | (apply o_val rfl rfl; (focus ((try simp (disch := omega) only [simB0, ZA, reduceEqDiff, ↓reduceIte, reduceAdd, reduceLeDiff, ZV, reduceCtorEq]); first | with_reducible rfl | (apply s_ite; (focus omega); with_reducible rfl)))) | (apply w_cond; (focus ((try simp only [simB0, ZA, reduceEqDiff, ↓reduceIte, reduceAdd, reduceLeDiff]); (try with_reducible rfl); done)); all_goals (intro _hg; (try simp only [ZB] at _hg); try first | exact absurd trivial _hg | (exfalso; omega))))
    exact ⟨rfl, rfl, rfl, rfl, rfl, rfl, rfl, rfl⟩
  rintro T _ _ ⟨t0, t1, t2, tF, t7, t8, rfl, rfl⟩
  refine w_seqC (fun T H'' nx'' => ∃ (i : Nat) (M : List α), a + 1 ≤ i ∧ i ≤ e ∧ PermR a e L M ∧ SortedR K a i M ∧ T 0 = .msl b n 1 0 n ∧ T 1 = .int .i64 a ∧ T 2 = .int .i64 e ∧ n = n ∧ T 7 = .int .i64 (i : Nat) ∧ T 8 = .int .i64 (jj : Nat) ∧ H'' = hupd H b ((M).map f) ∧ nx = nx'') ?_ ?_
  rotate_left
  · clear t0 t1 t2 tF t7 t8
    rintro T _ _ ⟨i, M, k1, k2, hp, hs, t0, t1, t2, tF, t7, t8, rfl, rfl⟩
    repeat' (first | apply w_ops0 | apply a_n | apply o_nil | (apply o_val rfl rfl; (focus ((try simp (disch := omega) only [simB0, ZA, reduceEqDiff, ↓reduceIte, reduceAdd, reduceLeDiff, ZV, reduceCtorEq, t0, t1, t2, tF, t7, t8]); first | with_reducible rfl | (apply s_ite; (focus omega); with_reducible rfl)))))
    exact ⟨(jj + 1, i, M), by dsimp only; omega, ⟨by dsimp only; omega, k1, k2, rfl, rfl, hp, hs⟩, by simp (disch := omega) only [agr, ZG, reduceEqDiff, ↓reduceIte, t0, t1, t2, tF, t7, t8]⟩
  refine w_block ?_
  refine w_seqC (fun T H'' nx'' => ∃ (i : Nat), a + 1 ≤ i ∧ i ≤ e ∧ SortedR K a i M0 ∧ (i < e → K (M0.getD i default) (M0.getD (i - 1) default) < 0) ∧ T 0 = .msl b n 1 0 n ∧ T 1 = .int .i64 a ∧ T 2 = .int .i64 e ∧ n = n ∧ T 7 = .int .i64 (i : Nat) ∧ T 8 = .int .i64 (jj : Nat) ∧ H'' = hupd H b ((M0).map f) ∧ nx = nx'') ?_ ?_
  · repeat' (first | apply w_block | apply w_loop)
    refine loopI (X := Nat) (fun i => [(0, .msl b n 1 0 n), (1, .int .i64 a), (2, .int .i64 e), (7, .int .i64 (i : Nat)), (8, .int .i64 (jj : Nat))]) (fun i H' nxx => a + 1 ≤ i ∧ i ≤ e ∧ H' = hupd H b (M0.map f) ∧ nx = nxx ∧ SortedR K a i M0) (fun i => e - i) i0 ⟨h2, h3, rfl, rfl, hs0⟩ (by simp (disch := omega) only [agr, ZG, reduceEqDiff, ↓reduceIte, t0, t1, t2, tF, t7, t8]) ?_
    clear hs0 h2 h3
    rintro i H' nxx ⟨h2, h3, rfl, rfl, hs⟩
    by_cases hie : i = e
    · subst hie
      repeat' (first | apply w_seq | apply w_mixS1 | apply w_exit | apply a_n | apply a_x | apply o_nil | (apply o_val rfl rfl; (focus ((try simp (disch := omega) only [simB0, ZA, reduceEqDiff, ↓reduceIte, reduceAdd, reduceLeDiff, ZV, reduceCtorEq]); first | with_reducible rfl | (apply s_ite; (focus omega); with_reducible rfl)))) | (apply o_gF; (focus (simp only [simB0, ZA, reduceEqDiff, ↓reduceIte, reduceAdd, reduceLeDiff, or_true, true_or]; done))) | (apply o_gB; (focus ((try simp only [simB0, ZA, reduceEqDiff, ↓reduceIte, reduceAdd, reduceLeDiff]); (try with_reducible rfl); done)); all_goals (intro _hg; (try simp only [ZB] at _hg); try first | exact absurd trivial _hg | (exfalso; omega))) | (apply w_condF; (focus (simp only [simB0, ZA, reduceEqDiff, ↓reduceIte, reduceAdd, reduceLeDiff]; done))))
      exact ⟨i, h2, h3, hs, fun h => absurd h (Nat.lt_irrefl _), rfl, rfl, rfl, rfl, rfl, rfl, rfl, rfl⟩
    obtain ⟨m, rfl⟩ : ∃ m, i = m + 1 := ⟨i - 1, by omega⟩
    have tj : ((m + 1 : Nat) : Int) - 1 = (m : Int) := by omega
    have lc := hc.run (M0.getD (m + 1) default) (M0.getD m default) (hGM _ (mem_getD (by omega))) (hGM _ (mem_getD (by omega)))
    have e1 := hc.dat (M0.getD (m + 1) default)
    have e2 := hc.dat (M0.getD m default)
    generalize hKK : K (M0.getD (m + 1) default) (M0.getD m default) = kk at lc
    by_cases hlt : kk < 0
    · repeat' (first | apply w_seq | apply w_mixS1 | apply w_exit | apply a_n | apply a_x | apply o_nil | (apply o_val rfl rfl; (focus ((try simp (disch := omega) only [simB0, ZA, reduceEqDiff, ↓reduceIte, reduceAdd, reduceLeDiff, ZV, reduceCtorEq, tj, Int.toNat_natCast, hc.cells, hc.one]); first | with_reducible rfl | (apply s_ite; (focus omega); with_reducible rfl)))) | (apply o_callD; (iterate 2 (focus ((try simp only [simB0, ZA, reduceEqDiff, ↓reduceIte, reduceAdd, reduceLeDiff, tj, Int.toNat_natCast, hc.cells, hc.one]); (try with_reducible rfl); done))); (focus (first | (exact lc))); (focus ((first | refine snap_plain ?_ rfl | apply snap_data); repeat' (first | exact snapL_nil | apply snapL_i | apply snapL_dat | exact e1 | exact e2 | exact snapL_nil)))) | (apply o_gT; (focus (simp only [simB0, ZA, reduceEqDiff, ↓reduceIte, reduceAdd, reduceLeDiff, tj, Int.toNat_natCast, hc.cells, hc.one]; done))) | ((first | apply o_gB | apply w_cond); (focus ((try simp only [simB0, ZA, reduceEqDiff, ↓reduceIte, reduceAdd, reduceLeDiff, tj, Int.toNat_natCast, hc.cells, hc.one]); (try with_reducible rfl); done)); all_goals (intro _hg; (try simp only [ZB] at _hg); try first | exact absurd trivial _hg | (exfalso; omega))))
      exact ⟨m + 1, h2, h3, hs, fun _ => by rw [Nat.add_sub_cancel, hKK]; exact hlt, rfl, rfl, rfl, rfl, rfl, rfl, rfl, rfl⟩
    · repeat' (first | apply w_seq | apply w_ops0 | apply w_mixS1 | apply w_block | apply w_skip | apply a_n | apply o_nil | (apply o_val rfl rfl; (focus ((try simp (disch := omega) only [simB0, ZA, reduceEqDiff, ↓reduceIte, reduceAdd, reduceLeDiff, ZV, reduceCtorEq, tj, Int.toNat_natCast, hc.cells, hc.one]); first | with_reducible rfl | (apply s_ite; (focus omega); with_reducible rfl)))) | (apply o_callD; (iterate 2 (focus ((try simp only [simB0, ZA, reduceEqDiff, ↓reduceIte, reduceAdd, reduceLeDiff, tj, Int.toNat_natCast, hc.cells, hc.one]); (try with_reducible rfl); done))); (focus (first | (exact lc))); (focus ((first | refine snap_plain ?_ rfl | apply snap_data); repeat' (first | exact snapL_nil | apply snapL_i | apply snapL_dat | exact e1 | exact e2 | exact snapL_nil)))) | (apply o_gT; (focus (simp only [simB0, ZA, reduceEqDiff, ↓reduceIte, reduceAdd, reduceLeDiff, tj, Int.toNat_natCast, hc.cells, hc.one]; done))) | ((first | apply o_gB | apply w_cond); (focus ((try simp only [simB0, ZA, reduceEqDiff, ↓reduceIte, reduceAdd, reduceLeDiff, tj, Int.toNat_natCast, hc.cells, hc.one]); (try with_reducible rfl); done)); all_goals (intro _hg; (try simp only [ZB] at _hg); try first | exact absurd trivial _hg | (exfalso; omega))))
      exact ⟨m + 1 + 1, by omega, ⟨by omega, by omega, rfl, rfl, hs.snoc hc.ord (by omega) (by rw [Nat.add_sub_cancel, hKK]; exact hlt)⟩, by simp (disch := omega) only [agr, ZG, reduceEqDiff, ↓reduceIte]⟩
  clear t0 t1 t2 tF t7 t8 hs0 h2 h3
  rintro T _ _ ⟨i, h2, h3, hs, hless, t0, t1, t2, tF, t7, t8, rfl, rfl⟩
  by_cases hie : i = e
  · subst hie
    have ten : decide ((i : Int) = (i : Int)) = true := decide_eq_true rfl
    repeat' (first | apply w_seq | apply w_ops0 | apply w_ret | apply a_n | apply a_r | apply o_nil | (apply o_val rfl rfl; (focus ((try simp (disch := omega) only [simB0, ZA, reduceEqDiff, ↓reduceIte, reduceAdd, reduceLeDiff, ZV, reduceCtorEq, t0, t1, t2, tF, t7, t8, ten]); first | with_reducible rfl | (apply s_ite; (focus omega); with_reducible rfl)))) | (apply w_cond; (focus ((try simp only [simB0, ZA, reduceEqDiff, ↓reduceIte, reduceAdd, reduceLeDiff, t0, t1, t2, tF, t7, t8, ten]); (try with_reducible rfl); done)); all_goals (intro _hg; (try simp only [ZB] at _hg); try first | exact absurd trivial _hg | (exfalso; omega))) | (refine e_ends rfl ?_) | (apply r_1; (focus (simp only [rv, simB0, ZA, reduceEqDiff, ↓reduceIte, reduceAdd, reduceLeDiff, t0, t1, t2, tF, t7, t8, ten]; with_reducible rfl))))
    exact ⟨rfl, M0, true, rfl, rfl, hp0, fun _ => hs⟩
  replace hless := hless (by omega)
  have ten : decide ((i : Int) = (e : Int)) = false := decide_eq_false (by omega)
  refine w_seqC (fun T H'' nx'' => T 0 = .msl b n 1 0 n ∧ T 1 = .int .i64 a ∧ T 2 = .int .i64 e ∧ n = n ∧ T 7 = .int .i64 (i : Nat) ∧ T 8 = .int .i64 (jj : Nat) ∧ H'' = hupd H b ((M0).map f) ∧ nx = nx'') ?_ ?_
  · repeat' (first | apply w_seq | apply w_ops0 | apply w_skip | apply a_n | apply o_nil | (apply o_val rfl rfl; (focus ((try simp (disch := omega) only [simB0, ZA, reduceEqDiff, ↓reduceIte, reduceAdd, reduceLeDiff, ZV, reduceCtorEq, t0, t1, t2, tF, t7, t8, ten]); first | with_reducible rfl | (apply s_ite; (focus omega); with_reducible rfl)))) | (apply w_condF; (focus (simp only [simB0, ZA, reduceEqDiff, ↓reduceIte, reduceAdd, reduceLeDiff, t0, t1, t2, tF, t7, t8, ten]; done))))
    exact ⟨by ((try simp only [simB0, ZA, reduceEqDiff, ↓reduceIte, reduceAdd, reduceLeDiff, t0]); (try with_reducible rfl)), by ((try simp only [simB0, ZA, reduceEqDiff, ↓reduceIte, reduceAdd, reduceLeDiff, t1]); (try with_reducible rfl)), by ((try simp only [simB0, ZA, reduceEqDiff, ↓reduceIte, reduceAdd, reduceLeDiff, t2]); (try with_reducible rfl)), by ((try simp only [simB0, ZA, reduceEqDiff, ↓reduceIte, reduceAdd, reduceLeDiff, tF]); (try with_reducible rfl)), by ((try simp only [simB0, ZA, reduceEqDiff, ↓reduceIte, reduceAdd, reduceLeDiff, t7]); (try with_reducible rfl)), by ((try simp only [simB0, ZA, reduceEqDiff, ↓reduceIte, reduceAdd, reduceLeDiff, t8]); (try with_reducible rfl)), rfl, rfl⟩
  clear t0 t1 t2 tF t7 t8 ten
  rintro T _ _ ⟨t0, t1, t2, tF, t7, t8, rfl, rfl⟩
  refine w_seqC (fun T H'' nx'' => T 0 = .msl b n 1 0 n ∧ T 1 = .int .i64 a ∧ T 2 = .int .i64 e ∧ n = n ∧ T 7 = .int .i64 (i : Nat) ∧ T 8 = .int .i64 (jj : Nat) ∧ H'' = hupd H b ((M0).map f) ∧ nx = nx'') ?_ ?_
  · repeat' (first | apply w_seq | apply w_ops0 | apply w_skip | apply w_ret | apply a_n | apply a_r | apply o_nil | (apply o_val rfl rfl; (focus ((try simp (disch := omega) only [simB0, ZA, reduceEqDiff, ↓reduceIte, reduceAdd, reduceLeDiff, ZV, reduceCtorEq, t0, t1, t2, tF, t7, t8]); first | with_reducible rfl | (apply s_ite; (focus omega); with_reducible rfl)))) | (apply w_cond; (focus ((try simp only [simB0, ZA, reduceEqDiff, ↓reduceIte, reduceAdd, reduceLeDiff, t0, t1, t2, tF, t7, t8]); (try with_reducible rfl); done)); all_goals (intro _hg; (try simp only [ZB] at _hg); try first | exact absurd trivial _hg | (exfalso; omega))) | (refine e_ends rfl ?_) | (apply r_1; (focus (simp only [rv, simB0, ZA, reduceEqDiff, ↓reduceIte, reduceAdd, reduceLeDiff, t0, t1, t2, tF, t7, t8]; with_reducible rfl))))
    · exact ⟨rfl, M0, false, rfl, rfl, hp0, fun h => absurd h (by decide)⟩
    · exact ⟨by ((try simp only [simB0, ZA, reduceEqDiff, ↓reduceIte, reduceAdd, reduceLeDiff, t0]); (try with_reducible rfl)), by ((try simp only [simB0, ZA, reduceEqDiff, ↓reduceIte, reduceAdd, reduceLeDiff, t1]); (try with_reducible rfl)), by ((try simp only [simB0, ZA, reduceEqDiff, ↓reduceIte, reduceAdd, reduceLeDiff, t2]); (try with_reducible rfl)), by ((try simp only [simB0, ZA, reduceEqDiff, ↓reduceIte, reduceAdd, reduceLeDiff, tF]); (try with_reducible rfl)), by ((try simp only [simB0, ZA, reduceEqDiff, ↓reduceIte, reduceAdd, reduceLeDiff, t7]); (try with_reducible rfl)), by ((try simp only [simB0, ZA, reduceEqDiff, ↓reduceIte, reduceAdd, reduceLeDiff, t8]); (try with_reducible rfl)), rfl, rfl⟩
  clear t0 t1 t2 tF t7 t8
  rintro T _ _ ⟨t0, t1, t2, tF, t7, t8, rfl, rfl⟩
  obtain ⟨m, rfl⟩ : ∃ m, i = m + 1 := ⟨i - 1, by omega⟩
  have tj : ((m + 1 : Nat) : Int) - 1 = (m : Int) := by omega
  rw [Nat.add_sub_cancel] at hless
  obtain ⟨M1, hl1, lm1, lm2⟩ := swp_lput (f := f) (M := M0) (i := m + 1) (j := m) (by omega) (by omega)
  have lm3 := lm2
  simp only [lput, List.length_cons, List.length_nil, Nat.zero_add] at lm1 lm2
  refine w_seqC (fun T H'' nx'' => T 0 = .msl b n 1 0 n ∧ T 1 = .int .i64 a ∧ T 2 = .int .i64 e ∧ n = n ∧ T 7 = .int .i64 (m + 1 : Nat) ∧ T 8 = .int .i64 (jj : Nat) ∧ H'' = hupd H b ((swp M0 (m + 1) m).map f) ∧ nx = nx'') ?_ ?_
  · repeat' (first | apply w_ops1 | apply a_n | apply o_nil | (apply o_val rfl rfl; (focus ((try simp (disch := omega) only [simB0, ZA, reduceEqDiff, ↓reduceIte, reduceAdd, reduceLeDiff, ZV, reduceCtorEq, t0, t1, t2, tF, t7, t8, Int.toNat_natCast, hc.cells, hc.one, tj, lm1, lm2]); first | with_reducible rfl | (apply s_ite; (focus omega); with_reducible rfl)))) | (apply e_st rfl; (iterate 4 (focus ((try simp only [simB0, ZA, reduceEqDiff, ↓reduceIte, reduceAdd, reduceLeDiff, t0, t1, t2, tF, t7, t8, Int.toNat_natCast, hc.cells, hc.one, tj, lm1, lm2]); (try with_reducible rfl); done))); (focus (simp only [SO, Bool.and_self, one_encV, one_encVV, t0, t1, t2, tF, t7, t8, Int.toNat_natCast, hc.cells, hc.one, tj, lm1, lm2])); (iterate 3 (focus ((try simp only [SL, reduceAdd, Nat.reduceMul, List.length_map]); first | done | omega)))))
    exact ⟨by ((try simp only [simB0, ZA, reduceEqDiff, ↓reduceIte, reduceAdd, reduceLeDiff, t0]); (try with_reducible rfl)), by ((try simp only [simB0, ZA, reduceEqDiff, ↓reduceIte, reduceAdd, reduceLeDiff, t1]); (try with_reducible rfl)), by ((try simp only [simB0, ZA, reduceEqDiff, ↓reduceIte, reduceAdd, reduceLeDiff, t2]); (try with_reducible rfl)), by ((try simp only [simB0, ZA, reduceEqDiff, ↓reduceIte, reduceAdd, reduceLeDiff, tF]); (try with_reducible rfl)), by ((try simp only [simB0, ZA, reduceEqDiff, ↓reduceIte, reduceAdd, reduceLeDiff, t7]); (try with_reducible rfl)), by ((try simp only [simB0, ZA, reduceEqDiff, ↓reduceIte, reduceAdd, reduceLeDiff, t8]); (try with_reducible rfl)), by rw [hupd_two, hupd_two, lm3], rfl⟩
  clear t0 t1 t2 tF t7 t8
  have hp1 : PermR a e L (swp M0 (m + 1) m) := hp0.trans (PermR.swap (by omega) (by omega) (by omega))
  have hal := (AlmostR.start hs).step hc.ord (by omega) (Nat.le_refl _) (by omega) hless
  clear hs hless lm1 lm2 lm3 hl1 M1
  generalize swp M0 (m + 1) m = M2 at hp1 hal
  clear hp0 hGM hl
  rintro T _ _ ⟨t0, t1, t2, tF, t7, t8, rfl, rfl⟩
  refine w_seqC (fun T H'' nx'' => ∃ M : List α, PermR a e L M ∧ SortedR K a (m + 1) M ∧ T 0 = .msl b n 1 0 n ∧ T 1 = .int .i64 a ∧ T 2 = .int .i64 e ∧ n = n ∧ T 7 = .int .i64 (m + 1 : Nat) ∧ T 8 = .int .i64 (jj : Nat) ∧ H'' = hupd H b ((M).map f) ∧ nx = nx'') ?_ ?_
  · by_cases h2a : m = a
    · subst h2a
      have td : decide ((2 : Int) ≤ ((m + 1 : Nat) : Int) - (m : Int)) = false := decide_eq_false (by omega)
      repeat' (first | apply w_seq | apply w_ops0 | apply w_skip | apply a_n | apply o_nil | (apply o_val rfl rfl; (focus ((try simp (disch := omega) only [simB0, ZA, reduceEqDiff, ↓reduceIte, reduceAdd, reduceLeDiff, ZV, reduceCtorEq, t0, t1, t2, tF, t7, t8, td]); first | with_reducible rfl | (apply s_ite; (focus omega); with_reducible rfl)))) | (apply w_condF; (focus (simp only [simB0, ZA, reduceEqDiff, ↓reduceIte, reduceAdd, reduceLeDiff, t0, t1, t2, tF, t7, t8, td]; done))))
      exact ⟨M2, hp1, (hal.done hc.ord (.inl rfl)).mono (Nat.le_refl _) (by omega), by ((try simp only [simB0, ZA, reduceEqDiff, ↓reduceIte, reduceAdd, reduceLeDiff, t0]); (try with_reducible rfl)), by ((try simp only [simB0, ZA, reduceEqDiff, ↓reduceIte, reduceAdd, reduceLeDiff, t1]); (try with_reducible rfl)), by ((try simp only [simB0, ZA, reduceEqDiff, ↓reduceIte, reduceAdd, reduceLeDiff, t2]); (try with_reducible rfl)), by ((try simp only [simB0, ZA, reduceEqDiff, ↓reduceIte, reduceAdd, reduceLeDiff, tF]); (try with_reducible rfl)), by ((try simp only [simB0, ZA, reduceEqDiff, ↓reduceIte, reduceAdd, reduceLeDiff, t7]); (try with_reducible rfl)), by ((try simp only [simB0, ZA, reduceEqDiff, ↓reduceIte, reduceAdd, reduceLeDiff, t8]); (try with_reducible rfl)), rfl, rfl⟩
    have td : decide ((2 : Int) ≤ ((m + 1 : Nat) : Int) - (a : Int)) = true := decide_eq_true (by omega)
    repeat' (first | apply w_seq | apply w_ops0 | apply w_block | apply a_n | apply o_nil | (apply o_val rfl rfl; (focus ((try simp (disch := omega) only [simB0, ZA, reduceEqDiff, ↓reduceIte, reduceAdd, reduceLeDiff, ZV, reduceCtorEq, t0, t1, t2, tF, t7, t8, td, tj]); first | with_reducible rfl | (apply s_ite; (focus omega); with_reducible rfl)))) | (apply w_condT; (focus (simp only [simB0, ZA, reduceEqDiff, ↓reduceIte, reduceAdd, reduceLeDiff, t0, t1, t2, tF, t7, t8, td, tj]; done))) | apply w_loop)
    refine loopI (X := Nat × List α) (fun x => [(0, .msl b n 1 0 n), (1, .int .i64 a), (2, .int .i64 e), (7, .int .i64 (m + 1 : Nat)), (8, .int .i64 (jj : Nat)), (9, .int .i64 (x.1 : Nat))]) (fun x H' nxx => a ≤ x.1 ∧ x.1 ≤ m ∧ H' = hupd H b (x.2.map f) ∧ nx = nxx ∧ PermR a e L x.2 ∧ AlmostR K a (m + 1) x.1 x.2) (fun x => x.1) (m, M2) ⟨by dsimp only; omega, Nat.le_refl _, rfl, rfl, hp1, hal⟩ (by simp (disch := omega) only [agr, ZG, reduceEqDiff, ↓reduceIte, t0, t1, t2, tF, t7, t8]) ?_
    clear t0 t1 t2 tF t7 t8 hp1 hal M2
    rintro ⟨j, M⟩ H' nxx ⟨a1, a2, rfl, rfl, hp, hal⟩
    dsimp only at *
    have hl : M.length = n := by rw [hp.len, hn]
    have hGM := hp.mem hG
    rcases Nat.eq_zero_or_pos j with ej | ej
    · subst ej
      repeat' (first | apply w_seq | apply w_ops0 | apply w_exit | apply a_n | apply a_x | apply o_nil | (apply o_val rfl rfl; (focus ((try simp (disch := omega) only [simB0, ZA, reduceEqDiff, ↓reduceIte, reduceAdd, reduceLeDiff, ZV, reduceCtorEq]); first | with_reducible rfl | (apply s_ite; (focus omega); with_reducible rfl)))) | (apply w_cond; (focus ((try simp only [simB0, ZA, reduceEqDiff, ↓reduceIte, reduceAdd, reduceLeDiff]); (try with_reducible rfl); done)); all_goals (intro _hg; (try simp only [ZB] at _hg); try first | exact absurd trivial _hg | (exfalso; omega))))
      exact ⟨M, hp, (hal.done hc.ord (.inl (by omega))).mono (Nat.le_refl _) (by omega), rfl, rfl, rfl, rfl, rfl, rfl, rfl, rfl⟩
    obtain ⟨k, rfl⟩ : ∃ k, j = k + 1 := ⟨j - 1, by omega⟩
    have tk : ((k + 1 : Nat) : Int) - 1 = (k : Int) := by omega
    have lc := hc.run (M.getD (k + 1) default) (M.getD k default) (hGM _ (mem_getD (by omega))) (hGM _ (mem_getD (by omega)))
    have e1 := hc.dat (M.getD (k + 1) default)
    have e2 := hc.dat (M.getD k default)
    have hlw := hlow.perm hp (by omega) (by omega)
    generalize hKK : K (M.getD (k + 1) default) (M.getD k default) = kk at lc
    by_cases hlt : kk < 0
    · have hak : k + 1 ≠ a := fun h => by
        subst h
        have := hlw (k + 1) (by omega) (Nat.le_refl _) (by omega)
        rw [Nat.add_sub_cancel, hKK] at this
        exact this hlt
      obtain ⟨M1, hl1, lm1, lm2⟩ := swp_lput (f := f) (M := M) (i := k + 1) (j := k) (by omega) (by omega)
      have lm3 := lm2
      simp only [lput, List.length_cons, List.length_nil, Nat.zero_add] at lm1 lm2
      repeat' (first | apply w_seq | apply w_ops0 | apply w_ops1 | apply w_mixS1 | apply w_block | apply w_skip | apply a_n | apply o_nil | (apply o_val rfl rfl; (focus ((try simp (disch := omega) only [simB0, ZA, reduceEqDiff, ↓reduceIte, reduceAdd, reduceLeDiff, ZV, reduceCtorEq, tk, Int.toNat_natCast, hc.cells, hc.one, lm1, lm2]); first | with_reducible rfl | (apply s_ite; (focus omega); with_reducible rfl)))) | (apply o_callD; (iterate 2 (focus ((try simp only [simB0, ZA, reduceEqDiff, ↓reduceIte, reduceAdd, reduceLeDiff, tk, Int.toNat_natCast, hc.cells, hc.one, lm1, lm2]); (try with_reducible rfl); done))); (focus (first | (exact lc))); (focus ((first | refine snap_plain ?_ rfl | apply snap_data); repeat' (first | exact snapL_nil | apply snapL_i | apply snapL_dat | exact e1 | exact e2 | exact snapL_nil)))) | (apply e_st rfl; (iterate 4 (focus ((try simp only [simB0, ZA, reduceEqDiff, ↓reduceIte, reduceAdd, reduceLeDiff, tk, Int.toNat_natCast, hc.cells, hc.one, lm1, lm2]); (try with_reducible rfl); done))); (focus (simp only [SO, Bool.and_self, one_encV, one_encVV, tk, Int.toNat_natCast, hc.cells, hc.one, lm1, lm2])); (iterate 3 (focus ((try simp only [SL, reduceAdd, Nat.reduceMul, List.length_map]); first | done | omega)))) | (apply w_cond; (focus ((try simp only [simB0, ZA, reduceEqDiff, ↓reduceIte, reduceAdd, reduceLeDiff, tk, Int.toNat_natCast, hc.cells, hc.one, lm1, lm2]); (try with_reducible rfl); done)); all_goals (intro _hg; (try simp only [ZB] at _hg); try first | exact absurd trivial _hg | (exfalso; omega))))
      exact ⟨(k, swp M (k + 1) k), by dsimp only; omega, ⟨by dsimp only; omega, by dsimp only; omega, by dsimp only; rw [hupd_two, hupd_two, lm3], rfl, hp.trans (PermR.swap (by omega) (by omega) (by omega)), hal.step hc.ord (by omega) (by omega) (by omega) (by rw [hKK]; exact hlt)⟩, by simp (disch := omega) only [agr, ZG, reduceEqDiff, ↓reduceIte, tk]⟩
    · have hd : k + 1 = a ∨ (a < k + 1 ∧ ¬ K (M.getD (k + 1) default) (M.getD (k + 1 - 1) default) < 0) := by
        by_cases h : k + 1 = a
        · exact .inl h
        · exact .inr ⟨by omega, by rw [Nat.add_sub_cancel, hKK]; exact hlt⟩
      repeat' (first | apply w_seq | apply w_ops0 | apply w_mixS1 | apply w_block | apply w_skip | apply w_exit | apply a_n | apply a_x | apply o_nil | (apply o_val rfl rfl; (focus ((try simp (disch := omega) only [simB0, ZA, reduceEqDiff, ↓reduceIte, reduceAdd, reduceLeDiff, ZV, reduceCtorEq, tk, Int.toNat_natCast, hc.cells, hc.one]); first | with_reducible rfl | (apply s_ite; (focus omega); with_reducible rfl)))) | (apply o_callD; (iterate 2 (focus ((try simp only [simB0, ZA, reduceEqDiff, ↓reduceIte, reduceAdd, reduceLeDiff, tk, Int.toNat_natCast, hc.cells, hc.one]); (try with_reducible rfl); done))); (focus (first | (exact lc))); (focus ((first | refine snap_plain ?_ rfl | apply snap_data); repeat' (first | exact snapL_nil | apply snapL_i | apply snapL_dat | exact e1 | exact e2 | exact snapL_nil)))) | (apply w_cond; (focus ((try simp only [simB0, ZA, reduceEqDiff, ↓reduceIte, reduceAdd, reduceLeDiff, tk, Int.toNat_natCast, hc.cells, hc.one]); (try with_reducible rfl); done)); all_goals (intro _hg; (try simp only [ZB] at _hg); try first | exact absurd trivial _hg | (exfalso; omega))))
      exact ⟨M, hp, (hal.done hc.ord hd).mono (Nat.le_refl _) (by omega), rfl, rfl, rfl, rfl, rfl, rfl, rfl, rfl⟩
  clear t0 t1 t2 tF t7 t8 hp1 hal M2
  rintro T _ _ ⟨M2, hp1, hs, t0, t1, t2, tF, t7, t8, rfl, rfl⟩
  by_cases h2a : m + 1 + 2 ≤ e
  rotate_left
  · have td : decide ((2 : Int) ≤ (e : Int) - ((m + 1 : Nat) : Int)) = false := decide_eq_false (by omega)
    repeat' (first | apply w_seq | apply w_ops0 | apply w_skip | apply a_n | apply o_nil | (apply o_val rfl rfl; (focus ((try simp (disch := omega) only [simB0, ZA, reduceEqDiff, ↓reduceIte, reduceAdd, reduceLeDiff, ZV, reduceCtorEq, t0, t1, t2, tF, t7, t8, td]); first | with_reducible rfl | (apply s_ite; (focus omega); with_reducible rfl)))) | (apply w_condF; (focus (simp only [simB0, ZA, reduceEqDiff, ↓reduceIte, reduceAdd, reduceLeDiff, t0, t1, t2, tF, t7, t8, td]; done))))
    exact ⟨m + 1, M2, h2, h3, hp1, hs, by ((try simp only [simB0, ZA, reduceEqDiff, ↓reduceIte, reduceAdd, reduceLeDiff, t0]); (try with_reducible rfl)), by ((try simp only [simB0, ZA, reduceEqDiff, ↓reduceIte, reduceAdd, reduceLeDiff, t1]); (try with_reducible rfl)), by ((try simp only [simB0, ZA, reduceEqDiff, ↓reduceIte, reduceAdd, reduceLeDiff, t2]); (try with_reducible rfl)), by ((try simp only [simB0, ZA, reduceEqDiff, ↓reduceIte, reduceAdd, reduceLeDiff, tF]); (try with_reducible rfl)), by ((try simp only [simB0, ZA, reduceEqDiff, ↓reduceIte, reduceAdd, reduceLeDiff, t7]); (try with_reducible rfl)), by ((try simp only [simB0, ZA, reduceEqDiff, ↓reduceIte, reduceAdd, reduceLeDiff, t8]); (try with_reducible rfl)), rfl, rfl⟩
  have td : decide ((2 : Int) ≤ (e : Int) - ((m + 1 : Nat) : Int)) = true := decide_eq_true (by omega)
  have tj2 : ((m + 1 : Nat) : Int) + 1 = ((m + 1 + 1 : Nat) : Int) := by omega
  repeat' (first | apply w_seq | apply w_ops0 | apply w_block | apply a_n | apply o_nil | (apply o_val rfl rfl; (focus ((try simp (disch := omega) only [simB0, ZA, reduceEqDiff, ↓reduceIte, reduceAdd, reduceLeDiff, ZV, reduceCtorEq, t0, t1, t2, tF, t7, t8, td, tj2]); first | with_reducible rfl | (apply s_ite; (focus omega); with_reducible rfl)))) | (apply w_condT; (focus (simp only [simB0, ZA, reduceEqDiff, ↓reduceIte, reduceAdd, reduceLeDiff, t0, t1, t2, tF, t7, t8, td, tj2]; done))) | apply w_loop)
  refine loopI (X := Nat × List α) (fun x => [(0, .msl b n 1 0 n), (1, .int .i64 a), (2, .int .i64 e), (7, .int .i64 (m + 1 : Nat)), (8, .int .i64 (jj : Nat)), (10, .int .i64 (x.1 : Nat))]) (fun x H' nxx => m + 1 + 1 ≤ x.1 ∧ x.1 ≤ e ∧ H' = hupd H b (x.2.map f) ∧ nx = nxx ∧ PermR a e L x.2 ∧ SortedR K a (m + 1) x.2) (fun x => e - x.1) (m + 1 + 1, M2) ⟨Nat.le_refl _, by dsimp only; omega, rfl, rfl, hp1, hs⟩ (by simp (disch := omega) only [agr, ZG, reduceEqDiff, ↓reduceIte, t0, t1, t2, tF, t7, t8]) ?_
  clear t0 t1 t2 tF t7 t8 hp1 hs M2
  rintro ⟨j, M⟩ H' nxx ⟨a1, a2, rfl, rfl, hp, hs⟩
  dsimp only at *
  have hl : M.length = n := by rw [hp.len, hn]
  have hGM := hp.mem hG
  by_cases hje : j = e
  · subst hje
    repeat' (first | apply w_seq | apply w_ops0 | apply w_exit | apply a_n | apply a_x | apply o_nil | (apply o_val rfl rfl; (focus ((try simp (disch := omega) only [simB0, ZA, reduceEqDiff, ↓reduceIte, reduceAdd, reduceLeDiff, ZV, reduceCtorEq]); first | with_reducible rfl | (apply s_ite; (focus omega); with_reducible rfl)))) | (apply w_cond; (focus ((try simp only [simB0, ZA, reduceEqDiff, ↓reduceIte, reduceAdd, reduceLeDiff]); (try with_reducible rfl); done)); all_goals (intro _hg; (try simp only [ZB] at _hg); try first | exact absurd trivial _hg | (exfalso; omega))))
    exact ⟨m + 1, M, h2, h3, hp, hs, rfl, rfl, rfl, rfl, rfl, rfl, rfl, rfl⟩
  obtain ⟨k, rfl⟩ : ∃ k, j = k + 1 := ⟨j - 1, by omega⟩
  have tk : ((k + 1 : Nat) : Int) - 1 = (k : Int) := by omega
  have lc := hc.run (M.getD (k + 1) default) (M.getD k default) (hGM _ (mem_getD (by omega))) (hGM _ (mem_getD (by omega)))
  have e1 := hc.dat (M.getD (k + 1) default)
  have e2 := hc.dat (M.getD k default)
  generalize hKK : K (M.getD (k + 1) default) (M.getD k default) = kk at lc
  by_cases hlt : kk < 0
  · obtain ⟨M1, hl1, lm1, lm2⟩ := swp_lput (f := f) (M := M) (i := k + 1) (j := k) (by omega) (by omega)
    have lm3 := lm2
    simp only [lput, List.length_cons, List.length_nil, Nat.zero_add] at lm1 lm2
    repeat' (first | apply w_seq | apply w_ops0 | apply w_ops1 | apply w_mixS1 | apply w_block | apply w_skip | apply a_n | apply o_nil | (apply o_val rfl rfl; (focus ((try simp (disch := omega) only [simB0, ZA, reduceEqDiff, ↓reduceIte, reduceAdd, reduceLeDiff, ZV, reduceCtorEq, tk, Int.toNat_natCast, hc.cells, hc.one, lm1, lm2]); first | with_reducible rfl | (apply s_ite; (focus omega); with_reducible rfl)))) | (apply o_callD; (iterate 2 (focus ((try simp only [simB0, ZA, reduceEqDiff, ↓reduceIte, reduceAdd, reduceLeDiff, tk, Int.toNat_natCast, hc.cells, hc.one, lm1, lm2]); (try with_reducible rfl); done))); (focus (first | (exact lc))); (focus ((first | refine snap_plain ?_ rfl | apply snap_data); repeat' (first | exact snapL_nil | apply snapL_i | apply snapL_dat | exact e1 | exact e2 | exact snapL_nil)))) | (apply e_st rfl; (iterate 4 (focus ((try simp only [simB0, ZA, reduceEqDiff, ↓reduceIte, reduceAdd, reduceLeDiff, tk, Int.toNat_natCast, hc.cells, hc.one, lm1, lm2]); (try with_reducible rfl); done))); (focus (simp only [SO, Bool.and_self, one_encV, one_encVV, tk, Int.toNat_natCast, hc.cells, hc.one, lm1, lm2])); (iterate 3 (focus ((try simp only [SL, reduceAdd, Nat.reduceMul, List.length_map]); first | done | omega)))) | (apply w_cond; (focus ((try simp only [simB0, ZA, reduceEqDiff, ↓reduceIte, reduceAdd, reduceLeDiff, tk, Int.toNat_natCast, hc.cells, hc.one, lm1, lm2]); (try with_reducible rfl); done)); all_goals (intro _hg; (try simp only [ZB] at _hg); try first | exact absurd trivial _hg | (exfalso; omega))))
    exact ⟨(k + 1 + 1, swp M (k + 1) k), by dsimp only; omega, ⟨by dsimp only; omega, by dsimp only; omega, by dsimp only; rw [hupd_two, hupd_two, lm3], rfl, hp.trans (PermR.swap (by omega) (by omega) (by omega)), hs.out (e := e) (PermR.swap (by omega) (by omega) (by omega))⟩, by simp (disch := omega) only [agr, ZG, reduceEqDiff, ↓reduceIte]⟩
  · repeat' (first | apply w_seq | apply w_ops0 | apply w_mixS1 | apply w_block | apply w_skip | apply w_exit | apply a_n | apply a_x | apply o_nil | (apply o_val rfl rfl; (focus ((try simp (disch := omega) only [simB0, ZA, reduceEqDiff, ↓reduceIte, reduceAdd, reduceLeDiff, ZV, reduceCtorEq, tk, Int.toNat_natCast, hc.cells, hc.one]); first | with_reducible rfl | (apply s_ite; (focus omega); with_reducible rfl)))) | (apply o_callD; (iterate 2 (focus ((try simp only [simB0, ZA, reduceEqDiff, ↓reduceIte, reduceAdd, reduceLeDiff, tk, Int.toNat_natCast, hc.cells, hc.one]); (try with_reducible rfl); done))); (focus (first | (exact lc))); (focus ((first | refine snap_plain ?_ rfl | apply snap_data); repeat' (first | exact snapL_nil | apply snapL_i | apply snapL_dat | exact e1 | exact e2 | exact snapL_nil)))) | (apply w_cond; (focus ((try simp only [simB0, ZA, reduceEqDiff, ↓reduceIte, reduceAdd, reduceLeDiff, tk, Int.toNat_natCast, hc.cells, hc.one]); (try with_reducible rfl); done)); all_goals (intro _hg; (try simp only [ZB] at _hg); try first | exact absurd trivial _hg | (exfalso; omega))))
    exact ⟨m + 1, M, h2, h3, hp, hs, rfl, rfl, rfl, rfl, rfl, rfl, rfl, rfl⟩
end
end Go.Proofs.YtbiikomnhkbblaaGreat

/- U8o: contracts of functions and plain laws; for all inputs that the theorems name. -/
namespace Go.Proofs.YtbiikomnhkbblaaGreat
open Go Go.Abs
open Nat (reduceEqDiff reduceAdd reduceLeDiff)
section
variable {α : Type} [Inhabited α] {f : α → AV} {K : α → α → Int} {G : α → Prop}
attribute [local irreducible] awp2 aops2 ains aloop athen bbind obind gbind acond res1 Go.Abs.Fn PCall Go.Abs.Pure SnapArgs SnapL Yl
theorem parteq_o (hc : CmpO Tryz.prog f K G) {L : List α} {H : Hp} {b nx n a e pv : Nat} (hH : H b = some (L.map f)) (hn : L.length = n) (hG : ∀ x ∈ L, G x) (hae : a < e) (hen : e ≤ n) (hn2 : n ≤ 1000000000) (hpv : a ≤ pv ∧ pv < e) :
    Abs.Fn Tryz.prog 106 [.msl b n 1 0 n, .int .i64 a, .int .i64 e, .int .i64 pv] H nx fun r H' nx' => nx' = nx ∧ ∃ (L' : List α) (m : Nat), r = .int .i64 m ∧ a < m ∧ m ≤ e ∧ H' = hupd H b (L'.map f) ∧ PermR a e L L' ∧ (∀ p, a ≤ p → p < m → ¬ K (L.getD pv default) (L'.getD p default) < 0) ∧ (∀ q, m ≤ q → q < e → K (L.getD pv default) (L'.getD q default) < 0) := by
  obtain ⟨v, hv0⟩ : ∃ v, L.getD pv default = v := ⟨_, rfl⟩
  rw [hv0]
  obtain ⟨P, hP⟩ : ∃ P : α → Prop, ∀ x, P x ↔ ¬ K v x < 0 := ⟨_, fun _ => Iff.rfl⟩
  obtain ⟨N, hN⟩ : ∃ N, swp L a pv = N := ⟨_, rfl⟩
  have hp1 : PermR a e L N := hN ▸ PermR.swap (by omega) (by omega) (by omega)
  have hv1 : N.getD a default = v := by
    rw [← hN, swp_get (by omega) (by omega), ← hv0]
    split
    · rename_i h; rw [h]
    · rw [if_pos rfl]
  obtain ⟨M1, hl1, lm1, lm2⟩ := swp_lput (f := f) (M := L) (i := a) (j := pv) (by omega) (by omega)
  rw [hN] at lm2
  have lm3 := lm2
  simp only [lput, List.length_cons, List.length_nil, Nat.zero_add] at lm1 lm2
  obtain ⟨m, hm⟩ : ∃ m, e = m + 1 := ⟨e - 1, by omega⟩
  have te : (e : Int) - 1 = (m : Int) := by omega
  have ta : ((a : Nat) : Int) + 1 = ((a + 1 : Nat) : Int) := by omega
  refine Abs.Fn.of_c2 follows is106 (Nat.le_of_ble_eq_true rfl) ?_
  simp only [b106, O, G, N, M, D, F, B2, cFal, cTru]
  repeat' (first | apply w_seq | apply w_ops0 | apply w_ops1 | apply w_block | apply a_n | apply o_nil | (apply o_val rfl rfl; (focus ((try simp (disch := omega) only [simB0, ZA, reduceEqDiff, ↓reduceIte, reduceAdd, reduceLeDiff, ZV, reduceCtorEq, hH, te, ta, Int.toNat_natCast, hc.cells, hc.one, lm1, lm2]); first | with_reducible rfl | (apply s_ite; (focus omega); with_reducible rfl)))) | (apply e_st rfl; (iterate 4 (focus ((try simp only [simB0, ZA, reduceEqDiff, ↓reduceIte, reduceAdd, reduceLeDiff, hH, te, ta, Int.toNat_natCast, hc.cells, hc.one, lm1, lm2]); (try with_reducible rfl); done))); (focus (simp only [SO, Bool.and_self, one_encV, one_encVV, hH, te, ta, Int.toNat_natCast, hc.cells, hc.one, lm1, lm2])); (iterate 3 (focus ((try simp only [SL, reduceAdd, Nat.reduceMul, List.length_map]); first | done | omega)))) | apply w_loop)
  refine loopI (X := Nat × Nat × List α) (fun x => [(0, .msl b n 1 0 n), (1, .int .i64 a), (9, .int .i64 (x.1 : Nat)), (10, .int .i64 (x.2.1 : Nat))]) (fun x H' nxx => PartR P a e (x.2.1 + 1 - x.1) x.1 x.2.1 x.2.2 ∧ H' = hupd H b (x.2.2.map f) ∧ nx = nxx ∧ PermR a e L x.2.2 ∧ x.2.2.getD a default = v) (fun x => x.2.1 + 1 - x.1) (a + 1, m, N) ⟨by dsimp only; rw [hm]; exact .start (by omega), by dsimp only; rw [hupd_two, lm3], rfl, hp1, hv1⟩ (by simp (disch := omega) only [agr, ZG, reduceEqDiff, ↓reduceIte]) ?_
  clear lm1 lm2 lm3 hl1 M1 hp1 hv1 hN N te ta hm m
  rintro ⟨i, j, M⟩ H' nxx ⟨hpt, rfl, rfl, hp, hv⟩
  dsimp only at *
  have hl : M.length = n := by rw [hp.len, hn]
  have hGM := hp.mem hG
  generalize hmu : j + 1 - i = mu at hpt ⊢
  clear hmu
  obtain ⟨T, hT, t0, t1, tF, t9, t10⟩ : ∃ T, tl [(0, .msl b n 1 0 n), (1, .int .i64 a), (9, .int .i64 (i : Nat)), (10, .int .i64 (j : Nat))] = T ∧ T 0 = .msl b n 1 0 n ∧ T 1 = .int .i64 a ∧ n = n ∧ T 9 = .int .i64 (i : Nat) ∧ T 10 = .int .i64 (j : Nat) := ⟨_, rfl, rfl, rfl, rfl, rfl, rfl⟩
  rw [hT]
  clear hT
  refine w_block ?_
  refine w_seqC (fun T H'' nx'' => ∃ i : Nat, PartR P a e mu i j M ∧ (i ≤ j → ¬ P (M.getD i default)) ∧ T 0 = .msl b n 1 0 n ∧ T 1 = .int .i64 a ∧ n = n ∧ T 9 = .int .i64 (i : Nat) ∧ T 10 = .int .i64 (j : Nat) ∧ H'' = hupd H b ((M).map f) ∧ nx = nx'') ?_ ?_
  · repeat' (first | apply w_block | apply w_loop)
    refine loopI (X := Nat) (fun i => [(0, .msl b n 1 0 n), (1, .int .i64 a), (9, .int .i64 (i : Nat)), (10, .int .i64 (j : Nat))]) (fun i H' nxx => PartR P a e mu i j M ∧ H' = hupd H b (M.map f) ∧ nx = nxx) (fun i => j + 1 - i) i ⟨hpt, rfl, rfl⟩ (by simp (disch := omega) only [agr, ZG, reduceEqDiff, ↓reduceIte, t0, t1, tF, t9, t10]) ?_
    clear t0 t1 tF t9 t10 hpt i
    rintro i H' nxx ⟨hpt, rfl, rfl⟩
    have hlo := hpt.lo; have hmid := hpt.mid; have hhi := hpt.hi
    have ii : ((i : Nat) : Int) + 1 = ((i + 1 : Nat) : Int) := by omega
    by_cases hij : j < i
    · repeat' (first | apply w_seq | apply w_mixS1 | apply w_exit | apply a_n | apply a_x | apply o_nil | (apply o_val rfl rfl; (focus ((try simp (disch := omega) only [simB0, ZA, reduceEqDiff, ↓reduceIte, reduceAdd, reduceLeDiff, ZV, reduceCtorEq]); first | with_reducible rfl | (apply s_ite; (focus omega); with_reducible rfl)))) | (apply o_gF; (focus (simp only [simB0, ZA, reduceEqDiff, ↓reduceIte, reduceAdd, reduceLeDiff, or_true, true_or]; done))) | (apply o_gB; (focus ((try simp only [simB0, ZA, reduceEqDiff, ↓reduceIte, reduceAdd, reduceLeDiff]); (try with_reducible rfl); done)); all_goals (intro _hg; (try simp only [ZB] at _hg); try first | exact absurd trivial _hg | (exfalso; omega))) | (apply w_condF; (focus (simp only [simB0, ZA, reduceEqDiff, ↓reduceIte, reduceAdd, reduceLeDiff]; done))))
      exact ⟨i, hpt, fun h => absurd h (by omega), rfl, rfl, rfl, rfl, rfl, rfl, rfl⟩
    have lc := hc.run (M.getD (a) default) (M.getD (i) default) (hGM _ (mem_getD (by omega))) (hGM _ (mem_getD (by omega)))
    have e1 := hc.dat (M.getD (a) default)
    have e2 := hc.dat (M.getD (i) default)
    have hPk : P (M.getD (i) default) ↔ ¬ K (M.getD (a) default) (M.getD (i) default) < 0 := by rw [hP, hv]
    generalize hKK : K (M.getD (a) default) (M.getD (i) default) = kk at lc hPk
    by_cases hlt : kk < 0
    · repeat' (first | apply w_seq | apply w_mixS1 | apply w_exit | apply a_n | apply a_x | apply o_nil | (apply o_val rfl rfl; (focus ((try simp (disch := omega) only [simB0, ZA, reduceEqDiff, ↓reduceIte, reduceAdd, reduceLeDiff, ZV, reduceCtorEq, ii, Int.toNat_natCast, hc.cells, hc.one]); first | with_reducible rfl | (apply s_ite; (focus omega); with_reducible rfl)))) | (apply o_callD; (iterate 2 (focus ((try simp only [simB0, ZA, reduceEqDiff, ↓reduceIte, reduceAdd, reduceLeDiff, ii, Int.toNat_natCast, hc.cells, hc.one]); (try with_reducible rfl); done))); (focus (first | (exact lc))); (focus ((first | refine snap_plain ?_ rfl | apply snap_data); repeat' (first | exact snapL_nil | apply snapL_i | apply snapL_dat | exact e1 | exact e2 | exact snapL_nil)))) | (apply o_gT; (focus (simp only [simB0, ZA, reduceEqDiff, ↓reduceIte, reduceAdd, reduceLeDiff, ii, Int.toNat_natCast, hc.cells, hc.one]; done))) | ((first | apply o_gB | apply w_cond); (focus ((try simp only [simB0, ZA, reduceEqDiff, ↓reduceIte, reduceAdd, reduceLeDiff, ii, Int.toNat_natCast, hc.cells, hc.one]); (try with_reducible rfl); done)); all_goals (intro _hg; (try simp only [ZB] at _hg); try first | exact absurd trivial _hg | (exfalso; omega))))
      exact ⟨i, hpt, fun _ => (by rw [hPk]; first | exact hlt | exact fun h => h hlt), rfl, rfl, rfl, rfl, rfl, rfl, rfl⟩
    · repeat' (first | apply w_seq | apply w_ops0 | apply w_mixS1 | apply w_block | apply w_skip | apply a_n | apply o_nil | (apply o_val rfl rfl; (focus ((try simp (disch := omega) only [simB0, ZA, reduceEqDiff, ↓reduceIte, reduceAdd, reduceLeDiff, ZV, reduceCtorEq, ii, Int.toNat_natCast, hc.cells, hc.one]); first | with_reducible rfl | (apply s_ite; (focus omega); with_reducible rfl)))) | (apply o_callD; (iterate 2 (focus ((try simp only [simB0, ZA, reduceEqDiff, ↓reduceIte, reduceAdd, reduceLeDiff, ii, Int.toNat_natCast, hc.cells, hc.one]); (try with_reducible rfl); done))); (focus (first | (exact lc))); (focus ((first | refine snap_plain ?_ rfl | apply snap_data); repeat' (first | exact snapL_nil | apply snapL_i | apply snapL_dat | exact e1 | exact e2 | exact snapL_nil)))) | (apply o_gT; (focus (simp only [simB0, ZA, reduceEqDiff, ↓reduceIte, reduceAdd, reduceLeDiff, ii, Int.toNat_natCast, hc.cells, hc.one]; done))) | ((first | apply o_gB | apply w_cond); (focus ((try simp only [simB0, ZA, reduceEqDiff, ↓reduceIte, reduceAdd, reduceLeDiff, ii, Int.toNat_natCast, hc.cells, hc.one]); (try with_reducible rfl); done)); all_goals (intro _hg; (try simp only [ZB] at _hg); try first | exact absurd trivial _hg | (exfalso; omega))))
      exact ⟨i + 1, by omega, ⟨hpt.stepUp (by omega) (by rw [hPk]; exact hlt), rfl, rfl⟩, by simp (disch := omega) only [agr, ZG, reduceEqDiff, ↓reduceIte]⟩
  clear t0 t1 tF t9 t10 hpt i
  rintro T _ _ ⟨i, hpt, hni, t0, t1, tF, t9, t10, rfl, rfl⟩
  refine w_seqC (fun T H'' nx'' => ∃ j : Nat, PartR P a e mu i j M ∧ (i ≤ j → ¬ P (M.getD i default)) ∧ (i ≤ j → P (M.getD j default)) ∧ T 0 = .msl b n 1 0 n ∧ T 1 = .int .i64 a ∧ n = n ∧ T 9 = .int .i64 (i : Nat) ∧ T 10 = .int .i64 (j : Nat) ∧ H'' = hupd H b ((M).map f) ∧ nx = nx'') ?_ ?_
  · repeat' (first | apply w_block | apply w_loop)
    refine loopI (X := Nat) (fun j => [(0, .msl b n 1 0 n), (1, .int .i64 a), (9, .int .i64 (i : Nat)), (10, .int .i64 (j : Nat))]) (fun j H' nxx => PartR P a e mu i j M ∧ (i ≤ j → ¬ P (M.getD i default)) ∧ H' = hupd H b (M.map f) ∧ nx = nxx) (fun j => j) j ⟨hpt, hni, rfl, rfl⟩ (by simp (disch := omega) only [agr, ZG, reduceEqDiff, ↓reduceIte, t0, t1, tF, t9, t10]) ?_
    clear t0 t1 tF t9 t10 hpt hni j
    rintro j H' nxx ⟨hpt, hni, rfl, rfl⟩
    have hlo := hpt.lo; have hmid := hpt.mid; have hhi := hpt.hi
    by_cases hij : j < i
    · repeat' (first | apply w_seq | apply w_mixS1 | apply w_exit | apply a_n | apply a_x | apply o_nil | (apply o_val rfl rfl; (focus ((try simp (disch := omega) only [simB0, ZA, reduceEqDiff, ↓reduceIte, reduceAdd, reduceLeDiff, ZV, reduceCtorEq]); first | with_reducible rfl | (apply s_ite; (focus omega); with_reducible rfl)))) | (apply o_gF; (focus (simp only [simB0, ZA, reduceEqDiff, ↓reduceIte, reduceAdd, reduceLeDiff, or_true, true_or]; done))) | (apply o_gB; (focus ((try simp only [simB0, ZA, reduceEqDiff, ↓reduceIte, reduceAdd, reduceLeDiff]); (try with_reducible rfl); done)); all_goals (intro _hg; (try simp only [ZB] at _hg); try first | exact absurd trivial _hg | (exfalso; omega))) | (apply w_condF; (focus (simp only [simB0, ZA, reduceEqDiff, ↓reduceIte, reduceAdd, reduceLeDiff]; done))))
      exact ⟨j, hpt, hni, fun h => absurd h (by omega), rfl, rfl, rfl, rfl, rfl, rfl, rfl⟩
    obtain ⟨k, rfl⟩ : ∃ k, j = k + 1 := ⟨j - 1, by omega⟩
    have tk : ((k + 1 : Nat) : Int) - 1 = (k : Int) := by omega
    have lc := hc.run (M.getD (a) default) (M.getD (k + 1) default) (hGM _ (mem_getD (by omega))) (hGM _ (mem_getD (by omega)))
    have e1 := hc.dat (M.getD (a) default)
    have e2 := hc.dat (M.getD (k + 1) default)
    have hPk : P (M.getD (k + 1) default) ↔ ¬ K (M.getD (a) default) (M.getD (k + 1) default) < 0 := by rw [hP, hv]
    generalize hKK : K (M.getD (a) default) (M.getD (k + 1) default) = kk at lc hPk
    by_cases hlt : kk < 0
    · repeat' (first | apply w_seq | apply w_ops0 | apply w_mixS1 | apply w_block | apply w_skip | apply a_n | apply o_nil | (apply o_val rfl rfl; (focus ((try simp (disch := omega) only [simB0, ZA, reduceEqDiff, ↓reduceIte, reduceAdd, reduceLeDiff, ZV, reduceCtorEq, tk, Int.toNat_natCast, hc.cells, hc.one]); first | with_reducible rfl | (apply s_ite; (focus omega); with_reducible rfl)))) | (apply o_callD; (iterate 2 (focus ((try simp only [simB0, ZA, reduceEqDiff, ↓reduceIte, reduceAdd, reduceLeDiff, tk, Int.toNat_natCast, hc.cells, hc.one]); (try with_reducible rfl); done))); (focus (first | (exact lc))); (focus ((first | refine snap_plain ?_ rfl | apply snap_data); repeat' (first | exact snapL_nil | apply snapL_i | apply snapL_dat | exact e1 | exact e2 | exact snapL_nil)))) | (apply o_gT; (focus (simp only [simB0, ZA, reduceEqDiff, ↓reduceIte, reduceAdd, reduceLeDiff, tk, Int.toNat_natCast, hc.cells, hc.one]; done))) | ((first | apply o_gB | apply w_cond); (focus ((try simp only [simB0, ZA, reduceEqDiff, ↓reduceIte, reduceAdd, reduceLeDiff, tk, Int.toNat_natCast, hc.cells, hc.one]); (try with_reducible rfl); done)); all_goals (intro _hg; (try simp only [ZB] at _hg); try first | exact absurd trivial _hg | (exfalso; omega))))
      exact ⟨k, by omega, ⟨hpt.stepDn (by omega) (by rw [hPk]; first | exact hlt | exact fun h => h hlt), fun _ => hni (by omega), rfl, rfl⟩, by simp (disch := omega) only [agr, ZG, reduceEqDiff, ↓reduceIte]⟩
    · repeat' (first | apply w_seq | apply w_mixS1 | apply w_exit | apply a_n | apply a_x | apply o_nil | (apply o_val rfl rfl; (focus ((try simp (disch := omega) only [simB0, ZA, reduceEqDiff, ↓reduceIte, reduceAdd, reduceLeDiff, ZV, reduceCtorEq, tk, Int.toNat_natCast, hc.cells, hc.one]); first | with_reducible rfl | (apply s_ite; (focus omega); with_reducible rfl)))) | (apply o_callD; (iterate 2 (focus ((try simp only [simB0, ZA, reduceEqDiff, ↓reduceIte, reduceAdd, reduceLeDiff, tk, Int.toNat_natCast, hc.cells, hc.one]); (try with_reducible rfl); done))); (focus (first | (exact lc))); (focus ((first | refine snap_plain ?_ rfl | apply snap_data); repeat' (first | exact snapL_nil | apply snapL_i | apply snapL_dat | exact e1 | exact e2 | exact snapL_nil)))) | (apply o_gT; (focus (simp only [simB0, ZA, reduceEqDiff, ↓reduceIte, reduceAdd, reduceLeDiff, tk, Int.toNat_natCast, hc.cells, hc.one]; done))) | ((first | apply o_gB | apply w_cond); (focus ((try simp only [simB0, ZA, reduceEqDiff, ↓reduceIte, reduceAdd, reduceLeDiff, tk, Int.toNat_natCast, hc.cells, hc.one]); (try with_reducible rfl); done)); all_goals (intro _hg; (try simp only [ZB] at _hg); try first | exact absurd trivial _hg | (exfalso; omega))))
      exact ⟨k + 1, hpt, hni, fun _ => (by rw [hPk]; exact hlt), rfl, rfl, rfl, rfl, rfl, rfl, rfl⟩
  clear t0 t1 tF t9 t10 hpt hni j
  rintro T _ _ ⟨j, hpt, hni, hnj, t0, t1, tF, t9, t10, rfl, rfl⟩
  have hlo := hpt.lo; have hmid := hpt.mid; have hhi := hpt.hi
  by_cases hji : j < i
  · repeat' (first | apply w_seq | apply w_ops0 | apply w_exit | apply w_ret | apply a_n | apply a_x | apply o_nil | (apply o_val rfl rfl; (focus ((try simp (disch := omega) only [simB0, ZA, reduceEqDiff, ↓reduceIte, reduceAdd, reduceLeDiff, ZV, reduceCtorEq, t0, t1, tF, t9, t10]); first | with_reducible rfl | (apply s_ite; (focus omega); with_reducible rfl)))) | (apply w_cond; (focus ((try simp only [simB0, ZA, reduceEqDiff, ↓reduceIte, reduceAdd, reduceLeDiff, t0, t1, tF, t9, t10]); (try with_reducible rfl); done)); all_goals (intro _hg; (try simp only [ZB] at _hg); try first | exact absurd trivial _hg | (exfalso; omega))) | (refine e_ends rfl ?_) | (apply r_1; (focus (simp only [rv, simB0, ZA, reduceEqDiff, ↓reduceIte, reduceAdd, reduceLeDiff, t0, t1, tF, t9, t10]; with_reducible rfl))))
    refine ⟨rfl, M, i, rfl, by omega, by omega, rfl, hp, fun p h1 h2 => ?_, fun q h1 h2 => by have := hpt.dn q (by omega) h2; rw [hP] at this; exact Decidable.of_not_not this⟩
    by_cases ep : p = a
    · rw [ep, hv]; exact hc.ord.irr _
    · exact (hP _).1 (hpt.up p (by omega) h2)
  obtain ⟨k, rfl⟩ : ∃ k, j = k + 1 := ⟨j - 1, by omega⟩
  have tk : ((k + 1 : Nat) : Int) - 1 = (k : Int) := by omega
  have ii : ((i : Nat) : Int) + 1 = ((i + 1 : Nat) : Int) := by omega
  obtain ⟨M1, hl1, lm1, lm2⟩ := swp_lput (f := f) (M := M) (i := i) (j := k + 1) (by omega) (by omega)
  have lm3 := lm2
  simp only [lput, List.length_cons, List.length_nil, Nat.zero_add] at lm1 lm2
  repeat' (first | apply w_seq | apply w_ops0 | apply w_ops1 | apply w_skip | apply a_n | apply o_nil | (apply o_val rfl rfl; (focus ((try simp (disch := omega) only [simB0, ZA, reduceEqDiff, ↓reduceIte, reduceAdd, reduceLeDiff, ZV, reduceCtorEq, t0, t1, tF, t9, t10, tk, ii, Int.toNat_natCast, hc.cells, hc.one, lm1, lm2]); first | with_reducible rfl | (apply s_ite; (focus omega); with_reducible rfl)))) | (apply e_st rfl; (iterate 4 (focus ((try simp only [simB0, ZA, reduceEqDiff, ↓reduceIte, reduceAdd, reduceLeDiff, t0, t1, tF, t9, t10, tk, ii, Int.toNat_natCast, hc.cells, hc.one, lm1, lm2]); (try with_reducible rfl); done))); (focus (simp only [SO, Bool.and_self, one_encV, one_encVV, t0, t1, tF, t9, t10, tk, ii, Int.toNat_natCast, hc.cells, hc.one, lm1, lm2])); (iterate 3 (focus ((try simp only [SL, reduceAdd, Nat.reduceMul, List.length_map]); first | done | omega)))) | (apply w_cond; (focus ((try simp only [simB0, ZA, reduceEqDiff, ↓reduceIte, reduceAdd, reduceLeDiff, t0, t1, tF, t9, t10, tk, ii, Int.toNat_natCast, hc.cells, hc.one, lm1, lm2]); (try with_reducible rfl); done)); all_goals (intro _hg; (try simp only [ZB] at _hg); try first | exact absurd trivial _hg | (exfalso; omega))))
  obtain ⟨hq1, hq2⟩ := hpt.swap (by omega) (by omega) (hni (by omega)) (hnj (by omega))
  exact ⟨(i + 1, k, swp M i (k + 1)), hq2, ⟨hq1, by dsimp only; rw [hupd_two, hupd_two, lm3], rfl, hp.trans (PermR.swap (by omega) (by omega) (by omega)), by dsimp only; rw [swp_keep (by omega) (by omega) (by omega) (by omega)]; exact hv⟩, by simp (disch := omega) only [agr, ZG, reduceEqDiff, ↓reduceIte, t0, t1, tF, t9, t10]⟩

theorem part_o (hc : CmpO Tryz.prog f K G) {L : List α} {H : Hp} {b nx n a e pv : Nat} (hH : H b = some (L.map f)) (hn : L.length = n) (hG : ∀ x ∈ L, G x) (hae : a < e) (hen : e ≤ n) (hn2 : n ≤ 1000000000) (hpv : a ≤ pv ∧ pv < e) :
    Abs.Fn Tryz.prog 107 [.msl b n 1 0 n, .int .i64 a, .int .i64 e, .int .i64 pv] H nx fun r H' nx' => nx' = nx ∧ ∃ (L' : List α) (m : Nat) (t : Bool), r = .tup [.int .i64 m, .bool t] ∧ a ≤ m ∧ m < e ∧ H' = hupd H b (L'.map f) ∧ PermR a e L L' ∧ (∀ p, a ≤ p → p < m → K (L'.getD p default) (L'.getD m default) < 0) ∧ (∀ q, m < q → q < e → ¬ K (L'.getD q default) (L'.getD m default) < 0) := by
  obtain ⟨v, hv0⟩ : ∃ v, L.getD pv default = v := ⟨_, rfl⟩
  obtain ⟨P, hP⟩ : ∃ P : α → Prop, ∀ x, P x ↔ K x v < 0 := ⟨_, fun _ => Iff.rfl⟩
  obtain ⟨M, hN⟩ : ∃ N, swp L a pv = N := ⟨_, rfl⟩
  have hp : PermR a e L M := hN ▸ PermR.swap (by omega) (by omega) (by omega)
  have hv : M.getD a default = v := by
    rw [← hN, swp_get (by omega) (by omega), ← hv0]
    split
    · rename_i h; rw [h]
    · rw [if_pos rfl]
  obtain ⟨M1, hl1, lm1, lm2⟩ := swp_lput (f := f) (M := L) (i := a) (j := pv) (by omega) (by omega)
  rw [hN] at lm2
  have lm3 := lm2
  simp only [lput, List.length_cons, List.length_nil, Nat.zero_add] at lm1 lm2
  obtain ⟨m, hm⟩ : ∃ m, e = m + 1 := ⟨e - 1, by omega⟩
  have te : (e : Int) - 1 = (m : Int) := by omega
  have ta : ((a : Nat) : Int) + 1 = ((a + 1 : Nat) : Int) := by omega
  refine Abs.Fn.of_c2 follows is107 (Nat.le_of_ble_eq_true rfl) ?_
  simp only [b107, O, G, N, M, D, F, B2, cFal, cTru]
  refine w_seqC (fun T H'' nx'' => T 0 = .msl b n 1 0 n ∧ T 1 = .int .i64 a ∧ T 2 = .int .i64 e ∧ T 3 = .int .i64 pv ∧ n = n ∧ H = H'' ∧ nx = nx'') ?_ ?_
  · repeat' (first | apply w_ops0 | apply a_n | apply o_nil | (apply o_val rfl rfl; (focus ((try simp (disch := omega) only [simB0, ZA, reduceEqDiff, ↓reduceIte, reduceAdd, reduceLeDiff, ZV, reduceCtorEq]); first | with_reducible rfl | (apply s_ite; (focus omega); with_reducible rfl)))))
    exact ⟨rfl, rfl, rfl, rfl, rfl, rfl, rfl⟩
  rintro T _ _ ⟨t0, t1, t2, t3, tF, rfl, rfl⟩
  refine w_seqC (fun T H'' nx'' => T 0 = .msl b n 1 0 n ∧ T 1 = .int .i64 a ∧ T 2 = .int .i64 e ∧ T 3 = .int .i64 pv ∧ n = n ∧ H'' = hupd H b (M.map f) ∧ nx = nx'') ?_ ?_
  · repeat' (first | apply w_ops1 | apply a_n | apply o_nil | (apply o_val rfl rfl; (focus ((try simp (disch := omega) only [simB0, ZA, reduceEqDiff, ↓reduceIte, reduceAdd, reduceLeDiff, ZV, reduceCtorEq, t0, t1, t2, t3, tF, hH, Int.toNat_natCast, hc.cells, hc.one, lm1, lm2]); first | with_reducible rfl | (apply s_ite; (focus omega); with_reducible rfl)))) | (apply e_st rfl; (iterate 4 (focus ((try simp only [simB0, ZA, reduceEqDiff, ↓reduceIte, reduceAdd, reduceLeDiff, t0, t1, t2, t3, tF, hH, Int.toNat_natCast, hc.cells, hc.one, lm1, lm2]); (try with_reducible rfl); done))); (focus (simp only [SO, Bool.and_self, one_encV, one_encVV, t0, t1, t2, t3, tF, hH, Int.toNat_natCast, hc.cells, hc.one, lm1, lm2])); (iterate 3 (focus ((try simp only [SL, reduceAdd, Nat.reduceMul, List.length_map]); first | done | omega)))))
    exact ⟨by ((try simp only [simB0, ZA, reduceEqDiff, ↓reduceIte, reduceAdd, reduceLeDiff, t0]); (try with_reducible rfl)), by ((try simp only [simB0, ZA, reduceEqDiff, ↓reduceIte, reduceAdd, reduceLeDiff, t1]); (try with_reducible rfl)), by ((try simp only [simB0, ZA, reduceEqDiff, ↓reduceIte, reduceAdd, reduceLeDiff, t2]); (try with_reducible rfl)), by ((try simp only [simB0, ZA, reduceEqDiff, ↓reduceIte, reduceAdd, reduceLeDiff, t3]); (try with_reducible rfl)), by ((try simp only [simB0, ZA, reduceEqDiff, ↓reduceIte, reduceAdd, reduceLeDiff, tF]); (try with_reducible rfl)), by rw [hupd_two, lm3], rfl⟩
  clear t0 t1 t2 t3 tF lm1 lm2 lm3 hl1 M1 hN
  rintro T _ _ ⟨t0, t1, t2, t3, tF, rfl, rfl⟩
  refine w_seqC (fun T H'' nx'' => ∃ mu i j : Nat, PartR P a e mu i j M ∧ T 0 = .msl b n 1 0 n ∧ T 1 = .int .i64 a ∧ n = n ∧ T 10 = .int .i64 (i : Nat) ∧ T 11 = .int .i64 (j : Nat) ∧ H'' = hupd H b ((M).map f) ∧ nx = nx'') ?_ ?_
  · repeat' (first | apply w_ops0 | apply a_n | apply o_nil | (apply o_val rfl rfl; (focus ((try simp (disch := omega) only [simB0, ZA, reduceEqDiff, ↓reduceIte, reduceAdd, reduceLeDiff, ZV, reduceCtorEq, t0, t1, t2, t3, tF, ta, te]); first | with_reducible rfl | (apply s_ite; (focus omega); with_reducible rfl)))))
    exact ⟨_, a + 1, m, by rw [hm]; exact .start (by omega), by ((try simp only [simB0, ZA, reduceEqDiff, ↓reduceIte, reduceAdd, reduceLeDiff, t0]); (try with_reducible rfl)), by ((try simp only [simB0, ZA, reduceEqDiff, ↓reduceIte, reduceAdd, reduceLeDiff, t1]); (try with_reducible rfl)), by ((try simp only [simB0, ZA, reduceEqDiff, ↓reduceIte, reduceAdd, reduceLeDiff, tF]); (try with_reducible rfl)), by ((try simp only [simB0, ZA, reduceEqDiff, ↓reduceIte, reduceAdd, reduceLeDiff]); (try with_reducible rfl)), by ((try simp only [simB0, ZA, reduceEqDiff, ↓reduceIte, reduceAdd, reduceLeDiff]); (try with_reducible rfl)), rfl, rfl⟩
  clear t0 t1 t2 t3 tF ta te hm m
  rintro T _ _ ⟨mu, i, j, hpt, t0, t1, tF, t10, t11, rfl, rfl⟩
  have hl : M.length = n := by rw [hp.len, hn]
  have hGM := hp.mem hG
  refine w_seqC (fun T H'' nx'' => ∃ i : Nat, PartR P a e mu i j M ∧ (i ≤ j → ¬ P (M.getD i default)) ∧ T 0 = .msl b n 1 0 n ∧ T 1 = .int .i64 a ∧ n = n ∧ T 10 = .int .i64 (i : Nat) ∧ T 11 = .int .i64 (j : Nat) ∧ H'' = hupd H b ((M).map f) ∧ nx = nx'') ?_ ?_
  · repeat' (first | apply w_block | apply w_loop)
    refine loopI (X := Nat) (fun i => [(0, .msl b n 1 0 n), (1, .int .i64 a), (10, .int .i64 (i : Nat)), (11, .int .i64 (j : Nat))]) (fun i H' nxx => PartR P a e mu i j M ∧ H' = hupd H b (M.map f) ∧ nx = nxx) (fun i => j + 1 - i) i ⟨hpt, rfl, rfl⟩ (by simp (disch := omega) only [agr, ZG, reduceEqDiff, ↓reduceIte, t0, t1, tF, t10, t11]) ?_
    clear t0 t1 tF t10 t11 hpt i
    rintro i H' nxx ⟨hpt, rfl, rfl⟩
    have hlo := hpt.lo; have hmid := hpt.mid; have hhi := hpt.hi
    have ii : ((i : Nat) : Int) + 1 = ((i + 1 : Nat) : Int) := by omega
    by_cases hij : j < i
    · repeat' (first | apply w_seq | apply w_mixS1 | apply w_exit | apply a_n | apply a_x | apply o_nil | (apply o_val rfl rfl; (focus ((try simp (disch := omega) only [simB0, ZA, reduceEqDiff, ↓reduceIte, reduceAdd, reduceLeDiff, ZV, reduceCtorEq]); first | with_reducible rfl | (apply s_ite; (focus omega); with_reducible rfl)))) | (apply o_gF; (focus (simp only [simB0, ZA, reduceEqDiff, ↓reduceIte, reduceAdd, reduceLeDiff, or_true, true_or]; done))) | (apply o_gB; (focus ((try simp only [simB0, ZA, reduceEqDiff, ↓reduceIte, reduceAdd, reduceLeDiff]); (try with_reducible rfl); done)); all_goals (intro _hg; (try simp only [ZB] at _hg); try first | exact absurd trivial _hg | (exfalso; omega))) | (apply w_condF; (focus (simp only [simB0, ZA, reduceEqDiff, ↓reduceIte, reduceAdd, reduceLeDiff]; done))))
      exact ⟨i, hpt, fun h => absurd h (by omega), rfl, rfl, rfl, rfl, rfl, rfl, rfl⟩
    have lc := hc.run (M.getD (i) default) (M.getD (a) default) (hGM _ (mem_getD (by omega))) (hGM _ (mem_getD (by omega)))
    have e1 := hc.dat (M.getD (i) default)
    have e2 := hc.dat (M.getD (a) default)
    have hPk : P (M.getD (i) default) ↔ K (M.getD (i) default) (M.getD (a) default) < 0 := by rw [hP, hv]
    generalize hKK : K (M.getD (i) default) (M.getD (a) default) = kk at lc hPk
    by_cases hlt : kk < 0
    · repeat' (first | apply w_seq | apply w_ops0 | apply w_mixS1 | apply w_block | apply w_skip | apply a_n | apply o_nil | (apply o_val rfl rfl; (focus ((try simp (disch := omega) only [simB0, ZA, reduceEqDiff, ↓reduceIte, reduceAdd, reduceLeDiff, ZV, reduceCtorEq, ii, Int.toNat_natCast, hc.cells, hc.one]); first | with_reducible rfl | (apply s_ite; (focus omega); with_reducible rfl)))) | (apply o_callD; (iterate 2 (focus ((try simp only [simB0, ZA, reduceEqDiff, ↓reduceIte, reduceAdd, reduceLeDiff, ii, Int.toNat_natCast, hc.cells, hc.one]); (try with_reducible rfl); done))); (focus (first | (exact lc))); (focus ((first | refine snap_plain ?_ rfl | apply snap_data); repeat' (first | exact snapL_nil | apply snapL_i | apply snapL_dat | exact e1 | exact e2 | exact snapL_nil)))) | (apply o_gT; (focus (simp only [simB0, ZA, reduceEqDiff, ↓reduceIte, reduceAdd, reduceLeDiff, ii, Int.toNat_natCast, hc.cells, hc.one]; done))) | ((first | apply o_gB | apply w_cond); (focus ((try simp only [simB0, ZA, reduceEqDiff, ↓reduceIte, reduceAdd, reduceLeDiff, ii, Int.toNat_natCast, hc.cells, hc.one]); (try with_reducible rfl); done)); all_goals (intro _hg; (try simp only [ZB] at _hg); try first | exact absurd trivial _hg | (exfalso; omega))))
      exact ⟨i + 1, by omega, ⟨hpt.stepUp (by omega) (by rw [hPk]; exact hlt), rfl, rfl⟩, by simp (disch := omega) only [agr, ZG, reduceEqDiff, ↓reduceIte]⟩
    · repeat' (first | apply w_seq | apply w_mixS1 | apply w_exit | apply a_n | apply a_x | apply o_nil | (apply o_val rfl rfl; (focus ((try simp (disch := omega) only [simB0, ZA, reduceEqDiff, ↓reduceIte, reduceAdd, reduceLeDiff, ZV, reduceCtorEq, ii, Int.toNat_natCast, hc.cells, hc.one]); first | with_reducible rfl | (apply s_ite; (focus omega); with_reducible rfl)))) | (apply o_callD; (iterate 2 (focus ((try simp only [simB0, ZA, reduceEqDiff, ↓reduceIte, reduceAdd, reduceLeDiff, ii, Int.toNat_natCast, hc.cells, hc.one]); (try with_reducible rfl); done))); (focus (first | (exact lc))); (focus ((first | refine snap_plain ?_ rfl | apply snap_data); repeat' (first | exact snapL_nil | apply snapL_i | apply snapL_dat | exact e1 | exact e2 | exact snapL_nil)))) | (apply o_gT; (focus (simp only [simB0, ZA, reduceEqDiff, ↓reduceIte, reduceAdd, reduceLeDiff, ii, Int.toNat_natCast, hc.cells, hc.one]; done))) | ((first | apply o_gB | apply w_cond); (focus ((try simp only [simB0, ZA, reduceEqDiff, ↓reduceIte, reduceAdd, reduceLeDiff, ii, Int.toNat_natCast, hc.cells, hc.one]); (try with_reducible rfl); done)); all_goals (intro _hg; (try simp only [ZB] at _hg); try first | exact absurd trivial _hg | (exfalso; omega))))
      exact ⟨i, hpt, fun _ => (by rw [hPk]; first | exact hlt | exact fun h => h hlt), rfl, rfl, rfl, rfl, rfl, rfl, rfl⟩
  clear t0 t1 tF t10 t11 hpt i
  rintro T _ _ ⟨i, hpt, hni, t0, t1, tF, t10, t11, rfl, rfl⟩
  refine w_seqC (fun T H'' nx'' => ∃ j : Nat, PartR P a e mu i j M ∧ (i ≤ j → ¬ P (M.getD i default)) ∧ (i ≤ j → P (M.getD j default)) ∧ T 0 = .msl b n 1 0 n ∧ T 1 = .int .i64 a ∧ n = n ∧ T 10 = .int .i64 (i : Nat) ∧ T 11 = .int .i64 (j : Nat) ∧ H'' = hupd H b ((M).map f) ∧ nx = nx'') ?_ ?_
  · repeat' (first | apply w_block | apply w_loop)
    refine loopI (X := Nat) (fun j => [(0, .msl b n 1 0 n), (1, .int .i64 a), (10, .int .i64 (i : Nat)), (11, .int .i64 (j : Nat))]) (fun j H' nxx => PartR P a e mu i j M ∧ (i ≤ j → ¬ P (M.getD i default)) ∧ H' = hupd H b (M.map f) ∧ nx = nxx) (fun j => j) j ⟨hpt, hni, rfl, rfl⟩ (by simp (disch := omega) only [agr, ZG, reduceEqDiff, ↓reduceIte, t0, t1, tF, t10, t11]) ?_
    clear t0 t1 tF t10 t11 hpt hni j
    rintro j H' nxx ⟨hpt, hni, rfl, rfl⟩
    have hlo := hpt.lo; have hmid := hpt.mid; have hhi := hpt.hi
    by_cases hij : j < i
    · repeat' (first | apply w_seq | apply w_mixS1 | apply w_exit | apply a_n | apply a_x | apply o_nil | (apply o_val rfl rfl; (focus ((try simp (disch := omega) only [simB0, ZA, reduceEqDiff, ↓reduceIte, reduceAdd, reduceLeDiff, ZV, reduceCtorEq]); first | with_reducible rfl | (apply s_ite; (focus omega); with_reducible rfl)))) | (apply o_gF; (focus (simp only [simB0, ZA, reduceEqDiff, ↓reduceIte, reduceAdd, reduceLeDiff, or_true, true_or]; done))) | (apply o_gB; (focus ((try simp only [simB0, ZA, reduceEqDiff, ↓reduceIte, reduceAdd, reduceLeDiff]); (try with_reducible rfl); done)); all_goals (intro _hg; (try simp only [ZB] at _hg); try first | exact absurd trivial _hg | (exfalso; omega))) | (apply w_condF; (focus (simp only [simB0, ZA, reduceEqDiff, ↓reduceIte, reduceAdd, reduceLeDiff]; done))))
      exact ⟨j, hpt, hni, fun h => absurd h (by omega), rfl, rfl, rfl, rfl, rfl, rfl, rfl⟩
    obtain ⟨k, rfl⟩ : ∃ k, j = k + 1 := ⟨j - 1, by omega⟩
    have tk : ((k + 1 : Nat) : Int) - 1 = (k : Int) := by omega
    have lc := hc.run (M.getD (k + 1) default) (M.getD (a) default) (hGM _ (mem_getD (by omega))) (hGM _ (mem_getD (by omega)))
    have e1 := hc.dat (M.getD (k + 1) default)
    have e2 := hc.dat (M.getD (a) default)
    have hPk : P (M.getD (k + 1) default) ↔ K (M.getD (k + 1) default) (M.getD (a) default) < 0 := by rw [hP, hv]
    generalize hKK : K (M.getD (k + 1) default) (M.getD (a) default) = kk at lc hPk
    by_cases hlt : kk < 0
    · repeat' (first | apply w_seq | apply w_mixS1 | apply w_exit | apply a_n | apply a_x | apply o_nil | (apply o_val rfl rfl; (focus ((try simp (disch := omega) only [simB0, ZA, reduceEqDiff, ↓reduceIte, reduceAdd, reduceLeDiff, ZV, reduceCtorEq, tk, Int.toNat_natCast, hc.cells, hc.one]); first | with_reducible rfl | (apply s_ite; (focus omega); with_reducible rfl)))) | (apply o_callD; (iterate 2 (focus ((try simp only [simB0, ZA, reduceEqDiff, ↓reduceIte, reduceAdd, reduceLeDiff, tk, Int.toNat_natCast, hc.cells, hc.one]); (try with_reducible rfl); done))); (focus (first | (exact lc))); (focus ((first | refine snap_plain ?_ rfl | apply snap_data); repeat' (first | exact snapL_nil | apply snapL_i | apply snapL_dat | exact e1 | exact e2 | exact snapL_nil)))) | (apply o_gT; (focus (simp only [simB0, ZA, reduceEqDiff, ↓reduceIte, reduceAdd, reduceLeDiff, tk, Int.toNat_natCast, hc.cells, hc.one]; done))) | ((first | apply o_gB | apply w_cond); (focus ((try simp only [simB0, ZA, reduceEqDiff, ↓reduceIte, reduceAdd, reduceLeDiff, tk, Int.toNat_natCast, hc.cells, hc.one]); (try with_reducible rfl); done)); all_goals (intro _hg; (try simp only [ZB] at _hg); try first | exact absurd trivial _hg | (exfalso; omega))))
      exact ⟨k + 1, hpt, hni, fun _ => (by rw [hPk]; exact hlt), rfl, rfl, rfl, rfl, rfl, rfl, rfl⟩
    · repeat' (first | apply w_seq | apply w_ops0 | apply w_mixS1 | apply w_block | apply w_skip | apply a_n | apply o_nil | (apply o_val rfl rfl; (focus ((try simp (disch := omega) only [simB0, ZA, reduceEqDiff, ↓reduceIte, reduceAdd, reduceLeDiff, ZV, reduceCtorEq, tk, Int.toNat_natCast, hc.cells, hc.one]); first | with_reducible rfl | (apply s_ite; (focus omega); with_reducible rfl)))) | (apply o_callD; (iterate 2 (focus ((try simp only [simB0, ZA, reduceEqDiff, ↓reduceIte, reduceAdd, reduceLeDiff, tk, Int.toNat_natCast, hc.cells, hc.one]); (try with_reducible rfl); done))); (focus (first | (exact lc))); (focus ((first | refine snap_plain ?_ rfl | apply snap_data); repeat' (first | exact snapL_nil | apply snapL_i | apply snapL_dat | exact e1 | exact e2 | exact snapL_nil)))) | (apply o_gT; (focus (simp only [simB0, ZA, reduceEqDiff, ↓reduceIte, reduceAdd, reduceLeDiff, tk, Int.toNat_natCast, hc.cells, hc.one]; done))) | ((first | apply o_gB | apply w_cond); (focus ((try simp only [simB0, ZA, reduceEqDiff, ↓reduceIte, reduceAdd, reduceLeDiff, tk, Int.toNat_natCast, hc.cells, hc.one]); (try with_reducible rfl); done)); all_goals (intro _hg; (try simp only [ZB] at _hg); try first | exact absurd trivial _hg | (exfalso; omega))))
      exact ⟨k, by omega, ⟨hpt.stepDn (by omega) (by rw [hPk]; first | exact hlt | exact fun h => h hlt), fun _ => hni (by omega), rfl, rfl⟩, by simp (disch := omega) only [agr, ZG, reduceEqDiff, ↓reduceIte]⟩
  clear t0 t1 tF t10 t11 hpt hni j
  rintro T _ _ ⟨j, hpt, hni, hnj, t0, t1, tF, t10, t11, rfl, rfl⟩
  have hlo := hpt.lo; have hmid := hpt.mid; have hhi := hpt.hi
  by_cases hji : j < i
  · clear hni hnj
    obtain ⟨z1, z2, z3, z4⟩ := hpt.done hc.ord (by omega) hji hv hP
    obtain ⟨M1, hl1, lm1, lm2⟩ := swp_lput (f := f) (M := M) (i := j) (j := a) (by omega) (by omega)
    have lm3 := lm2
    simp only [lput, List.length_cons, List.length_nil, Nat.zero_add] at lm1 lm2
    repeat' (first | apply w_seq | apply w_ops0 | apply w_ops1 | apply w_ret | apply a_n | apply a_r | apply o_nil | (apply o_val rfl rfl; (focus ((try simp (disch := omega) only [simB0, ZA, reduceEqDiff, ↓reduceIte, reduceAdd, reduceLeDiff, ZV, reduceCtorEq, t0, t1, tF, t10, t11, Int.toNat_natCast, hc.cells, hc.one, lm1, lm2]); first | with_reducible rfl | (apply s_ite; (focus omega); with_reducible rfl)))) | (apply e_st rfl; (iterate 4 (focus ((try simp only [simB0, ZA, reduceEqDiff, ↓reduceIte, reduceAdd, reduceLeDiff, t0, t1, tF, t10, t11, Int.toNat_natCast, hc.cells, hc.one, lm1, lm2]); (try with_reducible rfl); done))); (focus (simp only [SO, Bool.and_self, one_encV, one_encVV, t0, t1, tF, t10, t11, Int.toNat_natCast, hc.cells, hc.one, lm1, lm2])); (iterate 3 (focus ((try simp only [SL, reduceAdd, Nat.reduceMul, List.length_map]); first | done | omega)))) | (apply w_cond; (focus ((try simp only [simB0, ZA, reduceEqDiff, ↓reduceIte, reduceAdd, reduceLeDiff, t0, t1, tF, t10, t11, Int.toNat_natCast, hc.cells, hc.one, lm1, lm2]); (try with_reducible rfl); done)); all_goals (intro _hg; (try simp only [ZB] at _hg); try first | exact absurd trivial _hg | (exfalso; omega))) | (refine e_ends rfl ?_) | (apply r_2; (iterate 2 (focus (simp only [rv, simB0, ZA, reduceEqDiff, ↓reduceIte, reduceAdd, reduceLeDiff, t0, t1, tF, t10, t11, Int.toNat_natCast, hc.cells, hc.one, lm1, lm2]; with_reducible rfl)))))
    exact ⟨rfl, swp M j a, j, true, rfl, z1, z2, by rw [hupd_two, hupd_two, lm3], hp.trans (PermR.swap (by omega) (by omega) (by omega)), z3, z4⟩
  obtain ⟨k, rfl⟩ : ∃ k, j = k + 1 := ⟨j - 1, by omega⟩
  have tk : ((k + 1 : Nat) : Int) - 1 = (k : Int) := by omega
  have ii : ((i : Nat) : Int) + 1 = ((i + 1 : Nat) : Int) := by omega
  obtain ⟨M1, hl1, lm1, lm2⟩ := swp_lput (f := f) (M := M) (i := i) (j := k + 1) (by omega) (by omega)
  have lm3 := lm2
  simp only [lput, List.length_cons, List.length_nil, Nat.zero_add] at lm1 lm2
  repeat' (first | apply w_seq | apply w_ops0 | apply w_ops1 | apply w_block | apply w_skip | apply a_n | apply o_nil | (apply o_val rfl rfl; (focus ((try simp (disch := omega) only [simB0, ZA, reduceEqDiff, ↓reduceIte, reduceAdd, reduceLeDiff, ZV, reduceCtorEq, t0, t1, tF, t10, t11, tk, ii, Int.toNat_natCast, hc.cells, hc.one, lm1, lm2]); first | with_reducible rfl | (apply s_ite; (focus omega); with_reducible rfl)))) | (apply e_st rfl; (iterate 4 (focus ((try simp only [simB0, ZA, reduceEqDiff, ↓reduceIte, reduceAdd, reduceLeDiff, t0, t1, tF, t10, t11, tk, ii, Int.toNat_natCast, hc.cells, hc.one, lm1, lm2]); (try with_reducible rfl); done))); (focus (simp only [SO, Bool.and_self, one_encV, one_encVV, t0, t1, tF, t10, t11, tk, ii, Int.toNat_natCast, hc.cells, hc.one, lm1, lm2])); (iterate 3 (focus ((try simp only [SL, reduceAdd, Nat.reduceMul, List.length_map]); first | done | omega)))) | (apply w_cond; (focus ((try simp only [simB0, ZA, reduceEqDiff, ↓reduceIte, reduceAdd, reduceLeDiff, t0, t1, tF, t10, t11, tk, ii, Int.toNat_natCast, hc.cells, hc.one, lm1, lm2]); (try with_reducible rfl); done)); all_goals (intro _hg; (try simp only [ZB] at _hg); try first | exact absurd trivial _hg | (exfalso; omega))) | apply w_loop)
  obtain ⟨hq1, hq2⟩ := hpt.swap (by omega) (by omega) (hni (by omega)) (hnj (by omega))
  have hp2 : PermR a e L (swp M i (k + 1)) := hp.trans (PermR.swap (by omega) (by omega) (by omega))
  have hv2 : (swp M i (k + 1)).getD a default = v := by rw [swp_keep (by omega) (by omega) (by omega) (by omega)]; exact hv
  refine loopI (X := Nat × Nat × List α) (fun x => [(0, .msl b n 1 0 n), (1, .int .i64 a), (10, .int .i64 (x.1 : Nat)), (11, .int .i64 (x.2.1 : Nat))]) (fun x H' nxx => PartR P a e (x.2.1 + 1 - x.1) x.1 x.2.1 x.2.2 ∧ H' = hupd H b (x.2.2.map f) ∧ nx = nxx ∧ PermR a e L x.2.2 ∧ x.2.2.getD a default = v) (fun x => x.2.1 + 1 - x.1) (i + 1, k, swp M i (k + 1)) ⟨hq1, by dsimp only; rw [hupd_two, hupd_two, lm3], rfl, hp2, hv2⟩ (by simp (disch := omega) only [agr, ZG, reduceEqDiff, ↓reduceIte, t0, t1, tF, t10, t11]) ?_
  clear t0 t1 tF t10 t11 lm1 lm2 lm3 hl1 M1 hp2 hv2 hq1 hq2 hpt hni hnj hp hv hGM
  rintro ⟨i, j, M⟩ H' nxx ⟨hpt, rfl, rfl, hp, hv⟩
  dsimp only at *
  have hl : M.length = n := by rw [hp.len, hn]
  have hGM := hp.mem hG
  generalize hmu : j + 1 - i = mu at hpt ⊢
  clear hmu
  obtain ⟨T, hT, t0, t1, tF, t10, t11⟩ : ∃ T, tl [(0, .msl b n 1 0 n), (1, .int .i64 a), (10, .int .i64 (i : Nat)), (11, .int .i64 (j : Nat))] = T ∧ T 0 = .msl b n 1 0 n ∧ T 1 = .int .i64 a ∧ n = n ∧ T 10 = .int .i64 (i : Nat) ∧ T 11 = .int .i64 (j : Nat) := ⟨_, rfl, rfl, rfl, rfl, rfl, rfl⟩
  rw [hT]
  clear hT
  refine w_block ?_
  refine w_seqC (fun T H'' nx'' => ∃ i : Nat, PartR P a e mu i j M ∧ (i ≤ j → ¬ P (M.getD i default)) ∧ T 0 = .msl b n 1 0 n ∧ T 1 = .int .i64 a ∧ n = n ∧ T 10 = .int .i64 (i : Nat) ∧ T 11 = .int .i64 (j : Nat) ∧ H'' = hupd H b ((M).map f) ∧ nx = nx'') ?_ ?_
  · repeat' (first | apply w_block | apply w_loop)
    refine loopI (X := Nat) (fun i => [(0, .msl b n 1 0 n), (1, .int .i64 a), (10, .int .i64 (i : Nat)), (11, .int .i64 (j : Nat))]) (fun i H' nxx => PartR P a e mu i j M ∧ H' = hupd H b (M.map f) ∧ nx = nxx) (fun i => j + 1 - i) i ⟨hpt, rfl, rfl⟩ (by simp (disch := omega) only [agr, ZG, reduceEqDiff, ↓reduceIte, t0, t1, tF, t10, t11]) ?_
    clear t0 t1 tF t10 t11 hpt i
    rintro i H' nxx ⟨hpt, rfl, rfl⟩
    have hlo := hpt.lo; have hmid := hpt.mid; have hhi := hpt.hi
    have ii : ((i : Nat) : Int) + 1 = ((i + 1 : Nat) : Int) := by omega
    by_cases hij : j < i
    · repeat' (first | apply w_seq | apply w_mixS1 | apply w_exit | apply a_n | apply a_x | apply o_nil | (apply o_val rfl rfl; (focus ((try simp (disch := omega) only [simB0, ZA, reduceEqDiff, ↓reduceIte, reduceAdd, reduceLeDiff, ZV, reduceCtorEq]); first | with_reducible rfl | (apply s_ite; (focus omega); with_reducible rfl)))) | (apply o_gF; (focus (simp only [simB0, ZA, reduceEqDiff, ↓reduceIte, reduceAdd, reduceLeDiff, or_true, true_or]; done))) | (apply o_gB; (focus ((try simp only [simB0, ZA, reduceEqDiff, ↓reduceIte, reduceAdd, reduceLeDiff]); (try with_reducible rfl); done)); all_goals (intro _hg; (try simp only [ZB] at _hg); try first | exact absurd trivial _hg | (exfalso; omega))) | (apply w_condF; (focus (simp only [simB0, ZA, reduceEqDiff, ↓reduceIte, reduceAdd, reduceLeDiff]; done))))
      exact ⟨i, hpt, fun h => absurd h (by omega), rfl, rfl, rfl, rfl, rfl, rfl, rfl⟩
    have lc := hc.run (M.getD (i) default) (M.getD (a) default) (hGM _ (mem_getD (by omega))) (hGM _ (mem_getD (by omega)))
    have e1 := hc.dat (M.getD (i) default)
    have e2 := hc.dat (M.getD (a) default)
    have hPk : P (M.getD (i) default) ↔ K (M.getD (i) default) (M.getD (a) default) < 0 := by rw [hP, hv]
    generalize hKK : K (M.getD (i) default) (M.getD (a) default) = kk at lc hPk
    by_cases hlt : kk < 0
    · repeat' (first | apply w_seq | apply w_ops0 | apply w_mixS1 | apply w_block | apply w_skip | apply a_n | apply o_nil | (apply o_val rfl rfl; (focus ((try simp (disch := omega) only [simB0, ZA, reduceEqDiff, ↓reduceIte, reduceAdd, reduceLeDiff, ZV, reduceCtorEq, ii, Int.toNat_natCast, hc.cells, hc.one]); first | with_reducible rfl | (apply s_ite; (focus omega); with_reducible rfl)))) | (apply o_callD; (iterate 2 (focus ((try simp only [simB0, ZA, reduceEqDiff, ↓reduceIte, reduceAdd, reduceLeDiff, ii, Int.toNat_natCast, hc.cells, hc.one]); (try with_reducible rfl); done))); (focus (first | (exact lc))); (focus ((first | refine snap_plain ?_ rfl | apply snap_data); repeat' (first | exact snapL_nil | apply snapL_i | apply snapL_dat | exact e1 | exact e2 | exact snapL_nil)))) | (apply o_gT; (focus (simp only [simB0, ZA, reduceEqDiff, ↓reduceIte, reduceAdd, reduceLeDiff, ii, Int.toNat_natCast, hc.cells, hc.one]; done))) | ((first | apply o_gB | apply w_cond); (focus ((try simp only [simB0, ZA, reduceEqDiff, ↓reduceIte, reduceAdd, reduceLeDiff, ii, Int.toNat_natCast, hc.cells, hc.one]); (try with_reducible rfl); done)); all_goals (intro _hg; (try simp only [ZB] at _hg); try first | exact absurd trivial _hg | (exfalso; omega))))
      exact ⟨i + 1, by omega, ⟨hpt.stepUp (by omega) (by rw [hPk]; exact hlt), rfl, rfl⟩, by simp (disch := omega) only [agr, ZG, reduceEqDiff, ↓reduceIte]⟩
    · repeat' (first | apply w_seq | apply w_mixS1 | apply w_exit | apply a_n | apply a_x | apply o_nil | (apply o_val rfl rfl; (focus ((try simp (disch := omega) only [simB0, ZA, reduceEqDiff, ↓reduceIte, reduceAdd, reduceLeDiff, ZV, reduceCtorEq, ii, Int.toNat_natCast, hc.cells, hc.one]); first | with_reducible rfl | (apply s_ite; (focus omega); with_reducible rfl)))) | (apply o_callD; (iterate 2 (focus ((try simp only [simB0, ZA, reduceEqDiff, ↓reduceIte, reduceAdd, reduceLeDiff, ii, Int.toNat_natCast, hc.cells, hc.one]); (try with_reducible rfl); done))); (focus (first | (exact lc))); (focus ((first | refine snap_plain ?_ rfl | apply snap_data); repeat' (first | exact snapL_nil | apply snapL_i | apply snapL_dat | exact e1 | exact e2 | exact snapL_nil)))) | (apply o_gT; (focus (simp only [simB0, ZA, reduceEqDiff, ↓reduceIte, reduceAdd, reduceLeDiff, ii, Int.toNat_natCast, hc.cells, hc.one]; done))) | ((first | apply o_gB | apply w_cond); (focus ((try simp only [simB0, ZA, reduceEqDiff, ↓reduceIte, reduceAdd, reduceLeDiff, ii, Int.toNat_natCast, hc.cells, hc.one]); (try with_reducible rfl); done)); all_goals (intro _hg; (try simp only [ZB] at _hg); try first | exact absurd trivial _hg | (exfalso; omega))))
      exact ⟨i, hpt, fun _ => (by rw [hPk]; first | exact hlt | exact fun h => h hlt), rfl, rfl, rfl, rfl, rfl, rfl, rfl⟩
  clear t0 t1 tF t10 t11 hpt i
  rintro T _ _ ⟨i, hpt, hni, t0, t1, tF, t10, t11, rfl, rfl⟩
  refine w_seqC (fun T H'' nx'' => ∃ j : Nat, PartR P a e mu i j M ∧ (i ≤ j → ¬ P (M.getD i default)) ∧ (i ≤ j → P (M.getD j default)) ∧ T 0 = .msl b n 1 0 n ∧ T 1 = .int .i64 a ∧ n = n ∧ T 10 = .int .i64 (i : Nat) ∧ T 11 = .int .i64 (j : Nat) ∧ H'' = hupd H b ((M).map f) ∧ nx = nx'') ?_ ?_
  · repeat' (first | apply w_block | apply w_loop)
    refine loopI (X := Nat) (fun j => [(0, .msl b n 1 0 n), (1, .int .i64 a), (10, .int .i64 (i : Nat)), (11, .int .i64 (j : Nat))]) (fun j H' nxx => PartR P a e mu i j M ∧ (i ≤ j → ¬ P (M.getD i default)) ∧ H' = hupd H b (M.map f) ∧ nx = nxx) (fun j => j) j ⟨hpt, hni, rfl, rfl⟩ (by simp (disch := omega) only [agr, ZG, reduceEqDiff, ↓reduceIte, t0, t1, tF, t10, t11]) ?_
    clear t0 t1 tF t10 t11 hpt hni j
    rintro j H' nxx ⟨hpt, hni, rfl, rfl⟩
    have hlo := hpt.lo; have hmid := hpt.mid; have hhi := hpt.hi
    by_cases hij : j < i
    · repeat' (first | apply w_seq | apply w_mixS1 | apply w_exit | apply a_n | apply a_x | apply o_nil | (apply o_val rfl rfl; (focus ((try simp (disch := omega) only [simB0, ZA, reduceEqDiff, ↓reduceIte, reduceAdd, reduceLeDiff, ZV, reduceCtorEq]); first | with_reducible rfl | (apply s_ite; (focus omega); with_reducible rfl)))) | (apply o_gF; (focus (simp only [simB0, ZA, reduceEqDiff, ↓reduceIte, reduceAdd, reduceLeDiff, or_true, true_or]; done))) | (apply o_gB; (focus ((try simp only [simB0, ZA, reduceEqDiff, ↓reduceIte, reduceAdd, reduceLeDiff]); (try with_reducible rfl); done)); all_goals (intro _hg; (try simp only [ZB] at _hg); try first | exact absurd trivial _hg | (exfalso; omega))) | (apply w_condF; (focus (simp only [simB0, ZA, reduceEqDiff, ↓reduceIte, reduceAdd, reduceLeDiff]; done))))
      exact ⟨j, hpt, hni, fun h => absurd h (by omega), rfl, rfl, rfl, rfl, rfl, rfl, rfl⟩
    obtain ⟨k, rfl⟩ : ∃ k, j = k + 1 := ⟨j - 1, by omega⟩
    have tk : ((k + 1 : Nat) : Int) - 1 = (k : Int) := by omega
    have lc := hc.run (M.getD (k + 1) default) (M.getD (a) default) (hGM _ (mem_getD (by omega))) (hGM _ (mem_getD (by omega)))
    have e1 := hc.dat (M.getD (k + 1) default)
    have e2 := hc.dat (M.getD (a) default)
    have hPk : P (M.getD (k + 1) default) ↔ K (M.getD (k + 1) default) (M.getD (a) default) < 0 := by rw [hP, hv]
    generalize hKK : K (M.getD (k + 1) default) (M.getD (a) default) = kk at lc hPk
    by_cases hlt : kk < 0
    · repeat' (first | apply w_seq | apply w_mixS1 | apply w_exit | apply a_n | apply a_x | apply o_nil | (apply o_val rfl rfl; (focus ((try simp (disch := omega) only [simB0, ZA, reduceEqDiff, ↓reduceIte, reduceAdd, reduceLeDiff, ZV, reduceCtorEq, tk, Int.toNat_natCast, hc.cells, hc.one]); first | with_reducible rfl | (apply s_ite; (focus omega); with_reducible rfl)))) | (apply o_callD; (iterate 2 (focus ((try simp only [simB0, ZA, reduceEqDiff, ↓reduceIte, reduceAdd, reduceLeDiff, tk, Int.toNat_natCast, hc.cells, hc.one]); (try with_reducible rfl); done))); (focus (first | (exact lc))); (focus ((first | refine snap_plain ?_ rfl | apply snap_data); repeat' (first | exact snapL_nil | apply snapL_i | apply snapL_dat | exact e1 | exact e2 | exact snapL_nil)))) | (apply o_gT; (focus (simp only [simB0, ZA, reduceEqDiff, ↓reduceIte, reduceAdd, reduceLeDiff, tk, Int.toNat_natCast, hc.cells, hc.one]; done))) | ((first | apply o_gB | apply w_cond); (focus ((try simp only [simB0, ZA, reduceEqDiff, ↓reduceIte, reduceAdd, reduceLeDiff, tk, Int.toNat_natCast, hc.cells, hc.one]); (try with_reducible rfl); done)); all_goals (intro _hg; (try simp only [ZB] at _hg); try first | exact absurd trivial _hg | (exfalso; omega))))
      exact ⟨k + 1, hpt, hni, fun _ => (by rw [hPk]; exact hlt), rfl, rfl, rfl, rfl, rfl, rfl, rfl⟩
    · repeat' (first | apply w_seq | apply w_ops0 | apply w_mixS1 | apply w_block | apply w_skip | apply a_n | apply o_nil | (apply o_val rfl rfl; (focus ((try simp (disch := omega) only [simB0, ZA, reduceEqDiff, ↓reduceIte, reduceAdd, reduceLeDiff, ZV, reduceCtorEq, tk, Int.toNat_natCast, hc.cells, hc.one]); first | with_reducible rfl | (apply s_ite; (focus omega); with_reducible rfl)))) | (apply o_callD; (iterate 2 (focus ((try simp only [simB0, ZA, reduceEqDiff, ↓reduceIte, reduceAdd, reduceLeDiff, tk, Int.toNat_natCast, hc.cells, hc.one]); (try with_reducible rfl); done))); (focus (first | (exact lc))); (focus ((first | refine snap_plain ?_ rfl | apply snap_data); repeat' (first | exact snapL_nil | apply snapL_i | apply snapL_dat | exact e1 | exact e2 | exact snapL_nil)))) | (apply o_gT; (focus (simp only [simB0, ZA, reduceEqDiff, ↓reduceIte, reduceAdd, reduceLeDiff, tk, Int.toNat_natCast, hc.cells, hc.one]; done))) | ((first | apply o_gB | apply w_cond); (focus ((try simp only [simB0, ZA, reduceEqDiff, ↓reduceIte, reduceAdd, reduceLeDiff, tk, Int.toNat_natCast, hc.cells, hc.one]); (try with_reducible rfl); done)); all_goals (intro _hg; (try simp only [ZB] at _hg); try first | exact absurd trivial _hg | (exfalso; omega))))
      exact ⟨k, by omega, ⟨hpt.stepDn (by omega) (by rw [hPk]; first | exact hlt | exact fun h => h hlt), fun _ => hni (by omega), rfl, rfl⟩, by simp (disch := omega) only [agr, ZG, reduceEqDiff, ↓reduceIte]⟩
  clear t0 t1 tF t10 t11 hpt hni j
  rintro T _ _ ⟨j, hpt, hni, hnj, t0, t1, tF, t10, t11, rfl, rfl⟩
  have hlo := hpt.lo; have hmid := hpt.mid; have hhi := hpt.hi
  by_cases hji : j < i
  · clear hni hnj
    obtain ⟨z1, z2, z3, z4⟩ := hpt.done hc.ord (by omega) hji hv hP
    obtain ⟨M1, hl1, lm1, lm2⟩ := swp_lput (f := f) (M := M) (i := j) (j := a) (by omega) (by omega)
    have lm3 := lm2
    simp only [lput, List.length_cons, List.length_nil, Nat.zero_add] at lm1 lm2
    repeat' (first | apply w_seq | apply w_ops0 | apply w_ops1 | apply w_exit | apply w_ret | apply a_n | apply a_x | apply o_nil | (apply o_val rfl rfl; (focus ((try simp (disch := omega) only [simB0, ZA, reduceEqDiff, ↓reduceIte, reduceAdd, reduceLeDiff, ZV, reduceCtorEq, t0, t1, tF, t10, t11, Int.toNat_natCast, hc.cells, hc.one, lm1, lm2]); first | with_reducible rfl | (apply s_ite; (focus omega); with_reducible rfl)))) | (apply e_st rfl; (iterate 4 (focus ((try simp only [simB0, ZA, reduceEqDiff, ↓reduceIte, reduceAdd, reduceLeDiff, t0, t1, tF, t10, t11, Int.toNat_natCast, hc.cells, hc.one, lm1, lm2]); (try with_reducible rfl); done))); (focus (simp only [SO, Bool.and_self, one_encV, one_encVV, t0, t1, tF, t10, t11, Int.toNat_natCast, hc.cells, hc.one, lm1, lm2])); (iterate 3 (focus ((try simp only [SL, reduceAdd, Nat.reduceMul, List.length_map]); first | done | omega)))) | (apply w_cond; (focus ((try simp only [simB0, ZA, reduceEqDiff, ↓reduceIte, reduceAdd, reduceLeDiff, t0, t1, tF, t10, t11, Int.toNat_natCast, hc.cells, hc.one, lm1, lm2]); (try with_reducible rfl); done)); all_goals (intro _hg; (try simp only [ZB] at _hg); try first | exact absurd trivial _hg | (exfalso; omega))) | (refine e_ends rfl ?_) | (apply r_2; (iterate 2 (focus (simp only [rv, simB0, ZA, reduceEqDiff, ↓reduceIte, reduceAdd, reduceLeDiff, t0, t1, tF, t10, t11, Int.toNat_natCast, hc.cells, hc.one, lm1, lm2]; with_reducible rfl)))))
    exact ⟨rfl, swp M j a, j, false, rfl, z1, z2, by rw [hupd_two, hupd_two, lm3], hp.trans (PermR.swap (by omega) (by omega) (by omega)), z3, z4⟩
  obtain ⟨k, rfl⟩ : ∃ k, j = k + 1 := ⟨j - 1, by omega⟩
  have tk : ((k + 1 : Nat) : Int) - 1 = (k : Int) := by omega
  have ii : ((i : Nat) : Int) + 1 = ((i + 1 : Nat) : Int) := by omega
  obtain ⟨M1, hl1, lm1, lm2⟩ := swp_lput (f := f) (M := M) (i := i) (j := k + 1) (by omega) (by omega)
  have lm3 := lm2
  simp only [lput, List.length_cons, List.length_nil, Nat.zero_add] at lm1 lm2
  repeat' (first | apply w_seq | apply w_ops0 | apply w_ops1 | apply w_skip | apply a_n | apply o_nil | (apply o_val rfl rfl; (focus ((try simp (disch := omega) only [simB0, ZA, reduceEqDiff, ↓reduceIte, reduceAdd, reduceLeDiff, ZV, reduceCtorEq, t0, t1, tF, t10, t11, tk, ii, Int.toNat_natCast, hc.cells, hc.one, lm1, lm2]); first | with_reducible rfl | (apply s_ite; (focus omega); with_reducible rfl)))) | (apply e_st rfl; (iterate 4 (focus ((try simp only [simB0, ZA, reduceEqDiff, ↓reduceIte, reduceAdd, reduceLeDiff, t0, t1, tF, t10, t11, tk, ii, Int.toNat_natCast, hc.cells, hc.one, lm1, lm2]); (try with_reducible rfl); done))); (focus (simp only [SO, Bool.and_self, one_encV, one_encVV, t0, t1, tF, t10, t11, tk, ii, Int.toNat_natCast, hc.cells, hc.one, lm1, lm2])); (iterate 3 (focus ((try simp only [SL, reduceAdd, Nat.reduceMul, List.length_map]); first | done | omega)))) | (apply w_cond; (focus ((try simp only [simB0, ZA, reduceEqDiff, ↓reduceIte, reduceAdd, reduceLeDiff, t0, t1, tF, t10, t11, tk, ii, Int.toNat_natCast, hc.cells, hc.one, lm1, lm2]); (try with_reducible rfl); done)); all_goals (intro _hg; (try simp only [ZB] at _hg); try first | exact absurd trivial _hg | (exfalso; omega))))
  obtain ⟨hq1, hq2⟩ := hpt.swap (by omega) (by omega) (hni (by omega)) (hnj (by omega))
  exact ⟨(i + 1, k, swp M i (k + 1)), hq2, ⟨hq1, by dsimp only; rw [hupd_two, hupd_two, lm3], rfl, hp.trans (PermR.swap (by omega) (by omega) (by omega)), by dsimp only; rw [swp_keep (by omega) (by omega) (by omega) (by omega)]; exact hv⟩, by simp (disch := omega) only [agr, ZG, reduceEqDiff, ↓reduceIte, t0, t1, tF, t10, t11]⟩
end
end Go.Proofs.YtbiikomnhkbblaaGreat

/- U10o: contracts of functions and plain laws; for all inputs that the theorems name. -/
namespace Go.Proofs.YtbiikomnhkbblaaGreat
open Go Go.Abs
open Nat (reduceEqDiff reduceAdd reduceLeDiff)
section
variable {α : Type} [Inhabited α] {f : α → AV} {K : α → α → Int} {G : α → Prop}
attribute [local irreducible] awp2 aops2 ains aloop athen bbind obind gbind acond res1 Go.Abs.Fn PCall Go.Abs.Pure SnapArgs SnapL Yl
theorem break_o (hc : CmpO Tryz.prog f K G) {L : List α} {H : Hp} {b nx n a e : Nat} (hH : H b = some (L.map f)) (hbx : b < nx) (hn : L.length = n) (hae : a + 8 ≤ e) (hen : e ≤ n) (hn2 : n ≤ 1000000000) :
    Abs.Fn Tryz.prog 102 [.msl b n 1 0 n, .int .i64 a, .int .i64 e] H nx fun r H' nx' => nx' = nx + 1 ∧ ∃ L', H' b = some (L'.map f) ∧ (∀ i, i < nx → i ≠ b → H' i = H i) ∧ PermR a e L L' := by
  obtain ⟨l, rfl⟩ : ∃ l, e = a + l := ⟨e - a, by omega⟩
  have te : ((a + l : Nat) : Int) - (a : Int) = (l : Int) := by omega
  obtain ⟨w, hw⟩ : ∃ w, a + l / 4 * 2 - 1 = w := ⟨_, rfl⟩
  have tq : abin2 .quo false false (.int .i64 (l : Int)) (.int .i64 4) = some (.int .i64 ((l / 4 : Nat) : Int)) := by
    rw [quo_pos (by omega) (by omega) (by omega)]
    congr 2
  have w1 : (a : Int) + ((l / 4 : Nat) : Int) * 2 - 1 = (w : Int) := by omega
  have w2 : (a : Int) + ((l / 4 : Nat) : Int) * 2 + 1 = ((w + 2 : Nat) : Int) := by omega
  have hbn : b ≠ nx := by omega
  have wl : IntKind.wrap .u64 (l : Int) = l := wrapU64 (by omega) (by omega)
  refine Abs.Fn.of_c2 follows is102 (Nat.le_of_ble_eq_true rfl) ?_
  simp only [b102, O, G, N, M, D, F, B2, cFal, cTru]
  have ls : ∀ x y : AV, lput [x] 0 [y] = [y] := fun _ _ => rfl
  simp only [lput, List.length_cons, List.length_nil, Nat.zero_add] at ls
  repeat' (first | apply w_seq | apply w_ops0 | apply a_n | apply o_nil | (apply o_val rfl rfl; (focus ((try simp (disch := omega) only [simB0, ZA, reduceEqDiff, ↓reduceIte, reduceAdd, reduceLeDiff, ZV, reduceCtorEq, te, wl, ls]); first | with_reducible rfl | (apply s_ite; (focus omega); with_reducible rfl)))) | (apply e_alloc rfl; (focus ((try simp only [simB0, ZA, reduceEqDiff, ↓reduceIte, reduceAdd, reduceLeDiff, te, wl, ls]); (try with_reducible rfl); done)); (focus (simp only [SO, Bool.and_self, one_encV, one_encVV, te, wl, ls]))) | (apply e_st rfl; (iterate 4 (focus ((try simp only [simB0, ZA, reduceEqDiff, ↓reduceIte, reduceAdd, reduceLeDiff, te, wl, ls]); (try with_reducible rfl); done))); (focus (simp only [SO, Bool.and_self, one_encV, one_encVV, te, wl, ls])); (iterate 3 (focus ((try simp only [SL, reduceAdd, Nat.reduceMul, List.length_map]); first | done | omega)))) | (apply w_cond; (focus ((try simp only [simB0, ZA, reduceEqDiff, ↓reduceIte, reduceAdd, reduceLeDiff, te, wl, ls]); (try with_reducible rfl); done)); all_goals (intro _hg; (try simp only [ZB] at _hg); try first | exact absurd trivial _hg | (exfalso; omega))))
  refine o_callE (by ((try simp only [simB0, ZA, reduceEqDiff, ↓reduceIte, reduceAdd, reduceLeDiff]); (try with_reducible rfl))) (by ((try simp only [simB0, ZA, reduceEqDiff, ↓reduceIte, reduceAdd, reduceLeDiff]); (try with_reducible rfl))) (npot_c (x := l) (by omega) (by omega)) ?_
  rintro _ _ _ ⟨rfl, rfl, k, rfl, hk1, hk2⟩
  obtain ⟨p, hp⟩ : ∃ p, 2 ^ k = p + 1 := ⟨2 ^ k - 1, by omega⟩
  rw [hp] at hk1 hk2 ⊢
  repeat' (first | apply w_seq | apply w_ops0 | apply w_block | apply a_n | apply o_nil | (apply o_val rfl rfl; (focus ((try simp (disch := omega) only [simB0, ZA, reduceEqDiff, ↓reduceIte, reduceAdd, reduceLeDiff, ZV, reduceCtorEq, te, tq, w1]); first | with_reducible rfl | (apply s_ite; (focus omega); with_reducible rfl)))) | apply w_loop)
  have wm : IntKind.wrap .u64 (((p + 1 : Nat) : Int) - 1) = (p : Int) := by rw [wrapU64 (by omega) (by omega)]; omega
  refine loopI (X := Nat × List α) (fun x => [(0, .msl b n 1 0 n), (1, .int .i64 a), (6, .int .i64 l), (7, .ptr nx 1 0), (8, .int .u64 ((p + 1 : Nat) : Int)), (9, .int .i64 (x.1 : Nat))]) (fun x H' nxx => w ≤ x.1 ∧ x.1 ≤ w + 3 ∧ H' b = some (x.2.map f) ∧ (∃ s, H' nx = some [.int .u64 s]) ∧ (∀ i, i < nx → i ≠ b → H' i = H i) ∧ nxx = nx + 1 ∧ PermR a (a + l) L x.2) (fun x => w + 3 - x.1) (w, L) ⟨Nat.le_refl _, by dsimp only; omega, by dsimp only; rw [hupd_ne hbn]; first | exact hH | (rw [hupd_ne hbn]; exact hH), ⟨_, hupd_self'⟩, fun i h1 h2 => by rw [hupd_ne (by omega)]; first | rfl | exact hupd_ne (by omega), rfl, .refl⟩ (by simp (disch := omega) only [agr, ZG, reduceEqDiff, ↓reduceIte, List.length_cons, List.length_nil, Nat.zero_add, true_and]) ?_
  rintro ⟨i, M⟩ H1 nxx ⟨h1, h2, hb1, ⟨s, hs⟩, hfr, rfl, hp1⟩
  dsimp only at *
  have hl : M.length = n := by rw [hp1.len, hn]
  by_cases hi : i = w + 3
  · subst hi
    repeat' (first | apply w_seq | apply w_ops0 | apply w_exit | apply a_n | apply a_x | apply o_nil | (apply o_val rfl rfl; (focus ((try simp (disch := omega) only [simB0, ZA, reduceEqDiff, ↓reduceIte, reduceAdd, reduceLeDiff, ZV, reduceCtorEq, tq, w2]); first | with_reducible rfl | (apply s_ite; (focus omega); with_reducible rfl)))) | (apply w_cond; (focus ((try simp only [simB0, ZA, reduceEqDiff, ↓reduceIte, reduceAdd, reduceLeDiff, tq, w2]); (try with_reducible rfl); done)); all_goals (intro _hg; (try simp only [ZB] at _hg); try first | exact absurd trivial _hg | (exfalso; omega))) | (refine e_ends rfl ?_) | apply r_0)
    exact ⟨rfl, M, hb1, hfr, hp1⟩
  have ti : ((i : Nat) : Int) + 1 = ((i + 1 : Nat) : Int) := by omega
  repeat' (first | apply w_seq | apply w_ops0 | apply w_block | apply w_skip | apply a_n | apply o_nil | (apply o_val rfl rfl; (focus ((try simp (disch := omega) only [simB0, ZA, reduceEqDiff, ↓reduceIte, reduceAdd, reduceLeDiff, ZV, reduceCtorEq, tq, w2]); first | with_reducible rfl | (apply s_ite; (focus omega); with_reducible rfl)))) | (apply w_cond; (focus ((try simp only [simB0, ZA, reduceEqDiff, ↓reduceIte, reduceAdd, reduceLeDiff, tq, w2]); (try with_reducible rfl); done)); all_goals (intro _hg; (try simp only [ZB] at _hg); try first | exact absurd trivial _hg | (exfalso; omega))))
  refine o_callE (by ((try simp only [simB0, ZA, reduceEqDiff, ↓reduceIte, reduceAdd, reduceLeDiff]); (try with_reducible rfl))) (by ((try simp only [simB0, ZA, reduceEqDiff, ↓reduceIte, reduceAdd, reduceLeDiff]); (try with_reducible rfl))) (next_c hs) ?_
  rintro _ _ _ ⟨rfl, s1, rfl, rfl⟩
  obtain ⟨r, hr1, hr2⟩ := and_some (a := s1) (m := p) (by omega)
  obtain ⟨H2, hH2⟩ : ∃ H2, hupd H1 nx [.int .u64 s1] = H2 := ⟨_, rfl⟩
  have hb2 : H2 b = some (M.map f) := by rw [← hH2, hupd_ne hbn]; exact hb1
  have hs2 : H2 nx = some [.int .u64 s1] := by rw [← hH2]; exact hupd_self'
  have hfr2 : ∀ i, i < nx → i ≠ b → H2 i = H i := fun i k1 k2 => by rw [← hH2, hupd_ne (by omega)]; exact hfr i k1 k2
  rw [hH2]
  clear hH2 hb1 hs hfr
  obtain ⟨z, hz, hzl⟩ : ∃ z : Nat, (if l ≤ r then (r : Int) - l else (r : Int)) = (z : Int) ∧ z < l := by
    split
    · exact ⟨r - l, by omega, by omega⟩
    · exact ⟨r, rfl, by omega⟩
  obtain ⟨M1, hl1, lm1, lm2⟩ := swp_lput (f := f) (M := M) (i := i) (j := a + z) (by omega) (by omega)
  have lm3 := lm2
  simp only [lput, List.length_cons, List.length_nil, Nat.zero_add] at lm1 lm2
  by_cases hrl : l ≤ r
  · rw [if_pos hrl] at hz
    repeat' (first | apply w_seq | apply w_ops0 | apply w_ops1 | apply a_n | apply o_nil | (apply o_val rfl rfl; (focus ((try simp (disch := omega) only [simB0, ZA, reduceEqDiff, ↓reduceIte, reduceAdd, reduceLeDiff, ZV, reduceCtorEq, wm, hr1, hz, hb2, ti, toNat_two, hc.cells, hc.one, lm1, lm2]); first | with_reducible rfl | (apply s_ite; (focus omega); with_reducible rfl)))) | (apply e_st rfl; (iterate 4 (focus ((try simp only [simB0, ZA, reduceEqDiff, ↓reduceIte, reduceAdd, reduceLeDiff, wm, hr1, hz, hb2, ti, toNat_two, hc.cells, hc.one, lm1, lm2]); (try with_reducible rfl); done))); (focus (simp only [SO, Bool.and_self, one_encV, one_encVV, wm, hr1, hz, hb2, ti, toNat_two, hc.cells, hc.one, lm1, lm2])); (iterate 3 (focus ((try simp only [SL, reduceAdd, Nat.reduceMul, List.length_map]); first | done | omega)))) | (apply w_cond; (focus ((try simp only [simB0, ZA, reduceEqDiff, ↓reduceIte, reduceAdd, reduceLeDiff, wm, hr1, hz, hb2, ti, toNat_two, hc.cells, hc.one, lm1, lm2]); (try with_reducible rfl); done)); all_goals (intro _hg; (try simp only [ZB] at _hg); try first | exact absurd trivial _hg | (exfalso; omega))))
    exact ⟨(i + 1, swp M i (a + z)), by dsimp only; omega, ⟨by dsimp only; omega, by dsimp only; omega, by dsimp only; rw [hupd_two, lm3, hupd_self'], ⟨s1, by rw [hupd_two, hupd_ne (Ne.symm hbn)]; exact hs2⟩, fun i k1 k2 => by rw [hupd_two, hupd_ne k2]; exact hfr2 i k1 k2, rfl, hp1.trans (PermR.swap (by omega) (by omega) (by omega))⟩, by simp (disch := omega) only [agr, ZG, reduceEqDiff, ↓reduceIte]⟩
  · rw [if_neg hrl] at hz
    have hz' : r = z := by omega
    subst hz'
    repeat' (first | apply w_seq | apply w_ops0 | apply w_ops1 | apply w_skip | apply a_n | apply o_nil | (apply o_val rfl rfl; (focus ((try simp (disch := omega) only [simB0, ZA, reduceEqDiff, ↓reduceIte, reduceAdd, reduceLeDiff, ZV, reduceCtorEq, wm, hr1, hb2, ti, toNat_two, hc.cells, hc.one, lm1, lm2]); first | with_reducible rfl | (apply s_ite; (focus omega); with_reducible rfl)))) | (apply e_st rfl; (iterate 4 (focus ((try simp only [simB0, ZA, reduceEqDiff, ↓reduceIte, reduceAdd, reduceLeDiff, wm, hr1, hb2, ti, toNat_two, hc.cells, hc.one, lm1, lm2]); (try with_reducible rfl); done))); (focus (simp only [SO, Bool.and_self, one_encV, one_encVV, wm, hr1, hb2, ti, toNat_two, hc.cells, hc.one, lm1, lm2])); (iterate 3 (focus ((try simp only [SL, reduceAdd, Nat.reduceMul, List.length_map]); first | done | omega)))) | (apply w_cond; (focus ((try simp only [simB0, ZA, reduceEqDiff, ↓reduceIte, reduceAdd, reduceLeDiff, wm, hr1, hb2, ti, toNat_two, hc.cells, hc.one, lm1, lm2]); (try with_reducible rfl); done)); all_goals (intro _hg; (try simp only [ZB] at _hg); try first | exact absurd trivial _hg | (exfalso; omega))))
    exact ⟨(i + 1, swp M i (a + r)), by dsimp only; omega, ⟨by dsimp only; omega, by dsimp only; omega, by dsimp only; rw [hupd_two, lm3, hupd_self'], ⟨s1, by rw [hupd_two, hupd_ne (Ne.symm hbn)]; exact hs2⟩, fun i k1 k2 => by rw [hupd_two, hupd_ne k2]; exact hfr2 i k1 k2, rfl, hp1.trans (PermR.swap (by omega) (by omega) (by omega))⟩, by simp (disch := omega) only [agr, ZG, reduceEqDiff, ↓reduceIte]⟩
end
end Go.Proofs.YtbiikomnhkbblaaGreat
