/- Texts of this claim, one after the other: AbsO, Code, Q1, Q2, Q3, Q4, Q5, Q6, Q7. -/
import Derived.Test.YtpbjhjkfobapeaaXG3
import Derived.ChangeArms
import Derived.Carry
import Derived.Deep.Slices
import Derived.Lib.SmallJoins
import Derived.Test.YtpbjhjkfobapeaaProg
import Derived.KernelRfl

/- Arguments: from the reading of a statement to abstract values. -/
set_option linter.unusedVariables false
namespace Go.Abs
open Go Go.RowKit

def oldB (W : World) : Nat → Prop := fun b => b < W.heap.size

theorem oldB_cell {W : World} {a : Addr} {v : Value} (h : W.cell? a = some v) : oldB W a.block ∧ a.spot = none := by
  unfold World.cell? at h
  unfold oldB
  cases hb : W.heap[a.block]? with
  | none => simp [hb] at h
  | some o =>
    refine ⟨(Array.getElem?_eq_some_iff.1 hb).1, ?_⟩
    cases hs : a.spot with
    | none => rfl
    | some s => cases o <;> simp [hb, hs] at h

section
variable {H : Type} {enc : TypeId × Value → H} {P : Program} {W : World}

def Opens (enc : TypeId × Value → H) (P : Program) (W : World) (t : TypeId) {α : Type} (f : α → AV) (good : α → Prop) : Prop :=
  ∀ (n : Nat) (cs : List Value) (x : DataW H × List MemPlace), DataW.trod enc P W 0 (fun _ => true) true n t cs = some x → (∀ k ∈ x.1.weights P t, k ≤ reachBytes) → ∃ a : α, good a ∧ RelL (E0 (oldB W)) W (f a).cells cs

theorem Opens.mono {t : TypeId} {α : Type} {f : α → AV} {good good' : α → Prop} (h : Opens enc P W t f good) (hg : ∀ a, good a → good' a) : Opens enc P W t f good' :=
  fun n cs x hx hw => let ⟨a, h1, h2⟩ := h n cs x hx hw; ⟨a, hg a h1, h2⟩
theorem relL_one {E : Env} {w : World} {x : AV} {y : Value} (h : Rel E w x y) : RelL E w [x] [y] := ⟨rfl, fun i a b ha hb => by
  cases i with
  | zero => simp at ha hb; subst ha hb; exact h
  | succ i => simp at ha⟩
theorem RelL.app {E : Env} {w : World} {xs xs' : List AV} {ys ys' : List Value} (h : RelL E w xs ys) (h' : RelL E w xs' ys') : RelL E w (xs ++ xs') (ys ++ ys') := by
  have hl : xs.length = ys.length := h.1.symm
  refine ⟨by simp [h.1, h'.1], fun i a b ha hb => ?_⟩
  by_cases hi : i < xs.length
  · rw [List.getElem?_append_left hi] at ha
    rw [List.getElem?_append_left (by omega)] at hb
    exact h.2 i a b ha hb
  · rw [List.getElem?_append_right (by omega)] at ha
    rw [List.getElem?_append_right (by omega)] at hb
    rw [hl] at ha
    exact h'.2 _ a b ha hb

theorem opens_int {t : TypeId} {k : IntKind} (ht : P.underlying t = some (.int k)) : Opens enc P W t (AV.int k) (fun n => (Lit.int k n).wf = true) := fun n cs x hx _ => by
  obtain ⟨a, rfl, rfl, hw⟩ := DataW.trod_int ht hx
  exact ⟨a, hw, relL_one (.int _ _)⟩
theorem weightsAll_mem {e : TypeId} {l : List (DataW H)} {d : DataW H} (h : d ∈ l) {k : Nat} (hk : k ∈ d.weights P e) : k ∈ DataW.weightsAll P e l := by
  induction l with
  | nil => cases h
  | cons a l ih =>
    unfold DataW.weightsAll
    rcases List.mem_cons.1 h with rfl | h
    · exact List.mem_append_left _ hk
    · exact List.mem_append_right _ (ih h)

theorem choose_list {α : Type} {len : Nat} {Q : Nat → α → Prop} (h : ∀ i, i < len → ∃ a, Q i a) : ∃ l : List α, l.length = len ∧ ∀ i a, l[i]? = some a → Q i a := by
  induction len with
  | zero => exact ⟨[], rfl, fun i a h => by simp at h⟩
  | succ n ih =>
    obtain ⟨l, h1, h2⟩ := ih (fun i hi => h i (by omega))
    obtain ⟨a, ha⟩ := h n (by omega)
    refine ⟨l ++ [a], by simp [h1], fun i b hb => ?_⟩
    by_cases hi : i < l.length
    · rw [List.getElem?_append_left hi] at hb; exact h2 i b hb
    · rw [List.getElem?_append_right (by omega)] at hb
      have : i - l.length = 0 := by
        by_cases h0 : i - l.length = 0
        · exact h0
        · rw [List.getElem?_eq_none (by simp; omega)] at hb; cases hb
      rw [this] at hb; simp at hb; subst hb
      have : i = n := by omega
      subst this; exact ha

theorem opens_slice {t e : TypeId} {sz by_ : Nat} {α : Type} {f : α → AV} {good : α → Prop} (ht : P.underlying t = some (.slice e)) (hsz : P.cellsOf e = sz) (hby : P.bytesOf e = by_) (hpos : 0 < sz) (hc : ∀ a, (f a).cells.length = sz)
    (he : Opens enc P W e f good) : Opens enc P W t (encL sz f) (fun l => (∀ a ∈ l, good a) ∧ l.length ≤ 9223372036854775807 ∧ l.length * by_ ≤ 140737488351232) := fun n cs x hx hw => by
  rcases Go.Deep.open_slice ht hx with ⟨rfl, rfl⟩ | ⟨a, len, cap, m, n', D, Pl, rfl, hb, hlc, hcm, hm, hxe, hel⟩
  · exact ⟨[], ⟨fun _ h => (by cases h), by simp, by simp⟩, relL_one (.slnil _)⟩
  simp only [if_true] at hm
  subst hxe
  subst hm
  have hw' : ∀ k ∈ ((DataW.slice (H := H) ((List.range len).map D) ((List.range (m - len)).map fun j => D (len + j))).weights P t), k ≤ reachBytes := hw
  simp only [DataW.weights, ht] at hw'
  have hlen : (((List.range len).map D).length + ((List.range (m - len)).map fun j => D (len + j)).length) * P.bytesOf e ≤ reachBytes := hw' _ (List.mem_cons_self ..)
  have hbd : len * by_ ≤ 140737488351232 := by
    rw [hby] at hlen
    simp only [List.length_map, List.length_range] at hlen
    have h1 : len * by_ ≤ (len + (m - len)) * by_ := Nat.mul_le_mul_right _ (by omega)
    have h2 : reachBytes = 140737488351232 := rfl
    omega
  have hlm : len ≤ 9223372036854775807 := Nat.le_trans hlc hcm
  have key : ∀ i, i < len → ∃ a' : α, good a' ∧ ∃ cs', W.cells? 0 (a.add (i * sz)) sz = some cs' ∧ RelL (E0 (oldB W)) W (f a').cells cs' := fun i hi => by
    obtain ⟨cs', h1, h2⟩ := hel i (by omega)
    rw [hsz] at h1
    obtain ⟨a', g1, g2⟩ := he n' cs' _ h2 (fun k hk => hw' k (List.mem_cons_of_mem _ (List.mem_append_left _ (weightsAll_mem (List.mem_map.2 ⟨i, List.mem_range.2 hi, rfl⟩) hk))))
    exact ⟨a', g1, cs', h1, g2⟩
  obtain ⟨l, hl, hq⟩ := choose_list key
  refine ⟨l, ⟨fun x hx => ?_, by omega, by rw [hl]; exact hbd⟩, relL_one ?_⟩
  · obtain ⟨i, hi⟩ := List.getElem?_of_mem hx
    exact (hq i x hi).1
  by_cases h0 : len = 0
  · subst h0
    have : l = [] := List.length_eq_zero_iff.1 hl
    subst this
    exact .slempty _ _ _
  -- cells
  have hcell : ∀ i j, i < len → j < sz → ∃ v, W.cell? ((a.add (i * sz)).add j) = some v := fun i j hi hj => by
    obtain ⟨a', _, cs', h1, h2⟩ := key i hi
    unfold World.cells? at h1
    rw [if_pos (Nat.zero_le _)] at h1
    have h3 := mapM_some_get h1 j j (by simp [hj])
    have h4 : j < cs'.length := by
      have := mapM_some_length h1
      simp at this; omega
    exact ⟨cs'[j], by rw [h3]; simp [h4]⟩
  obtain ⟨v0, hv0⟩ := hcell 0 0 (by omega) hpos
  have ho := oldB_cell hv0
  simp only [Nat.zero_mul, Addr.add, if_true] at ho
  obtain ⟨blk, off, sp⟩ := a
  obtain ⟨ho, hsp⟩ := ho
  simp only at hsp ho
  subst hsp
  have hadd : ∀ i j, ((⟨blk, off, none⟩ : Addr).add (i * sz)).add j = ⟨blk, off + (i * sz + j), none⟩ := fun i j => by
    rw [addr_add, addr_add, Nat.add_assoc]
  have hcell' : ∀ k, k < len * sz → ∃ v, W.cell? ⟨blk, off + k, none⟩ = some v := fun k hk => by
    have h1 : k / sz < len := Nat.div_lt_of_lt_mul (by rw [Nat.mul_comm]; exact hk)
    have h2 : k % sz < sz := Nat.mod_lt _ hpos
    obtain ⟨v, hv⟩ := hcell (k / sz) (k % sz) h1 h2
    rw [hadd, Nat.div_add_mod'] at hv
    exact ⟨v, hv⟩
  have hlen2 : (l.map f).length = len := by simp [hl]
  have := Rel.sl (E := E0 (oldB W)) (w := W) sz (l.map f) blk off m (fun k => (W.cell? ⟨blk, off + k, none⟩).getD Go.undef) ho (by rw [hlen2]; exact hlc)
    (fun x hx => by obtain ⟨b, _, rfl⟩ := List.mem_map.1 hx; exact hc b)
    (fun k hk => by
      rw [hlen2] at hk
      obtain ⟨v, hv⟩ := hcell' k hk
      simp only [hv, Option.getD_some])
    (fun i j x y hx hy => by
      rw [List.getElem?_map, Option.map_eq_some_iff] at hx
      obtain ⟨a', ha', rfl⟩ := hx
      obtain ⟨_, cs', h1, h2⟩ := hq i a' ha'
      have hj : j < sz := by
        have := (List.getElem?_eq_some_iff.1 hy).1
        rwa [hc] at this
      have hi : i < len := by
        have := (List.getElem?_eq_some_iff.1 ha').1
        omega
      unfold World.cells? at h1
      rw [if_pos (Nat.zero_le _)] at h1
      have h3 := mapM_some_get h1 j j (by simp [hj])
      have h4 : j < cs'.length := by
        have := mapM_some_length h1
        simp at this; omega
      rw [hadd] at h3
      have h5 : cs'[j]? = some cs'[j] := by simp [h4]
      rw [h5] at h3
      simp only [h3, Option.getD_some]
      exact h2.2 j y _ hy h5)
  rw [hlen2] at this
  exact this

def OpensF (enc : TypeId × Value → H) (P : Program) (W : World) (fs : List Field) (off : Nat) {α : Type} (g : α → List AV) (good : α → Prop) : Prop :=
  ∀ (n tot : Nat) (cs : List Value) (ys : List (DataW H × List MemPlace)), ys.length = fs.length → (∀ (i : Nat) (f : Field), fs[i]? = some f → DataW.trod enc P W 0 (fun _ => true) true n f.type ((cs.drop f.offset).take (P.cellsOf f.type)) = ys[i]?) →
    (∀ k ∈ DataW.weightsEach P (fs.map fun f : Field => f.type) (ys.map (·.1)), k ≤ reachBytes) → cs.length = tot → tot = off + (fs.map fun f : Field => P.cellsOf f.type).sum → ∃ a : α, good a ∧ RelL (E0 (oldB W)) W (g a) (cs.drop off)

theorem opensF_nil {off : Nat} : OpensF enc P W [] off (fun _ : Unit => []) (fun _ => True) := fun n tot cs ys _ _ _ h1 h2 => by
  refine ⟨(), trivial, ?_⟩
  rw [List.drop_eq_nil_of_le (by simp at h2; omega)]
  exact ⟨rfl, fun i a b h => by simp at h⟩
theorem opensF_cons {fd : Field} {fs : List Field} {off off' : Nat} {α β : Type} {f : α → AV} {g : β → List AV} {good : α → Prop} {good' : β → Prop} (ho : fd.offset = off) (ho' : off + P.cellsOf fd.type = off')
    (h : Opens enc P W fd.type f good) (h' : OpensF enc P W fs off' g good') : OpensF enc P W (fd :: fs) off (fun a : α × β => (f a.1).cells ++ g a.2) (fun a => good a.1 ∧ good' a.2) := fun n tot cs ys hl hy hw h1 h2 => by
  obtain ⟨y, ys, rfl⟩ : ∃ y ys', ys = y :: ys' := by
    cases ys with
    | nil => simp at hl
    | cons y ys => exact ⟨y, ys, rfl⟩
  have hy0 := hy 0 fd rfl
  simp only [List.getElem?_cons_zero] at hy0
  rw [ho] at hy0
  simp only [List.map_cons, DataW.weightsEach] at hw
  obtain ⟨a, g1, g2⟩ := h n _ y hy0 (fun k hk => hw k (List.mem_append_left _ hk))
  simp only [List.map_cons, List.sum_cons] at h2
  obtain ⟨b, g3, g4⟩ := h' n tot cs ys (by simpa using hl) (fun i f hf => by
    have := hy (i + 1) f (by simpa using hf)
    simpa using this) (fun k hk => hw k (List.mem_append_right _ hk)) h1 (by omega)
  refine ⟨(a, b), ⟨g1, g3⟩, ?_⟩
  have e : cs.drop off = (cs.drop off).take (P.cellsOf fd.type) ++ cs.drop off' := by
    rw [← ho', ← List.drop_drop, List.take_append_drop]
  rw [e]
  exact RelL.app g2 g4
theorem opens_struct {t : TypeId} {fs : Array Field} {α : Type} {g : α → List AV} {good : α → Prop} (ht : P.underlying t = some (.struct fs)) (hsum : P.cellsOf t = (fs.toList.map fun f : Field => P.cellsOf f.type).sum)
    (h : OpensF enc P W fs.toList 0 g good) : Opens enc P W t (fun a => .agg (g a)) good := fun n cs x hx hw => by
  obtain ⟨ys, n', rfl, rfl, hl, hs, hy⟩ := DataW.trod_struct ht hx
  obtain ⟨a, g1, g2⟩ := h n' _ cs ys (by rw [hs]; simp) (fun i f hf => hy i f (by simpa using hf)) (fun k hk => hw k (by
    simp only [DataW.weights, ht]; exact hk)) hl (by rw [Nat.zero_add, hsum])
  exact ⟨a, g1, by rw [List.drop_zero] at g2; exact g2⟩

theorem opens_arr {t e : TypeId} {sz m : Nat} {α : Type} {f : α → AV} {good : α → Prop} (ht : P.underlying t = some (.array m e)) (hsz : P.cellsOf e = sz) (htot : P.cellsOf t = m * sz)
    (he : Opens enc P W e f good) : Opens enc P W t (fun l : List α => .agg (l.flatMap fun a => (f a).cells)) (fun l => l.length = m ∧ ∀ a ∈ l, good a) := fun n cs x hx hw => by
  cases n with
  | zero => simp [DataW.trod] at hx
  | succ n =>
    unfold DataW.trod at hx
    rw [ht] at hx
    have hx : (if cs.length = P.cellsOf t then ((List.range m).mapM fun i => DataW.trod enc P W 0 (fun _ => true) true n e ((cs.drop (i * P.cellsOf e)).take (P.cellsOf e))).map fun xs => (DataW.agg (xs.map (·.1)), xs.flatMap (·.2)) else none) = some x := by
      cases cs <;> exact hx
    split at hx
    case isFalse => cases hx
    case isTrue hl =>
    rw [Option.map_eq_some_iff] at hx
    obtain ⟨ys, hy, rfl⟩ := hx
    rw [hsz] at hy
    have hyl := mapM_some_length hy
    simp at hyl
    have hget : ∀ i, i < m → ∃ y, ys[i]? = some y ∧ DataW.trod enc P W 0 (fun _ => true) true n e ((cs.drop (i * sz)).take sz) = some y := fun i hi => by
      have h1 : i < ys.length := by omega
      exact ⟨ys[i], by simp [h1], by rw [mapM_some_get hy i i (by simp [hi])]; simp [h1]⟩
    have key : ∀ i, i < m → ∃ a, good a ∧ RelL (E0 (oldB W)) W (f a).cells ((cs.drop (i * sz)).take sz) := fun i hi => by
      obtain ⟨y, h1, h2⟩ := hget i hi
      exact he n _ y h2 (fun k hk => hw k (by
        simp only [DataW.weights, ht]
        exact weightsAll_mem (List.mem_map.2 ⟨y, List.mem_of_getElem? h1, rfl⟩) hk))
    obtain ⟨l, h1, h2⟩ := choose_list key
    refine ⟨l, ⟨h1, fun a ha => ?_⟩, ?_⟩
    · obtain ⟨i, hi⟩ := List.getElem?_of_mem ha; exact (h2 i a hi).1
    rw [htot] at hl
    have gen : ∀ (l : List α) (k : Nat), k + l.length = m → (∀ i a, l[i]? = some a → RelL (E0 (oldB W)) W (f a).cells ((cs.drop ((k + i) * sz)).take sz)) → RelL (E0 (oldB W)) W (l.flatMap fun a => (f a).cells) (cs.drop (k * sz)) := by
      intro l
      induction l with
      | nil =>
        intro k hk _
        rw [List.drop_eq_nil_of_le (by simp at hk; subst hk; omega)]
        exact ⟨rfl, fun i a b h => by simp at h⟩
      | cons a l ih =>
        intro k hk hq
        have e : cs.drop (k * sz) = (cs.drop (k * sz)).take sz ++ cs.drop ((k + 1) * sz) := by
          rw [Nat.add_mul, Nat.one_mul, ← List.drop_drop, List.take_append_drop]
        rw [e, List.flatMap_cons]
        refine RelL.app (hq 0 a rfl) (ih (k + 1) (by simp at hk; omega) (fun i b hb => ?_))
        have := hq (i + 1) b (by simpa using hb)
        rwa [show k + (i + 1) = k + 1 + i by omega] at this
    have := gen l 0 (by omega) (fun i a ha => by rw [Nat.zero_add]; exact (h2 i a ha).2)
    rwa [Nat.zero_mul, List.drop_zero] at this

theorem Opens.map {t : TypeId} {α β : Type} {f : α → AV} {good : α → Prop} {f' : β → AV} {good' : β → Prop} (h : Opens enc P W t f good) (φ : α → β) (hg : ∀ a, good a → good' (φ a)) (hf : ∀ a, good a → (f' (φ a)).cells = (f a).cells) : Opens enc P W t f' good' := fun n cs x hx hw => by
  obtain ⟨a, h1, h2⟩ := h n cs x hx hw
  exact ⟨φ a, hg a h1, by rw [hf a h1]; exact h2⟩
theorem Opens.at {t u : TypeId} {α : Type} {f : α → AV} {good : α → Prop} (e : t = u) (h : Opens enc P W u f good) : Opens enc P W t f good := e ▸ h

theorem Opens.argA {t : TypeId} {α : Type} {f : α → AV} {good : α → Prop} (h : Opens enc P W t f good) {r : Reach} {base : Nat} {v : Value} {d : DataW H} {ps : List MemPlace} (ht : tagg P t = true) (hf : ∀ a, ∃ cs, f a = .agg cs)
    (hval : Value.okWide P W r base t v) (hd : DataW.Trod enc P W 0 (fun _ => true) true t v d ps) (hw : ∀ k ∈ d.weights P t, k ≤ reachBytes) : ∃ a, good a ∧ Rel (E0 (oldB W)) W (f a) v := by
  obtain ⟨n, hn⟩ := hd
  obtain ⟨a, h1, h2⟩ := h n _ _ hn hw
  refine ⟨a, h1, ?_⟩
  obtain ⟨cs, hcs, _⟩ : ∃ cs, v = .agg cs ∧ True := by
    unfold Value.okWide at hval
    unfold tagg at ht
    split at hval
    · obtain ⟨cs, h, _⟩ := hval; exact ⟨cs, h, trivial⟩
    · obtain ⟨cs, h, _⟩ := hval; exact ⟨cs, h, trivial⟩
    · rename_i k1 k2
      revert ht
      cases hu : P.underlying t with
      | none => simp
      | some u =>
        cases u with
        | struct fs => exact absurd hu (k1 fs)
        | array m e => exact absurd hu (k2 m e)
        | _ => simp
  subst hcs
  obtain ⟨xs, hx⟩ := hf a
  rw [hx] at h2 ⊢
  exact .agg xs cs.toList h2.1 h2.2
theorem trodAll_stays (hl : laidOutB P = true) {W' : World} (hb : Below W.heap.size W W') {sp : Nat → Bool} : ∀ {ts : List TypeId} {vs : List Value} {ds : List (DataW H)} {ps : List MemPlace}, (∀ t ∈ ts, P.readableRec t = true ∧ t < P.types.size) →
    DataW.TrodAll enc P W 0 (fun _ => true) true ts vs ds ps → (∀ p ∈ ps, p.block < W.heap.size) → (∀ p ∈ ps, sp p.block = true) → DataW.TrodAll enc P W' 0 sp true ts vs ds ps
  | [], [], [], ps, _, h, _, _ => h
  | t :: ts, v :: vs, d :: ds, ps, hr, ⟨p, q, h1, h2, e⟩, hlt, hsp => by
    subst e
    exact ⟨p, q, WideElems.Trod_stays hl (hr t (List.mem_cons_self ..)).1 (hr t (List.mem_cons_self ..)).2 h1 (fun x hx => hb.same (hlt x (List.mem_append_left _ hx))) (fun x hx => hsp x (List.mem_append_left _ hx)),
      trodAll_stays hl hb (fun t ht => hr t (List.mem_cons_of_mem _ ht)) h2 (fun x hx => hlt x (List.mem_append_right _ hx)) (fun x hx => hsp x (List.mem_append_right _ hx)), rfl⟩
  | [], _ :: _, _, _, _, h, _, _ => h.elim
  | [], [], _ :: _, _, _, h, _, _ => h.elim
  | _ :: _, [], _, _, _, h, _, _ => h.elim
  | _ :: _, _ :: _, [], _, _, h, _, _ => h.elim
theorem weightsEach_at : ∀ {ts : List TypeId} {ds : List (DataW H)} {i : Nat} {t : TypeId} {d : DataW H}, ts[i]? = some t → ds[i]? = some d → ∀ k ∈ d.weights P t, k ∈ DataW.weightsEach P ts ds
  | t :: ts, d :: ds, 0, _, _, h1, h2, k, hk => by
    simp at h1 h2; subst h1 h2
    unfold DataW.weightsEach
    exact List.mem_append_left _ hk
  | t :: ts, d :: ds, i + 1, _, _, h1, h2, k, hk => by
    unfold DataW.weightsEach
    exact List.mem_append_right _ (weightsEach_at (ts := ts) (ds := ds) (by simpa using h1) (by simpa using h2) k hk)
  | [], _, i, _, _, h1, _, _, _ => by simp at h1
  | _ :: _, [], i, _, _, _, h2, _, _ => by simp at h2
end
end Go.Abs

/- Printed by a program: the functions' code without types. -/
namespace Go.Proofs.Ytpbjhjkfobapeaa
open Go Go.Abs Go.Abs.C2 Go.Abs.Ins Go.Abs.Opd Go.Abs.TK Go.Abs.MK

def O (d : Nat) (i : Ins) : Op2 := Op2.mk (some d) none i
def G (d g : Nat) (b : Bool) (i : Ins) : Op2 := Op2.mk (some d) (some (g, b)) i
def N (k : Int) : Opd := Opd.c (AV.int IntKind.i64 k)
theorem follows : Try.prog.follows .mixedOrders = true := by rfl

def b5 : F2 := (F2.mk 37 [RV.t 2] ((ops 0 [O 2 (mov (c (AV.bool false)))]).seq (((ops 0 [O 5 (mov (t 0)), O 6 (lenStr (t 5)), O 7 (bin BinOp.gtr false false (t 6) (N ((5000))))]).seq (C2.cond (t 7) ((ops 0 [O 8 (call (c (AV.func 12 [])) []), O 2 (mov (t 8))]).seq ret) skip)).seq ((ops 0 [O 9 (mov (t 0)), O 10 (lenStr (t 9)), O 11 (conv IntKind.u64 (t 10)), O 3 (mov (t 11))]).seq (((ops 0 [O 12 (mov (t 0)), O 13 (lenStr (t 12)), O 14 (mov (N ((0))))]).seq (block 0 ((ops 0 [O 15 (bin BinOp.lss false false (t 14) (t 13))]).seq ((C2.cond (t 15) skip (exit 0)).seq ((block 1 ((ops 0 [O 16 (mov (t 14)), O 4 (mov (t 16))]).seq (ops 0 [O 17 (mov (t 3)), O 18 (mov (t 4)), O 19 (bin BinOp.add false false (t 18) (N ((1)))), O 20 (conv IntKind.u64 (t 19)), O 21 (mov (t 0)), O 22 (mov (t 4)), O 23 (ixStr (t 21) (t 22)), O 24 (conv IntKind.u64 (t 23)), O 25 (bin BinOp.mul false false (t 20) (t 24)), O 26 (bin BinOp.add false false (t 17) (t 25)), O 3 (mov (t 26))]))).seq (ops 0 [O 27 (bin BinOp.add false false (t 14) (N ((1)))), O 14 (mov (t 27))])))).loop)).seq ((ops 0 [O 28 (mov (t 0)), O 29 (call (c (AV.func 24 [])) [t 28]), O 30 (conv IntKind.u64 (t 29)), O 31 (mov (t 3)), O 32 (bin BinOp.rem false false (t 31) (c (AV.int IntKind.u64 (65521)))), O 33 (bin BinOp.eql false false (t 30) (t 32)), O 34 (mov (t 33)), G 35 34 true (call (c (AV.func 12 [])) []), O 36 (pick (t 34) (t 35) (c (AV.bool false))), O 2 (mov (t 36))]).seq ret))))))
def b6 : F2 := (F2.mk 80 [RV.t 6] ((ops 0 [O 6 (mov (c (AV.bool false)))]).seq (((ops 0 [O 9 (mov (t 0)), O 10 (lenStr (t 9)), O 11 (bin BinOp.gtr false false (t 10) (N ((5000)))), O 12 (mov (t 11)), G 13 12 false (mov (t 0)), G 14 12 false (lenStr (t 13)), G 15 12 false (bin BinOp.eql false false (t 14) (N ((0)))), O 16 (pick (t 12) (c (AV.bool true)) (t 15))]).seq (C2.cond (t 16) ((ops 0 [O 17 (call (c (AV.func 12 [])) []), O 6 (mov (t 17))]).seq ret) skip)).seq ((ops 0 [O 18 (mov (t 1)), O 19 (conv IntKind.i64 (t 18)), O 20 (mov (t 0)), O 21 (lenStr (t 20)), O 22 (bin BinOp.rem false false (t 19) (t 21)), O 7 (mov (t 22))]).seq ((ops 0 [O 23 (mov (t 0)), O 24 (s2b (t 23)), O 8 (mov (t 24))]).seq ((ops 0 [O 25 (mov (t 8)), O 26 (mov (t 7)), O 27 (ixaS 1 (t 25) (t 26)), O 28 (ld1 (t 27)), O 29 (mov (t 2)), O 30 (bin BinOp.xor false false (t 28) (t 29)), O 31 (ixaS 1 (t 25) (t 26)), Op2.mk none none (Ins.st 1 (t 31) (t 30))]).seq (((ops 0 [O 32 (mov (t 8)), O 33 (b2s (t 32)), O 34 (call (c (AV.func 24 [])) [t 33]), O 35 (mov (t 0)), O 36 (call (c (AV.func 24 [])) [t 35]), O 37 (bin BinOp.eql false false (t 34) (t 36)), O 38 (mov (t 2)), O 39 (bin BinOp.eql false false (t 38) (c (AV.int IntKind.u8 (0)))), O 40 (bin BinOp.neq true false (t 37) (t 39))]).seq (C2.cond (t 40) ((ops 0 [O 6 (mov (c (AV.bool false)))]).seq ret) skip)).seq (((ops 0 [O 41 (mov (t 7)), O 42 (bin BinOp.eql false false (t 41) (N ((0))))]).seq (C2.cond (t 42) ((ops 0 [O 43 (call (c (AV.func 12 [])) []), O 6 (mov (t 43))]).seq ret) skip)).seq ((ops 0 [O 44 (mov (t 0)), O 45 (s2b (t 44)), O 8 (mov (t 45))]).seq ((ops 1 [O 46 (mov (t 8)), O 47 (mov (t 7)), O 48 (bin BinOp.sub false false (t 47) (N ((1)))), O 49 (mov (t 8)), O 50 (mov (t 7)), O 51 (mov (t 8)), O 52 (mov (t 7)), O 53 (ixaS 1 (t 51) (t 52)), O 54 (ld1 (t 53)), O 55 (mov (t 8)), O 56 (mov (t 7)), O 57 (bin BinOp.sub false false (t 56) (N ((1)))), O 58 (ixaS 1 (t 55) (t 57)), O 59 (ld1 (t 58)), O 60 (ixaS 1 (t 46) (t 48)), Op2.mk none none (Ins.st 1 (t 60) (t 54)), O 61 (ixaS 1 (t 49) (t 50)), Op2.mk none none (Ins.st 1 (t 61) (t 59))]).seq ((mix 9 [O 62 (mov (t 8)), O 63 (b2s (t 62)), O 64 (call (c (AV.func 24 [])) [t 63]), O 65 (mov (t 0)), O 66 (call (c (AV.func 24 [])) [t 65]), O 67 (bin BinOp.eql false false (t 64) (t 66)), O 68 (mov (t 0)), O 69 (mov (t 7)), O 70 (bin BinOp.sub false false (t 69) (N ((1)))), O 71 (ixStr (t 68) (t 70)), O 72 (mov (t 0)), O 73 (mov (t 7)), O 74 (ixStr (t 72) (t 73)), O 75 (bin BinOp.eql false false (t 71) (t 74)), O 76 (bin BinOp.eql true false (t 67) (t 75)), O 77 (mov (t 76)), G 78 77 true (call (c (AV.func 12 [])) []), O 79 (pick (t 77) (t 78) (c (AV.bool false))), O 6 (mov (t 79))] [0, 3, 6, 7, 8, 9, 10, 11, 12, 13, 1, 2, 4, 5, 14, 15, 16, 17, 18]).seq ret)))))))))))
theorem is6 : Is Try.prog 6 b6 := Is.mk' Try.func6 (by kernel_rfl)

def b9 : F2 := (F2.mk 83 [RV.t 4] ((ops 0 [O 2 (box (t 0)), O 3 (box (t 1)), O 4 (mov (c (AV.bool false)))]).seq (((ops 0 [O 11 (ldn 8 (t 2)), O 12 (call (c (AV.func 11 [])) [t 11]), O 13 (un UnOp.not (t 12))]).seq (C2.cond (t 13) ((ops 0 [O 14 (call (c (AV.func 12 [])) []), O 4 (mov (t 14))]).seq ret) skip)).seq ((ops 0 [O 16 (ldn 8 (t 2)), O 17 (call (c (AV.func 19 [])) [t 16]), O 15 (mov (t 17)), O 18 (ext (t 15) 0), O 19 (ext (t 15) 1), O 5 (mov (t 18)), O 6 (mov (t 19))]).seq (((ops 0 [O 20 (mov (t 6)), O 21 (bin BinOp.neq false false (t 20) (N ((0))))]).seq (C2.cond (t 21) ((ops 0 [O 22 (mov (t 6)), O 23 (bin BinOp.eql false false (t 22) (N ((13)))), O 24 (mov (t 23)), G 25 24 false (ldn 8 (t 2)), G 26 24 false (call (c (AV.func 26 [])) [t 25]), G 27 24 false (mov (t 6)), G 28 24 false (bin BinOp.eql false false (t 26) (t 27)), O 29 (pick (t 24) (c (AV.bool true)) (t 28)), O 30 (mov (t 29)), G 31 30 true (mov (t 5)), G 32 30 true (bin BinOp.eql false false (t 31) (c (AV.str (ByteArray.mk (Array.mk []))))), O 33 (pick (t 30) (t 32) (c (AV.bool false))), O 34 (mov (t 33)), G 35 34 true (call (c (AV.func 12 [])) []), O 36 (pick (t 34) (t 35) (c (AV.bool false))), O 4 (mov (t 36))]).seq ret) skip)).seq ((ops 0 [O 38 (mov (t 5)), O 39 (call (c (AV.func 21 [])) [t 38]), O 37 (mov (t 39)), O 40 (ext (t 37) 0), O 41 (ext (t 37) 1), O 7 (alloc (AV.agg [AV.int IntKind.i64 (0), AV.int IntKind.i64 (0), AV.int IntKind.i64 (0), AV.int IntKind.i64 (0), AV.esl, AV.esl, AV.esl, AV.esl])), Op2.mk none none (Ins.st 8 (t 7) (t 40)), O 8 (mov (t 41))]).seq (((ops 0 [O 42 (mov (t 8)), O 43 (bin BinOp.neq false false (t 42) (N ((0)))), O 44 (mov (t 43)), G 45 44 false (ldn 8 (t 2)), G 46 44 false (ldn 8 (t 7)), G 47 44 false (call (c (AV.func 27 [])) [t 45, t 46]), G 48 44 false (un UnOp.not (t 47)), O 49 (pick (t 44) (c (AV.bool true)) (t 48)), O 50 (mov (t 49)), G 51 50 false (mov (t 5)), G 52 50 false (lenStr (t 51)), G 53 50 false (bin BinOp.lss false false (t 52) (N ((6)))), O 54 (pick (t 50) (c (AV.bool true)) (t 53))]).seq (C2.cond (t 54) ((ops 0 [O 4 (mov (c (AV.bool false)))]).seq ret) skip)).seq (((ops 0 [O 55 (ixaA 2 1 (t 3) (N ((1)))), O 56 (ld1 (t 55)), O 57 (conv IntKind.u8 (t 56)), O 9 (mov (t 57))]).seq ((ops 0 [O 58 (mov (t 9)), O 59 (bin BinOp.neq false false (t 58) (c (AV.int IntKind.u8 (0))))]).seq (C2.cond (t 59) ((ops 0 [O 60 (mov (t 5)), O 61 (s2b (t 60)), O 10 (mov (t 61))]).seq ((ops 0 [O 62 (mov (t 10)), O 63 (ixaA 2 1 (t 3) (N ((0)))), O 64 (ld1 (t 63)), O 65 (conv IntKind.i64 (t 64)), O 66 (mov (t 10)), O 67 (lenS (t 66)), O 68 (bin BinOp.rem false false (t 65) (t 67)), O 69 (ixaS 1 (t 62) (t 68)), O 70 (ld1 (t 69)), O 71 (mov (t 9)), O 72 (bin BinOp.xor false false (t 70) (t 71)), O 73 (ixaS 1 (t 62) (t 68)), Op2.mk none none (Ins.st 1 (t 73) (t 72))]).seq ((ops 0 [O 75 (mov (t 10)), O 76 (b2s (t 75)), O 77 (call (c (AV.func 21 [])) [t 76]), O 74 (mov (t 77)), O 78 (ext (t 74) 0), O 79 (ext (t 74) 1), O 8 (mov (t 79))]).seq ((ops 0 [O 80 (mov (t 8)), O 81 (bin BinOp.neq false false (t 80) (N ((24))))]).seq (C2.cond (t 81) ((ops 0 [O 4 (mov (c (AV.bool false)))]).seq ret) skip))))) skip))).seq ((ops 0 [O 82 (call (c (AV.func 12 [])) []), O 4 (mov (t 82))]).seq ret)))))))))
theorem is9 : Is Try.prog 9 b9 := Is.mk' Try.func9 (by kernel_rfl)

def b11 : F2 := (F2.mk 66 [RV.t 2] ((ops 0 [O 1 (box (t 0)), O 2 (mov (c (AV.bool false)))]).seq (((ops 0 [O 5 (fa 4 (t 1)), O 6 (ld1 (t 5)), O 7 (lenS (t 6)), O 8 (bin BinOp.gtr false false (t 7) (N ((20)))), O 9 (mov (t 8)), G 10 9 false (fa 7 (t 1)), G 11 9 false (ld1 (t 10)), G 12 9 false (lenS (t 11)), G 13 9 false (bin BinOp.gtr false false (t 12) (N ((20)))), O 14 (pick (t 9) (c (AV.bool true)) (t 13)), O 15 (mov (t 14)), G 16 15 false (fa 5 (t 1)), G 17 15 false (ld1 (t 16)), G 18 15 false (lenS (t 17)), G 19 15 false (bin BinOp.gtr false false (t 18) (N ((20)))), O 20 (pick (t 15) (c (AV.bool true)) (t 19)), O 21 (mov (t 20)), G 22 21 false (fa 6 (t 1)), G 23 21 false (ld1 (t 22)), G 24 21 false (lenS (t 23)), G 25 21 false (bin BinOp.gtr false false (t 24) (N ((400)))), O 26 (pick (t 21) (c (AV.bool true)) (t 25)), O 27 (mov (t 26)), G 28 27 false (ldn 8 (t 1)), G 29 27 false (call (c (AV.func 28 [])) [t 28]), G 30 27 false (bin BinOp.gtr false false (t 29) (N ((400)))), O 31 (pick (t 27) (c (AV.bool true)) (t 30))]).seq (C2.cond (t 31) ((ops 0 [O 2 (mov (c (AV.bool false)))]).seq ret) skip)).seq (((ops 0 [O 3 (mov (N ((0))))]).seq (block 0 (((ops 0 [O 32 (mov (t 3)), O 33 (fa 5 (t 1)), O 34 (ld1 (t 33)), O 35 (lenS (t 34)), O 36 (bin BinOp.lss false false (t 32) (t 35))]).seq (C2.cond (t 36) skip (exit 0))).seq ((block 1 (((ops 0 [O 39 (fa 5 (t 1)), O 40 (ld1 (t 39)), O 41 (mov (t 3)), O 42 (ixaS 1 (t 40) (t 41)), O 43 (ld1 (t 42)), O 44 (lenS (t 43)), O 45 (bin BinOp.gtr false false (t 44) (N ((20))))]).seq (C2.cond (t 45) ((ops 0 [O 2 (mov (c (AV.bool false)))]).seq ret) skip)).seq ((ops 0 [O 4 (mov (N ((0))))]).seq (block 2 (((ops 0 [O 46 (mov (t 4)), O 47 (fa 5 (t 1)), O 48 (ld1 (t 47)), O 49 (mov (t 3)), O 50 (ixaS 1 (t 48) (t 49)), O 51 (ld1 (t 50)), O 52 (lenS (t 51)), O 53 (bin BinOp.lss false false (t 46) (t 52))]).seq (C2.cond (t 53) skip (exit 2))).seq ((block 3 ((ops 0 [O 56 (fa 5 (t 1)), O 57 (ld1 (t 56)), O 58 (mov (t 3)), O 59 (ixaS 1 (t 57) (t 58)), O 60 (ld1 (t 59)), O 61 (mov (t 4)), O 62 (ixaS 1 (t 60) (t 61)), O 63 (ld1 (t 62)), O 64 (lenS (t 63)), O 65 (bin BinOp.gtr false false (t 64) (N ((20))))]).seq (C2.cond (t 65) ((ops 0 [O 2 (mov (c (AV.bool false)))]).seq ret) skip))).seq (ops 0 [O 54 (mov (t 4)), O 55 (bin BinOp.add false false (t 54) (N ((1)))), O 4 (mov (t 55))]))).loop)))).seq (ops 0 [O 37 (mov (t 3)), O 38 (bin BinOp.add false false (t 37) (N ((1)))), O 3 (mov (t 38))]))).loop)).seq ((ops 0 [O 2 (mov (c (AV.bool true)))]).seq ret)))))
theorem is11 : Is Try.prog 11 b11 := Is.mk' Try.func11 (by kernel_rfl)

def b12 : F2 := (F2.mk 100 [RV.t 0] ((ops 0 [O 0 (mov (c (AV.bool false)))]).seq ((ops 0 [O 11 (call (c (AV.func 29 [])) []), O 1 (alloc (AV.agg [AV.int IntKind.i64 (0), AV.int IntKind.i64 (0), AV.int IntKind.i64 (0), AV.int IntKind.i64 (0), AV.esl, AV.esl, AV.esl, AV.esl])), Op2.mk none none (Ins.st 8 (t 1) (t 11))]).seq ((ops 0 [O 13 (ldn 8 (t 1)), O 14 (call (c (AV.func 13 [])) [t 13, c (AV.int IntKind.i64 (0)), c (AV.int IntKind.i64 (1)), c (AV.int IntKind.i64 (0)), c (AV.int IntKind.i64 (1))]), O 12 (mov (t 14)), O 15 (ext (t 12) 0), O 16 (ext (t 12) 1), O 2 (mov (t 15)), O 3 (mov (t 16))]).seq ((ops 0 [O 18 (ldn 8 (t 1)), O 19 (call (c (AV.func 15 [])) [t 18, c (AV.int IntKind.i64 (0)), c (AV.int IntKind.i64 (1)), c (AV.int IntKind.i64 (0))]), O 17 (mov (t 19)), O 20 (ext (t 17) 0), O 21 (ext (t 17) 1), O 4 (mov (t 20)), O 5 (mov (t 21))]).seq ((ops 0 [O 23 (ldn 8 (t 1)), O 24 (call (c (AV.func 17 [])) [t 23, c (AV.int IntKind.i64 (0)), c (AV.int IntKind.i64 (1)), c (AV.int IntKind.i64 (0)), c (AV.str (ByteArray.mk (Array.mk [0, 1, 0, 0, 0, 6])))]), O 22 (mov (t 24)), O 25 (ext (t 22) 0), O 26 (ext (t 22) 1), O 6 (mov (t 25)), O 7 (mov (t 26))]).seq (((ops 0 [O 27 (call (c (AV.func 24 [])) [c (AV.str (ByteArray.mk (Array.mk [1, 2, 3])))]), O 28 (bin BinOp.neq false false (t 27) (N ((17)))), O 29 (mov (t 28)), G 30 29 false (call (c (AV.func 24 [])) [c (AV.str (ByteArray.mk (Array.mk [])))]), G 31 29 false (bin BinOp.neq false false (t 30) (N ((0)))), O 32 (pick (t 29) (c (AV.bool true)) (t 31)), O 33 (mov (t 32)), G 34 33 false (mov (t 3)), G 35 33 false (mov (t 5)), G 36 33 false (bin BinOp.add false false (t 34) (t 35)), G 37 33 false (mov (t 7)), G 38 33 false (bin BinOp.add false false (t 36) (t 37)), G 39 33 false (bin BinOp.neq false false (t 38) (N ((0)))), O 40 (pick (t 33) (c (AV.bool true)) (t 39)), O 41 (mov (t 40)), G 42 41 false (mov (t 2)), G 43 41 false (bin BinOp.neq false false (t 42) (c (AV.str (ByteArray.mk (Array.mk [0, 1, 0, 0, 0, 6]))))), O 44 (pick (t 41) (c (AV.bool true)) (t 43)), O 45 (mov (t 44)), G 46 45 false (mov (t 4)), G 47 45 false (bin BinOp.neq false false (t 46) (N ((6)))), O 48 (pick (t 45) (c (AV.bool true)) (t 47)), O 49 (mov (t 48)), G 50 49 false (mov (t 6)), G 51 49 false (bin BinOp.neq false false (t 50) (N ((0)))), O 52 (pick (t 49) (c (AV.bool true)) (t 51))]).seq (C2.cond (t 52) ((ops 0 [O 0 (mov (c (AV.bool false)))]).seq ret) skip)).seq ((ops 0 [O 54 (ldn 8 (t 1)), O 55 (call (c (AV.func 17 [])) [t 54, c (AV.int IntKind.i64 (0)), c (AV.int IntKind.i64 (1)), c (AV.int IntKind.i64 (0)), c (AV.str (ByteArray.mk (Array.mk [0, 1, 0, 0, 0, 7])))]), O 53 (mov (t 55)), O 56 (ext (t 53) 0), O 57 (ext (t 53) 1), O 3 (mov (t 57))]).seq ((ops 0 [O 59 (ldn 8 (t 1)), O 60 (call (c (AV.func 17 [])) [t 59, c (AV.int IntKind.i64 (0)), c (AV.int IntKind.i64 (0)), c (AV.int IntKind.i64 (1)), c (AV.str (ByteArray.mk (Array.mk [0, 1, 0, 0, 0, 6])))]), O 58 (mov (t 60)), O 61 (ext (t 58) 0), O 62 (ext (t 58) 1), O 5 (mov (t 62))]).seq ((ops 0 [O 64 (ldn 8 (t 1)), O 65 (call (c (AV.func 19 [])) [t 64]), O 63 (mov (t 65)), O 66 (ext (t 63) 0), O 67 (ext (t 63) 1), O 8 (mov (t 66)), O 7 (mov (t 67))]).seq ((ops 0 [O 69 (mov (t 8)), O 70 (call (c (AV.func 21 [])) [t 69]), O 68 (mov (t 70)), O 71 (ext (t 68) 0), O 72 (ext (t 68) 1), O 9 (alloc (AV.agg [AV.int IntKind.i64 (0), AV.int IntKind.i64 (0), AV.int IntKind.i64 (0), AV.int IntKind.i64 (0), AV.esl, AV.esl, AV.esl, AV.esl])), Op2.mk none none (Ins.st 8 (t 9) (t 71)), O 10 (mov (t 72))]).seq ((ops 0 [O 73 (mov (t 3)), O 74 (bin BinOp.eql false false (t 73) (N ((24)))), O 75 (mov (t 74)), G 76 75 true (mov (t 5)), G 77 75 true (bin BinOp.eql false false (t 76) (N ((22)))), O 78 (pick (t 75) (t 77) (c (AV.bool false))), O 79 (mov (t 78)), G 80 79 true (mov (t 7)), G 81 79 true (mov (t 10)), G 82 79 true (bin BinOp.add false false (t 80) (t 81)), G 83 79 true (bin BinOp.eql false false (t 82) (N ((0)))), O 84 (pick (t 79) (t 83) (c (AV.bool false))), O 85 (mov (t 84)), G 86 85 true (ldn 8 (t 9)), G 87 85 true (ldn 8 (t 1)), G 88 85 true (call (c (AV.func 27 [])) [t 86, t 87]), O 89 (pick (t 85) (t 88) (c (AV.bool false))), O 90 (mov (t 89)), G 91 90 true (mov (t 8)), G 92 90 true (lenStr (t 91)), G 93 90 true (bin BinOp.gtr false false (t 92) (N ((6)))), O 94 (pick (t 90) (t 93) (c (AV.bool false))), O 95 (mov (t 94)), G 96 95 true (mov (t 8)), G 97 95 true (slstr (t 96) none (some (N ((4))))), G 98 95 true (bin BinOp.eql false false (t 97) (c (AV.str (ByteArray.mk (Array.mk [82, 84, 77, 1]))))), O 99 (pick (t 95) (t 98) (c (AV.bool false))), O 0 (mov (t 99))]).seq ret))))))))))))
theorem is12 : Is Try.prog 12 b12 := Is.mk' Try.func12 (by kernel_rfl)

def b13 : F2 := (F2.mk 42 [RV.t 10, RV.t 11] ((ops 0 [O 5 (box (t 0)), O 10 (mov (c (AV.str (ByteArray.mk (Array.mk []))))), O 11 (mov (N ((0))))]).seq ((ops 0 [O 15 (mov (t 1)), O 16 (mov (t 2)), O 17 (mov (t 3)), O 18 (bld [AV.int IntKind.i64 (0), AV.int IntKind.i64 (0), AV.int IntKind.i64 (0)] [(0, 1, t 15), (1, 1, t 16), (2, 1, t 17)]), O 12 (alloc (AV.agg [AV.int IntKind.i64 (0), AV.int IntKind.i64 (0), AV.int IntKind.i64 (0)])), Op2.mk none none (Ins.st 3 (t 12) (t 18))]).seq (((ops 0 [O 19 (ldn 3 (t 12)), O 20 (ldn 8 (t 5)), O 21 (call (c (AV.func 30 [])) [t 19, t 20]), O 13 (mov (t 21))]).seq ((ops 0 [O 22 (mov (t 13)), O 23 (bin BinOp.neq false false (t 22) (N ((0))))]).seq (C2.cond (t 23) ((ops 0 [O 24 (mov (t 13)), O 10 (mov (c (AV.str (ByteArray.mk (Array.mk []))))), O 11 (mov (t 24))]).seq ret) skip))).seq ((ops 0 [O 25 (ldn 8 (t 5)), O 26 (ldn 3 (t 12)), O 27 (call (c (AV.func 31 [])) [t 25, t 26]), O 14 (mov (t 27))]).seq (((ops 0 [O 28 (mov (t 4)), O 29 (bin BinOp.lss false false (t 28) (N ((0)))), O 30 (mov (t 29)), G 31 30 false (mov (t 4)), G 32 30 false (mov (t 14)), G 33 30 false (lenS (t 32)), G 34 30 false (bin BinOp.geq false false (t 31) (t 33)), O 35 (pick (t 30) (c (AV.bool true)) (t 34))]).seq (C2.cond (t 35) ((ops 0 [O 10 (mov (c (AV.str (ByteArray.mk (Array.mk []))))), O 11 (mov (N ((6))))]).seq ret) skip)).seq ((mixS 1 [O 36 (ldn 3 (t 12)), O 37 (mov (t 14)), O 38 (mov (t 4)), O 39 (ixaS 1 (t 37) (t 38)), O 40 (ld1 (t 39)), O 41 (call (c (AV.func 32 [])) [t 36, t 40]), O 10 (mov (t 41)), O 11 (mov (N ((0))))] [(0, 0), (1, 0), (2, 0), (3, 0), (4, 0), (5, 2), (6, 0), (7, 0)]).seq ret)))))))
theorem is13 : Is Try.prog 13 b13 := Is.mk' Try.func13 (by kernel_rfl)

def b15 : F2 := (F2.mk 41 [RV.t 8, RV.t 9] ((ops 0 [O 4 (box (t 0)), O 8 (mov (N ((0)))), O 9 (mov (N ((0))))]).seq ((ops 0 [O 15 (mov (t 1)), O 16 (mov (t 2)), O 17 (mov (t 3)), O 18 (bld [AV.int IntKind.i64 (0), AV.int IntKind.i64 (0), AV.int IntKind.i64 (0)] [(0, 1, t 15), (1, 1, t 16), (2, 1, t 17)]), O 10 (alloc (AV.agg [AV.int IntKind.i64 (0), AV.int IntKind.i64 (0), AV.int IntKind.i64 (0)])), Op2.mk none none (Ins.st 3 (t 10) (t 18))]).seq (((ops 0 [O 19 (ldn 3 (t 10)), O 20 (ldn 8 (t 4)), O 21 (call (c (AV.func 30 [])) [t 19, t 20]), O 11 (mov (t 21))]).seq ((ops 0 [O 22 (mov (t 11)), O 23 (bin BinOp.neq false false (t 22) (N ((0))))]).seq (C2.cond (t 23) ((ops 0 [O 24 (mov (t 11)), O 8 (mov (N ((0)))), O 9 (mov (t 24))]).seq ret) skip))).seq ((ops 0 [O 12 (mov (N ((0))))]).seq (((ops 0 [O 25 (ldn 8 (t 4)), O 26 (ldn 3 (t 10)), O 27 (call (c (AV.func 31 [])) [t 25, t 26]), O 28 (lenS (t 27)), O 29 (mov (N ((0))))]).seq (block 0 ((ops 0 [O 30 (bin BinOp.lss false false (t 29) (t 28))]).seq ((C2.cond (t 30) skip (exit 0)).seq ((block 1 ((ops 0 [O 31 (ixaS 1 (t 27) (t 29)), O 32 (ld1 (t 31)), O 14 (mov (t 32))]).seq (ops 0 [O 33 (mov (t 12)), O 34 (ldn 3 (t 10)), O 35 (mov (t 14)), O 36 (call (c (AV.func 32 [])) [t 34, t 35]), O 37 (lenStr (t 36)), O 38 (mx (t 33) [t 37]), O 12 (mov (t 38))]))).seq (ops 0 [O 39 (bin BinOp.add false false (t 29) (N ((1)))), O 29 (mov (t 39))])))).loop)).seq ((ops 0 [O 40 (mov (t 12)), O 8 (mov (t 40)), O 9 (mov (N ((0))))]).seq ret)))))))
theorem is15 : Is Try.prog 15 b15 := Is.mk' Try.func15 (by kernel_rfl)

def b17 : F2 := (F2.mk 81 [RV.t 10, RV.t 11] ((ops 0 [O 5 (box (t 0)), O 10 (mov (N ((0)))), O 11 (mov (N ((0))))]).seq ((ops 0 [O 18 (mov (t 1)), O 19 (mov (t 2)), O 20 (mov (t 3)), O 21 (bld [AV.int IntKind.i64 (0), AV.int IntKind.i64 (0), AV.int IntKind.i64 (0)] [(0, 1, t 18), (1, 1, t 19), (2, 1, t 20)]), O 12 (alloc (AV.agg [AV.int IntKind.i64 (0), AV.int IntKind.i64 (0), AV.int IntKind.i64 (0)])), Op2.mk none none (Ins.st 3 (t 12) (t 21))]).seq (((ops 0 [O 22 (ldn 3 (t 12)), O 23 (ldn 8 (t 5)), O 24 (call (c (AV.func 30 [])) [t 22, t 23]), O 13 (mov (t 24))]).seq ((ops 0 [O 25 (mov (t 13)), O 26 (bin BinOp.neq false false (t 25) (N ((0))))]).seq (C2.cond (t 26) ((ops 0 [O 27 (mov (t 13)), O 10 (mov (N ((0)))), O 11 (mov (t 27))]).seq ret) skip))).seq ((ops 0 [O 29 (mov (t 4)), O 30 (call (c (AV.func 35 [])) [t 29]), O 28 (mov (t 30)), O 31 (ext (t 28) 0), O 32 (ext (t 28) 1), O 14 (mov (t 31)), O 15 (mov (t 32))]).seq (((ops 0 [O 33 (mov (t 15)), O 34 (bin BinOp.neq false false (t 33) (N ((0))))]).seq (C2.cond (t 34) ((ops 0 [O 35 (mov (t 15)), O 10 (mov (N ((0)))), O 11 (mov (t 35))]).seq ret) skip)).seq ((ops 0 [O 36 (mov (t 14)), O 37 (slstr (t 36) (some (N ((3)))) none), O 38 (s2b (t 37)), O 39 (bld [AV.esl, AV.bool false] [(0, 1, t 38)]), O 40 (box (t 39)), O 16 (mov (t 40))]).seq ((ops 0 [O 41 (mov (t 16)), O 42 (call (c (AV.func 36 [])) [t 41]), O 17 (mov (t 42))]).seq ((block 0 ((ops 0 [O 44 (mov (t 16)), O 45 (nilck (t 44)), O 46 (fa 1 (t 45)), O 47 (ld1 (t 46)), O 48 (mov (t 47)), G 49 48 false (mov (t 16)), G 50 48 false (nilck (t 49)), G 51 48 false (fa 0 (t 50)), G 52 48 false (ld1 (t 51)), G 53 48 false (lenS (t 52)), G 54 48 false (bin BinOp.gtr false false (t 53) (N ((0)))), O 55 (pick (t 48) (c (AV.bool true)) (t 54)), O 56 (mov (t 55)), G 57 56 false (mov (t 17)), G 58 56 false (bin BinOp.gtr false false (t 57) (N ((1048576)))), O 59 (pick (t 56) (c (AV.bool true)) (t 58)), O 43 (mov (t 59))]).seq (C2.cond (t 43) ((ops 0 [O 10 (mov (N ((0)))), O 11 (mov (N ((3))))]).seq ret) ((ops 0 [O 61 (mov (t 14)), O 62 (slstr (t 61) none (some (N ((3))))), O 63 (s2b (t 62)), O 64 (mov (t 1)), O 65 (conv IntKind.u8 (t 64)), O 66 (mov (t 2)), O 67 (conv IntKind.u8 (t 66)), O 68 (mov (t 3)), O 69 (conv IntKind.u8 (t 68)), O 70 (bldS 1 3 [AV.int IntKind.u8 (0)] [(0, 1, t 65), (1, 1, t 67), (2, 1, t 69)]), O 71 (call (c (AV.func 37 [])) [t 63, t 70]), O 72 (un UnOp.not (t 71)), O 60 (mov (t 72))]).seq (C2.cond (t 60) ((ops 0 [O 10 (mov (N ((0)))), O 11 (mov (N ((22))))]).seq ret) ((ops 0 [O 74 (ldn 8 (t 5)), O 75 (ldn 3 (t 12)), O 76 (call (c (AV.func 31 [])) [t 74, t 75]), O 77 (mov (t 17)), O 78 (call (c (AV.func 38 [])) [t 76, t 77]), O 79 (un UnOp.not (t 78)), O 73 (mov (t 79))]).seq (C2.cond (t 73) ((ops 0 [O 10 (mov (N ((0)))), O 11 (mov (N ((6))))]).seq ret) skip))))))).seq ((ops 0 [O 80 (mov (t 17)), O 10 (mov (t 80)), O 11 (mov (N ((0))))]).seq ret))))))))))
theorem is17 : Is Try.prog 17 b17 := Is.mk' Try.func17 (by kernel_rfl)

def b19 : F2 := (F2.mk 17 [RV.t 2, RV.t 3] ((ops 0 [O 1 (box (t 0)), O 2 (mov (c (AV.str (ByteArray.mk (Array.mk []))))), O 3 (mov (N ((0))))]).seq (((ops 0 [O 6 (ldn 8 (t 1)), O 7 (call (c (AV.func 26 [])) [t 6]), O 4 (mov (t 7))]).seq ((ops 0 [O 8 (mov (t 4)), O 9 (bin BinOp.neq false false (t 8) (N ((0))))]).seq (C2.cond (t 9) ((ops 0 [O 10 (mov (t 4)), O 2 (mov (c (AV.str (ByteArray.mk (Array.mk []))))), O 3 (mov (t 10))]).seq ret) skip))).seq ((ops 0 [O 11 (ldn 8 (t 1)), O 12 (call (c (AV.func 42 [])) [t 11]), O 5 (mov (t 12))]).seq (((ops 0 [O 13 (mov (t 5)), O 14 (lenStr (t 13)), O 15 (bin BinOp.gtr false false (t 14) (N ((65536))))]).seq (C2.cond (t 15) ((ops 0 [O 2 (mov (c (AV.str (ByteArray.mk (Array.mk []))))), O 3 (mov (N ((13))))]).seq ret) skip)).seq ((ops 0 [O 16 (mov (t 5)), O 2 (mov (t 16)), O 3 (mov (N ((0))))]).seq ret))))))
theorem is19 : Is Try.prog 19 b19 := Is.mk' Try.func19 (by kernel_rfl)

def b21 : F2 := (F2.mk 74 [RV.cn 2 8, RV.t 3] ((ops 0 [O 2 (alloc (AV.agg [AV.int IntKind.i64 (0), AV.int IntKind.i64 (0), AV.int IntKind.i64 (0), AV.int IntKind.i64 (0), AV.esl, AV.esl, AV.esl, AV.esl])), O 3 (mov (N ((0))))]).seq (((ops 0 [O 8 (mov (t 0)), O 9 (lenStr (t 8)), O 10 (bin BinOp.gtr false false (t 9) (N ((65536))))]).seq (C2.cond (t 10) ((ops 0 [O 11 (bld [AV.int IntKind.i64 (0), AV.int IntKind.i64 (0), AV.int IntKind.i64 (0), AV.int IntKind.i64 (0), AV.esl, AV.esl, AV.esl, AV.esl] []), Op2.mk none none (Ins.st 8 (t 2) (t 11)), O 3 (mov (N ((13))))]).seq ret) skip)).seq ((ops 0 [O 13 (mov (t 0)), O 14 (call (c (AV.func 35 [])) [t 13]), O 12 (mov (t 14)), O 15 (ext (t 12) 0), O 16 (ext (t 12) 1), O 4 (mov (t 15)), O 5 (mov (t 16))]).seq (((ops 0 [O 17 (mov (t 5)), O 18 (bin BinOp.neq false false (t 17) (N ((0))))]).seq (C2.cond (t 18) ((ops 0 [O 19 (bld [AV.int IntKind.i64 (0), AV.int IntKind.i64 (0), AV.int IntKind.i64 (0), AV.int IntKind.i64 (0), AV.esl, AV.esl, AV.esl, AV.esl] []), O 20 (mov (t 5)), Op2.mk none none (Ins.st 8 (t 2) (t 19)), O 3 (mov (t 20))]).seq ret) skip)).seq ((ops 0 [O 21 (mov (t 4)), O 22 (slstr (t 21) (some (N ((4)))) none), O 23 (s2b (t 22)), O 24 (bld [AV.esl, AV.bool false] [(0, 1, t 23)]), O 25 (box (t 24)), O 6 (mov (t 25))]).seq ((ops 0 [O 26 (mov (t 6)), O 27 (call (c (AV.func 36 [])) [t 26]), O 28 (mov (t 6)), O 29 (call (c (AV.func 36 [])) [t 28]), O 30 (mov (t 6)), O 31 (call (c (AV.func 36 [])) [t 30]), O 32 (mov (t 6)), O 33 (call (c (AV.func 36 [])) [t 32]), O 34 (bld [AV.int IntKind.i64 (0), AV.int IntKind.i64 (0), AV.int IntKind.i64 (0), AV.int IntKind.i64 (0), AV.esl, AV.esl, AV.esl, AV.esl] [(0, 1, t 27), (1, 1, t 29), (2, 1, t 31), (3, 1, t 33)]), O 7 (alloc (AV.agg [AV.int IntKind.i64 (0), AV.int IntKind.i64 (0), AV.int IntKind.i64 (0), AV.int IntKind.i64 (0), AV.esl, AV.esl, AV.esl, AV.esl])), Op2.mk none none (Ins.st 8 (t 7) (t 34))]).seq (((ops 0 [O 35 (mov (t 6)), O 36 (nilck (t 35)), O 37 (fa 1 (t 36)), O 38 (ld1 (t 37)), O 39 (mov (t 38)), G 40 39 false (fa 0 (t 7)), G 41 39 false (ld1 (t 40)), G 42 39 false (bin BinOp.gtr false false (t 41) (N ((5)))), O 43 (pick (t 39) (c (AV.bool true)) (t 42)), O 44 (mov (t 43)), G 45 44 false (fa 1 (t 7)), G 46 44 false (ld1 (t 45)), G 47 44 false (bin BinOp.gtr false false (t 46) (N ((6)))), O 48 (pick (t 44) (c (AV.bool true)) (t 47)), O 49 (mov (t 48)), G 50 49 false (fa 2 (t 7)), G 51 49 false (ld1 (t 50)), G 52 49 false (bin BinOp.gtr false false (t 51) (N ((8)))), O 53 (pick (t 49) (c (AV.bool true)) (t 52))]).seq (C2.cond (t 53) ((ops 0 [O 54 (bld [AV.int IntKind.i64 (0), AV.int IntKind.i64 (0), AV.int IntKind.i64 (0), AV.int IntKind.i64 (0), AV.esl, AV.esl, AV.esl, AV.esl] []), Op2.mk none none (Ins.st 8 (t 2) (t 54)), O 3 (mov (N ((3))))]).seq ret) skip)).seq ((ops 0 [O 55 (mov (t 6)), O 56 (call (c (AV.func 48 [])) [t 55, t 7])]).seq (((ops 0 [O 57 (mov (t 6)), O 58 (nilck (t 57)), O 59 (fa 1 (t 58)), O 60 (ld1 (t 59)), O 61 (mov (t 60)), G 62 61 false (ldn 8 (t 7)), G 63 61 false (call (c (AV.func 26 [])) [t 62]), G 64 61 false (bin BinOp.neq false false (t 63) (N ((0)))), O 65 (pick (t 61) (c (AV.bool true)) (t 64)), O 66 (mov (t 65)), G 67 66 false (ldn 8 (t 7)), G 68 66 false (call (c (AV.func 42 [])) [t 67]), G 69 66 false (mov (t 0)), G 70 66 false (bin BinOp.neq false false (t 68) (t 69)), O 71 (pick (t 66) (c (AV.bool true)) (t 70))]).seq (C2.cond (t 71) ((ops 0 [O 72 (bld [AV.int IntKind.i64 (0), AV.int IntKind.i64 (0), AV.int IntKind.i64 (0), AV.int IntKind.i64 (0), AV.esl, AV.esl, AV.esl, AV.esl] []), Op2.mk none none (Ins.st 8 (t 2) (t 72)), O 3 (mov (N ((3))))]).seq ret) skip)).seq ((ops 0 [O 73 (ldn 8 (t 7)), Op2.mk none none (Ins.st 8 (t 2) (t 73)), O 3 (mov (N ((0))))]).seq ret)))))))))))
theorem is21 : Is Try.prog 21 b21 := Is.mk' Try.func21 (by kernel_rfl)

def b24 : F2 := (F2.mk 28 [RV.t 2] ((ops 0 [O 2 (mov (N ((0))))]).seq ((ops 0 [O 6 (mov (t 0)), O 7 (lenStr (t 6)), O 8 (bin BinOp.rem false false (t 7) (N ((65521)))), O 3 (mov (t 8))]).seq (((ops 0 [O 9 (mov (t 0)), O 10 (s2b (t 9)), O 11 (lenS (t 10)), O 12 (mov (N ((0))))]).seq (block 0 ((ops 0 [O 13 (bin BinOp.lss false false (t 12) (t 11))]).seq ((C2.cond (t 13) skip (exit 0)).seq ((block 1 ((ops 0 [O 14 (mov (t 12)), O 15 (ixaS 1 (t 10) (t 12)), O 16 (ld1 (t 15)), O 4 (mov (t 14)), O 5 (mov (t 16))]).seq (ops 0 [O 17 (mov (t 3)), O 18 (mov (t 4)), O 19 (bin BinOp.add false false (t 18) (N ((1)))), O 20 (bin BinOp.rem false false (t 19) (N ((65521)))), O 21 (mov (t 5)), O 22 (conv IntKind.i64 (t 21)), O 23 (bin BinOp.mul false false (t 20) (t 22)), O 24 (bin BinOp.add false false (t 17) (t 23)), O 25 (bin BinOp.rem false false (t 24) (N ((65521)))), O 3 (mov (t 25))]))).seq (ops 0 [O 26 (bin BinOp.add false false (t 12) (N ((1)))), O 12 (mov (t 26))])))).loop)).seq ((ops 0 [O 27 (mov (t 3)), O 2 (mov (t 27))]).seq ret)))))
theorem is24 : Is Try.prog 24 b24 := Is.mk' Try.func24 (by kernel_rfl)

def b26 : F2 := (F2.mk 75 [RV.t 2] ((ops 0 [O 1 (box (t 0)), O 2 (mov (N ((0))))]).seq ((block 0 ((ops 0 [O 7 (fa 0 (t 1)), O 8 (ld1 (t 7)), O 9 (call (c (AV.func 55 [])) [t 8, c (AV.int IntKind.i64 (1)), c (AV.int IntKind.i64 (5))]), O 10 (un UnOp.not (t 9)), O 11 (mov (t 10)), G 12 11 false (fa 1 (t 1)), G 13 11 false (ld1 (t 12)), G 14 11 false (call (c (AV.func 55 [])) [t 13, c (AV.int IntKind.i64 (0)), c (AV.int IntKind.i64 (6))]), G 15 11 false (un UnOp.not (t 14)), O 16 (pick (t 11) (c (AV.bool true)) (t 15)), O 17 (mov (t 16)), G 18 17 false (fa 2 (t 1)), G 19 17 false (ld1 (t 18)), G 20 17 false (call (c (AV.func 55 [])) [t 19, c (AV.int IntKind.i64 (1)), c (AV.int IntKind.i64 (8))]), G 21 17 false (un UnOp.not (t 20)), O 22 (pick (t 17) (c (AV.bool true)) (t 21)), O 23 (mov (t 22)), G 24 23 false (fa 3 (t 1)), G 25 23 false (ld1 (t 24)), G 26 23 false (call (c (AV.func 55 [])) [t 25, c (AV.int IntKind.i64 (1)), c (AV.int IntKind.i64 (8))]), G 27 23 false (un UnOp.not (t 26)), O 28 (pick (t 23) (c (AV.bool true)) (t 27)), O 6 (mov (t 28))]).seq (C2.cond (t 6) ((ops 0 [O 2 (mov (N ((2))))]).seq ret) ((ops 0 [O 30 (ldn 8 (t 1)), O 31 (call (c (AV.func 56 [])) [t 30]), O 32 (un UnOp.not (t 31)), O 29 (mov (t 32))]).seq (C2.cond (t 29) ((ops 0 [O 2 (mov (N ((15))))]).seq ret) ((ops 0 [O 34 (ldn 8 (t 1)), O 35 (call (c (AV.func 57 [])) [t 34]), O 36 (bin BinOp.gtr false false (t 35) (N ((8192)))), O 37 (mov (t 36)), G 38 37 false (fa 6 (t 1)), G 39 37 false (ld1 (t 38)), G 40 37 false (lenS (t 39)), G 41 37 false (bin BinOp.gtr false false (t 40) (N ((65536)))), O 42 (pick (t 37) (c (AV.bool true)) (t 41)), O 33 (mov (t 42))]).seq (C2.cond (t 33) ((ops 0 [O 2 (mov (N ((5))))]).seq ret) ((ops 0 [O 44 (ldn 8 (t 1)), O 45 (call (c (AV.func 58 [])) [t 44]), O 46 (un UnOp.not (t 45)), O 43 (mov (t 46))]).seq (C2.cond (t 43) ((ops 0 [O 2 (mov (N ((2))))]).seq ret) skip))))))))).seq (((ops 0 [O 47 (fa 6 (t 1)), O 48 (ld1 (t 47)), O 49 (lenS (t 48)), O 50 (mov (N ((0))))]).seq (block 1 ((ops 0 [O 51 (bin BinOp.lss false false (t 50) (t 49))]).seq ((C2.cond (t 51) skip (exit 1)).seq ((block 2 ((ops 0 [O 52 (mov (t 50)), O 53 (ixaS 8 (t 48) (t 50)), O 54 (ldn 8 (t 53)), O 4 (alloc (AV.agg [AV.int IntKind.i64 (0), AV.int IntKind.i64 (0), AV.int IntKind.i64 (0), AV.int IntKind.i64 (0), AV.int IntKind.i64 (0), AV.int IntKind.i64 (0), AV.int IntKind.i64 (0), AV.int IntKind.i64 (0)])), O 3 (mov (t 52)), Op2.mk none none (Ins.st 8 (t 4) (t 54))]).seq (((ops 0 [O 55 (ldn 8 (t 1)), O 56 (ldn 8 (t 4)), O 57 (call (c (AV.func 59 [])) [t 55, t 56]), O 5 (mov (t 57))]).seq ((ops 0 [O 58 (mov (t 5)), O 59 (bin BinOp.neq false false (t 58) (N ((0))))]).seq (C2.cond (t 59) ((ops 0 [O 60 (mov (t 5)), O 2 (mov (t 60))]).seq ret) skip))).seq ((mixS 1 [O 61 (mov (t 3)), O 62 (bin BinOp.gtr false false (t 61) (N ((0)))), O 63 (mov (t 62)), G 64 63 true (fa 6 (t 1)), G 65 63 true (ld1 (t 64)), G 66 63 true (mov (t 3)), G 67 63 true (bin BinOp.sub false false (t 66) (N ((1)))), G 68 63 true (ixaS 8 (t 65) (t 67)), G 69 63 true (ldn 8 (t 68)), G 70 63 true (ldn 8 (t 4)), G 71 63 true (call (c (AV.func 60 [])) [t 69, t 70]), G 72 63 true (bin BinOp.geq false false (t 71) (N ((0)))), O 73 (pick (t 63) (t 72) (c (AV.bool false)))] [(0, 0), (1, 0), (2, 0), (3, 0), (4, 0), (5, 0), (6, 0), (7, 0), (8, 0), (9, 0), (10, 2), (11, 0), (12, 0)]).seq (C2.cond (t 73) ((ops 0 [O 2 (mov (N ((14))))]).seq ret) skip))))).seq (ops 0 [O 74 (bin BinOp.add false false (t 50) (N ((1)))), O 50 (mov (t 74))])))).loop)).seq ((ops 0 [O 2 (mov (N ((0))))]).seq ret)))))
theorem is26 : Is Try.prog 26 b26 := Is.mk' Try.func26 (by kernel_rfl)

def b27 : F2 := (F2.mk 59 [RV.t 4] ((ops 0 [O 2 (box (t 0)), O 3 (box (t 1)), O 4 (mov (c (AV.bool false)))]).seq ((ops 0 [O 5 (fa 0 (t 2)), O 6 (ld1 (t 5)), O 7 (fa 0 (t 3)), O 8 (ld1 (t 7)), O 9 (bin BinOp.eql false false (t 6) (t 8)), O 10 (mov (t 9)), G 11 10 true (fa 1 (t 2)), G 12 10 true (ld1 (t 11)), G 13 10 true (fa 1 (t 3)), G 14 10 true (ld1 (t 13)), G 15 10 true (bin BinOp.eql false false (t 12) (t 14)), O 16 (pick (t 10) (t 15) (c (AV.bool false))), O 17 (mov (t 16)), G 18 17 true (fa 2 (t 2)), G 19 17 true (ld1 (t 18)), G 20 17 true (fa 2 (t 3)), G 21 17 true (ld1 (t 20)), G 22 17 true (bin BinOp.eql false false (t 19) (t 21)), O 23 (pick (t 17) (t 22) (c (AV.bool false))), O 24 (mov (t 23)), G 25 24 true (fa 3 (t 2)), G 26 24 true (ld1 (t 25)), G 27 24 true (fa 3 (t 3)), G 28 24 true (ld1 (t 27)), G 29 24 true (bin BinOp.eql false false (t 26) (t 28)), O 30 (pick (t 24) (t 29) (c (AV.bool false))), O 31 (mov (t 30)), G 32 31 true (fa 4 (t 2)), G 33 31 true (ld1 (t 32)), G 34 31 true (fa 4 (t 3)), G 35 31 true (ld1 (t 34)), G 36 31 true (call (c (AV.func 61 [])) [t 33, t 35]), O 37 (pick (t 31) (t 36) (c (AV.bool false))), O 38 (mov (t 37)), G 39 38 true (fa 7 (t 2)), G 40 38 true (ld1 (t 39)), G 41 38 true (fa 7 (t 3)), G 42 38 true (ld1 (t 41)), G 43 38 true (call (c (AV.func 62 [])) [t 40, t 42]), O 44 (pick (t 38) (t 43) (c (AV.bool false))), O 45 (mov (t 44)), G 46 45 true (fa 5 (t 2)), G 47 45 true (ld1 (t 46)), G 48 45 true (fa 5 (t 3)), G 49 45 true (ld1 (t 48)), G 50 45 true (call (c (AV.func 63 [])) [t 47, t 49, c (AV.func 62 [])]), O 51 (pick (t 45) (t 50) (c (AV.bool false))), O 52 (mov (t 51)), G 53 52 true (fa 6 (t 2)), G 54 52 true (ld1 (t 53)), G 55 52 true (fa 6 (t 3)), G 56 52 true (ld1 (t 55)), G 57 52 true (call (c (AV.func 64 [])) [t 54, t 56]), O 58 (pick (t 52) (t 57) (c (AV.bool false))), O 4 (mov (t 58))]).seq ret)))
theorem is27 : Is Try.prog 27 b27 := Is.mk' Try.func27 (by kernel_rfl)

def b28 : F2 := (F2.mk 35 [RV.t 2] ((ops 0 [O 1 (box (t 0)), O 2 (mov (N ((0))))]).seq ((ops 0 [O 3 (mov (N ((0))))]).seq (((ops 0 [O 4 (mov (N ((0))))]).seq (block 0 (((ops 0 [O 6 (mov (t 4)), O 7 (fa 7 (t 1)), O 8 (ld1 (t 7)), O 9 (lenS (t 8)), O 10 (bin BinOp.lss false false (t 6) (t 9))]).seq (C2.cond (t 10) skip (exit 0))).seq ((block 1 ((ops 0 [O 5 (mov (N ((0))))]).seq (block 2 (((ops 0 [O 13 (mov (t 5)), O 14 (fa 7 (t 1)), O 15 (ld1 (t 14)), O 16 (mov (t 4)), O 17 (ixaS 1 (t 15) (t 16)), O 18 (ld1 (t 17)), O 19 (lenS (t 18)), O 20 (bin BinOp.lss false false (t 13) (t 19))]).seq (C2.cond (t 20) skip (exit 2))).seq ((block 3 (ops 0 [O 23 (mov (t 3)), O 24 (fa 7 (t 1)), O 25 (ld1 (t 24)), O 26 (mov (t 4)), O 27 (ixaS 1 (t 25) (t 26)), O 28 (ld1 (t 27)), O 29 (mov (t 5)), O 30 (ixaS 1 (t 28) (t 29)), O 31 (ld1 (t 30)), O 32 (lenS (t 31)), O 33 (bin BinOp.add false false (t 23) (t 32)), O 3 (mov (t 33))])).seq (ops 0 [O 21 (mov (t 5)), O 22 (bin BinOp.add false false (t 21) (N ((1)))), O 5 (mov (t 22))]))).loop))).seq (ops 0 [O 11 (mov (t 4)), O 12 (bin BinOp.add false false (t 11) (N ((1)))), O 4 (mov (t 12))]))).loop)).seq ((ops 0 [O 34 (mov (t 3)), O 2 (mov (t 34))]).seq ret)))))
theorem is28 : Is Try.prog 28 b28 := Is.mk' Try.func28 (by kernel_rfl)

def b29 : F2 := (F2.mk 27 [RV.cn 0 8] ((ops 0 [O 0 (alloc (AV.agg [AV.int IntKind.i64 (0), AV.int IntKind.i64 (0), AV.int IntKind.i64 (0), AV.int IntKind.i64 (0), AV.esl, AV.esl, AV.esl, AV.esl]))]).seq ((ops 0 [O 1 (bldS 1 2 [AV.int IntKind.i64 (0)] [(0, 1, c (AV.int IntKind.i64 (0))), (1, 1, c (AV.int IntKind.i64 (-1)))]), O 2 (bldS 1 2 [AV.int IntKind.i64 (0)] [(0, 1, c (AV.int IntKind.i64 (0))), (1, 1, c (AV.int IntKind.i64 (1)))]), O 3 (bldS 1 2 [AV.esl] [(0, 1, t 1), (1, 1, t 2)]), O 4 (bldS 1 1 [AV.int IntKind.i64 (0)] [(0, 1, c (AV.int IntKind.i64 (0)))]), O 5 (bldS 1 2 [AV.esl] [(0, 1, c AV.esl), (1, 1, t 4)]), O 6 (bldS 1 2 [AV.int IntKind.i64 (0)] [(0, 1, c (AV.int IntKind.i64 (0))), (1, 1, c (AV.int IntKind.i64 (0)))]), O 7 (bldS 1 2 [AV.esl] [(0, 1, t 6), (1, 1, c AV.esl)]), O 8 (bldS 1 2 [AV.esl] [(0, 1, t 5), (1, 1, t 7)]), O 9 (bldS 1 1 [AV.esl] [(0, 1, t 8)]), O 10 (call (c (AV.func 65 [])) [c (AV.int IntKind.i64 (0)), c (AV.int IntKind.i64 (-1))]), O 11 (bld [AV.int IntKind.i64 (0), AV.int IntKind.i64 (0), AV.int IntKind.i64 (0), AV.int IntKind.i64 (0), AV.int IntKind.i64 (0), AV.int IntKind.i64 (0), AV.int IntKind.i64 (0), AV.int IntKind.i64 (0)] [(2, 5, t 10)]), O 12 (call (c (AV.func 65 [])) [c (AV.int IntKind.i64 (0)), c (AV.int IntKind.i64 (0))]), O 13 (bld [AV.int IntKind.i64 (0), AV.int IntKind.i64 (0), AV.int IntKind.i64 (0), AV.int IntKind.i64 (0), AV.int IntKind.i64 (0), AV.int IntKind.i64 (0), AV.int IntKind.i64 (0), AV.int IntKind.i64 (0)] [(2, 5, t 12)]), O 14 (call (c (AV.func 65 [])) [c (AV.int IntKind.i64 (0)), c (AV.int IntKind.i64 (0))]), O 15 (bld [AV.int IntKind.i64 (0), AV.int IntKind.i64 (0), AV.int IntKind.i64 (0), AV.int IntKind.i64 (0), AV.int IntKind.i64 (0), AV.int IntKind.i64 (0), AV.int IntKind.i64 (0), AV.int IntKind.i64 (0)] [(1, 1, c (AV.int IntKind.i64 (1))), (2, 5, t 14)]), O 16 (call (c (AV.func 65 [])) [c (AV.int IntKind.i64 (0)), c (AV.int IntKind.i64 (1))]), O 17 (bld [AV.int IntKind.i64 (0), AV.int IntKind.i64 (0), AV.int IntKind.i64 (0), AV.int IntKind.i64 (0), AV.int IntKind.i64 (0), AV.int IntKind.i64 (0), AV.int IntKind.i64 (0), AV.int IntKind.i64 (0)] [(1, 1, c (AV.int IntKind.i64 (1))), (2, 5, t 16), (7, 1, c (AV.int IntKind.i64 (1)))]), O 18 (bldS 8 4 [AV.int IntKind.i64 (0), AV.int IntKind.i64 (0), AV.int IntKind.i64 (0), AV.int IntKind.i64 (0), AV.int IntKind.i64 (0), AV.int IntKind.i64 (0), AV.int IntKind.i64 (0), AV.int IntKind.i64 (0)] [(0, 8, t 11), (8, 8, t 13), (16, 8, t 15), (24, 8, t 17)]), O 19 (bldS 1 1 [AV.int IntKind.i64 (0)] [(0, 1, c (AV.int IntKind.i64 (-1)))]), O 20 (bldS 1 2 [AV.int IntKind.i64 (0)] [(0, 1, c (AV.int IntKind.i64 (-1))), (1, 1, c (AV.int IntKind.i64 (-1)))]), O 21 (bldS 1 2 [AV.esl] [(0, 1, t 19), (1, 1, t 20)]), O 22 (bldS 1 1 [AV.int IntKind.i64 (0)] [(0, 1, c (AV.int IntKind.i64 (-1)))]), O 23 (bldS 1 2 [AV.int IntKind.i64 (0)] [(0, 1, c (AV.int IntKind.i64 (-1))), (1, 1, c (AV.int IntKind.i64 (1)))]), O 24 (bldS 1 2 [AV.esl] [(0, 1, t 22), (1, 1, t 23)]), O 25 (bldS 1 2 [AV.esl] [(0, 1, t 21), (1, 1, t 24)]), O 26 (bld [AV.int IntKind.i64 (0), AV.int IntKind.i64 (0), AV.int IntKind.i64 (0), AV.int IntKind.i64 (0), AV.esl, AV.esl, AV.esl, AV.esl] [(0, 1, c (AV.int IntKind.i64 (2))), (1, 1, c (AV.int IntKind.i64 (1))), (2, 1, c (AV.int IntKind.i64 (2))), (3, 1, c (AV.int IntKind.i64 (2))), (4, 1, t 3), (5, 1, t 9), (6, 1, t 18), (7, 1, t 25)]), Op2.mk none none (Ins.st 8 (t 0) (t 26))]).seq ret)))
theorem is29 : Is Try.prog 29 b29 := Is.mk' Try.func29 (by kernel_rfl)

def b30 : F2 := (F2.mk 48 [RV.t 4] ((ops 0 [O 2 (box (t 0)), O 3 (box (t 1)), O 4 (mov (N ((0))))]).seq (((ops 0 [O 6 (ldn 8 (t 3)), O 7 (call (c (AV.func 26 [])) [t 6]), O 5 (mov (t 7))]).seq ((ops 0 [O 8 (mov (t 5)), O 9 (bin BinOp.neq false false (t 8) (N ((0))))]).seq (C2.cond (t 9) ((ops 0 [O 10 (mov (t 5)), O 4 (mov (t 10))]).seq ret) skip))).seq ((block 0 (((ops 0 [O 12 (fa 0 (t 2)), O 13 (ld1 (t 12)), O 14 (bin BinOp.lss false false (t 13) (N ((0)))), O 15 (mov (t 14)), G 16 15 false (fa 0 (t 2)), G 17 15 false (ld1 (t 16)), G 18 15 false (fa 1 (t 3)), G 19 15 false (ld1 (t 18)), G 20 15 false (bin BinOp.geq false false (t 17) (t 19)), O 21 (pick (t 15) (c (AV.bool true)) (t 20)), O 11 (mov (t 21))]).seq (C2.cond (t 11) skip ((ops 0 [O 22 (fa 1 (t 2)), O 23 (ld1 (t 22)), O 24 (bin BinOp.lss false false (t 23) (N ((0)))), O 25 (mov (t 24)), G 26 25 false (fa 1 (t 2)), G 27 25 false (ld1 (t 26)), G 28 25 false (fa 0 (t 3)), G 29 25 false (ld1 (t 28)), G 30 25 false (bin BinOp.geq false false (t 27) (t 29)), O 31 (pick (t 25) (c (AV.bool true)) (t 30)), O 11 (mov (t 31))]).seq (C2.cond (t 11) skip (ops 0 [O 32 (fa 2 (t 2)), O 33 (ld1 (t 32)), O 34 (bin BinOp.lss false false (t 33) (N ((0)))), O 35 (mov (t 34)), G 36 35 false (fa 2 (t 2)), G 37 35 false (ld1 (t 36)), G 38 35 false (fa 0 (t 3)), G 39 35 false (ld1 (t 38)), G 40 35 false (bin BinOp.geq false false (t 37) (t 39)), O 41 (pick (t 35) (c (AV.bool true)) (t 40)), O 11 (mov (t 41))]))))).seq (C2.cond (t 11) ((ops 0 [O 4 (mov (N ((2))))]).seq ret) ((ops 0 [O 43 (fa 1 (t 2)), O 44 (ld1 (t 43)), O 45 (fa 2 (t 2)), O 46 (ld1 (t 45)), O 47 (bin BinOp.eql false false (t 44) (t 46)), O 42 (mov (t 47))]).seq (C2.cond (t 42) ((ops 0 [O 4 (mov (N ((11))))]).seq ret) skip))))).seq ((ops 0 [O 4 (mov (N ((0))))]).seq ret)))))
theorem is30 : Is Try.prog 30 b30 := Is.mk' Try.func30 (by kernel_rfl)

def b31 : F2 := (F2.mk 47 [RV.t 4] ((ops 0 [O 2 (box (t 0)), O 3 (box (t 1)), O 4 (mov (c AV.esl))]).seq ((ops 0 [O 12 (mkm none), O 5 (mov (t 12))]).seq (((ops 0 [O 13 (fa 5 (t 2)), O 14 (ld1 (t 13)), O 15 (lenS (t 14)), O 16 (mov (N ((0))))]).seq (block 0 ((ops 0 [O 17 (bin BinOp.lss false false (t 16) (t 15))]).seq ((C2.cond (t 17) skip (exit 0)).seq ((block 1 ((ops 0 [O 18 (mov (t 16)), O 19 (ixaS 1 (t 14) (t 16)), O 20 (ld1 (t 19)), O 6 (mov (t 18)), O 7 (mov (t 20))]).seq ((ops 0 [O 21 (mov (t 7)), O 22 (lenS (t 21)), O 23 (mov (N ((0))))]).seq (block 2 ((ops 0 [O 24 (bin BinOp.lss false false (t 23) (t 22))]).seq ((C2.cond (t 24) skip (exit 2)).seq ((block 3 ((ops 0 [O 25 (mov (t 23)), O 26 (ixaS 1 (t 21) (t 23)), O 27 (ld1 (t 26)), O 8 (mov (t 25)), O 9 (mov (t 27))]).seq ((ops 0 [O 28 (mov (t 9)), O 29 (lenS (t 28)), O 30 (mov (N ((0))))]).seq (block 4 ((ops 0 [O 31 (bin BinOp.lss false false (t 30) (t 29))]).seq ((C2.cond (t 31) skip (exit 4)).seq ((block 5 ((ops 0 [O 32 (mov (t 30)), O 33 (ixaS 1 (t 28) (t 30)), O 34 (ld1 (t 33)), O 10 (mov (t 32)), O 11 (mov (t 34))]).seq (ops 0 [O 35 (mov (t 5)), O 36 (mov (t 6)), O 37 (mov (t 8)), O 38 (mov (t 10)), O 39 (bld [AV.int IntKind.i64 (0), AV.int IntKind.i64 (0), AV.int IntKind.i64 (0)] [(0, 1, t 36), (1, 1, t 37), (2, 1, t 38)]), O 40 (mov (t 11)), Op2.mk none none (mput (MK.st [int, int, int]) (t 35) (t 39) (t 40))]))).seq (ops 0 [O 41 (bin BinOp.add false false (t 30) (N ((1)))), O 30 (mov (t 41))])))).loop)))).seq (ops 0 [O 42 (bin BinOp.add false false (t 23) (N ((1)))), O 23 (mov (t 42))])))).loop)))).seq (ops 0 [O 43 (bin BinOp.add false false (t 16) (N ((1)))), O 16 (mov (t 43))])))).loop)).seq ((ops 0 [O 44 (mov (t 5)), O 45 (ldn 3 (t 3)), O 46 (Ins.mget (MK.st [int, int, int]) AV.esl false (t 44) (t 45)), O 4 (mov (t 46))]).seq ret)))))
theorem is31 : Is Try.prog 31 b31 := Is.mk' Try.func31 (by kernel_rfl)

def b32 : F2 := (F2.mk 29 [RV.t 4] ((ops 0 [O 2 (box (t 0)), O 4 (mov (c (AV.str (ByteArray.mk (Array.mk [])))))]).seq ((ops 0 [O 8 (fa 0 (t 2)), O 9 (ld1 (t 8)), O 10 (conv IntKind.u8 (t 9)), O 11 (fa 1 (t 2)), O 12 (ld1 (t 11)), O 13 (conv IntKind.u8 (t 12)), O 14 (fa 2 (t 2)), O 15 (ld1 (t 14)), O 16 (conv IntKind.u8 (t 15)), O 17 (bldS 1 3 [AV.int IntKind.u8 (0)] [(0, 1, t 10), (1, 1, t 13), (2, 1, t 16)]), O 18 (b2s (t 17)), O 19 (call (c (AV.func 66 [])) [t 18]), O 7 (mov (t 19)), O 20 (ext (t 7) 0), O 21 (ext (t 7) 1), O 5 (mov (t 20)), O 6 (mov (t 21))]).seq ((ops 0 [O 22 (mov (t 5)), O 23 (mov (t 1)), O 24 (bldS 1 1 [AV.int IntKind.i64 (0)] [(0, 1, t 23)]), O 25 (call (t 22) [c (AV.int IntKind.i64 (0)), t 24])]).seq ((ops 0 [O 26 (mov (t 6)), O 27 (call (t 26) []), O 28 (call (c (AV.func 67 [])) [t 27]), O 4 (mov (t 28))]).seq ret)))))
theorem is32 : Is Try.prog 32 b32 := Is.mk' Try.func32 (by kernel_rfl)

def b35 : F2 := (F2.mk 31 [RV.t 2, RV.t 3] ((ops 0 [O 2 (mov (c (AV.str (ByteArray.mk (Array.mk []))))), O 3 (mov (N ((0))))]).seq ((ops 0 [O 5 (mov (t 0)), O 6 (lenStr (t 5)), O 7 (bin BinOp.sub false false (t 6) (N ((2)))), O 4 (mov (t 7))]).seq (((mix 1 [O 8 (mov (t 4)), O 9 (bin BinOp.lss false false (t 8) (N ((4)))), O 10 (mov (t 9)), G 11 10 false (mov (t 0)), G 12 10 false (mov (t 4)), G 13 10 false (slstr (t 11) none (some (t 12))), G 14 10 false (call (c (AV.func 24 [])) [t 13]), G 15 10 false (mov (t 0)), G 16 10 false (mov (t 4)), G 17 10 false (ixStr (t 15) (t 16)), G 18 10 false (conv IntKind.i64 (t 17)), G 19 10 false (bin BinOp.shl false false (t 18) (c (AV.int IntKind.u64 (8)))), G 20 10 false (mov (t 0)), G 21 10 false (mov (t 4)), G 22 10 false (bin BinOp.add false false (t 21) (N ((1)))), G 23 10 false (ixStr (t 20) (t 22)), G 24 10 false (conv IntKind.i64 (t 23)), G 25 10 false (bin BinOp.or false false (t 19) (t 24)), G 26 10 false (bin BinOp.neq false false (t 14) (t 25)), O 27 (pick (t 10) (c (AV.bool true)) (t 26))] [0, 1, 2, 3, 4, 5, 7, 8, 9, 10, 11, 12, 13, 14, 15, 16, 17, 6, 18, 19]).seq (C2.cond (t 27) ((ops 0 [O 2 (mov (c (AV.str (ByteArray.mk (Array.mk []))))), O 3 (mov (N ((24))))]).seq ret) skip)).seq ((ops 0 [O 28 (mov (t 0)), O 29 (mov (t 4)), O 30 (slstr (t 28) none (some (t 29))), O 2 (mov (t 30)), O 3 (mov (N ((0))))]).seq ret)))))
theorem is35 : Is Try.prog 35 b35 := Is.mk' Try.func35 (by kernel_rfl)

def b36 : F2 := (F2.mk 63 [RV.t 2] ((ops 0 [O 2 (mov (N ((0))))]).seq ((ops 0 [O 3 (mov (N ((0))))]).seq (((ops 0 [O 4 (mov (N ((0))))]).seq (block 0 (((ops 0 [O 6 (mov (t 4)), O 7 (bin BinOp.lss false false (t 6) (N ((4)))), O 8 (mov (t 7)), G 9 8 true (mov (t 4)), G 10 8 true (mov (t 0)), G 11 8 true (nilck (t 10)), G 12 8 true (fa 0 (t 11)), G 13 8 true (ld1 (t 12)), G 14 8 true (lenS (t 13)), G 15 8 true (bin BinOp.lss false false (t 9) (t 14)), O 16 (pick (t 8) (t 15) (c (AV.bool false))), O 17 (mov (t 16)), G 18 17 true (mov (t 0)), G 19 17 true (nilck (t 18)), G 20 17 true (fa 1 (t 19)), G 21 17 true (ld1 (t 20)), G 22 17 true (un UnOp.not (t 21)), O 23 (pick (t 17) (t 22) (c (AV.bool false)))]).seq (C2.cond (t 23) skip (exit 0))).seq ((block 1 ((ops 0 [O 26 (mov (t 0)), O 27 (nilck (t 26)), O 28 (fa 0 (t 27)), O 29 (ld1 (t 28)), O 30 (mov (t 4)), O 31 (ixaS 1 (t 29) (t 30)), O 32 (ld1 (t 31)), O 5 (mov (t 32))]).seq ((ops 0 [O 33 (mov (t 3)), O 34 (mov (t 5)), O 35 (bin BinOp.and false false (t 34) (c (AV.int IntKind.u8 (127)))), O 36 (conv IntKind.i64 (t 35)), O 37 (mov (t 4)), O 38 (bin BinOp.mul false false (N ((7))) (t 37)), O 39 (bin BinOp.shl false false (t 36) (t 38)), O 40 (bin BinOp.or false false (t 33) (t 39)), O 3 (mov (t 40))]).seq ((ops 0 [O 41 (mov (t 5)), O 42 (bin BinOp.lss false false (t 41) (c (AV.int IntKind.u8 (128))))]).seq (C2.cond (t 42) (((ops 0 [O 43 (mov (t 4)), O 44 (bin BinOp.gtr false false (t 43) (N ((0)))), O 45 (mov (t 44)), G 46 45 true (mov (t 5)), G 47 45 true (bin BinOp.eql false false (t 46) (c (AV.int IntKind.u8 (0)))), O 48 (pick (t 45) (t 47) (c (AV.bool false)))]).seq (C2.cond (t 48) (exit 0) skip)).seq ((ops 0 [O 49 (mov (t 0)), O 50 (mov (t 0)), O 51 (nilck (t 50)), O 52 (fa 0 (t 51)), O 53 (ld1 (t 52)), O 54 (mov (t 4)), O 55 (bin BinOp.add false false (t 54) (N ((1)))), O 56 (sls 1 (t 53) (some (t 55)) none none), O 57 (nilck (t 49)), O 58 (fa 0 (t 57)), Op2.mk none none (Ins.st 1 (t 58) (t 56))]).seq ((ops 0 [O 59 (mov (t 3)), O 2 (mov (t 59))]).seq ret))) skip))))).seq (ops 0 [O 24 (mov (t 4)), O 25 (bin BinOp.add false false (t 24) (N ((1)))), O 4 (mov (t 25))]))).loop)).seq ((ops 0 [O 60 (mov (t 0)), O 61 (nilck (t 60)), O 62 (fa 1 (t 61)), Op2.mk none none (Ins.st 1 (t 62) (c (AV.bool true)))]).seq ((ops 0 [O 2 (mov (N ((0))))]).seq ret))))))
theorem is36 : Is Try.prog 36 b36 := Is.mk' Try.func36 (by kernel_rfl)

def b37 : F2 := (F2.mk 10 [RV.t 4] ((ops 0 [O 4 (mov (c (AV.bool false)))]).seq ((ops 0 [O 5 (mov (t 0)), O 6 (b2s (t 5)), O 7 (mov (t 1)), O 8 (b2s (t 7)), O 9 (bin BinOp.eql false false (t 6) (t 8)), O 4 (mov (t 9))]).seq ret)))
theorem is37 : Is Try.prog 37 b37 := Is.mk' Try.func37 (by kernel_rfl)

def b38 : F2 := (F2.mk 9 [RV.t 4] ((ops 0 [O 4 (mov (c (AV.bool false)))]).seq ((ops 0 [O 5 (mov (t 0)), O 6 (mov (t 1)), O 7 (call (c (AV.func 69 [])) [t 5, t 6]), O 8 (bin BinOp.geq false false (t 7) (N ((0)))), O 4 (mov (t 8))]).seq ret)))
theorem is38 : Is Try.prog 38 b38 := Is.mk' Try.func38 (by kernel_rfl)

def b42 : F2 := (F2.mk 128 [RV.t 2] ((ops 0 [O 1 (box (t 0)), O 2 (mov (c (AV.str (ByteArray.mk (Array.mk [])))))]).seq ((ops 0 [O 20 (call (c (AV.func 66 [])) [c (AV.str (ByteArray.mk (Array.mk [82, 84, 77, 1])))]), O 19 (mov (t 20)), O 21 (ext (t 19) 0), O 22 (ext (t 19) 1), O 3 (mov (t 21)), O 4 (mov (t 22))]).seq ((ops 0 [O 23 (mov (t 3)), O 24 (fa 0 (t 1)), O 25 (ld1 (t 24)), O 26 (fa 1 (t 1)), O 27 (ld1 (t 26)), O 28 (fa 2 (t 1)), O 29 (ld1 (t 28)), O 30 (fa 3 (t 1)), O 31 (ld1 (t 30)), O 32 (bldS 1 4 [AV.int IntKind.i64 (0)] [(0, 1, t 25), (1, 1, t 27), (2, 1, t 29), (3, 1, t 31)]), O 33 (call (t 23) [c (AV.int IntKind.i64 (0)), t 32])]).seq (((ops 0 [O 34 (fa 4 (t 1)), O 35 (ld1 (t 34)), O 36 (lenS (t 35)), O 37 (mov (N ((0))))]).seq (block 0 ((ops 0 [O 38 (bin BinOp.lss false false (t 37) (t 36))]).seq ((C2.cond (t 38) skip (exit 0)).seq ((block 1 ((ops 0 [O 39 (ixaS 1 (t 35) (t 37)), O 40 (ld1 (t 39)), O 6 (mov (t 40))]).seq (ops 0 [O 41 (mov (t 3)), O 42 (mov (t 6)), O 43 (call (t 41) [c (AV.int IntKind.i64 (1)), t 42])]))).seq (ops 0 [O 44 (bin BinOp.add false false (t 37) (N ((1)))), O 37 (mov (t 44))])))).loop)).seq (((ops 0 [O 45 (fa 7 (t 1)), O 46 (ld1 (t 45)), O 47 (lenS (t 46)), O 48 (mov (N ((0))))]).seq (block 2 ((ops 0 [O 49 (bin BinOp.lss false false (t 48) (t 47))]).seq ((C2.cond (t 49) skip (exit 2)).seq ((block 3 ((ops 0 [O 50 (ixaS 1 (t 46) (t 48)), O 51 (ld1 (t 50)), O 8 (mov (t 51))]).seq ((ops 0 [O 52 (mov (t 8)), O 53 (lenS (t 52)), O 54 (mov (N ((0))))]).seq (block 4 ((ops 0 [O 55 (bin BinOp.lss false false (t 54) (t 53))]).seq ((C2.cond (t 55) skip (exit 4)).seq ((block 5 ((ops 0 [O 56 (ixaS 1 (t 52) (t 54)), O 57 (ld1 (t 56)), O 10 (mov (t 57))]).seq ((ops 0 [O 58 (mov (t 3)), O 59 (mov (t 10)), O 60 (lenS (t 59)), O 61 (bldS 1 1 [AV.int IntKind.i64 (0)] [(0, 1, t 60)]), O 62 (call (t 58) [c (AV.int IntKind.i64 (0)), t 61])]).seq (ops 0 [O 63 (mov (t 3)), O 64 (mov (t 10)), O 65 (call (t 63) [c (AV.int IntKind.i64 (1)), t 64])])))).seq (ops 0 [O 66 (bin BinOp.add false false (t 54) (N ((1)))), O 54 (mov (t 66))])))).loop)))).seq (ops 0 [O 67 (bin BinOp.add false false (t 48) (N ((1)))), O 48 (mov (t 67))])))).loop)).seq (((ops 0 [O 68 (fa 5 (t 1)), O 69 (ld1 (t 68)), O 70 (lenS (t 69)), O 71 (mov (N ((0))))]).seq (block 6 ((ops 0 [O 72 (bin BinOp.lss false false (t 71) (t 70))]).seq ((C2.cond (t 72) skip (exit 6)).seq ((block 7 ((ops 0 [O 73 (ixaS 1 (t 69) (t 71)), O 74 (ld1 (t 73)), O 12 (mov (t 74))]).seq ((ops 0 [O 75 (mov (t 12)), O 76 (lenS (t 75)), O 77 (mov (N ((0))))]).seq (block 8 ((ops 0 [O 78 (bin BinOp.lss false false (t 77) (t 76))]).seq ((C2.cond (t 78) skip (exit 8)).seq ((block 9 ((ops 0 [O 79 (ixaS 1 (t 75) (t 77)), O 80 (ld1 (t 79)), O 14 (mov (t 80))]).seq ((ops 0 [O 81 (mov (t 14)), O 82 (lenS (t 81)), O 83 (mov (N ((0))))]).seq (block 10 ((ops 0 [O 84 (bin BinOp.lss false false (t 83) (t 82))]).seq ((C2.cond (t 84) skip (exit 10)).seq ((block 11 ((ops 0 [O 85 (ixaS 1 (t 81) (t 83)), O 86 (ld1 (t 85)), O 16 (mov (t 86))]).seq (ops 0 [O 87 (mov (t 3)), O 88 (mov (t 16)), O 89 (call (t 87) [c (AV.int IntKind.i64 (0)), t 88])]))).seq (ops 0 [O 90 (bin BinOp.add false false (t 83) (N ((1)))), O 83 (mov (t 90))])))).loop)))).seq (ops 0 [O 91 (bin BinOp.add false false (t 77) (N ((1)))), O 77 (mov (t 91))])))).loop)))).seq (ops 0 [O 92 (bin BinOp.add false false (t 71) (N ((1)))), O 71 (mov (t 92))])))).loop)).seq ((ops 0 [O 93 (mov (t 3)), O 94 (fa 6 (t 1)), O 95 (ld1 (t 94)), O 96 (lenS (t 95)), O 97 (bldS 1 1 [AV.int IntKind.i64 (0)] [(0, 1, t 96)]), O 98 (call (t 93) [c (AV.int IntKind.i64 (0)), t 97])]).seq (((ops 0 [O 99 (fa 6 (t 1)), O 100 (ld1 (t 99)), O 101 (lenS (t 100)), O 102 (mov (N ((0))))]).seq (block 12 ((ops 0 [O 103 (bin BinOp.lss false false (t 102) (t 101))]).seq ((C2.cond (t 103) skip (exit 12)).seq ((block 13 ((ops 0 [O 104 (ixaS 8 (t 100) (t 102)), O 105 (ldn 8 (t 104)), O 18 (alloc (AV.agg [AV.int IntKind.i64 (0), AV.int IntKind.i64 (0), AV.int IntKind.i64 (0), AV.int IntKind.i64 (0), AV.int IntKind.i64 (0), AV.int IntKind.i64 (0), AV.int IntKind.i64 (0), AV.int IntKind.i64 (0)])), Op2.mk none none (Ins.st 8 (t 18) (t 105))]).seq ((ops 0 [O 106 (mov (t 3)), O 107 (fa 0 (t 18)), O 108 (ld1 (t 107)), O 109 (fa 1 (t 18)), O 110 (ld1 (t 109)), O 111 (bldS 1 2 [AV.int IntKind.i64 (0)] [(0, 1, t 108), (1, 1, t 110)]), O 112 (call (t 106) [c (AV.int IntKind.i64 (0)), t 111])]).seq ((ops 0 [O 113 (mov (t 3)), O 114 (fa 2 (t 18)), O 115 (fa 0 (t 1)), O 116 (ld1 (t 115)), O 117 (slsA 5 (t 114) none (some (t 116))), O 118 (call (t 113) [c (AV.int IntKind.i64 (1)), t 117])]).seq (ops 0 [O 119 (mov (t 3)), O 120 (fa 7 (t 18)), O 121 (ld1 (t 120)), O 122 (bldS 1 1 [AV.int IntKind.i64 (0)] [(0, 1, t 121)]), O 123 (call (t 119) [c (AV.int IntKind.i64 (0)), t 122])]))))).seq (ops 0 [O 124 (bin BinOp.add false false (t 102) (N ((1)))), O 102 (mov (t 124))])))).loop)).seq ((ops 0 [O 125 (mov (t 4)), O 126 (call (t 125) []), O 127 (call (c (AV.func 67 [])) [t 126]), O 2 (mov (t 127))]).seq ret))))))))))
theorem is42 : Is Try.prog 42 b42 := Is.mk' Try.func42 (by kernel_rfl)

def b48 : F2 := (F2.mk 182 [] (((ops 0 [O 13 (mov (t 1)), O 14 (nilck (t 13)), O 15 (fa 0 (t 14)), O 16 (ld1 (t 15)), O 17 (mov (N ((0))))]).seq (block 0 ((ops 0 [O 18 (bin BinOp.lss false false (t 17) (t 16))]).seq ((C2.cond (t 18) skip (exit 0)).seq ((block 1 (mixS 1 [O 19 (mov (t 1)), O 20 (mov (t 1)), O 21 (nilck (t 20)), O 22 (fa 4 (t 21)), O 23 (ld1 (t 22)), O 24 (mov (t 0)), O 25 (mov (t 1)), O 26 (nilck (t 25)), O 27 (fa 2 (t 26)), O 28 (ld1 (t 27)), O 29 (mov (t 0)), O 30 (mkbf 78 [t 29]), O 31 (call (c (AV.func 77 [])) [t 24, t 28, t 30]), O 32 (bldS 1 1 [AV.esl] [(0, 1, t 31)]), O 33 (app 1 24 (t 23) (t 32)), O 34 (nilck (t 19)), O 35 (fa 4 (t 34)), Op2.mk none none (Ins.st 1 (t 35) (t 33))] [(0, 0), (1, 0), (2, 0), (3, 0), (4, 0), (5, 0), (6, 0), (7, 0), (8, 0), (9, 0), (10, 0), (11, 0), (12, 1), (13, 1), (14, 2), (15, 0), (16, 0), (17, 2)])).seq (ops 0 [O 36 (bin BinOp.add false false (t 17) (N ((1)))), O 17 (mov (t 36))])))).loop)).seq (((ops 0 [O 37 (mov (t 1)), O 38 (nilck (t 37)), O 39 (fa 1 (t 38)), O 40 (ld1 (t 39)), O 41 (bin BinOp.add false false (t 40) (N ((1)))), O 42 (mov (N ((0))))]).seq (block 2 ((ops 0 [O 43 (bin BinOp.lss false false (t 42) (t 41))]).seq ((C2.cond (t 43) skip (exit 2)).seq ((block 3 ((ops 0 [O 4 (mov (c AV.esl))]).seq (((ops 0 [O 44 (mov (t 1)), O 45 (nilck (t 44)), O 46 (fa 0 (t 45)), O 47 (ld1 (t 46)), O 48 (mov (N ((0))))]).seq (block 4 ((ops 0 [O 49 (bin BinOp.lss false false (t 48) (t 47))]).seq ((C2.cond (t 49) skip (exit 4)).seq ((block 5 (ops 0 [O 50 (mov (t 4)), O 51 (mov (t 0)), O 52 (mov (t 0)), O 53 (call (c (AV.func 36 [])) [t 52]), O 54 (mov (t 0)), O 55 (mkbf 78 [t 54]), O 56 (call (c (AV.func 77 [])) [t 51, t 53, t 55]), O 57 (bldS 1 1 [AV.esl] [(0, 1, t 56)]), O 58 (app 1 24 (t 50) (t 57)), O 4 (mov (t 58))])).seq (ops 0 [O 59 (bin BinOp.add false false (t 48) (N ((1)))), O 48 (mov (t 59))])))).loop)).seq (ops 0 [O 60 (mov (t 1)), O 61 (mov (t 1)), O 62 (nilck (t 61)), O 63 (fa 7 (t 62)), O 64 (ld1 (t 63)), O 65 (mov (t 4)), O 66 (bldS 1 1 [AV.esl] [(0, 1, t 65)]), O 67 (app 1 24 (t 64) (t 66)), O 68 (nilck (t 60)), O 69 (fa 7 (t 68)), Op2.mk none none (Ins.st 1 (t 69) (t 67))])))).seq (ops 0 [O 70 (bin BinOp.add false false (t 42) (N ((1)))), O 42 (mov (t 70))])))).loop)).seq (((ops 0 [O 71 (mov (t 1)), O 72 (nilck (t 71)), O 73 (fa 1 (t 72)), O 74 (ld1 (t 73)), O 75 (mov (N ((0))))]).seq (block 6 ((ops 0 [O 76 (bin BinOp.lss false false (t 75) (t 74))]).seq ((C2.cond (t 76) skip (exit 6)).seq ((block 7 ((ops 0 [O 77 (mov (t 75)), O 5 (mov (t 77))]).seq ((ops 0 [O 6 (mov (c AV.esl))]).seq (((ops 0 [O 78 (mov (t 1)), O 79 (nilck (t 78)), O 80 (fa 0 (t 79)), O 81 (ld1 (t 80)), O 82 (mov (N ((0))))]).seq (block 8 ((ops 0 [O 83 (bin BinOp.lss false false (t 82) (t 81))]).seq ((C2.cond (t 83) skip (exit 8)).seq ((block 9 ((ops 0 [O 84 (mov (t 82)), O 7 (mov (t 84))]).seq ((ops 0 [O 85 (mov (t 1)), O 86 (nilck (t 85)), O 87 (fa 0 (t 86)), O 88 (ld1 (t 87)), O 89 (mks 1 24 [AV.esl] (t 88) (t 88)), O 8 (mov (t 89))]).seq (((ops 0 [O 90 (mov (t 8)), O 91 (lenS (t 90)), O 92 (mov (N ((0))))]).seq (block 10 ((ops 0 [O 93 (bin BinOp.lss false false (t 92) (t 91))]).seq ((C2.cond (t 93) skip (exit 10)).seq ((block 11 ((ops 0 [O 94 (mov (t 92)), O 9 (mov (t 94))]).seq ((ops 0 [O 95 (mov (t 7)), O 96 (mov (t 9)), O 97 (bin BinOp.neq false false (t 95) (t 96))]).seq (C2.cond (t 97) (ops 0 [O 98 (mov (t 8)), O 99 (mov (t 9)), O 100 (mov (t 0)), O 101 (mov (t 1)), O 102 (nilck (t 101)), O 103 (fa 7 (t 102)), O 104 (ld1 (t 103)), O 105 (mov (t 5)), O 106 (ixaS 1 (t 104) (t 105)), O 107 (ld1 (t 106)), O 108 (mov (t 7)), O 109 (ixaS 1 (t 107) (t 108)), O 110 (ld1 (t 109)), O 111 (lenS (t 110)), O 112 (mov (t 0)), O 113 (mkbf 36 [t 112]), O 114 (call (c (AV.func 77 [])) [t 100, t 111, t 113]), O 115 (ixaS 1 (t 98) (t 99)), Op2.mk none none (Ins.st 1 (t 115) (t 114))]) skip)))).seq (ops 0 [O 116 (bin BinOp.add false false (t 92) (N ((1)))), O 92 (mov (t 116))])))).loop)).seq (ops 0 [O 117 (mov (t 6)), O 118 (mov (t 8)), O 119 (bldS 1 1 [AV.esl] [(0, 1, t 118)]), O 120 (app 1 24 (t 117) (t 119)), O 6 (mov (t 120))]))))).seq (ops 0 [O 121 (bin BinOp.add false false (t 82) (N ((1)))), O 82 (mov (t 121))])))).loop)).seq (ops 0 [O 122 (mov (t 1)), O 123 (mov (t 1)), O 124 (nilck (t 123)), O 125 (fa 5 (t 124)), O 126 (ld1 (t 125)), O 127 (mov (t 6)), O 128 (bldS 1 1 [AV.esl] [(0, 1, t 127)]), O 129 (app 1 24 (t 126) (t 128)), O 130 (nilck (t 122)), O 131 (fa 5 (t 130)), Op2.mk none none (Ins.st 1 (t 131) (t 129))]))))).seq (ops 0 [O 132 (bin BinOp.add false false (t 75) (N ((1)))), O 75 (mov (t 132))])))).loop)).seq ((ops 0 [O 133 (mov (t 0)), O 134 (call (c (AV.func 36 [])) [t 133]), O 10 (mov (t 134))]).seq (block 12 (((ops 0 [O 135 (mov (t 10)), O 136 (bin BinOp.gtr false false (t 135) (N ((0)))), O 137 (mov (t 136)), G 138 137 true (mov (t 0)), G 139 137 true (nilck (t 138)), G 140 137 true (fa 1 (t 139)), G 141 137 true (ld1 (t 140)), G 142 137 true (un UnOp.not (t 141)), O 143 (pick (t 137) (t 142) (c (AV.bool false)))]).seq (C2.cond (t 143) skip (exit 12))).seq ((block 13 ((ops 0 [O 146 (mov (t 0)), O 147 (call (c (AV.func 36 [])) [t 146]), O 148 (mov (t 0)), O 149 (call (c (AV.func 36 [])) [t 148]), O 150 (bld [AV.int IntKind.i64 (0), AV.int IntKind.i64 (0), AV.int IntKind.i64 (0), AV.int IntKind.i64 (0), AV.int IntKind.i64 (0), AV.int IntKind.i64 (0), AV.int IntKind.i64 (0), AV.int IntKind.i64 (0)] [(0, 1, t 147), (1, 1, t 149)]), O 11 (alloc (AV.agg [AV.int IntKind.i64 (0), AV.int IntKind.i64 (0), AV.int IntKind.i64 (0), AV.int IntKind.i64 (0), AV.int IntKind.i64 (0), AV.int IntKind.i64 (0), AV.int IntKind.i64 (0), AV.int IntKind.i64 (0)])), Op2.mk none none (Ins.st 8 (t 11) (t 150))]).seq (((ops 0 [O 151 (mov (N ((0))))]).seq (block 14 ((ops 0 [O 152 (bin BinOp.lss false false (t 151) (N ((5))))]).seq ((C2.cond (t 152) skip (exit 14)).seq ((block 15 ((ops 0 [O 153 (mov (t 151)), O 12 (mov (t 153))]).seq ((ops 0 [O 154 (mov (t 12)), O 155 (fa 2 (t 11)), O 156 (ixaA 5 1 (t 155) (t 154)), Op2.mk none none (Ins.st 1 (t 156) (N ((-1))))]).seq ((ops 0 [O 157 (mov (t 12)), O 158 (mov (t 1)), O 159 (nilck (t 158)), O 160 (fa 0 (t 159)), O 161 (ld1 (t 160)), O 162 (bin BinOp.lss false false (t 157) (t 161))]).seq (C2.cond (t 162) (ops 0 [O 163 (mov (t 12)), O 164 (mov (t 0)), O 165 (call (c (AV.func 78 [])) [t 164]), O 166 (fa 2 (t 11)), O 167 (ixaA 5 1 (t 166) (t 163)), Op2.mk none none (Ins.st 1 (t 167) (t 165))]) skip))))).seq (ops 0 [O 168 (bin BinOp.add false false (t 151) (N ((1)))), O 151 (mov (t 168))])))).loop)).seq ((ops 0 [O 169 (mov (t 0)), O 170 (call (c (AV.func 36 [])) [t 169]), O 171 (fa 7 (t 11)), Op2.mk none none (Ins.st 1 (t 171) (t 170))]).seq (ops 1 [O 172 (mov (t 1)), O 173 (mov (t 1)), O 174 (nilck (t 173)), O 175 (fa 6 (t 174)), O 176 (ld1 (t 175)), O 177 (ldn 8 (t 11)), O 178 (bldS 8 1 [AV.int IntKind.i64 (0), AV.int IntKind.i64 (0), AV.int IntKind.i64 (0), AV.int IntKind.i64 (0), AV.int IntKind.i64 (0), AV.int IntKind.i64 (0), AV.int IntKind.i64 (0), AV.int IntKind.i64 (0)] [(0, 8, t 177)]), O 179 (app 8 64 (t 176) (t 178)), O 180 (nilck (t 172)), O 181 (fa 6 (t 180)), Op2.mk none none (Ins.st 1 (t 181) (t 179))]))))).seq (ops 0 [O 144 (mov (t 10)), O 145 (bin BinOp.sub false false (t 144) (N ((1)))), O 10 (mov (t 145))]))).loop))))))
theorem is48 : Is Try.prog 48 b48 := Is.mk' Try.func48 (by kernel_rfl)

def b55 : F2 := (F2.mk 15 [RV.t 6] ((ops 0 [O 6 (mov (c (AV.bool false)))]).seq ((ops 0 [O 7 (mov (t 0)), O 8 (mov (t 1)), O 9 (bin BinOp.geq false false (t 7) (t 8)), O 10 (mov (t 9)), G 11 10 true (mov (t 0)), G 12 10 true (mov (t 2)), G 13 10 true (bin BinOp.leq false false (t 11) (t 12)), O 14 (pick (t 10) (t 13) (c (AV.bool false))), O 6 (mov (t 14))]).seq ret)))
theorem is55 : Is Try.prog 55 b55 := Is.mk' Try.func55 (by kernel_rfl)

def b56 : F2 := (F2.mk 114 [RV.t 2] ((ops 0 [O 1 (box (t 0)), O 2 (mov (c (AV.bool false)))]).seq (((ops 0 [O 14 (fa 4 (t 1)), O 15 (ld1 (t 14)), O 16 (lenS (t 15)), O 17 (fa 0 (t 1)), O 18 (ld1 (t 17)), O 19 (bin BinOp.neq false false (t 16) (t 18)), O 20 (mov (t 19)), G 21 20 false (fa 7 (t 1)), G 22 20 false (ld1 (t 21)), G 23 20 false (lenS (t 22)), G 24 20 false (fa 1 (t 1)), G 25 20 false (ld1 (t 24)), G 26 20 false (bin BinOp.add false false (t 25) (N ((1)))), G 27 20 false (bin BinOp.neq false false (t 23) (t 26)), O 28 (pick (t 20) (c (AV.bool true)) (t 27)), O 29 (mov (t 28)), G 30 29 false (fa 5 (t 1)), G 31 29 false (ld1 (t 30)), G 32 29 false (lenS (t 31)), G 33 29 false (fa 1 (t 1)), G 34 29 false (ld1 (t 33)), G 35 29 false (bin BinOp.neq false false (t 32) (t 34)), O 36 (pick (t 29) (c (AV.bool true)) (t 35))]).seq (C2.cond (t 36) ((ops 0 [O 2 (mov (c (AV.bool false)))]).seq ret) skip)).seq (((ops 0 [O 37 (fa 4 (t 1)), O 38 (ld1 (t 37)), O 39 (lenS (t 38)), O 40 (mov (N ((0))))]).seq (block 0 ((ops 0 [O 41 (bin BinOp.lss false false (t 40) (t 39))]).seq ((C2.cond (t 41) skip (exit 0)).seq ((block 1 ((ops 0 [O 42 (ixaS 1 (t 38) (t 40)), O 43 (ld1 (t 42)), O 4 (mov (t 43))]).seq ((ops 0 [O 44 (mov (t 4)), O 45 (lenS (t 44)), O 46 (fa 2 (t 1)), O 47 (ld1 (t 46)), O 48 (bin BinOp.neq false false (t 45) (t 47))]).seq (C2.cond (t 48) ((ops 0 [O 2 (mov (c (AV.bool false)))]).seq ret) skip)))).seq (ops 0 [O 49 (bin BinOp.add false false (t 40) (N ((1)))), O 40 (mov (t 49))])))).loop)).seq (((ops 0 [O 50 (fa 7 (t 1)), O 51 (ld1 (t 50)), O 52 (lenS (t 51)), O 53 (mov (N ((0))))]).seq (block 2 ((ops 0 [O 54 (bin BinOp.lss false false (t 53) (t 52))]).seq ((C2.cond (t 54) skip (exit 2)).seq ((block 3 ((ops 0 [O 55 (ixaS 1 (t 51) (t 53)), O 56 (ld1 (t 55)), O 6 (mov (t 56))]).seq ((ops 0 [O 57 (mov (t 6)), O 58 (lenS (t 57)), O 59 (fa 0 (t 1)), O 60 (ld1 (t 59)), O 61 (bin BinOp.neq false false (t 58) (t 60))]).seq (C2.cond (t 61) ((ops 0 [O 2 (mov (c (AV.bool false)))]).seq ret) skip)))).seq (ops 0 [O 62 (bin BinOp.add false false (t 53) (N ((1)))), O 53 (mov (t 62))])))).loop)).seq (((ops 0 [O 63 (fa 5 (t 1)), O 64 (ld1 (t 63)), O 65 (lenS (t 64)), O 66 (mov (N ((0))))]).seq (block 4 ((ops 0 [O 67 (bin BinOp.lss false false (t 66) (t 65))]).seq ((C2.cond (t 67) skip (exit 4)).seq ((block 5 ((ops 0 [O 68 (mov (t 66)), O 69 (ixaS 1 (t 64) (t 66)), O 70 (ld1 (t 69)), O 7 (mov (t 68)), O 8 (mov (t 70))]).seq (((ops 0 [O 71 (mov (t 8)), O 72 (lenS (t 71)), O 73 (fa 0 (t 1)), O 74 (ld1 (t 73)), O 75 (bin BinOp.neq false false (t 72) (t 74))]).seq (C2.cond (t 75) ((ops 0 [O 2 (mov (c (AV.bool false)))]).seq ret) skip)).seq ((ops 0 [O 76 (mov (t 8)), O 77 (lenS (t 76)), O 78 (mov (N ((0))))]).seq (block 6 ((ops 0 [O 79 (bin BinOp.lss false false (t 78) (t 77))]).seq ((C2.cond (t 79) skip (exit 6)).seq ((block 7 ((ops 0 [O 80 (mov (t 78)), O 81 (ixaS 1 (t 76) (t 78)), O 82 (ld1 (t 81)), O 9 (mov (t 80)), O 10 (mov (t 82))]).seq (((ops 0 [O 83 (mov (t 10)), O 84 (lenS (t 83)), O 85 (fa 0 (t 1)), O 86 (ld1 (t 85)), O 87 (bin BinOp.neq false false (t 84) (t 86))]).seq (C2.cond (t 87) ((ops 0 [O 2 (mov (c (AV.bool false)))]).seq ret) skip)).seq ((ops 0 [O 88 (mov (t 10)), O 89 (lenS (t 88)), O 90 (mov (N ((0))))]).seq (block 8 ((ops 0 [O 91 (bin BinOp.lss false false (t 90) (t 89))]).seq ((C2.cond (t 91) skip (exit 8)).seq ((block 9 ((ops 0 [O 92 (mov (t 90)), O 93 (ixaS 1 (t 88) (t 90)), O 94 (ld1 (t 93)), O 11 (mov (t 92)), O 12 (mov (t 94))]).seq ((ops 0 [O 95 (fa 7 (t 1)), O 96 (ld1 (t 95)), O 97 (mov (t 7)), O 98 (ixaS 1 (t 96) (t 97)), O 99 (ld1 (t 98)), O 100 (mov (t 9)), O 101 (ixaS 1 (t 99) (t 100)), O 102 (ld1 (t 101)), O 103 (lenS (t 102)), O 13 (mov (t 103))]).seq (((ops 0 [O 104 (mov (t 9)), O 105 (mov (t 11)), O 106 (bin BinOp.eql false false (t 104) (t 105))]).seq (C2.cond (t 106) (ops 0 [O 13 (mov (N ((0))))]) skip)).seq ((ops 0 [O 107 (mov (t 12)), O 108 (lenS (t 107)), O 109 (mov (t 13)), O 110 (bin BinOp.neq false false (t 108) (t 109))]).seq (C2.cond (t 110) ((ops 0 [O 2 (mov (c (AV.bool false)))]).seq ret) skip)))))).seq (ops 0 [O 111 (bin BinOp.add false false (t 90) (N ((1)))), O 90 (mov (t 111))])))).loop))))).seq (ops 0 [O 112 (bin BinOp.add false false (t 78) (N ((1)))), O 78 (mov (t 112))])))).loop))))).seq (ops 0 [O 113 (bin BinOp.add false false (t 66) (N ((1)))), O 66 (mov (t 113))])))).loop)).seq ((ops 0 [O 2 (mov (c (AV.bool true)))]).seq ret)))))))
theorem is56 : Is Try.prog 56 b56 := Is.mk' Try.func56 (by kernel_rfl)

def b57 : F2 := (F2.mk 28 [RV.t 2] ((ops 0 [O 1 (box (t 0)), O 2 (mov (N ((0))))]).seq ((ops 0 [O 3 (mov (N ((0))))]).seq (((ops 0 [O 8 (fa 7 (t 1)), O 9 (ld1 (t 8)), O 10 (lenS (t 9)), O 11 (mov (N ((0))))]).seq (block 0 ((ops 0 [O 12 (bin BinOp.lss false false (t 11) (t 10))]).seq ((C2.cond (t 12) skip (exit 0)).seq ((block 1 ((ops 0 [O 13 (ixaS 1 (t 9) (t 11)), O 14 (ld1 (t 13)), O 5 (mov (t 14))]).seq ((ops 0 [O 15 (mov (t 5)), O 16 (lenS (t 15)), O 17 (mov (N ((0))))]).seq (block 2 ((ops 0 [O 18 (bin BinOp.lss false false (t 17) (t 16))]).seq ((C2.cond (t 18) skip (exit 2)).seq ((block 3 ((ops 0 [O 19 (ixaS 1 (t 15) (t 17)), O 20 (ld1 (t 19)), O 7 (mov (t 20))]).seq (ops 0 [O 21 (mov (t 3)), O 22 (mov (t 7)), O 23 (lenS (t 22)), O 24 (bin BinOp.add false false (t 21) (t 23)), O 3 (mov (t 24))]))).seq (ops 0 [O 25 (bin BinOp.add false false (t 17) (N ((1)))), O 17 (mov (t 25))])))).loop)))).seq (ops 0 [O 26 (bin BinOp.add false false (t 11) (N ((1)))), O 11 (mov (t 26))])))).loop)).seq ((ops 0 [O 27 (mov (t 3)), O 2 (mov (t 27))]).seq ret)))))
theorem is57 : Is Try.prog 57 b57 := Is.mk' Try.func57 (by kernel_rfl)

def b58 : F2 := (F2.mk 60 [RV.t 2] ((ops 0 [O 1 (box (t 0)), O 2 (mov (c (AV.bool false)))]).seq (((ops 0 [O 11 (fa 4 (t 1)), O 12 (ld1 (t 11)), O 13 (lenS (t 12)), O 14 (mov (N ((0))))]).seq (block 0 ((ops 0 [O 15 (bin BinOp.lss false false (t 14) (t 13))]).seq ((C2.cond (t 15) skip (exit 0)).seq ((block 1 ((ops 0 [O 16 (mov (t 14)), O 17 (ixaS 1 (t 12) (t 14)), O 18 (ld1 (t 17)), O 3 (mov (t 16)), O 4 (mov (t 18))]).seq ((ops 0 [O 19 (mov (t 4)), O 20 (fa 7 (t 1)), O 21 (ld1 (t 20)), O 22 (ixaS 1 (t 21) (N ((0)))), O 23 (ld1 (t 22)), O 24 (mov (t 3)), O 25 (ixaS 1 (t 23) (t 24)), O 26 (ld1 (t 25)), O 27 (lenS (t 26)), O 28 (bin BinOp.sub false false (t 27) (N ((1)))), O 29 (call (c (AV.func 81 [])) [t 19, c (AV.int IntKind.i64 (-1)), t 28]), O 30 (un UnOp.not (t 29))]).seq (C2.cond (t 30) ((ops 0 [O 2 (mov (c (AV.bool false)))]).seq ret) skip)))).seq (ops 0 [O 31 (bin BinOp.add false false (t 14) (N ((1)))), O 14 (mov (t 31))])))).loop)).seq (((ops 0 [O 32 (fa 7 (t 1)), O 33 (ld1 (t 32)), O 34 (lenS (t 33)), O 35 (mov (N ((0))))]).seq (block 2 ((ops 0 [O 36 (bin BinOp.lss false false (t 35) (t 34))]).seq ((C2.cond (t 36) skip (exit 2)).seq ((block 3 ((ops 0 [O 37 (ixaS 1 (t 33) (t 35)), O 38 (ld1 (t 37)), O 6 (mov (t 38))]).seq ((ops 0 [O 39 (mov (t 6)), O 40 (mkfn 83 [t 1]), O 41 (call (c (AV.func 82 [])) [t 39, t 40])]).seq (C2.cond (t 41) ((ops 0 [O 2 (mov (c (AV.bool false)))]).seq ret) skip)))).seq (ops 0 [O 42 (bin BinOp.add false false (t 35) (N ((1)))), O 35 (mov (t 42))])))).loop)).seq (((ops 0 [O 43 (fa 5 (t 1)), O 44 (ld1 (t 43)), O 45 (lenS (t 44)), O 46 (mov (N ((0))))]).seq (block 4 ((ops 0 [O 47 (bin BinOp.lss false false (t 46) (t 45))]).seq ((C2.cond (t 47) skip (exit 4)).seq ((block 5 ((ops 0 [O 48 (ixaS 1 (t 44) (t 46)), O 49 (ld1 (t 48)), O 8 (mov (t 49))]).seq ((ops 0 [O 50 (mov (t 8)), O 51 (lenS (t 50)), O 52 (mov (N ((0))))]).seq (block 6 ((ops 0 [O 53 (bin BinOp.lss false false (t 52) (t 51))]).seq ((C2.cond (t 53) skip (exit 6)).seq ((block 7 ((ops 0 [O 54 (ixaS 1 (t 50) (t 52)), O 55 (ld1 (t 54)), O 10 (mov (t 55))]).seq ((ops 0 [O 56 (mov (t 10)), O 57 (call (c (AV.func 82 [])) [t 56, c (AV.func 84 [])])]).seq (C2.cond (t 57) ((ops 0 [O 2 (mov (c (AV.bool false)))]).seq ret) skip)))).seq (ops 0 [O 58 (bin BinOp.add false false (t 52) (N ((1)))), O 52 (mov (t 58))])))).loop)))).seq (ops 0 [O 59 (bin BinOp.add false false (t 46) (N ((1)))), O 46 (mov (t 59))])))).loop)).seq ((ops 0 [O 2 (mov (c (AV.bool true)))]).seq ret))))))
theorem is58 : Is Try.prog 58 b58 := Is.mk' Try.func58 (by kernel_rfl)

def b59 : F2 := (F2.mk 90 [RV.t 4] ((ops 0 [O 2 (box (t 0)), O 3 (box (t 1)), O 4 (mov (N ((0))))]).seq (((mixS 1 [O 7 (fa 0 (t 3)), O 8 (ld1 (t 7)), O 9 (fa 1 (t 2)), O 10 (ld1 (t 9)), O 11 (bin BinOp.sub false false (t 10) (N ((1)))), O 12 (call (c (AV.func 55 [])) [t 8, c (AV.int IntKind.i64 (0)), t 11]), O 13 (un UnOp.not (t 12)), O 14 (mov (t 13)), G 15 14 false (fa 1 (t 3)), G 16 14 false (ld1 (t 15)), G 17 14 false (fa 0 (t 2)), G 18 14 false (ld1 (t 17)), G 19 14 false (bin BinOp.sub false false (t 18) (N ((1)))), G 20 14 false (call (c (AV.func 55 [])) [t 16, c (AV.int IntKind.i64 (0)), t 19]), G 21 14 false (un UnOp.not (t 20)), O 22 (pick (t 14) (c (AV.bool true)) (t 21)), O 23 (mov (t 22)), G 24 23 false (fa 7 (t 3)), G 25 23 false (ld1 (t 24)), G 26 23 false (fa 7 (t 2)), G 27 23 false (ld1 (t 26)), G 28 23 false (fa 0 (t 3)), G 29 23 false (ld1 (t 28)), G 30 23 false (bin BinOp.add false false (t 29) (N ((1)))), G 31 23 false (ixaS 1 (t 27) (t 30)), G 32 23 false (ld1 (t 31)), G 33 23 false (fa 1 (t 3)), G 34 23 false (ld1 (t 33)), G 35 23 false (ixaS 1 (t 32) (t 34)), G 36 23 false (ld1 (t 35)), G 37 23 false (lenS (t 36)), G 38 23 false (bin BinOp.sub false false (t 37) (N ((1)))), G 39 23 false (call (c (AV.func 55 [])) [t 25, c (AV.int IntKind.i64 (0)), t 38]), G 40 23 false (un UnOp.not (t 39)), O 41 (pick (t 23) (c (AV.bool true)) (t 40))] [(0, 0), (1, 0), (2, 0), (3, 0), (4, 0), (5, 1), (6, 0), (7, 0), (8, 0), (9, 0), (10, 0), (11, 0), (12, 0), (13, 1), (14, 0), (15, 0), (16, 0), (17, 0), (18, 0), (19, 0), (20, 0), (21, 0), (22, 0), (23, 0), (24, 0), (25, 0), (26, 0), (27, 0), (28, 0), (29, 0), (30, 0), (31, 0), (32, 2), (33, 0), (34, 0)]).seq (C2.cond (t 41) ((ops 0 [O 4 (mov (N ((2))))]).seq ret) skip)).seq (((ops 0 [O 42 (fa 2 (t 3)), O 43 (fa 0 (t 2)), O 44 (ld1 (t 43)), O 45 (slsA 5 (t 42) (some (t 44)) none), O 46 (call (c (AV.func 81 [])) [t 45, c (AV.int IntKind.i64 (-1)), c (AV.int IntKind.i64 (-1))]), O 47 (un UnOp.not (t 46))]).seq (C2.cond (t 47) ((ops 0 [O 4 (mov (N ((3))))]).seq ret) skip)).seq (((ops 0 [O 48 (fa 2 (t 3)), O 49 (fa 0 (t 2)), O 50 (ld1 (t 49)), O 51 (slsA 5 (t 48) none (some (t 50))), O 52 (lenS (t 51)), O 53 (mov (N ((0))))]).seq (block 0 ((ops 0 [O 54 (bin BinOp.lss false false (t 53) (t 52))]).seq ((C2.cond (t 54) skip (exit 0)).seq ((block 1 ((ops 0 [O 55 (mov (t 53)), O 56 (ixaS 1 (t 51) (t 53)), O 57 (ld1 (t 56)), O 5 (mov (t 55)), O 6 (mov (t 57))]).seq ((ops 0 [O 58 (mov (t 5)), O 59 (fa 1 (t 3)), O 60 (ld1 (t 59)), O 61 (bin BinOp.eql false false (t 58) (t 60)), O 62 (mov (t 61)), G 63 62 true (mov (t 6)), G 64 62 true (fa 7 (t 2)), G 65 62 true (ld1 (t 64)), G 66 62 true (fa 0 (t 3)), G 67 62 true (ld1 (t 66)), G 68 62 true (ixaS 1 (t 65) (t 67)), G 69 62 true (ld1 (t 68)), G 70 62 true (mov (t 5)), G 71 62 true (ixaS 1 (t 69) (t 70)), G 72 62 true (ld1 (t 71)), G 73 62 true (lenS (t 72)), G 74 62 true (bin BinOp.sub false false (t 73) (N ((1)))), G 75 62 true (call (c (AV.func 55 [])) [t 63, c (AV.int IntKind.i64 (0)), t 74]), G 76 62 true (un UnOp.not (t 75)), O 77 (pick (t 62) (t 76) (c (AV.bool false))), O 78 (mov (t 77)), G 79 78 false (mov (t 5)), G 80 78 false (fa 1 (t 3)), G 81 78 false (ld1 (t 80)), G 82 78 false (bin BinOp.neq false false (t 79) (t 81)), G 83 78 false (mov (t 82)), G 84 83 true (mov (t 6)), G 85 83 true (call (c (AV.func 55 [])) [t 84, c (AV.int IntKind.i64 (-1)), c (AV.int IntKind.i64 (1048576))]), G 86 83 true (un UnOp.not (t 85)), G 87 78 false (pick (t 83) (t 86) (c (AV.bool false))), O 88 (pick (t 78) (c (AV.bool true)) (t 87))]).seq (C2.cond (t 88) ((ops 0 [O 4 (mov (N ((2))))]).seq ret) skip)))).seq (ops 0 [O 89 (bin BinOp.add false false (t 53) (N ((1)))), O 53 (mov (t 89))])))).loop)).seq ((ops 0 [O 4 (mov (N ((0))))]).seq ret))))))
theorem is59 : Is Try.prog 59 b59 := Is.mk' Try.func59 (by kernel_rfl)

def b60 : F2 := (F2.mk 22 [RV.t 4] ((ops 0 [O 2 (box (t 0)), O 3 (box (t 1)), O 4 (mov (N ((0))))]).seq ((mixS 1 [O 5 (fa 0 (t 2)), O 6 (ld1 (t 5)), O 7 (fa 0 (t 3)), O 8 (ld1 (t 7)), O 9 (call (c (AV.func 86 [])) [t 6, t 8]), O 10 (fa 1 (t 2)), O 11 (ld1 (t 10)), O 12 (fa 1 (t 3)), O 13 (ld1 (t 12)), O 14 (call (c (AV.func 86 [])) [t 11, t 13]), O 15 (fa 2 (t 2)), O 16 (slsA 5 (t 15) none none), O 17 (fa 2 (t 3)), O 18 (slsA 5 (t 17) none none), O 19 (call (c (AV.func 87 [])) [t 16, t 18]), O 20 (bldS 1 3 [AV.int IntKind.i64 (0)] [(0, 1, t 9), (1, 1, t 14), (2, 1, t 19)]), O 21 (call (c (AV.func 85 [])) [t 20]), O 4 (mov (t 21))] [(0, 0), (1, 0), (2, 0), (3, 0), (5, 0), (6, 0), (7, 0), (8, 0), (10, 0), (11, 0), (12, 0), (13, 0), (4, 1), (9, 2), (14, 2), (15, 2), (16, 2), (17, 0)]).seq ret)))
theorem is60 : Is Try.prog 60 b60 := Is.mk' Try.func60 (by kernel_rfl)

def b61 : F2 := (F2.mk 8 [RV.t 4] ((ops 0 [O 4 (mov (c (AV.bool false)))]).seq ((ops 0 [O 5 (mov (t 0)), O 6 (mov (t 1)), O 7 (call (c (AV.func 88 [])) [t 5, t 6, c (AV.func 89 [])]), O 4 (mov (t 7))]).seq ret)))
theorem is61 : Is Try.prog 61 b61 := Is.mk' Try.func61 (by kernel_rfl)

def b62 : F2 := (F2.mk 8 [RV.t 4] ((ops 0 [O 4 (mov (c (AV.bool false)))]).seq ((ops 0 [O 5 (mov (t 0)), O 6 (mov (t 1)), O 7 (call (c (AV.func 90 [])) [t 5, t 6, c (AV.func 61 [])]), O 4 (mov (t 7))]).seq ret)))
theorem is62 : Is Try.prog 62 b62 := Is.mk' Try.func62 (by kernel_rfl)

def b63 : F2 := (F2.mk 11 [RV.t 6] ((ops 0 [O 6 (mov (c (AV.bool false)))]).seq ((ops 0 [O 7 (mov (t 0)), O 8 (mov (t 1)), O 9 (mov (t 2)), O 10 (call (c (AV.func 91 [])) [t 7, t 8, t 9]), O 6 (mov (t 10))]).seq ret)))
theorem is63 : Is Try.prog 63 b63 := Is.mk' Try.func63 (by kernel_rfl)

def b64 : F2 := (F2.mk 26 [RV.t 4] ((ops 0 [O 4 (mov (c (AV.bool false)))]).seq (((ops 0 [O 6 (mov (t 0)), O 7 (lenS (t 6)), O 8 (mov (t 1)), O 9 (lenS (t 8)), O 10 (bin BinOp.neq false false (t 7) (t 9))]).seq (C2.cond (t 10) ((ops 0 [O 4 (mov (c (AV.bool false)))]).seq ret) skip)).seq (((ops 0 [O 11 (mov (t 0)), O 12 (lenS (t 11)), O 13 (mov (N ((0))))]).seq (block 0 ((ops 0 [O 14 (bin BinOp.lss false false (t 13) (t 12))]).seq ((C2.cond (t 14) skip (exit 0)).seq ((block 1 ((ops 0 [O 15 (mov (t 13)), O 5 (mov (t 15))]).seq ((ops 1 [O 16 (mov (t 0)), O 17 (mov (t 5)), O 18 (ixaS 8 (t 16) (t 17)), O 19 (ldn 8 (t 18)), O 20 (mov (t 1)), O 21 (mov (t 5)), O 22 (ixaS 8 (t 20) (t 21)), O 23 (ldn 8 (t 22)), O 24 (binS BinOp.neq [int, int, int, int, int, int, int, int] (t 19) (t 23))]).seq (C2.cond (t 24) ((ops 0 [O 4 (mov (c (AV.bool false)))]).seq ret) skip)))).seq (ops 0 [O 25 (bin BinOp.add false false (t 13) (N ((1)))), O 13 (mov (t 25))])))).loop)).seq ((ops 0 [O 4 (mov (c (AV.bool true)))]).seq ret)))))
theorem is64 : Is Try.prog 64 b64 := Is.mk' Try.func64 (by kernel_rfl)

def b65 : F2 := (F2.mk 8 [RV.cn 4 5] ((ops 0 [O 4 (alloc (AV.agg [AV.int IntKind.i64 (0), AV.int IntKind.i64 (0), AV.int IntKind.i64 (0), AV.int IntKind.i64 (0), AV.int IntKind.i64 (0)]))]).seq ((ops 0 [O 5 (mov (t 0)), O 6 (mov (t 1)), O 7 (bld [AV.int IntKind.i64 (0), AV.int IntKind.i64 (0), AV.int IntKind.i64 (0), AV.int IntKind.i64 (0), AV.int IntKind.i64 (0)] [(0, 1, t 5), (1, 1, t 6), (2, 1, c (AV.int IntKind.i64 (-1))), (3, 1, c (AV.int IntKind.i64 (-1))), (4, 1, c (AV.int IntKind.i64 (-1)))]), Op2.mk none none (Ins.st 5 (t 4) (t 7))]).seq ret)))
theorem is65 : Is Try.prog 65 b65 := Is.mk' Try.func65 (by kernel_rfl)

def b66 : F2 := (F2.mk 11 [RV.t 2, RV.t 3] ((ops 0 [O 2 (mov (c AV.nilf)), O 3 (mov (c AV.nilf))]).seq ((ops 0 [O 6 (mov (t 0)), O 7 (s2b (t 6)), O 4 (alloc AV.esl), Op2.mk none none (Ins.st 1 (t 4) (t 7))]).seq ((ops 0 [O 8 (mkfn 92 [t 4]), O 5 (mov (t 8))]).seq ((ops 0 [O 9 (mov (t 5)), O 10 (mkfn 93 [t 4]), O 2 (mov (t 9)), O 3 (mov (t 10))]).seq ret)))))
theorem is66 : Is Try.prog 66 b66 := Is.mk' Try.func66 (by kernel_rfl)

def b67 : F2 := (F2.mk 16 [RV.t 2] ((ops 0 [O 2 (mov (c (AV.str (ByteArray.mk (Array.mk [])))))]).seq ((ops 0 [O 4 (mov (t 0)), O 5 (b2s (t 4)), O 6 (call (c (AV.func 24 [])) [t 5]), O 3 (mov (t 6))]).seq ((ops 0 [O 7 (mov (t 0)), O 8 (mov (t 3)), O 9 (bin BinOp.shr false false (t 8) (c (AV.int IntKind.u64 (8)))), O 10 (conv IntKind.u8 (t 9)), O 11 (mov (t 3)), O 12 (conv IntKind.u8 (t 11)), O 13 (bldS 1 2 [AV.int IntKind.u8 (0)] [(0, 1, t 10), (1, 1, t 12)]), O 14 (app 1 1 (t 7) (t 13)), O 15 (b2s (t 14)), O 2 (mov (t 15))]).seq ret))))
theorem is67 : Is Try.prog 67 b67 := Is.mk' Try.func67 (by kernel_rfl)

def b69 : F2 := (F2.mk 19 [RV.t 4] ((ops 0 [O 4 (mov (N ((0))))]).seq (((ops 0 [O 6 (mov (t 0)), O 7 (lenS (t 6)), O 8 (mov (N ((0))))]).seq (block 0 ((ops 0 [O 9 (bin BinOp.lss false false (t 8) (t 7))]).seq ((C2.cond (t 9) skip (exit 0)).seq ((block 1 ((ops 0 [O 10 (mov (t 8)), O 5 (mov (t 10))]).seq ((ops 0 [O 11 (mov (t 1)), O 12 (mov (t 0)), O 13 (mov (t 5)), O 14 (ixaS 1 (t 12) (t 13)), O 15 (ld1 (t 14)), O 16 (bin BinOp.eql false false (t 11) (t 15))]).seq (C2.cond (t 16) ((ops 0 [O 17 (mov (t 5)), O 4 (mov (t 17))]).seq ret) skip)))).seq (ops 0 [O 18 (bin BinOp.add false false (t 8) (N ((1)))), O 8 (mov (t 18))])))).loop)).seq ((ops 0 [O 4 (mov (N ((-1))))]).seq ret))))
theorem is69 : Is Try.prog 69 b69 := Is.mk' Try.func69 (by kernel_rfl)

def b77 : F2 := (F2.mk 27 [RV.t 6] ((ops 0 [O 6 (mov (c AV.esl))]).seq ((ops 0 [O 7 (mov (c AV.esl))]).seq (((ops 0 [O 8 (mov (N ((0))))]).seq (block 0 (((ops 0 [O 9 (mov (t 8)), O 10 (mov (t 1)), O 11 (bin BinOp.lss false false (t 9) (t 10)), O 12 (mov (t 11)), G 13 12 true (mov (t 0)), G 14 12 true (nilck (t 13)), G 15 12 true (fa 1 (t 14)), G 16 12 true (ld1 (t 15)), G 17 12 true (un UnOp.not (t 16)), O 18 (pick (t 12) (t 17) (c (AV.bool false)))]).seq (C2.cond (t 18) skip (exit 0))).seq ((block 1 (ops 0 [O 21 (mov (t 7)), O 22 (mov (t 2)), O 23 (call (t 22) []), O 24 (bldS 1 1 [AV.int IntKind.i64 (0)] [(0, 1, t 23)]), O 25 (app 1 8 (t 21) (t 24)), O 7 (mov (t 25))])).seq (ops 0 [O 19 (mov (t 8)), O 20 (bin BinOp.add false false (t 19) (N ((1)))), O 8 (mov (t 20))]))).loop)).seq ((ops 0 [O 26 (mov (t 7)), O 6 (mov (t 26))]).seq ret)))))
theorem is77 : Is Try.prog 77 b77 := Is.mk' Try.func77 (by kernel_rfl)

def b78 : F2 := (F2.mk 6 [RV.t 2] ((ops 0 [O 2 (mov (N ((0))))]).seq ((ops 0 [O 3 (mov (t 0)), O 4 (call (c (AV.func 36 [])) [t 3]), O 5 (bin BinOp.sub false false (t 4) (N ((1)))), O 2 (mov (t 5))]).seq ret)))
theorem is78 : Is Try.prog 78 b78 := Is.mk' Try.func78 (by kernel_rfl)

def b81 : F2 := (F2.mk 11 [RV.t 6] ((ops 0 [O 4 (box (t 1)), O 5 (box (t 2)), O 6 (mov (c (AV.bool false)))]).seq ((ops 0 [O 7 (mov (t 0)), O 8 (mkfn 96 [t 4, t 5]), O 9 (call (c (AV.func 95 [])) [t 7, t 8]), O 10 (un UnOp.not (t 9)), O 6 (mov (t 10))]).seq ret)))
theorem is81 : Is Try.prog 81 b81 := Is.mk' Try.func81 (by kernel_rfl)

def b82 : F2 := (F2.mk 9 [RV.t 4] ((ops 0 [O 4 (mov (c (AV.bool false)))]).seq ((ops 0 [O 5 (mov (t 0)), O 6 (mov (t 1)), O 7 (call (c (AV.func 97 [])) [t 5, t 6]), O 8 (bin BinOp.geq false false (t 7) (N ((0)))), O 4 (mov (t 8))]).seq ret)))
theorem is82 : Is Try.prog 82 b82 := Is.mk' Try.func82 (by kernel_rfl)

def b83 : F2 := (F2.mk 10 [RV.t 3] ((ops 0 [O 3 (mov (c (AV.bool false)))]).seq ((ops 0 [O 4 (mov (t 0)), O 5 (fa 3 (t 1)), O 6 (ld1 (t 5)), O 7 (bin BinOp.sub false false (t 6) (N ((1)))), O 8 (call (c (AV.func 81 [])) [t 4, c (AV.int IntKind.i64 (-1)), t 7]), O 9 (un UnOp.not (t 8)), O 3 (mov (t 9))]).seq ret)))
theorem is83 : Is Try.prog 83 b83 := Is.mk' Try.func83 (by kernel_rfl)

def b84 : F2 := (F2.mk 6 [RV.t 2] ((ops 0 [O 2 (mov (c (AV.bool false)))]).seq ((ops 0 [O 3 (mov (t 0)), O 4 (call (c (AV.func 81 [])) [t 3, c (AV.int IntKind.i64 (0)), c (AV.int IntKind.i64 (1048576))]), O 5 (un UnOp.not (t 4)), O 2 (mov (t 5))]).seq ret)))
theorem is84 : Is Try.prog 84 b84 := Is.mk' Try.func84 (by kernel_rfl)

def b85 : F2 := (F2.mk 18 [RV.t 2] ((ops 0 [O 2 (mov (N ((0))))]).seq ((ops 0 [O 3 (mov (N ((0))))]).seq (((ops 0 [O 6 (mov (t 0)), O 7 (lenS (t 6)), O 8 (mov (N ((0))))]).seq (block 0 ((ops 0 [O 9 (bin BinOp.lss false false (t 8) (t 7))]).seq ((C2.cond (t 9) skip (exit 0)).seq ((block 1 ((ops 0 [O 10 (ixaS 1 (t 6) (t 8)), O 11 (ld1 (t 10)), O 5 (mov (t 11))]).seq ((ops 0 [O 12 (mov (t 5)), O 13 (mov (t 3)), O 14 (bin BinOp.neq false false (t 12) (t 13))]).seq (C2.cond (t 14) ((ops 0 [O 15 (mov (t 5)), O 2 (mov (t 15))]).seq ret) skip)))).seq (ops 0 [O 16 (bin BinOp.add false false (t 8) (N ((1)))), O 8 (mov (t 16))])))).loop)).seq ((ops 0 [O 17 (mov (t 3)), O 2 (mov (t 17))]).seq ret)))))
theorem is85 : Is Try.prog 85 b85 := Is.mk' Try.func85 (by kernel_rfl)

def b86 : F2 := (F2.mk 20 [RV.t 4] ((ops 0 [O 4 (mov (N ((0))))]).seq ((ops 0 [O 7 (mov (t 0)), O 8 (call (c (AV.func 98 [])) [t 7]), O 5 (mov (t 8))]).seq ((ops 0 [O 9 (mov (t 1)), O 10 (call (c (AV.func 98 [])) [t 9]), O 6 (mov (t 10))]).seq (((ops 0 [O 11 (mov (t 5))]).seq (C2.cond (t 11) (((ops 0 [O 12 (mov (t 6))]).seq (C2.cond (t 12) ((ops 0 [O 4 (mov (N ((0))))]).seq ret) skip)).seq ((ops 0 [O 4 (mov (N ((-1))))]).seq ret)) skip)).seq (((ops 0 [O 13 (mov (t 6))]).seq (C2.cond (t 13) ((ops 0 [O 4 (mov (N ((1))))]).seq ret) skip)).seq (((ops 0 [O 14 (mov (t 0)), O 15 (mov (t 1)), O 16 (bin BinOp.lss false false (t 14) (t 15))]).seq (C2.cond (t 16) ((ops 0 [O 4 (mov (N ((-1))))]).seq ret) skip)).seq (((ops 0 [O 17 (mov (t 0)), O 18 (mov (t 1)), O 19 (bin BinOp.gtr false false (t 17) (t 18))]).seq (C2.cond (t 19) ((ops 0 [O 4 (mov (N ((1))))]).seq ret) skip)).seq ((ops 0 [O 4 (mov (N ((0))))]).seq ret)))))))))
theorem is86 : Is Try.prog 86 b86 := Is.mk' Try.func86 (by kernel_rfl)

def b87 : F2 := (F2.mk 36 [RV.t 4] ((ops 0 [O 4 (mov (N ((0))))]).seq (((ops 0 [O 9 (mov (t 0)), O 10 (lenS (t 9)), O 11 (mov (N ((0))))]).seq (block 0 ((ops 0 [O 12 (bin BinOp.lss false false (t 11) (t 10))]).seq ((C2.cond (t 12) skip (exit 0)).seq ((block 1 ((ops 0 [O 13 (mov (t 11)), O 14 (ixaS 1 (t 9) (t 11)), O 15 (ld1 (t 14)), O 5 (mov (t 13)), O 6 (mov (t 15))]).seq (((ops 0 [O 16 (mov (t 5)), O 17 (mov (t 1)), O 18 (lenS (t 17)), O 19 (bin BinOp.geq false false (t 16) (t 18))]).seq (C2.cond (t 19) ((ops 0 [O 4 (mov (N ((1))))]).seq ret) skip)).seq ((ops 0 [O 20 (mov (t 1)), O 21 (mov (t 5)), O 22 (ixaS 1 (t 20) (t 21)), O 23 (ld1 (t 22)), O 7 (mov (t 23))]).seq ((ops 0 [O 24 (mov (t 6)), O 25 (mov (t 7)), O 26 (call (c (AV.func 86 [])) [t 24, t 25]), O 8 (mov (t 26))]).seq ((ops 0 [O 27 (mov (t 8)), O 28 (bin BinOp.neq false false (t 27) (N ((0))))]).seq (C2.cond (t 28) ((ops 0 [O 29 (mov (t 8)), O 4 (mov (t 29))]).seq ret) skip))))))).seq (ops 0 [O 30 (bin BinOp.add false false (t 11) (N ((1)))), O 11 (mov (t 30))])))).loop)).seq (((ops 0 [O 31 (mov (t 0)), O 32 (lenS (t 31)), O 33 (mov (t 1)), O 34 (lenS (t 33)), O 35 (bin BinOp.lss false false (t 32) (t 34))]).seq (C2.cond (t 35) ((ops 0 [O 4 (mov (N ((-1))))]).seq ret) skip)).seq ((ops 0 [O 4 (mov (N ((0))))]).seq ret)))))
theorem is87 : Is Try.prog 87 b87 := Is.mk' Try.func87 (by kernel_rfl)

def b88 : F2 := (F2.mk 11 [RV.t 6] ((ops 0 [O 6 (mov (c (AV.bool false)))]).seq ((ops 0 [O 7 (mov (t 0)), O 8 (mov (t 1)), O 9 (mov (t 2)), O 10 (call (c (AV.func 99 [])) [t 7, t 8, t 9]), O 6 (mov (t 10))]).seq ret)))
theorem is88 : Is Try.prog 88 b88 := Is.mk' Try.func88 (by kernel_rfl)

def b89 : F2 := (F2.mk 26 [RV.t 4] ((ops 0 [O 4 (mov (c (AV.bool false)))]).seq (((ops 0 [O 6 (mov (t 0)), O 7 (lenS (t 6)), O 8 (mov (t 1)), O 9 (lenS (t 8)), O 10 (bin BinOp.neq false false (t 7) (t 9))]).seq (C2.cond (t 10) ((ops 0 [O 4 (mov (c (AV.bool false)))]).seq ret) skip)).seq (((ops 0 [O 11 (mov (t 0)), O 12 (lenS (t 11)), O 13 (mov (N ((0))))]).seq (block 0 ((ops 0 [O 14 (bin BinOp.lss false false (t 13) (t 12))]).seq ((C2.cond (t 14) skip (exit 0)).seq ((block 1 ((ops 0 [O 15 (mov (t 13)), O 5 (mov (t 15))]).seq ((ops 1 [O 16 (mov (t 0)), O 17 (mov (t 5)), O 18 (ixaS 1 (t 16) (t 17)), O 19 (ld1 (t 18)), O 20 (mov (t 1)), O 21 (mov (t 5)), O 22 (ixaS 1 (t 20) (t 21)), O 23 (ld1 (t 22)), O 24 (bin BinOp.neq false false (t 19) (t 23))]).seq (C2.cond (t 24) ((ops 0 [O 4 (mov (c (AV.bool false)))]).seq ret) skip)))).seq (ops 0 [O 25 (bin BinOp.add false false (t 13) (N ((1)))), O 13 (mov (t 25))])))).loop)).seq ((ops 0 [O 4 (mov (c (AV.bool true)))]).seq ret)))))
theorem is89 : Is Try.prog 89 b89 := Is.mk' Try.func89 (by kernel_rfl)

def b90 : F2 := (F2.mk 11 [RV.t 6] ((ops 0 [O 6 (mov (c (AV.bool false)))]).seq ((ops 0 [O 7 (mov (t 0)), O 8 (mov (t 1)), O 9 (mov (t 2)), O 10 (call (c (AV.func 100 [])) [t 7, t 8, t 9]), O 6 (mov (t 10))]).seq ret)))
theorem is90 : Is Try.prog 90 b90 := Is.mk' Try.func90 (by kernel_rfl)

def b91 : F2 := (F2.mk 32 [RV.t 6] ((ops 0 [O 6 (mov (c (AV.bool false)))]).seq (((ops 0 [O 10 (mov (t 0)), O 11 (lenS (t 10)), O 12 (mov (t 1)), O 13 (lenS (t 12)), O 14 (bin BinOp.neq false false (t 11) (t 13))]).seq (C2.cond (t 14) ((ops 0 [O 6 (mov (c (AV.bool false)))]).seq ret) skip)).seq (((ops 0 [O 15 (mov (t 0)), O 16 (lenS (t 15)), O 17 (mov (N ((0))))]).seq (block 0 ((ops 0 [O 18 (bin BinOp.lss false false (t 17) (t 16))]).seq ((C2.cond (t 18) skip (exit 0)).seq ((block 1 ((ops 0 [O 19 (mov (t 17)), O 20 (ixaS 1 (t 15) (t 17)), O 21 (ld1 (t 20)), O 7 (mov (t 19)), O 8 (mov (t 21))]).seq ((ops 0 [O 22 (mov (t 1)), O 23 (mov (t 7)), O 24 (ixaS 1 (t 22) (t 23)), O 25 (ld1 (t 24)), O 9 (mov (t 25))]).seq ((ops 0 [O 26 (mov (t 2)), O 27 (mov (t 8)), O 28 (mov (t 9)), O 29 (call (t 26) [t 27, t 28]), O 30 (un UnOp.not (t 29))]).seq (C2.cond (t 30) ((ops 0 [O 6 (mov (c (AV.bool false)))]).seq ret) skip))))).seq (ops 0 [O 31 (bin BinOp.add false false (t 17) (N ((1)))), O 17 (mov (t 31))])))).loop)).seq ((ops 0 [O 6 (mov (c (AV.bool true)))]).seq ret)))))
theorem is91 : Is Try.prog 91 b91 := Is.mk' Try.func91 (by kernel_rfl)

def b92 : F2 := (F2.mk 33 [] ((ops 0 [O 7 (mov (t 1)), O 8 (lenS (t 7)), O 9 (mov (N ((0))))]).seq (block 0 ((ops 0 [O 10 (bin BinOp.lss false false (t 9) (t 8))]).seq ((C2.cond (t 10) skip (exit 0)).seq ((block 1 ((ops 0 [O 11 (ixaS 1 (t 7) (t 9)), O 12 (ld1 (t 11)), O 6 (mov (t 12))]).seq (((ops 0 [O 13 (mov (t 6)), O 14 (mov (t 0)), O 15 (bin BinOp.add false false (t 13) (t 14)), O 6 (mov (t 15))]).seq (block 2 (((ops 0 [O 16 (mov (t 6)), O 17 (bin BinOp.gtr false false (t 16) (N ((127))))]).seq (C2.cond (t 17) skip (exit 2))).seq ((block 3 (ops 0 [O 20 (ld1 (t 2)), O 21 (mov (t 6)), O 22 (bin BinOp.and false false (t 21) (N ((127)))), O 23 (bin BinOp.or false false (t 22) (N ((128)))), O 24 (conv IntKind.u8 (t 23)), O 25 (bldS 1 1 [AV.int IntKind.u8 (0)] [(0, 1, t 24)]), O 26 (app 1 1 (t 20) (t 25)), Op2.mk none none (Ins.st 1 (t 2) (t 26))])).seq (ops 0 [O 18 (mov (t 6)), O 19 (bin BinOp.shr false false (t 18) (c (AV.int IntKind.u64 (7)))), O 6 (mov (t 19))]))).loop)).seq (ops 0 [O 27 (ld1 (t 2)), O 28 (mov (t 6)), O 29 (conv IntKind.u8 (t 28)), O 30 (bldS 1 1 [AV.int IntKind.u8 (0)] [(0, 1, t 29)]), O 31 (app 1 1 (t 27) (t 30)), Op2.mk none none (Ins.st 1 (t 2) (t 31))])))).seq (ops 0 [O 32 (bin BinOp.add false false (t 9) (N ((1)))), O 9 (mov (t 32))])))).loop)))
theorem is92 : Is Try.prog 92 b92 := Is.mk' Try.func92 (by kernel_rfl)

def b93 : F2 := (F2.mk 3 [RV.t 1] ((ops 0 [O 1 (mov (c AV.esl))]).seq ((ops 0 [O 2 (ld1 (t 0)), O 1 (mov (t 2))]).seq ret)))
theorem is93 : Is Try.prog 93 b93 := Is.mk' Try.func93 (by kernel_rfl)

def b95 : F2 := (F2.mk 9 [RV.t 4] ((ops 0 [O 4 (mov (c (AV.bool false)))]).seq ((ops 0 [O 5 (mov (t 0)), O 6 (mov (t 1)), O 7 (call (c (AV.func 101 [])) [t 5, t 6]), O 8 (bin BinOp.geq false false (t 7) (N ((0)))), O 4 (mov (t 8))]).seq ret)))
theorem is95 : Is Try.prog 95 b95 := Is.mk' Try.func95 (by kernel_rfl)

def b96 : F2 := (F2.mk 10 [RV.t 4] ((ops 0 [O 4 (mov (c (AV.bool false)))]).seq ((ops 0 [O 5 (mov (t 0)), O 6 (ld1 (t 1)), O 7 (ld1 (t 2)), O 8 (call (c (AV.func 55 [])) [t 5, t 6, t 7]), O 9 (un UnOp.not (t 8)), O 4 (mov (t 9))]).seq ret)))
theorem is96 : Is Try.prog 96 b96 := Is.mk' Try.func96 (by kernel_rfl)

def b97 : F2 := (F2.mk 19 [RV.t 4] ((ops 0 [O 4 (mov (N ((0))))]).seq (((ops 0 [O 6 (mov (t 0)), O 7 (lenS (t 6)), O 8 (mov (N ((0))))]).seq (block 0 ((ops 0 [O 9 (bin BinOp.lss false false (t 8) (t 7))]).seq ((C2.cond (t 9) skip (exit 0)).seq ((block 1 ((ops 0 [O 10 (mov (t 8)), O 5 (mov (t 10))]).seq ((ops 0 [O 11 (mov (t 1)), O 12 (mov (t 0)), O 13 (mov (t 5)), O 14 (ixaS 1 (t 12) (t 13)), O 15 (ld1 (t 14)), O 16 (call (t 11) [t 15])]).seq (C2.cond (t 16) ((ops 0 [O 17 (mov (t 5)), O 4 (mov (t 17))]).seq ret) skip)))).seq (ops 0 [O 18 (bin BinOp.add false false (t 8) (N ((1)))), O 8 (mov (t 18))])))).loop)).seq ((ops 0 [O 4 (mov (N ((-1))))]).seq ret))))
theorem is97 : Is Try.prog 97 b97 := Is.mk' Try.func97 (by kernel_rfl)

def b98 : F2 := (F2.mk 6 [RV.t 2] ((ops 0 [O 2 (mov (c (AV.bool false)))]).seq ((ops 0 [O 3 (mov (t 0)), O 4 (mov (t 0)), O 5 (bin BinOp.neq false false (t 3) (t 4)), O 2 (mov (t 5))]).seq ret)))
theorem is98 : Is Try.prog 98 b98 := Is.mk' Try.func98 (by kernel_rfl)

def b99 : F2 := (F2.mk 32 [RV.t 6] ((ops 0 [O 6 (mov (c (AV.bool false)))]).seq (((ops 0 [O 10 (mov (t 0)), O 11 (lenS (t 10)), O 12 (mov (t 1)), O 13 (lenS (t 12)), O 14 (bin BinOp.neq false false (t 11) (t 13))]).seq (C2.cond (t 14) ((ops 0 [O 6 (mov (c (AV.bool false)))]).seq ret) skip)).seq (((ops 0 [O 15 (mov (t 0)), O 16 (lenS (t 15)), O 17 (mov (N ((0))))]).seq (block 0 ((ops 0 [O 18 (bin BinOp.lss false false (t 17) (t 16))]).seq ((C2.cond (t 18) skip (exit 0)).seq ((block 1 ((ops 0 [O 19 (mov (t 17)), O 20 (ixaS 1 (t 15) (t 17)), O 21 (ld1 (t 20)), O 7 (mov (t 19)), O 8 (mov (t 21))]).seq ((ops 0 [O 22 (mov (t 1)), O 23 (mov (t 7)), O 24 (ixaS 1 (t 22) (t 23)), O 25 (ld1 (t 24)), O 9 (mov (t 25))]).seq ((ops 0 [O 26 (mov (t 2)), O 27 (mov (t 8)), O 28 (mov (t 9)), O 29 (call (t 26) [t 27, t 28]), O 30 (un UnOp.not (t 29))]).seq (C2.cond (t 30) ((ops 0 [O 6 (mov (c (AV.bool false)))]).seq ret) skip))))).seq (ops 0 [O 31 (bin BinOp.add false false (t 17) (N ((1)))), O 17 (mov (t 31))])))).loop)).seq ((ops 0 [O 6 (mov (c (AV.bool true)))]).seq ret)))))
theorem is99 : Is Try.prog 99 b99 := Is.mk' Try.func99 (by kernel_rfl)

def b100 : F2 := (F2.mk 32 [RV.t 6] ((ops 0 [O 6 (mov (c (AV.bool false)))]).seq (((ops 0 [O 10 (mov (t 0)), O 11 (lenS (t 10)), O 12 (mov (t 1)), O 13 (lenS (t 12)), O 14 (bin BinOp.neq false false (t 11) (t 13))]).seq (C2.cond (t 14) ((ops 0 [O 6 (mov (c (AV.bool false)))]).seq ret) skip)).seq (((ops 0 [O 15 (mov (t 0)), O 16 (lenS (t 15)), O 17 (mov (N ((0))))]).seq (block 0 ((ops 0 [O 18 (bin BinOp.lss false false (t 17) (t 16))]).seq ((C2.cond (t 18) skip (exit 0)).seq ((block 1 ((ops 0 [O 19 (mov (t 17)), O 20 (ixaS 1 (t 15) (t 17)), O 21 (ld1 (t 20)), O 7 (mov (t 19)), O 8 (mov (t 21))]).seq ((ops 0 [O 22 (mov (t 1)), O 23 (mov (t 7)), O 24 (ixaS 1 (t 22) (t 23)), O 25 (ld1 (t 24)), O 9 (mov (t 25))]).seq ((ops 0 [O 26 (mov (t 2)), O 27 (mov (t 8)), O 28 (mov (t 9)), O 29 (call (t 26) [t 27, t 28]), O 30 (un UnOp.not (t 29))]).seq (C2.cond (t 30) ((ops 0 [O 6 (mov (c (AV.bool false)))]).seq ret) skip))))).seq (ops 0 [O 31 (bin BinOp.add false false (t 17) (N ((1)))), O 17 (mov (t 31))])))).loop)).seq ((ops 0 [O 6 (mov (c (AV.bool true)))]).seq ret)))))
theorem is100 : Is Try.prog 100 b100 := Is.mk' Try.func100 (by kernel_rfl)

def b101 : F2 := (F2.mk 19 [RV.t 4] ((ops 0 [O 4 (mov (N ((0))))]).seq (((ops 0 [O 6 (mov (t 0)), O 7 (lenS (t 6)), O 8 (mov (N ((0))))]).seq (block 0 ((ops 0 [O 9 (bin BinOp.lss false false (t 8) (t 7))]).seq ((C2.cond (t 9) skip (exit 0)).seq ((block 1 ((ops 0 [O 10 (mov (t 8)), O 5 (mov (t 10))]).seq ((ops 0 [O 11 (mov (t 1)), O 12 (mov (t 0)), O 13 (mov (t 5)), O 14 (ixaS 1 (t 12) (t 13)), O 15 (ld1 (t 14)), O 16 (call (t 11) [t 15])]).seq (C2.cond (t 16) ((ops 0 [O 17 (mov (t 5)), O 4 (mov (t 17))]).seq ret) skip)))).seq (ops 0 [O 18 (bin BinOp.add false false (t 8) (N ((1)))), O 8 (mov (t 18))])))).loop)).seq ((ops 0 [O 4 (mov (N ((-1))))]).seq ret))))
theorem is101 : Is Try.prog 101 b101 := Is.mk' Try.func101 (by kernel_rfl)

end Go.Proofs.Ytpbjhjkfobapeaa

/- Q1: contracts of functions and plain laws; for all inputs that the theorems name. -/
set_option linter.unusedSimpArgs false
set_option linter.unusedVariables false
namespace Go.Proofs.Ytpbjhjkfobapeaa
open Go Go.Abs
attribute [local irreducible] awp2 aops2 ains aloop athen bbind obind gbind acond res1 Go.Abs.Fn PCall Go.Abs.Pure SnapArgs SnapL Yl

abbrev Sh {α : Type} (l : List α) : Prop := l.length ≤ 9223372036854775807

def ckT (l : List UInt8) : Nat → Int
  | 0 => (l.length : Int) % 65521
  | k + 1 => (ckT l k + ((k : Int) + 1) % 65521 * ((l.getD k default).toNat : Int)) % 65521
def csum (l : List UInt8) : Int := ckT l l.length
theorem ckT_bd (l : List UInt8) : ∀ k, 0 ≤ ckT l k ∧ ckT l k < 65521
  | 0 => by simp only [ckT]; omega
  | k + 1 => by simp only [ckT]; omega

theorem checksum_c (l : List UInt8) (hl : Sh l) : Pure Try.prog 24 [encS l] (.int .i64 (csum l)) := by
  refine Pure.of_c2 follows is24 (Nat.le_of_ble_eq_true rfl) ?_
  simp only [b24, O, G, N]
  have hl' : l.length ≤ 9223372036854775807 := hl
  repeat' (first | refine w_seq ?_ | refine w_ops0 ?_ | refine a_n ?_ | refine o_nil ?_ | (apply o_val rfl rfl; (focus ((try simp (disch := omega) only [simB0, ZA, Nat.reduceEqDiff, ↓reduceIte, Nat.reduceAdd, Nat.reduceLeDiff, ZV, reduceCtorEq, alenStr_encS, rem_pos]); first | with_reducible rfl | (apply s_ite; (focus omega); with_reducible rfl)))))
  refine o_s2b (bs := ⟨l.toArray⟩) (by ((try simp only [simB0, ZA, Nat.reduceEqDiff, ↓reduceIte, Nat.reduceAdd, Nat.reduceLeDiff]); (try with_reducible rfl)); rfl) (fun h0 => ?_) (fun h0 => ?_)
  all_goals rw [encS_size] at h0
  · have hn : l = [] := List.length_eq_zero_iff.1 h0
    repeat' (first | refine w_block ?_ | refine a_n ?_ | refine o_nil ?_ | (apply o_val rfl rfl; (focus ((try simp (disch := omega) only [simB0, ZA, Nat.reduceEqDiff, ↓reduceIte, Nat.reduceAdd, Nat.reduceLeDiff, ZV, reduceCtorEq]); first | with_reducible rfl | (apply s_ite; (focus omega); with_reducible rfl)))) | refine w_loop ?_)
    refine loop0 (X := Unit) (fun k => [(3, .int .i64 ((l.length : Int) % 65521)), (11, .int .i64 0), (12, .int .i64 0)]) (fun _ => True) (fun k => 0) () trivial (by simp (disch := omega) only [agr, SA, Nat.reduceEqDiff, ↓reduceIte, wrap64, Int.natCast_add, Int.natCast_one, Int.natCast_zero, and_true, and_self, List.length_nil, Int.natCast_zero]) ?_
    rintro k _
    repeat' (first | refine w_seq ?_ | refine w_ops0 ?_ | refine w_exit ?_ | refine w_ret ?_ | refine a_n ?_ | refine a_x ?_ | refine o_nil ?_ | (apply o_val rfl rfl; (focus ((try simp (disch := omega) only [simB0, ZA, Nat.reduceEqDiff, ↓reduceIte, Nat.reduceAdd, Nat.reduceLeDiff, ZV, reduceCtorEq]); first | with_reducible rfl | (apply s_ite; (focus omega); with_reducible rfl)))) | (apply w_cond; (focus ((try simp only [simB0, ZA, Nat.reduceEqDiff, ↓reduceIte, Nat.reduceAdd, Nat.reduceLeDiff]); (try with_reducible rfl); done)); all_goals (intro _hg; (try simp only [Bool.not_eq_true', Bool.not_eq_false', Bool.not_not, decide_eq_true_eq, decide_eq_false_iff_not] at _hg); try (exfalso; omega))) | (refine e_ends rfl ?_) | (apply r_1; (focus (simp only [rv, simB0, ZA, Nat.reduceEqDiff, ↓reduceIte, Nat.reduceAdd, Nat.reduceLeDiff]; with_reducible rfl))))
    subst hn
    exact .int _ _
  · rw [encS_size]
    rw [encS_data]
    repeat' (first | refine w_block ?_ | refine a_n ?_ | refine o_nil ?_ | (apply o_val rfl rfl; (focus ((try simp (disch := omega) only [simB0, ZA, Nat.reduceEqDiff, ↓reduceIte, Nat.reduceAdd, Nat.reduceLeDiff, ZV, reduceCtorEq]); first | with_reducible rfl | (apply s_ite; (focus omega); with_reducible rfl)))) | refine w_loop ?_)
    refine loopI (X := Nat) (fun k => [(3, .int .i64 (ckT l k)), (10, .msl 0 l.length 1 0 l.length), (11, .int .i64 l.length), (12, .int .i64 k)]) (fun k H nx => k ≤ l.length ∧ H 0 = some (l.map encB)) (fun k => l.length - k) 0 ⟨Nat.zero_le _, hupd_self'⟩ (by simp (disch := omega) only [agr, SA, Nat.reduceEqDiff, ↓reduceIte, wrap64, Int.natCast_add, Int.natCast_one, Int.natCast_zero, and_true, and_self, ckT]) ?_
    rintro k H nx ⟨h1, hH⟩
    have hb := ckT_bd l k
    have hc := byte_lt (l.getD k default)
    have hm : 0 ≤ ((k : Int) + 1) % 65521 * ((l.getD k default).toNat : Int) := Int.mul_nonneg (by omega) (by omega)
    have hm2 : ((k : Int) + 1) % 65521 * ((l.getD k default).toNat : Int) ≤ 65520 * 255 := Int.mul_le_mul (by omega) (by omega) (by omega) (by omega)
    repeat' (first | refine w_seq ?_ | refine w_ops0 ?_ | refine w_block ?_ | refine w_skip ?_ | refine w_exit ?_ | refine w_ret ?_ | refine a_n ?_ | refine a_x ?_ | refine o_nil ?_ | (apply o_val rfl rfl; (focus ((try simp (disch := omega) only [simB0, ZA, Nat.reduceEqDiff, ↓reduceIte, Nat.reduceAdd, Nat.reduceLeDiff, ZV, reduceCtorEq, hH, encB, rem_pos]); first | with_reducible rfl | (apply s_ite; (focus omega); with_reducible rfl)))) | (apply w_cond; (focus ((try simp only [simB0, ZA, Nat.reduceEqDiff, ↓reduceIte, Nat.reduceAdd, Nat.reduceLeDiff, hH, encB, rem_pos]); (try with_reducible rfl); done)); all_goals (intro _hg; (try simp only [Bool.not_eq_true', Bool.not_eq_false', Bool.not_not, decide_eq_true_eq, decide_eq_false_iff_not] at _hg); try (exfalso; omega))) | (refine e_ends rfl ?_) | (apply r_1; (focus (simp only [rv, simB0, ZA, Nat.reduceEqDiff, ↓reduceIte, Nat.reduceAdd, Nat.reduceLeDiff, hH, encB, rem_pos]; with_reducible rfl))))
    · refine ⟨k + 1, by omega, ⟨by omega, hH⟩, ?_⟩
      simp only [ckT]
      simp (disch := omega) only [agr, SA, Nat.reduceEqDiff, ↓reduceIte, wrap64, Int.natCast_add, Int.natCast_one, Int.natCast_zero, and_true, and_self]
    · rw [show k = l.length by omega]
      exact .int _ _

end Go.Proofs.Ytpbjhjkfobapeaa

/- Q2: contracts of functions and plain laws; for all inputs that the theorems name. -/
set_option linter.unusedSimpArgs false
set_option linter.unusedVariables false
namespace Go.Proofs.Ytpbjhjkfobapeaa
open Go Go.Abs

def vintF : Nat → Nat → List UInt8
  | 0, n => [UInt8.ofNat n]
  | k + 1, n => if 127 < n then UInt8.ofNat (n % 128 + 128) :: vintF k (n / 128) else [UInt8.ofNat n]
def vint (n : Nat) : List UInt8 := vintF 9 n
def vints (add : Int) (l : List Int) : List UInt8 := l.flatMap fun x => vint (x + add).toNat
theorem vintF_succ : ∀ (k n : Nat), n < 128 ^ (k + 1) → vintF (k + 1) n = vintF k n
  | 0, n, h => by simp only [vintF]; rw [if_neg (by simpa using Nat.lt_succ_iff.1 h)]
  | k + 1, n, h => by
    have h2 : n / 128 < 128 ^ (k + 1) := by
      rw [Nat.div_lt_iff_lt_mul (by omega), ← Nat.pow_succ]; exact h
    show (if 127 < n then UInt8.ofNat (n % 128 + 128) :: vintF (k + 1) (n / 128) else [UInt8.ofNat n]) = (if 127 < n then UInt8.ofNat (n % 128 + 128) :: vintF k (n / 128) else [UInt8.ofNat n])
    rw [vintF_succ k _ h2]
theorem vint_big {n : Nat} (h : 127 < n) (h2 : n < 128 ^ 9) : vint n = UInt8.ofNat (n % 128 + 128) :: vint (n / 128) := by
  unfold vint
  rw [vintF, if_pos h]
  congr 1
  have h3 : n / 128 < 128 ^ 9 := Nat.lt_of_le_of_lt (Nat.div_le_self _ _) h2
  exact (vintF_succ 8 _ h3).symm
theorem vint_small {n : Nat} (h : ¬ 127 < n) : vint n = [UInt8.ofNat n] := by
  unfold vint
  rw [vintF, if_neg h]
theorem vintF_len : ∀ (k n : Nat), (vintF k n).length ≤ k + 1
  | 0, n => by simp [vintF]
  | k + 1, n => by
    simp only [vintF]
    split
    · have := vintF_len k (n / 128)
      simp; omega
    · simp
theorem vint_len (n : Nat) : (vint n).length ≤ 10 := vintF_len 9 n
theorem vints_len (add : Int) : ∀ l : List Int, (vints add l).length ≤ 10 * l.length
  | [] => by simp [vints]
  | x :: l => by
    have h1 := vints_len add l
    have h2 := vint_len (x + add).toNat
    unfold vints at *
    rw [List.flatMap_cons, List.length_append, List.length_cons]; omega
theorem vints_snoc (add : Int) (l : List Int) (x : Int) : vints add (l ++ [x]) = vints add l ++ vint (x + add).toNat := by simp [vints]

structure OutI (b : Nat) (bs : List UInt8) (H : Hp) (nx : Nat) (s : AV) : Prop where
  box : H b = some [s]
  row : Row H 1 s (bs.map encB)
  ne : rowB s ≠ some b
  lt : ∀ r, rowB s = some r → r < nx
  blt : b < nx
def OutS (H0 : Hp) (nx0 : Nat) (s0 : AV) (b : Nat) (bs : List UInt8) (H : Hp) (nx : Nat) : Prop :=
  ∃ s, OutI b bs H nx s ∧ nx0 ≤ nx ∧ (rowB s = rowB s0 ∨ ∀ r, rowB s = some r → nx0 ≤ r) ∧ ∀ i, i < nx0 → i ≠ b → rowB s0 ≠ some i → H i = H0 i

theorem OutS.refl {H0 : Hp} {nx0 : Nat} {s0 : AV} {b : Nat} {bs : List UInt8} (h : OutI b bs H0 nx0 s0) : OutS H0 nx0 s0 b bs H0 nx0 := ⟨s0, h, Nat.le_refl _, .inl rfl, fun _ _ _ _ => rfl⟩

structure Reads (H0 : Hp) (nx0 : Nat) (s0 : AV) (b : Nat) (x : AV) (l : List Int) : Prop where
  len : alenS x = some (.int .i64 l.length)
  ix : ∀ k : Nat, k < l.length → ∃ p, aixS 1 x (.int .i64 k) = some p ∧ ∀ H : Hp, (∀ i, i < nx0 → i ≠ b → rowB s0 ≠ some i → H i = H0 i) → rd1 H p = some (.int .i64 (l.getD k default))

theorem Reads.data {H0 : Hp} {nx0 : Nat} {s0 : AV} {b : Nat} (l : List Int) : Reads H0 nx0 s0 b (encV l) l :=
  ⟨alenS_encV, fun k hk => ⟨.iptr [.int .i64 (l.getD k default)] 0, by rw [aixS_encV, if_pos ⟨by omega, by omega⟩]; rfl, fun H _ => rfl⟩⟩
theorem Reads.box {H0 : Hp} {nx0 : Nat} {s0 : AV} {b bx n : Nat} {l : List Int} (hb : H0 bx = some (l.map (AV.int .i64))) (hlt : bx < nx0) (h1 : bx ≠ b) (h2 : rowB s0 ≠ some bx) (hn : n = l.length) : Reads H0 nx0 s0 b (.msl bx n 1 0 n) l :=
  ⟨by subst hn; rfl, fun k hk => ⟨.ptr bx n k, by rw [aixS_msl, if_pos ⟨by omega, by omega⟩]; simp, fun H hH => by
    have := hH bx hlt h1 h2
    simp only [rd1, this, hb]
    rw [if_pos (by simp [hn]), getElem?_map_lt hk]⟩⟩

theorem bytes_one {H : Hp} {b : Nat} {v : UInt8} (hb : H b = some [encB v]) : asrc 1 H (.msl b 1 1 0 1) = some (1, [v].map encB) := asrc_bytes (l := [v]) hb rfl

attribute [local irreducible] awp2 aops2 ains aloop athen bbind obind gbind acond res1 Go.Abs.Fn PCall Go.Abs.Pure SnapArgs SnapL Yl
theorem push_out {H0 : Hp} {nx0 : Nat} {s0 s : AV} {b : Nat} {bs : List UInt8} {H : Hp} {nx : Nat} {v : UInt8} {P : Program} {T : Tm} {K : SP} {l : List Op2} {d : Option Nat} {sx x : Opd} {bytes : Nat} (hI : OutI b bs H nx s) (hle : nx0 ≤ nx) (hr : rowB s = rowB s0 ∨ ∀ r, rowB s = some r → nx0 ≤ r) (hfr : ∀ i, i < nx0 → i ≠ b → rowB s0 ≠ some i → H i = H0 i)
    (hs : ov T sx = s) (hx : ov T x = .msl nx 1 1 0 1) (hb1 : bytes = 1) (hlen : bs.length ≤ 1099511627776)
    (k : ∀ (s' : AV) (H' : Hp) (nx' : Nat), s'.one = true → s'.cells = [s'] → H' b = some [s] → OutS H0 nx0 s0 b (bs ++ [v]) (hupd H' b [s']) nx' → aops2 P .text l (updo T d s') H' nx' K) :
    aops2 P .text (⟨d, none, .app 1 bytes sx x⟩ :: l) T (hupd H nx [encB v]) (nx + 1) K := by
  subst hb1
  obtain ⟨i1, i2, i3, i4, i5⟩ := hI
  refine e_row rfl hs (i2.same fun r hr => hupd_ne (by have := i4 r hr; omega)) hx (bytes_one hupd_self') ones_bytes rfl Nat.one_pos (by simp; omega) (by simp; omega) ?_
  rintro s' H' nx' hrow h1 h2 h3 h4
  have hbb : H' b = some [s] := by
    rw [h3 b (by omega) i3, hupd_ne (by omega), i1]
  refine k s' H' nx' hrow.one.1 hrow.one.2 hbb ⟨s', ⟨hupd_self', ?_, ?_, ?_, by omega⟩, by omega, ?_, ?_⟩
  · rw [List.map_append]
    refine hrow.same fun r hr => hupd_ne ?_
    rcases h4 r hr with h | h
    · exact fun e => i3 (by rw [h, e])
    · omega
  · intro h
    rcases h4 b h with h | h
    · exact i3 h
    · omega
  · intro r hr
    rcases h4 r hr with h | h
    · have := i4 r h; omega
    · omega
  · rcases hr with hr | hr
    · cases hs' : rowB s' with
      | none => exact .inr (fun r h => by cases h)
      | some r =>
        rcases h4 r hs' with h | h
        · left; rw [← hr, h]
        · right; intro r' hr'; cases hr'; omega
    · right
      intro r hr'
      rcases h4 r hr' with h | h
      · exact hr r h
      · omega
  · intro i hi hne hne2
    rw [hupd_ne hne, h3 i (by omega) (fun h => ?_), hupd_ne (by omega), hfr i hi hne hne2]
    rcases hr with hr | hr
    · exact hne2 (by rw [← hr, h])
    · have := hr i h; omega

end Go.Proofs.Ytpbjhjkfobapeaa

/- Q3: contracts of functions and plain laws; for all inputs that the theorems name. -/
set_option linter.unusedSimpArgs false
set_option linter.unusedVariables false
namespace Go.Proofs.Ytpbjhjkfobapeaa
open Go Go.Abs
attribute [local irreducible] awp2 aops2 ains aloop athen bbind obind gbind acond res1 Go.Abs.Fn PCall Go.Abs.Pure SnapArgs SnapL Yl

theorem byteU8 {n : Int} (h : 0 ≤ n) : IntKind.wrap .u8 n = ((UInt8.ofNat n.toNat).toNat : Int) := by
  rw [wrapU8, UInt8.toNat_ofNat']
  have : (2 : Nat) ^ 8 = 256 := rfl
  omega
theorem and127 {n : Int} {tb tf : Bool} (h0 : 0 ≤ n) (h : n < 9223372036854775808) : abin2 .and tb tf (.int .i64 n) (.int .i64 127) = some (.int .i64 (n % 128)) := by
  obtain ⟨m, rfl⟩ : ∃ m : Nat, n = m := ⟨n.toNat, by omega⟩
  have := and_nat (k := .i64) (a := m) (b := 127) (tb := tb) (tf := tf) (by simp [IntKind.bits]; omega) (by simp [IntKind.bits])
  rw [show ((127 : Nat) : Int) = 127 from rfl] at this
  rw [this, show (127 : Nat) = 2 ^ 7 - 1 from rfl, mask_nat]
  simp
theorem or128 {n : Int} {tb tf : Bool} (h0 : 0 ≤ n) (h : n < 128) : abin2 .or tb tf (.int .i64 n) (.int .i64 128) = some (.int .i64 (n + 128)) := by
  obtain ⟨m, rfl⟩ : ∃ m : Nat, n = m := ⟨n.toNat, by omega⟩
  have := or_nat (k := .i64) (a := m) (b := 128) (tb := tb) (tf := tf) (by simp [IntKind.bits]; omega) (by simp [IntKind.bits])
  rw [show ((128 : Nat) : Int) = 128 from rfl] at this
  rw [this]
  congr 2
  have h2 : m ||| 128 = m + 128 := by
    have := Nat.two_pow_add_eq_or_of_lt (i := 7) (b := m) (by omega) 1
    rw [Nat.or_comm, show (128 : Nat) = 2 ^ 7 * 1 from rfl, ← this]; omega
  rw [h2]; simp
theorem shr7 {n : Int} {tb tf : Bool} {k' : IntKind} (h0 : 0 ≤ n) : abin2 .shr tb tf (.int .i64 n) (.int k' 7) = some (.int .i64 (n / 128)) := by
  obtain ⟨m, rfl⟩ : ∃ m : Nat, n = m := ⟨n.toNat, by omega⟩
  have := shr_nat (k := .i64) (a := m) (b := 7) (tb := tb) (tf := tf) (k' := k') (by simp [IntKind.bits])
  rw [show ((7 : Nat) : Int) = 7 from rfl] at this
  rw [this]; simp

theorem write_f (add : Int) (l : List Int) (x s0 : AV) (b : Nat) (bs : List UInt8) (H : Hp) (nx : Nat) (hI : OutI b bs H nx s0) (hx : Reads H nx s0 b x l) (hl : bs.length + 10 * l.length ≤ 1099511627776) (hn : ∀ n ∈ l, 0 ≤ n + add ∧ n + add ≤ 4611686018427387904) (ha : -1000 ≤ add ∧ add ≤ 1000) :
    Abs.Fn Try.prog 92 [.int .i64 add, x, .ptr b 1 0] H nx fun _ H' nx' => OutS H nx s0 b (bs ++ vints add l) H' nx' := by
  refine Abs.Fn.of_c2 follows is92 (Nat.le_of_ble_eq_true rfl) ?_
  simp only [b92, O, G, N]
  have hlen := hx.len
  repeat' (first | refine w_seq ?_ | refine w_ops0 ?_ | refine w_block ?_ | refine a_n ?_ | refine o_nil ?_ | (apply o_val rfl rfl; (focus ((try simp (disch := omega) only [simB0, ZA, Nat.reduceEqDiff, ↓reduceIte, Nat.reduceAdd, Nat.reduceLeDiff, ZV, reduceCtorEq, hlen]); first | with_reducible rfl | (apply s_ite; (focus omega); with_reducible rfl)))) | refine w_loop ?_)
  refine loopI (X := Nat) (fun k => [(0, .int .i64 add), (2, .ptr b 1 0), (7, x), (8, .int .i64 l.length), (9, .int .i64 k)]) (fun k H' nx' => k ≤ l.length ∧ OutS H nx s0 b (bs ++ vints add (l.take k)) H' nx') (fun k => l.length - k) 0 ⟨Nat.zero_le _, by simpa [vints] using OutS.refl hI⟩ (by simp (disch := omega) only [agr, SA, Nat.reduceEqDiff, ↓reduceIte, wrap64, Int.natCast_add, Int.natCast_one, Int.natCast_zero, and_true, and_self]) ?_
  rintro k H1 nx1 ⟨h1, hO⟩
  by_cases hk : k < l.length
  rotate_left
  · repeat' (first | refine w_seq ?_ | refine w_ops0 ?_ | refine w_exit ?_ | refine a_n ?_ | refine a_x ?_ | refine o_nil ?_ | (apply o_val rfl rfl; (focus ((try simp (disch := omega) only [simB0, ZA, Nat.reduceEqDiff, ↓reduceIte, Nat.reduceAdd, Nat.reduceLeDiff, ZV, reduceCtorEq, hlen]); first | with_reducible rfl | (apply s_ite; (focus omega); with_reducible rfl)))) | (apply w_cond; (focus ((try simp only [simB0, ZA, Nat.reduceEqDiff, ↓reduceIte, Nat.reduceAdd, Nat.reduceLeDiff, hlen]); (try with_reducible rfl); done)); all_goals (intro _hg; (try simp only [Bool.not_eq_true', Bool.not_eq_false', Bool.not_not, decide_eq_true_eq, decide_eq_false_iff_not] at _hg); try (exfalso; omega))) | (refine e_ends rfl ?_) | refine r_0 ?_)
    rw [List.take_of_length_le (by omega)] at hO
    exact hO
  obtain ⟨p, hp, hrd⟩ := hx.ix k hk
  have hmem := hn _ (mem_getD hk)
  have hvl := vints_len add (l.take k)
  rw [List.length_take] at hvl
  obtain ⟨s, hs, hle, hrow, hfr⟩ := hO
  have hrd := hrd H1 hfr
  generalize hv : l.getD k default = v at *
  repeat' (first | refine w_seq ?_ | refine w_ops0 ?_ | refine w_block ?_ | refine w_skip ?_ | refine a_n ?_ | refine o_nil ?_ | (apply o_val rfl rfl; (focus ((try simp (disch := omega) only [simB0, ZA, Nat.reduceEqDiff, ↓reduceIte, Nat.reduceAdd, Nat.reduceLeDiff, ZV, reduceCtorEq, hlen, hp, hrd]); first | with_reducible rfl | (apply s_ite; (focus omega); with_reducible rfl)))) | (apply w_cond; (focus ((try simp only [simB0, ZA, Nat.reduceEqDiff, ↓reduceIte, Nat.reduceAdd, Nat.reduceLeDiff, hlen, hp, hrd]); (try with_reducible rfl); done)); all_goals (intro _hg; (try simp only [Bool.not_eq_true', Bool.not_eq_false', Bool.not_not, decide_eq_true_eq, decide_eq_false_iff_not] at _hg); try (exfalso; omega))) | refine w_loop ?_)
  refine loopI (X := Nat × List UInt8) (fun y => [(0, .int .i64 add), (2, .ptr b 1 0), (6, .int .i64 y.1), (7, x), (8, .int .i64 l.length), (9, .int .i64 k)])
    (fun y H' nx' => (y.1 : Int) ≤ v + add ∧ y.2.length ≤ bs.length + 10 * l.length ∧ bs ++ vints add (l.take k) ++ vint (v + add).toNat = y.2 ++ vint y.1 ∧ OutS H nx s0 b y.2 H' nx') (fun y => y.1) ((v + add).toNat, bs ++ vints add (l.take k)) ⟨by omega, by simp; omega, rfl, ⟨s, hs, hle, hrow, hfr⟩⟩ (by simp (disch := omega) only [agr, SA, Nat.reduceEqDiff, ↓reduceIte, wrap64, Int.natCast_add, Int.natCast_one, Int.natCast_zero, and_true, and_self, show (((v + add).toNat : Nat) : Int) = v + add by omega]) ?_
  clear hs hle hrow hfr hrd s
  rintro ⟨m, cs⟩ H2 nx2 ⟨k1, k2, k3, s, hs, hle, hrow, hfr⟩
  dsimp only at k1 k2 k3 hs ⊢
  have hbx := hs.box
  have h9 : m < 128 ^ 9 := by omega
  by_cases hm : 127 < m
  · have hw : IntKind.wrap .u8 ((m : Int) % 128 + 128) = ((UInt8.ofNat (m % 128 + 128)).toNat : Int) := by
      rw [byteU8 (by omega)]
      rw [show ((m : Int) % 128 + 128).toNat = m % 128 + 128 by omega]
    have a1 := fun tb tf => and127 (n := m) (tb := tb) (tf := tf) (by omega) (by omega)
    have a2 := fun tb tf => or128 (n := (m : Int) % 128) (tb := tb) (tf := tf) (by omega) (by omega)
    have a3 := fun tb tf (k' : IntKind) => shr7 (n := m) (tb := tb) (tf := tf) (k' := k') (by omega)
    repeat' (first | refine w_seq ?_ | refine w_ops0 ?_ | refine w_block ?_ | refine w_skip ?_ | refine a_n ?_ | refine o_nil ?_ | (apply o_val rfl; (focus (first | rfl | (simp (disch := omega) only [dm2, oldP, newP, simB0, ZA, Nat.reduceEqDiff, ↓reduceIte, Nat.reduceAdd, Nat.reduceLeDiff, decide_eq_true_eq]; first | done | omega))); (focus ((try simp (disch := omega) only [simB2, ZA, Nat.reduceEqDiff, ↓reduceIte, Nat.reduceAdd, Nat.reduceLeDiff, ZV, reduceCtorEq, hlen, hbx, a1, a2, a3, hw]); first | with_reducible rfl | (apply s_ite; (focus omega); with_reducible rfl)))) | (apply e_bld rfl; (focus (exact Nat.succ_ne_zero _)); (focus ((try simp (disch := omega) only [simB2, ZA, Nat.reduceEqDiff, ↓reduceIte, Nat.reduceAdd, Nat.reduceLeDiff, hlen, hbx, a1, a2, a3, hw]); (try with_reducible rfl); done)); (focus ((try simp (disch := omega) only [simB2, ZA, Nat.reduceEqDiff, ↓reduceIte, Nat.reduceAdd, Nat.reduceLeDiff, SO, Bool.and_self, one_encV, one_encVV, hlen, hbx, a1, a2, a3, hw]); (try with_reducible rfl); done))) | (apply w_cond; (focus ((try simp (disch := omega) only [simB2, ZA, Nat.reduceEqDiff, ↓reduceIte, Nat.reduceAdd, Nat.reduceLeDiff, hlen, hbx, a1, a2, a3, hw]); (try with_reducible rfl); done)); all_goals (intro _hg; (try simp (disch := omega) only [Bool.not_eq_true', Bool.not_eq_false', Bool.not_not, decide_eq_true_eq, decide_eq_false_iff_not] at _hg); try (exfalso; omega))))
    refine push_out (v := UInt8.ofNat (m % 128 + 128)) hs (by omega) hrow hfr (by ((try simp only [simB0, ZA, Nat.reduceEqDiff, ↓reduceIte, Nat.reduceAdd, Nat.reduceLeDiff]); (try with_reducible rfl))) (by ((try simp only [simB0, ZA, Nat.reduceEqDiff, ↓reduceIte, Nat.reduceAdd, Nat.reduceLeDiff]); (try with_reducible rfl))) rfl (by omega) ?_
    rintro s' H' nx' c1 c2 hbb hO
    repeat' (first | refine w_ops0 ?_ | refine a_n ?_ | refine o_nil ?_ | (apply o_val rfl; (focus (first | rfl | (simp (disch := omega) only [dm2, oldP, newP, simB0, ZA, Nat.reduceEqDiff, ↓reduceIte, Nat.reduceAdd, Nat.reduceLeDiff, decide_eq_true_eq]; first | done | omega))); (focus ((try simp (disch := omega) only [simB2, ZA, Nat.reduceEqDiff, ↓reduceIte, Nat.reduceAdd, Nat.reduceLeDiff, ZV, reduceCtorEq, hlen, hbb, a1, a2, a3, hw, c1, c2]); first | with_reducible rfl | (apply s_ite; (focus omega); with_reducible rfl)))) | (apply e_st; (focus (first | rfl | (simp (disch := omega) only [dm2, oldP, newP, simB0, ZA, Nat.reduceEqDiff, ↓reduceIte, Nat.reduceAdd, Nat.reduceLeDiff, decide_eq_true_eq]; first | done | omega))); (iterate 4 (focus ((try simp (disch := omega) only [simB2, ZA, Nat.reduceEqDiff, ↓reduceIte, Nat.reduceAdd, Nat.reduceLeDiff, hlen, hbb, a1, a2, a3, hw, c1, c2]); (try with_reducible rfl); done))); (focus (simp (disch := omega) only [SO, Bool.and_self, one_encV, one_encVV, hlen, hbb, a1, a2, a3, hw, c1, c2])); (iterate 3 (focus ((try simp (disch := omega) only [SL, Nat.reduceAdd, Nat.reduceMul, List.length_map]); first | done | omega)))))
    have e := vint_big hm h9
    have hlm : 1 ≤ (vint (m / 128)).length := by
      unfold vint vintF
      split <;> simp
    have htot := congrArg List.length k3
    rw [e] at htot
    have hv10 := vint_len (v + add).toNat
    simp only [List.length_append, List.length_cons] at htot
    refine ⟨(m / 128, cs ++ [UInt8.ofNat (m % 128 + 128)]), by dsimp only; omega, ⟨by dsimp only; omega, ?_, ?_, hO⟩, by simp (disch := omega) only [agr, SA, Nat.reduceEqDiff, ↓reduceIte, wrap64, Int.natCast_add, Int.natCast_one, Int.natCast_zero, and_true, and_self, show ((m / 128 : Nat) : Int) = (m : Int) / 128 by omega]⟩
    · dsimp only
      rw [List.length_append, List.length_singleton]
      omega
    · dsimp only
      rw [k3, e, List.append_assoc]; rfl
  · have e := vint_small hm
    have hw : IntKind.wrap .u8 (m : Int) = ((UInt8.ofNat m).toNat : Int) := by
      rw [byteU8 (by omega), Int.toNat_natCast]
    repeat' (first | refine w_seq ?_ | refine w_ops0 ?_ | refine w_exit ?_ | refine a_n ?_ | refine a_x ?_ | refine o_nil ?_ | (apply o_val rfl; (focus (first | rfl | (simp (disch := omega) only [dm2, oldP, newP, simB0, ZA, Nat.reduceEqDiff, ↓reduceIte, Nat.reduceAdd, Nat.reduceLeDiff, decide_eq_true_eq]; first | done | omega))); (focus ((try simp (disch := omega) only [simB2, ZA, Nat.reduceEqDiff, ↓reduceIte, Nat.reduceAdd, Nat.reduceLeDiff, ZV, reduceCtorEq, hlen, hbx, hw]); first | with_reducible rfl | (apply s_ite; (focus omega); with_reducible rfl)))) | (apply e_bld rfl; (focus (exact Nat.succ_ne_zero _)); (focus ((try simp (disch := omega) only [simB2, ZA, Nat.reduceEqDiff, ↓reduceIte, Nat.reduceAdd, Nat.reduceLeDiff, hlen, hbx, hw]); (try with_reducible rfl); done)); (focus ((try simp (disch := omega) only [simB2, ZA, Nat.reduceEqDiff, ↓reduceIte, Nat.reduceAdd, Nat.reduceLeDiff, SO, Bool.and_self, one_encV, one_encVV, hlen, hbx, hw]); (try with_reducible rfl); done))) | (apply w_cond; (focus ((try simp (disch := omega) only [simB2, ZA, Nat.reduceEqDiff, ↓reduceIte, Nat.reduceAdd, Nat.reduceLeDiff, hlen, hbx, hw]); (try with_reducible rfl); done)); all_goals (intro _hg; (try simp (disch := omega) only [Bool.not_eq_true', Bool.not_eq_false', Bool.not_not, decide_eq_true_eq, decide_eq_false_iff_not] at _hg); try (exfalso; omega))))
    refine push_out (v := UInt8.ofNat m) hs (by omega) hrow hfr (by ((try simp only [simB0, ZA, Nat.reduceEqDiff, ↓reduceIte, Nat.reduceAdd, Nat.reduceLeDiff]); (try with_reducible rfl))) (by ((try simp only [simB0, ZA, Nat.reduceEqDiff, ↓reduceIte, Nat.reduceAdd, Nat.reduceLeDiff]); (try with_reducible rfl))) rfl (by omega) ?_
    rintro s' H' nx' c1 c2 hbb hO
    repeat' (first | refine w_ops0 ?_ | refine a_n ?_ | refine o_nil ?_ | (apply o_val rfl; (focus (first | rfl | (simp (disch := omega) only [dm2, oldP, newP, simB0, ZA, Nat.reduceEqDiff, ↓reduceIte, Nat.reduceAdd, Nat.reduceLeDiff, decide_eq_true_eq]; first | done | omega))); (focus ((try simp (disch := omega) only [simB2, ZA, Nat.reduceEqDiff, ↓reduceIte, Nat.reduceAdd, Nat.reduceLeDiff, ZV, reduceCtorEq, hlen, hbb, hw, c1, c2]); first | with_reducible rfl | (apply s_ite; (focus omega); with_reducible rfl)))) | (apply e_st; (focus (first | rfl | (simp (disch := omega) only [dm2, oldP, newP, simB0, ZA, Nat.reduceEqDiff, ↓reduceIte, Nat.reduceAdd, Nat.reduceLeDiff, decide_eq_true_eq]; first | done | omega))); (iterate 4 (focus ((try simp (disch := omega) only [simB2, ZA, Nat.reduceEqDiff, ↓reduceIte, Nat.reduceAdd, Nat.reduceLeDiff, hlen, hbb, hw, c1, c2]); (try with_reducible rfl); done))); (focus (simp (disch := omega) only [SO, Bool.and_self, one_encV, one_encVV, hlen, hbb, hw, c1, c2])); (iterate 3 (focus ((try simp (disch := omega) only [SL, Nat.reduceAdd, Nat.reduceMul, List.length_map]); first | done | omega)))))
    refine ⟨k + 1, by omega, ⟨by omega, ?_⟩, by simp (disch := omega) only [agr, SA, Nat.reduceEqDiff, ↓reduceIte, wrap64, Int.natCast_add, Int.natCast_one, Int.natCast_zero, and_true, and_self]⟩
    rw [e] at k3
    rw [take_succ' hk, hv, vints_snoc, ← List.append_assoc, k3]
    exact hO

end Go.Proofs.Ytpbjhjkfobapeaa

/- Q4: contracts of functions and plain laws; for all inputs that the theorems name. -/
set_option linter.unusedSimpArgs false
set_option linter.unusedVariables false
namespace Go.Proofs.Ytpbjhjkfobapeaa
open Go Go.Abs

def sealB (l : List UInt8) : List UInt8 := l ++ [UInt8.ofNat (csum l / 256).toNat, UInt8.ofNat (csum l % 256).toNat]
def messageB (r f t symbol : Int) : List UInt8 := sealB ([UInt8.ofNat (r % 256).toNat, UInt8.ofNat (f % 256).toNat, UInt8.ofNat (t % 256).toNat] ++ vint symbol.toNat)
theorem csum_bd (l : List UInt8) : 0 ≤ csum l ∧ csum l < 65521 := ckT_bd l _
theorem Row.bytes {H : Hp} {s : AV} {l : List UInt8} (h : Row H 1 s (l.map encB)) : asrc 1 H s = some (l.length, l.map encB) := by
  generalize hc : l.map encB = cs at h
  cases h with
  | nil =>
    have : l = [] := by simpa using hc
    subst this; rfl
  | box b len cs hb hl =>
    subst hc
    have : len = l.length := by simpa using hl.symm
    subst this
    rw [Nat.mul_one]
    exact asrc_bytes hb rfl
theorem OutI.more {b : Nat} {bs : List UInt8} {H : Hp} {nx : Nat} {s : AV} {cs : List AV} (h : OutI b bs H nx s) : OutI b bs (hupd H nx cs) (nx + 1) s := by
  obtain ⟨h1, h2, h3, h4, h5⟩ := h
  exact ⟨by rw [hupd_ne (by omega), h1], h2.same fun r hr => hupd_ne (by have := h4 r hr; omega), h3, fun r hr => by have := h4 r hr; omega, by omega⟩
theorem OutS.out {H0 : Hp} {nx0 : Nat} {s0 : AV} {b : Nat} {bs : List UInt8} {H : Hp} {nx : Nat} (h : OutS H0 nx0 s0 b bs H nx) : ∃ s, OutI b bs H nx s := by
  obtain ⟨s, h, _⟩ := h
  exact ⟨s, h⟩
attribute [local irreducible] awp2 aops2 ains aloop athen bbind obind gbind acond res1 Go.Abs.Fn PCall Go.Abs.Pure SnapArgs SnapL Yl

theorem done_f (b : Nat) (s : AV) (H : Hp) (nx : Nat) (hb : H b = some [s]) : Abs.Fn Try.prog 93 [.ptr b 1 0] H nx fun r H' nx' => r = s ∧ H' = H ∧ nx' = nx := by
  refine Abs.Fn.of_c2 follows is93 (Nat.le_of_ble_eq_true rfl) ?_
  simp only [b93, O, G, N]
  repeat' (first | refine w_seq ?_ | refine w_ops0 ?_ | refine w_ret ?_ | refine a_n ?_ | refine o_nil ?_ | (apply o_val rfl rfl; (focus ((try simp (disch := omega) only [simB0, ZA, Nat.reduceEqDiff, ↓reduceIte, Nat.reduceAdd, Nat.reduceLeDiff, ZV, reduceCtorEq, hb]); first | with_reducible rfl | (apply s_ite; (focus omega); with_reducible rfl)))) | (refine e_ends rfl ?_) | (apply r_1; (focus (simp only [rv, simB0, ZA, Nat.reduceEqDiff, ↓reduceIte, Nat.reduceAdd, Nat.reduceLeDiff, hb]; with_reducible rfl))))
  exact ⟨rfl, rfl, rfl⟩

theorem writer_f (l : List UInt8) (h0 : l ≠ []) (H : Hp) (nx : Nat) : Abs.Fn Try.prog 66 [encS l] H nx fun r H' nx' => r = .tup [.func 92 [.ptr (nx + 1) 1 0], .func 93 [.ptr (nx + 1) 1 0]] ∧ nx' = nx + 2 ∧ (∀ i, i < nx → H' i = H i) ∧ OutI (nx + 1) l H' (nx + 2) (.msl nx l.length 1 0 l.length) := by
  refine Abs.Fn.of_c2 follows is66 (Nat.le_of_ble_eq_true rfl) ?_
  simp only [b66, O, G, N]
  have hpos := List.length_pos_iff.2 h0
  repeat' (first | refine w_seq ?_ | refine w_ops0 ?_ | refine a_n ?_ | refine o_nil ?_ | (apply o_val rfl rfl; (focus ((try simp (disch := omega) only [simB0, ZA, Nat.reduceEqDiff, ↓reduceIte, Nat.reduceAdd, Nat.reduceLeDiff, ZV, reduceCtorEq]); first | with_reducible rfl | (apply s_ite; (focus omega); with_reducible rfl)))))
  refine o_s2b (bs := ⟨l.toArray⟩) (by ((try simp only [simB0, ZA, Nat.reduceEqDiff, ↓reduceIte, Nat.reduceAdd, Nat.reduceLeDiff]); (try with_reducible rfl)); rfl) (fun h => by rw [encS_size] at h; omega) (fun h => ?_)
  rw [encS_size, encS_data]
  repeat' (first | refine w_seq ?_ | refine w_ops0 ?_ | refine w_ret ?_ | refine a_n ?_ | refine o_nil ?_ | (apply o_val rfl; (focus (first | rfl | (simp (disch := omega) only [dm2, oldP, newP, simB0, ZA, Nat.reduceEqDiff, ↓reduceIte, Nat.reduceAdd, Nat.reduceLeDiff, decide_eq_true_eq]; first | done | omega))); (focus ((try simp (disch := omega) only [simB2, ZA, Nat.reduceEqDiff, ↓reduceIte, Nat.reduceAdd, Nat.reduceLeDiff, ZV, reduceCtorEq]); first | with_reducible rfl | (apply s_ite; (focus omega); with_reducible rfl)))) | (apply e_alloc rfl; (focus ((try simp (disch := omega) only [simB2, ZA, Nat.reduceEqDiff, ↓reduceIte, Nat.reduceAdd, Nat.reduceLeDiff]); (try with_reducible rfl); done)); (focus (simp (disch := omega) only [SO, Bool.and_self, one_encV, one_encVV]))) | (apply e_st; (focus (first | rfl | (simp (disch := omega) only [dm2, oldP, newP, simB0, ZA, Nat.reduceEqDiff, ↓reduceIte, Nat.reduceAdd, Nat.reduceLeDiff, decide_eq_true_eq]; first | done | omega))); (iterate 4 (focus ((try simp (disch := omega) only [simB2, ZA, Nat.reduceEqDiff, ↓reduceIte, Nat.reduceAdd, Nat.reduceLeDiff]); (try with_reducible rfl); done))); (focus (simp (disch := omega) only [SO, Bool.and_self, one_encV, one_encVV])); (iterate 3 (focus ((try simp (disch := omega) only [SL, Nat.reduceAdd, Nat.reduceMul, List.length_map]); first | done | omega)))) | (refine e_ends rfl ?_) | (apply r_2; (iterate 2 (focus (simp (disch := omega) only [rv, simB2, ZA, Nat.reduceEqDiff, ↓reduceIte, Nat.reduceAdd, Nat.reduceLeDiff]; with_reducible rfl)))))
  refine ⟨rfl, rfl, fun i hi => ?_, ⟨hupd_self', ?_, ?_, ?_, by omega⟩⟩
  · rw [hupd_ne (by omega), hupd_ne (by omega), hupd_ne (by omega)]
  · have := Row.box (H := hupd (hupd (hupd H nx (l.map encB)) (nx + 1) [.esl]) (nx + 1) [.msl nx l.length 1 0 l.length]) (sz := 1) nx l.length (l.map encB) (by rw [hupd_ne (by omega), hupd_ne (by omega), hupd_self']) (by simp)
    rwa [Nat.mul_one] at this
  · intro h; cases h
  · intro r h; cases h; omega

theorem sealed_f (l : List UInt8) (s : AV) (H : Hp) (nx : Nat) (hr : Row H 1 s (l.map encB)) (hlt : ∀ r, rowB s = some r → r < nx) (hl : l.length ≤ 1099511627776) : Abs.Fn Try.prog 67 [s] H nx fun r H' nx' => r = encS (sealB l) := by
  refine Abs.Fn.of_c2 follows is67 (Nat.le_of_ble_eq_true rfl) ?_
  simp only [b67, O, G, N]
  repeat' (first | refine w_seq ?_ | refine w_ops0 ?_ | refine a_n ?_ | refine o_nil ?_ | (apply o_val rfl rfl; (focus ((try simp (disch := omega) only [simB0, ZA, Nat.reduceEqDiff, ↓reduceIte, Nat.reduceAdd, Nat.reduceLeDiff, ZV, reduceCtorEq]); first | with_reducible rfl | (apply s_ite; (focus omega); with_reducible rfl)))))
  refine o_b2s (n := l.length) (bs := l) (by ((try simp only [simB0, ZA, Nat.reduceEqDiff, ↓reduceIte, Nat.reduceAdd, Nat.reduceLeDiff]); (try with_reducible rfl)); exact Row.bytes hr) ?_
  have hck := checksum_c l (by show _ ≤ _; omega)
  unfold encS at hck
  have hbd := csum_bd l
  generalize hs : csum l = c at *
  have a1 : ∀ tb tf (k' : IntKind), abin2 .shr tb tf (.int .i64 c) (.int k' 8) = some (.int .i64 (c / 256)) := fun tb tf k' => by
    obtain ⟨m, rfl⟩ : ∃ m : Nat, c = m := ⟨c.toNat, by omega⟩
    have := shr_nat (k := .i64) (a := m) (b := 8) (tb := tb) (tf := tf) (k' := k') (by simp [IntKind.bits])
    rw [show ((8 : Nat) : Int) = 8 from rfl] at this
    rw [this]; simp
  have w1 : IntKind.wrap .u8 (c / 256) = ((UInt8.ofNat (c / 256).toNat).toNat : Int) := byteU8 (by omega)
  have w2 : IntKind.wrap .u8 c = ((UInt8.ofNat (c % 256).toNat).toNat : Int) := by
    rw [wrapU8]
    rw [UInt8.toNat_ofNat']
    have : (2 : Nat) ^ 8 = 256 := rfl
    omega
  repeat' (first | refine w_seq ?_ | refine w_ops0 ?_ | refine a_n ?_ | refine o_nil ?_ | (apply o_val rfl rfl; (focus ((try simp (disch := omega) only [simB0, ZA, Nat.reduceEqDiff, ↓reduceIte, Nat.reduceAdd, Nat.reduceLeDiff, ZV, reduceCtorEq, a1, w1, w2]); first | with_reducible rfl | (apply s_ite; (focus omega); with_reducible rfl)))) | (apply o_callD; (iterate 2 (focus ((try simp only [simB0, ZA, Nat.reduceEqDiff, ↓reduceIte, Nat.reduceAdd, Nat.reduceLeDiff, a1, w1, w2]); (try with_reducible rfl); done))); (focus (first | (exact hck))); (focus (first | (apply snap_data; repeat' (first | exact snapL_nil | apply snapL_dat | exact Dat.int | exact Dat.bool | exact Dat.str | exact Dat.esl | exact Dat.nilf | exact encV_dat _ | exact encVV_dat _ | exact Dat.str)) | (apply snap_plain; (focus (repeat' (first | exact snapL_nil | apply snapL_dat | exact Dat.int | exact Dat.bool | exact Dat.str | exact encV_dat _ | exact encVV_dat _ | exact Dat.str))); rfl)))) | (apply e_bld rfl; (focus (exact Nat.succ_ne_zero _)); (focus ((try simp only [simB0, ZA, Nat.reduceEqDiff, ↓reduceIte, Nat.reduceAdd, Nat.reduceLeDiff, a1, w1, w2]); (try with_reducible rfl); done)); (focus ((try simp only [simB0, ZA, Nat.reduceEqDiff, ↓reduceIte, Nat.reduceAdd, Nat.reduceLeDiff, SO, Bool.and_self, one_encV, one_encVV, a1, w1, w2]); (try with_reducible rfl); done))))
  refine e_row (k := 2) rfl (by ((try simp only [simB0, ZA, Nat.reduceEqDiff, ↓reduceIte, Nat.reduceAdd, Nat.reduceLeDiff]); (try with_reducible rfl))) (hr.same fun r hr => hupd_ne (by have := hlt r hr; omega)) (by ((try simp only [simB0, ZA, Nat.reduceEqDiff, ↓reduceIte, Nat.reduceAdd, Nat.reduceLeDiff]); (try with_reducible rfl))) (asrc_bytes (l := [UInt8.ofNat (c / 256).toNat, UInt8.ofNat (c % 256).toNat]) hupd_self' rfl) ones_bytes rfl Nat.one_pos (by simp; omega) (by simp; omega) ?_
  rintro s' H' nx' hrow _ _ _ _
  skip
  rw [← List.map_append] at hrow
  refine o_b2s (by ((try simp only [simB0, ZA, Nat.reduceEqDiff, ↓reduceIte, Nat.reduceAdd, Nat.reduceLeDiff]); (try with_reducible rfl)); exact Row.bytes hrow) ?_
  repeat' (first | refine w_ret ?_ | refine a_n ?_ | refine o_nil ?_ | (apply o_val rfl rfl; (focus ((try simp (disch := omega) only [simB0, ZA, Nat.reduceEqDiff, ↓reduceIte, Nat.reduceAdd, Nat.reduceLeDiff, ZV, reduceCtorEq]); first | with_reducible rfl | (apply s_ite; (focus omega); with_reducible rfl)))) | (refine e_ends rfl ?_) | (apply r_1; (focus (simp only [rv, simB0, ZA, Nat.reduceEqDiff, ↓reduceIte, Nat.reduceAdd, Nat.reduceLeDiff]; with_reducible rfl))))
  unfold sealB
  rw [hs]; rfl

theorem message_c (r f t symbol : Int) (hs : 0 ≤ symbol ∧ symbol ≤ 4611686018427387904) : Pure Try.prog 32 [.agg [.int .i64 r, .int .i64 f, .int .i64 t], .int .i64 symbol] (encS (messageB r f t symbol)) := by
  refine Pure.of_c2 follows is32 (Nat.le_of_ble_eq_true rfl) ?_
  simp only [b32, O, G, N]
  have w : ∀ n : Int, IntKind.wrap .u8 n = ((UInt8.ofNat (n % 256).toNat).toNat : Int) := fun n => by
    rw [wrapU8, UInt8.toNat_ofNat']
    have : (2 : Nat) ^ 8 = 256 := rfl
    omega
  repeat' (first | refine w_seq ?_ | refine w_ops0 ?_ | refine a_n ?_ | refine o_nil ?_ | (apply o_val rfl rfl; (focus ((try simp (disch := omega) only [simB0, ZA, Nat.reduceEqDiff, ↓reduceIte, Nat.reduceAdd, Nat.reduceLeDiff, ZV, reduceCtorEq, w r, w f, w t]); first | with_reducible rfl | (apply s_ite; (focus omega); with_reducible rfl)))) | (apply e_box rfl; (iterate 2 (focus ((try simp only [simB0, ZA, Nat.reduceEqDiff, ↓reduceIte, Nat.reduceAdd, Nat.reduceLeDiff, w r, w f, w t]); (try with_reducible rfl); done))); (focus (simp only [SO, Bool.and_self, one_encV, one_encVV, w r, w f, w t]))) | (apply e_bld rfl; (focus (exact Nat.succ_ne_zero _)); (focus ((try simp only [simB0, ZA, Nat.reduceEqDiff, ↓reduceIte, Nat.reduceAdd, Nat.reduceLeDiff, w r, w f, w t]); (try with_reducible rfl); done)); (focus ((try simp only [simB0, ZA, Nat.reduceEqDiff, ↓reduceIte, Nat.reduceAdd, Nat.reduceLeDiff, SO, Bool.and_self, one_encV, one_encVV, w r, w f, w t]); (try with_reducible rfl); done))))
  refine o_b2s (n := 3) (bs := [UInt8.ofNat (r % 256).toNat, UInt8.ofNat (f % 256).toNat, UInt8.ofNat (t % 256).toNat]) (by ((try simp only [simB0, ZA, Nat.reduceEqDiff, ↓reduceIte, Nat.reduceAdd, Nat.reduceLeDiff]); (try with_reducible rfl)); exact asrc_bytes (l := [UInt8.ofNat (r % 256).toNat, UInt8.ofNat (f % 256).toNat, UInt8.ofNat (t % 256).toNat]) rfl rfl) ?_
  skip
  refine o_callE (by ((try simp only [simB0, ZA, Nat.reduceEqDiff, ↓reduceIte, Nat.reduceAdd, Nat.reduceLeDiff]); (try with_reducible rfl))) (by ((try simp only [simB0, ZA, Nat.reduceEqDiff, ↓reduceIte, Nat.reduceAdd, Nat.reduceLeDiff]); (try with_reducible rfl)); rfl) (writer_f [UInt8.ofNat (r % 256).toNat, UInt8.ofNat (f % 256).toNat, UInt8.ofNat (t % 256).toNat] (by simp) _ _) ?_
  rintro v H1 nx1 ⟨rfl, rfl, hfr, hO⟩
  simp only [Nat.reduceAdd] at hO hfr
  repeat' (first | refine w_seq ?_ | refine w_ops0 ?_ | refine a_n ?_ | refine o_nil ?_ | (apply o_val rfl rfl; (focus ((try simp (disch := omega) only [simB0, ZA, Nat.reduceEqDiff, ↓reduceIte, Nat.reduceAdd, Nat.reduceLeDiff, ZV, reduceCtorEq]); first | with_reducible rfl | (apply s_ite; (focus omega); with_reducible rfl)))) | (apply e_bld rfl; (focus (exact Nat.succ_ne_zero _)); (focus ((try simp only [simB0, ZA, Nat.reduceEqDiff, ↓reduceIte, Nat.reduceAdd, Nat.reduceLeDiff]); (try with_reducible rfl); done)); (focus ((try simp only [simB0, ZA, Nat.reduceEqDiff, ↓reduceIte, Nat.reduceAdd, Nat.reduceLeDiff, SO, Bool.and_self, one_encV, one_encVV]); (try with_reducible rfl); done))))
  refine o_callE (xs := [.int .i64 0, .msl 4 1 1 0 1, .ptr 3 1 0]) (by ((try simp only [simB0, ZA, Nat.reduceEqDiff, ↓reduceIte, Nat.reduceAdd, Nat.reduceLeDiff]); (try with_reducible rfl))) (by ((try simp only [simB0, ZA, Nat.reduceEqDiff, ↓reduceIte, Nat.reduceAdd, Nat.reduceLeDiff]); (try with_reducible rfl))) (write_f 0 [symbol] _ _ 3 _ _ _ hO.more (Reads.box (by simp [hupd]) (by omega) (by omega) (by simp [rowB]) rfl) (by simp) (by simp; omega) (by omega)) ?_
  rintro v2 H2 nx2 hO2
  obtain ⟨s2, hs2⟩ := hO2.out
  repeat' (first | refine w_seq ?_ | refine w_ops0 ?_ | refine a_n ?_ | refine o_nil ?_ | (apply o_val rfl rfl; (focus ((try simp (disch := omega) only [simB0, ZA, Nat.reduceEqDiff, ↓reduceIte, Nat.reduceAdd, Nat.reduceLeDiff, ZV, reduceCtorEq]); first | with_reducible rfl | (apply s_ite; (focus omega); with_reducible rfl)))))
  refine o_callE (by ((try simp only [simB0, ZA, Nat.reduceEqDiff, ↓reduceIte, Nat.reduceAdd, Nat.reduceLeDiff]); (try with_reducible rfl))) (by ((try simp only [simB0, ZA, Nat.reduceEqDiff, ↓reduceIte, Nat.reduceAdd, Nat.reduceLeDiff]); (try with_reducible rfl))) (done_f 3 s2 H2 nx2 hs2.box) ?_
  rintro v3 H3 nx3 ⟨rfl, rfl, rfl⟩
  have hvl := vints_len 0 [symbol]
  skip
  refine o_callE (by ((try simp only [simB0, ZA, Nat.reduceEqDiff, ↓reduceIte, Nat.reduceAdd, Nat.reduceLeDiff]); (try with_reducible rfl))) (by ((try simp only [simB0, ZA, Nat.reduceEqDiff, ↓reduceIte, Nat.reduceAdd, Nat.reduceLeDiff]); (try with_reducible rfl))) (sealed_f _ _ _ _ hs2.row hs2.lt (by simp at hvl ⊢; omega)) ?_
  rintro v4 H4 nx4 rfl
  repeat' (first | refine w_ret ?_ | refine a_n ?_ | refine o_nil ?_ | (apply o_val rfl rfl; (focus ((try simp (disch := omega) only [simB0, ZA, Nat.reduceEqDiff, ↓reduceIte, Nat.reduceAdd, Nat.reduceLeDiff, ZV, reduceCtorEq]); first | with_reducible rfl | (apply s_ite; (focus omega); with_reducible rfl)))) | (refine e_ends rfl ?_) | (apply r_1; (focus (simp only [rv, simB0, ZA, Nat.reduceEqDiff, ↓reduceIte, Nat.reduceAdd, Nat.reduceLeDiff]; with_reducible rfl))))
  unfold messageB
  simp only [vints, List.flatMap_cons, List.flatMap_nil, List.append_nil, Int.add_zero]
  exact encS_dat _ _

end Go.Proofs.Ytpbjhjkfobapeaa

/- Q5: contracts of functions and plain laws; for all inputs that the theorems name. -/
set_option linter.unusedSimpArgs false
set_option linter.unusedVariables false
namespace Go.Proofs.Ytpbjhjkfobapeaa
open Go Go.Abs

def idx (l : List Int) (v : Int) : Int := if v ∈ l then (l.idxOf v : Nat) else -1
theorem idx_at {l : List Int} {v : Int} {k : Nat} (hk : k < l.length) (h : ∀ i, i < k → l.getD i default ≠ v) (hv : v = l.getD k default) : idx l v = k := by
  have e : l.getD k default = l[k] := by simp [List.getD, hk]
  have hm : v ∈ l := by rw [hv, e]; exact List.getElem_mem hk
  unfold idx; rw [if_pos hm]
  have h1 : l.idxOf v ≤ k := by
    by_cases hlt : l.idxOf v ≤ k
    · exact hlt
    · exfalso
      have := List.not_of_lt_findIdx (xs := l) (p := (· == v)) (i := k) (by simp only [List.idxOf] at hlt; omega)
      rw [e] at hv; subst hv; simp at this
  have h2 : k ≤ l.idxOf v := by
    by_cases hlt : k ≤ l.idxOf v
    · exact hlt
    · exfalso
      have hi := List.idxOf_lt_length_iff.2 hm
      have := h (l.idxOf v) (by omega)
      apply this
      simp [List.getD, hi]
  omega
theorem idx_none {l : List Int} {v : Int} (h : ∀ i, i < l.length → l.getD i default ≠ v) : idx l v = -1 := by
  unfold idx; rw [if_neg]
  intro hm
  obtain ⟨i, hi, e⟩ := List.getElem_of_mem hm
  exact h i hi (by simp [List.getD, hi, e])

def idxF (l : List Int) (p : Int → Bool) : Int := if l.any p then (l.findIdx p : Nat) else -1
theorem idxF_at {l : List Int} {p : Int → Bool} {k : Nat} (hk : k < l.length) (h : ∀ i, i < k → p (l.getD i default) = false) (hv : p (l.getD k default) = true) : idxF l p = k := by
  have e : l.getD k default = l[k] := by simp [List.getD, hk]
  have hm : l.any p = true := List.any_eq_true.2 ⟨l[k], List.getElem_mem hk, by rw [← e]; exact hv⟩
  unfold idxF; rw [if_pos hm]
  have : l.findIdx p = k := (List.findIdx_eq hk).2 ⟨by rw [← e]; exact hv, fun j hj => by have := h j hj; rwa [show l.getD j default = l[j] by simp [List.getD, show j < l.length by omega]] at this⟩
  rw [this]
theorem idxF_none {l : List Int} {p : Int → Bool} (h : ∀ i, i < l.length → p (l.getD i default) = false) : l.any p = false := by
  rw [List.any_eq_false]
  intro x hx
  obtain ⟨i, hi, e⟩ := List.getElem_of_mem hx
  have := h i hi
  rw [show l.getD i default = l[i] by simp [List.getD, hi], e] at this
  simp [this]


def order : List Int → List Int → Int
  | [], [] => 0
  | [], _ :: _ => -1
  | _ :: _, [] => 1
  | a :: l, b :: m => if a < b then -1 else if a > b then 1 else order l m


attribute [local irreducible] awp2 aops2 ains aloop athen bbind obind gbind acond res1 Go.Abs.Fn PCall Go.Abs.Pure SnapArgs SnapL Yl
theorem index_c (l : List Int) (v : Int) (hl : Sh l) : Pure Try.prog 69 [encV l, .int .i64 v] (.int .i64 (idx l v)) := by
  refine Pure.of_c2 follows is69 (Nat.le_of_ble_eq_true rfl) ?_
  simp only [b69, O, G, N]
  repeat' (first | refine w_seq ?_ | refine w_ops0 ?_ | refine w_block ?_ | refine a_n ?_ | refine o_nil ?_ | (apply o_val rfl rfl; (focus ((try simp (disch := omega) only [simB0, ZA, Nat.reduceEqDiff, ↓reduceIte, Nat.reduceAdd, Nat.reduceLeDiff, ZV, reduceCtorEq]); first | with_reducible rfl | (apply s_ite; (focus omega); with_reducible rfl)))) | refine w_loop ?_)
  refine loop0 (X := Nat) (fun k => [(0, encV l), (1, .int .i64 v), (7, .int .i64 l.length), (8, .int .i64 k)]) (fun k => k ≤ l.length ∧ ∀ i, i < k → l.getD i default ≠ v) (fun k => l.length - k) 0 ⟨Nat.zero_le _, by simp⟩ (by simp (disch := omega) only [agr, SA, Nat.reduceEqDiff, ↓reduceIte, wrap64, Int.natCast_add, Int.natCast_one, Int.natCast_zero, and_true, and_self]) ?_
  rintro k ⟨h1, h2⟩
  repeat' (first | refine w_seq ?_ | refine w_ops0 ?_ | refine w_block ?_ | refine w_skip ?_ | refine w_exit ?_ | refine w_ret ?_ | refine a_n ?_ | refine a_x ?_ | refine a_r ?_ | refine o_nil ?_ | (apply o_val rfl rfl; (focus ((try simp (disch := omega) only [simB0, ZA, Nat.reduceEqDiff, ↓reduceIte, Nat.reduceAdd, Nat.reduceLeDiff, ZV, reduceCtorEq]); first | with_reducible rfl | (apply s_ite; (focus omega); with_reducible rfl)))) | (apply w_cond; (focus ((try simp only [simB0, ZA, Nat.reduceEqDiff, ↓reduceIte, Nat.reduceAdd, Nat.reduceLeDiff]); (try with_reducible rfl); done)); all_goals (intro _hg; (try simp only [Bool.not_eq_true', Bool.not_eq_false', Bool.not_not, decide_eq_true_eq, decide_eq_false_iff_not] at _hg); try (exfalso; omega))) | (refine e_ends rfl ?_) | (apply r_1; (focus (simp only [rv, simB0, ZA, Nat.reduceEqDiff, ↓reduceIte, Nat.reduceAdd, Nat.reduceLeDiff]; with_reducible rfl))))
  · exact snap_int (idx_at (by omega) h2 _hg).symm
  · refine ⟨k + 1, ⟨by omega, fun i hi => ?_⟩, by omega, by simp (disch := omega) only [agr, SA, Nat.reduceEqDiff, ↓reduceIte, wrap64, Int.natCast_add, Int.natCast_one, Int.natCast_zero, and_true, and_self], rfl, rfl⟩
    rcases Nat.lt_succ_iff_lt_or_eq.1 hi with h | rfl
    · exact h2 i h
    · exact fun e => _hg e.symm
  · exact snap_int (idx_none fun i hi => h2 i (by omega)).symm

theorem contains_c (l : List Int) (v : Int) (hl : Sh l) : Pure Try.prog 38 [encV l, .int .i64 v] (.bool (decide (v ∈ l))) := by
  refine Pure.of_c2 follows is38 (Nat.le_of_ble_eq_true rfl) ?_
  simp only [b38, O, G, N]
  repeat' (first | refine w_seq ?_ | refine w_ops0 ?_ | refine w_ret ?_ | refine a_n ?_ | refine o_nil ?_ | (apply o_val rfl rfl; (focus ((try simp (disch := omega) only [simB0, ZA, Nat.reduceEqDiff, ↓reduceIte, Nat.reduceAdd, Nat.reduceLeDiff, ZV, reduceCtorEq]); first | with_reducible rfl | (apply s_ite; (focus omega); with_reducible rfl)))) | (apply o_callD; (iterate 2 (focus ((try simp only [simB0, ZA, Nat.reduceEqDiff, ↓reduceIte, Nat.reduceAdd, Nat.reduceLeDiff]); (try with_reducible rfl); done))); (focus (first | (exact index_c _ _ hl))); (focus (first | (apply snap_data; repeat' (first | exact snapL_nil | apply snapL_dat | exact Dat.int | exact Dat.bool | exact Dat.str | exact Dat.esl | exact Dat.nilf | exact encV_dat _ | exact encVV_dat _)) | (apply snap_plain; (focus (repeat' (first | exact snapL_nil | apply snapL_dat | exact Dat.int | exact Dat.bool | exact Dat.str | exact encV_dat _ | exact encVV_dat _))); rfl)))) | (refine e_ends rfl ?_) | (apply r_1; (focus (simp only [rv, simB0, ZA, Nat.reduceEqDiff, ↓reduceIte, Nat.reduceAdd, Nat.reduceLeDiff]; with_reducible rfl))))
  refine snap_bool ?_
  unfold idx; split <;> simp_all

theorem indexF_c (l : List Int) (p : Int → Bool) (g : Nat) (caps : List AV) (hd : ∀ x ∈ caps, Dat x) (hg : ∀ x ∈ l, Pure Try.prog g (.int .i64 x :: caps) (.bool (p x))) (hl : Sh l) : Pure Try.prog 101 [encV l, .func g caps] (.int .i64 (idxF l p)) := by
  refine Pure.of_c2 follows is101 (Nat.le_of_ble_eq_true rfl) ?_
  simp only [b101, O, G, N]
  repeat' (first | refine w_seq ?_ | refine w_ops0 ?_ | refine w_block ?_ | refine a_n ?_ | refine o_nil ?_ | (apply o_val rfl rfl; (focus ((try simp (disch := omega) only [simB0, ZA, Nat.reduceEqDiff, ↓reduceIte, Nat.reduceAdd, Nat.reduceLeDiff, ZV, reduceCtorEq]); first | with_reducible rfl | (apply s_ite; (focus omega); with_reducible rfl)))) | refine w_loop ?_)
  refine loop0 (X := Nat) (fun k => [(0, encV l), (1, .func g caps), (6, encV l), (7, .int .i64 l.length), (8, .int .i64 k)]) (fun k => k ≤ l.length ∧ ∀ i, i < k → p (l.getD i default) = false) (fun k => l.length - k) 0 ⟨Nat.zero_le _, by simp⟩ (by simp (disch := omega) only [agr, SA, Nat.reduceEqDiff, ↓reduceIte, wrap64, Int.natCast_add, Int.natCast_one, Int.natCast_zero, and_true, and_self]) ?_
  rintro k ⟨h1, h2⟩
  repeat' (first | refine w_seq ?_ | refine w_ops0 ?_ | refine w_block ?_ | refine w_skip ?_ | refine w_exit ?_ | refine w_ret ?_ | refine a_n ?_ | refine a_x ?_ | refine a_r ?_ | refine o_nil ?_ | (apply o_val rfl rfl; (focus ((try simp (disch := omega) only [simB0, ZA, Nat.reduceEqDiff, ↓reduceIte, Nat.reduceAdd, Nat.reduceLeDiff, ZV, reduceCtorEq]); first | with_reducible rfl | (apply s_ite; (focus omega); with_reducible rfl)))) | (apply o_callD; (iterate 2 (focus ((try simp only [simB0, ZA, Nat.reduceEqDiff, ↓reduceIte, Nat.reduceAdd, Nat.reduceLeDiff]); (try with_reducible rfl); done))); (focus (first | (exact hg _ (mem_getD (by omega))))); (focus (first | (apply snap_data; repeat' (first | exact snapL_nil | apply snapL_dat | exact Dat.int | exact Dat.bool | exact Dat.str | exact Dat.esl | exact Dat.nilf | exact encV_dat _ | exact encVV_dat _ | exact snapL_datL hd)) | (apply snap_plain; (focus (repeat' (first | exact snapL_nil | apply snapL_dat | exact Dat.int | exact Dat.bool | exact Dat.str | exact encV_dat _ | exact encVV_dat _ | exact snapL_datL hd))); rfl)))) | (apply w_cond; (focus ((try simp only [simB0, ZA, Nat.reduceEqDiff, ↓reduceIte, Nat.reduceAdd, Nat.reduceLeDiff]); (try with_reducible rfl); done)); all_goals (intro _hg; (try simp only [Bool.not_eq_true', Bool.not_eq_false', Bool.not_not, decide_eq_true_eq, decide_eq_false_iff_not] at _hg); try (exfalso; omega))) | (refine e_ends rfl ?_) | (apply r_1; (focus (simp only [rv, simB0, ZA, Nat.reduceEqDiff, ↓reduceIte, Nat.reduceAdd, Nat.reduceLeDiff]; with_reducible rfl))))
  · refine snap_int ?_
    rw [idxF_at (by omega) h2 _hg]
  · refine ⟨k + 1, ⟨by omega, fun i hi => ?_⟩, by omega, by simp (disch := omega) only [agr, SA, Nat.reduceEqDiff, ↓reduceIte, wrap64, Int.natCast_add, Int.natCast_one, Int.natCast_zero, and_true, and_self], rfl, rfl⟩
    rcases Nat.lt_succ_iff_lt_or_eq.1 hi with h | rfl
    · exact h2 i h
    · exact _hg
  · refine snap_int ?_
    unfold idxF; rw [idxF_none fun i hi => h2 i (by omega)]; rfl

theorem containsF_c (l : List Int) (p : Int → Bool) (g : Nat) (caps : List AV) (hd : ∀ x ∈ caps, Dat x) (hg : ∀ x ∈ l, Pure Try.prog g (.int .i64 x :: caps) (.bool (p x))) (hl : Sh l) : Pure Try.prog 95 [encV l, .func g caps] (.bool (l.any p)) := by
  refine Pure.of_c2 follows is95 (Nat.le_of_ble_eq_true rfl) ?_
  simp only [b95, O, G, N]
  repeat' (first | refine w_seq ?_ | refine w_ops0 ?_ | refine w_ret ?_ | refine a_n ?_ | refine o_nil ?_ | (apply o_val rfl rfl; (focus ((try simp (disch := omega) only [simB0, ZA, Nat.reduceEqDiff, ↓reduceIte, Nat.reduceAdd, Nat.reduceLeDiff, ZV, reduceCtorEq]); first | with_reducible rfl | (apply s_ite; (focus omega); with_reducible rfl)))) | (apply o_callD; (iterate 2 (focus ((try simp only [simB0, ZA, Nat.reduceEqDiff, ↓reduceIte, Nat.reduceAdd, Nat.reduceLeDiff]); (try with_reducible rfl); done))); (focus (first | (exact indexF_c l p g caps hd hg hl))); (focus (first | (apply snap_data; repeat' (first | exact snapL_nil | apply snapL_dat | exact Dat.int | exact Dat.bool | exact Dat.str | exact Dat.esl | exact Dat.nilf | exact encV_dat _ | exact encVV_dat _ | exact Dat.func hd)) | (apply snap_plain; (focus (repeat' (first | exact snapL_nil | apply snapL_dat | exact Dat.int | exact Dat.bool | exact Dat.str | exact encV_dat _ | exact encVV_dat _ | exact Dat.func hd))); rfl)))) | (refine e_ends rfl ?_) | (apply r_1; (focus (simp only [rv, simB0, ZA, Nat.reduceEqDiff, ↓reduceIte, Nat.reduceAdd, Nat.reduceLeDiff]; with_reducible rfl))))
  refine snap_bool ?_
  unfold idxF; split <;> simp_all


theorem equalV_c (l m : List Int) (hl : Sh l) (hm : Sh m) : Pure Try.prog 89 [encV l, encV m] (.bool (decide (l = m))) := by
  refine Pure.of_c2 follows is89 (Nat.le_of_ble_eq_true rfl) ?_
  simp only [b89, O, G, N]
  repeat' (first | refine w_seq ?_ | refine w_ops0 ?_ | refine w_block ?_ | refine w_skip ?_ | refine w_ret ?_ | refine a_n ?_ | refine a_r ?_ | refine o_nil ?_ | (apply o_val rfl rfl; (focus ((try simp (disch := omega) only [simB0, ZA, Nat.reduceEqDiff, ↓reduceIte, Nat.reduceAdd, Nat.reduceLeDiff, ZV, reduceCtorEq]); first | with_reducible rfl | (apply s_ite; (focus omega); with_reducible rfl)))) | (apply w_cond; (focus ((try simp only [simB0, ZA, Nat.reduceEqDiff, ↓reduceIte, Nat.reduceAdd, Nat.reduceLeDiff]); (try with_reducible rfl); done)); all_goals (intro _hg; (try simp only [Bool.not_eq_true', Bool.not_eq_false', Bool.not_not, decide_eq_true_eq, decide_eq_false_iff_not] at _hg); try (exfalso; omega))) | (refine e_ends rfl ?_) | (apply r_1; (focus (simp only [rv, simB0, ZA, Nat.reduceEqDiff, ↓reduceIte, Nat.reduceAdd, Nat.reduceLeDiff]; with_reducible rfl))) | refine w_loop ?_)
  · refine snap_bool ?_
    symm; rw [decide_eq_false_iff_not]; rintro rfl; omega
  refine loop0 (X := Nat) (fun k => [(0, encV l), (1, encV m), (12, .int .i64 l.length), (13, .int .i64 k)]) (fun k => k ≤ l.length ∧ ∀ i, i < k → l.getD i default = m.getD i default) (fun k => l.length - k) 0 ⟨Nat.zero_le _, by simp⟩ (by simp (disch := omega) only [agr, SA, Nat.reduceEqDiff, ↓reduceIte, wrap64, Int.natCast_add, Int.natCast_one, Int.natCast_zero, and_true, and_self]) ?_
  rintro k ⟨h1, h2⟩
  repeat' (first | refine w_seq ?_ | refine w_ops0 ?_ | refine w_ops1 ?_ | refine w_block ?_ | refine w_skip ?_ | refine w_exit ?_ | refine w_ret ?_ | refine a_n ?_ | refine a_x ?_ | refine a_r ?_ | refine o_nil ?_ | (apply o_val rfl rfl; (focus ((try simp (disch := omega) only [simB0, ZA, Nat.reduceEqDiff, ↓reduceIte, Nat.reduceAdd, Nat.reduceLeDiff, ZV, reduceCtorEq]); first | with_reducible rfl | (apply s_ite; (focus omega); with_reducible rfl)))) | (apply w_cond; (focus ((try simp only [simB0, ZA, Nat.reduceEqDiff, ↓reduceIte, Nat.reduceAdd, Nat.reduceLeDiff]); (try with_reducible rfl); done)); all_goals (intro _hg; (try simp only [Bool.not_eq_true', Bool.not_eq_false', Bool.not_not, decide_eq_true_eq, decide_eq_false_iff_not] at _hg); try (exfalso; omega))) | (refine e_ends rfl ?_) | (apply r_1; (focus (simp only [rv, simB0, ZA, Nat.reduceEqDiff, ↓reduceIte, Nat.reduceAdd, Nat.reduceLeDiff]; with_reducible rfl))))
  · refine snap_bool ?_
    symm; rw [decide_eq_false_iff_not]; rintro rfl; exact absurd rfl ‹_›
  · refine ⟨k + 1, ⟨by omega, fun i hi => ?_⟩, by omega, by simp (disch := omega) only [agr, SA, Nat.reduceEqDiff, ↓reduceIte, wrap64, Int.natCast_add, Int.natCast_one, Int.natCast_zero, and_true, and_self], rfl, rfl⟩
    rcases Nat.lt_succ_iff_lt_or_eq.1 hi with h | rfl
    · exact h2 i h
    · omega
  · refine snap_bool ?_
    symm; rw [decide_eq_true_iff]
    refine List.ext_getElem (by omega) (fun i h3 h4 => ?_)
    have := h2 i (by omega)
    simpa [List.getD, h3, h4] using this

theorem isNaN_c (n : Int) : Pure Try.prog 98 [.int .i64 n] (.bool false) := by
  refine Pure.of_c2 follows is98 (Nat.le_of_ble_eq_true rfl) ?_
  simp only [b98, O, G, N]
  repeat' (first | refine w_seq ?_ | refine w_ops0 ?_ | refine w_ret ?_ | refine a_n ?_ | refine o_nil ?_ | (apply o_val rfl rfl; (focus ((try simp (disch := omega) only [simB0, ZA, Nat.reduceEqDiff, ↓reduceIte, Nat.reduceAdd, Nat.reduceLeDiff, ZV, reduceCtorEq]); first | with_reducible rfl | (apply s_ite; (focus omega); with_reducible rfl)))) | (refine e_ends rfl ?_) | (apply r_1; (focus (simp only [rv, simB0, ZA, Nat.reduceEqDiff, ↓reduceIte, Nat.reduceAdd, Nat.reduceLeDiff]; with_reducible rfl))))
  exact snap_bool (by simp)

theorem cmp_c (a b : Int) : Pure Try.prog 86 [.int .i64 a, .int .i64 b] (.int .i64 (if a < b then -1 else if a > b then 1 else 0)) := by
  refine Pure.of_c2 follows is86 (Nat.le_of_ble_eq_true rfl) ?_
  simp only [b86, O, G, N]
  repeat' (first | refine w_seq ?_ | refine w_ops0 ?_ | refine w_skip ?_ | refine w_ret ?_ | refine a_n ?_ | refine a_r ?_ | refine o_nil ?_ | (apply o_val rfl rfl; (focus ((try simp (disch := omega) only [simB0, ZA, Nat.reduceEqDiff, ↓reduceIte, Nat.reduceAdd, Nat.reduceLeDiff, ZV, reduceCtorEq, Bool.false_eq_true]); first | with_reducible rfl | (apply s_ite; (focus omega); with_reducible rfl)))) | (apply o_callD; (iterate 2 (focus ((try simp only [simB0, ZA, Nat.reduceEqDiff, ↓reduceIte, Nat.reduceAdd, Nat.reduceLeDiff, Bool.false_eq_true]); (try with_reducible rfl); done))); (focus (first | (exact isNaN_c _))); (focus (first | (apply snap_data; repeat' (first | exact snapL_nil | apply snapL_dat | exact Dat.int | exact Dat.bool | exact Dat.str | exact Dat.esl | exact Dat.nilf | exact encV_dat _ | exact encVV_dat _)) | (apply snap_plain; (focus (repeat' (first | exact snapL_nil | apply snapL_dat | exact Dat.int | exact Dat.bool | exact Dat.str | exact encV_dat _ | exact encVV_dat _))); rfl)))) | (apply w_condF; (focus (simp only [simB0, ZA, Nat.reduceEqDiff, ↓reduceIte, Nat.reduceAdd, Nat.reduceLeDiff, Bool.false_eq_true]; done))) | (apply w_cond; (focus ((try simp only [simB0, ZA, Nat.reduceEqDiff, ↓reduceIte, Nat.reduceAdd, Nat.reduceLeDiff, Bool.false_eq_true]); (try with_reducible rfl); done)); all_goals (intro _hg; (try simp only [Bool.not_eq_true', Bool.not_eq_false', Bool.not_not, decide_eq_true_eq, decide_eq_false_iff_not] at _hg); try (exfalso; omega))) | (refine e_ends rfl ?_) | (apply r_1; (focus (simp only [rv, simB0, ZA, Nat.reduceEqDiff, ↓reduceIte, Nat.reduceAdd, Nat.reduceLeDiff, Bool.false_eq_true]; with_reducible rfl))))
  all_goals (refine snap_int ?_)
  · rw [if_pos ‹_›]
  · rw [if_neg ‹_›, if_pos ‹_›]
  · rw [if_neg (by omega), if_neg (by omega)]

theorem compare_c (a b : List Int) (ha : Sh a) (hb : Sh b) : Pure Try.prog 87 [encV a, encV b] (.int .i64 (order a b)) := by
  refine Pure.of_c2 follows is87 (Nat.le_of_ble_eq_true rfl) ?_
  simp only [b87, O, G, N]
  repeat' (first | refine w_seq ?_ | refine w_ops0 ?_ | refine w_block ?_ | refine a_n ?_ | refine o_nil ?_ | (apply o_val rfl rfl; (focus ((try simp (disch := omega) only [simB0, ZA, Nat.reduceEqDiff, ↓reduceIte, Nat.reduceAdd, Nat.reduceLeDiff, ZV, reduceCtorEq]); first | with_reducible rfl | (apply s_ite; (focus omega); with_reducible rfl)))) | refine w_loop ?_)
  refine loop0 (X := Nat) (fun k => [(0, encV a), (1, encV b), (9, encV a), (10, .int .i64 a.length), (11, .int .i64 k)]) (fun k => k ≤ a.length ∧ k ≤ b.length ∧ order a b = order (a.drop k) (b.drop k)) (fun k => a.length - k) 0 ⟨Nat.zero_le _, Nat.zero_le _, rfl⟩ (by simp (disch := omega) only [agr, SA, Nat.reduceEqDiff, ↓reduceIte, wrap64, Int.natCast_add, Int.natCast_one, Int.natCast_zero, and_true, and_self]) ?_
  rintro k ⟨h1, h2, h3⟩
  repeat' (first | refine w_seq ?_ | refine w_ops0 ?_ | refine w_block ?_ | refine w_skip ?_ | refine w_exit ?_ | refine w_ret ?_ | refine a_n ?_ | refine a_x ?_ | refine a_r ?_ | refine o_nil ?_ | (apply o_val rfl rfl; (focus ((try simp (disch := omega) only [simB0, ZA, Nat.reduceEqDiff, ↓reduceIte, Nat.reduceAdd, Nat.reduceLeDiff, ZV, reduceCtorEq]); first | with_reducible rfl | (apply s_ite; (focus omega); with_reducible rfl)))) | (apply o_callD; (iterate 2 (focus ((try simp only [simB0, ZA, Nat.reduceEqDiff, ↓reduceIte, Nat.reduceAdd, Nat.reduceLeDiff]); (try with_reducible rfl); done))); (focus (first | (exact cmp_c _ _))); (focus (first | (apply snap_data; repeat' (first | exact snapL_nil | apply snapL_dat | exact Dat.int | exact Dat.bool | exact Dat.str | exact Dat.esl | exact Dat.nilf | exact encV_dat _ | exact encVV_dat _)) | (apply snap_plain; (focus (repeat' (first | exact snapL_nil | apply snapL_dat | exact Dat.int | exact Dat.bool | exact Dat.str | exact encV_dat _ | exact encVV_dat _))); rfl)))) | (apply w_cond; (focus ((try simp only [simB0, ZA, Nat.reduceEqDiff, ↓reduceIte, Nat.reduceAdd, Nat.reduceLeDiff]); (try with_reducible rfl); done)); all_goals (intro _hg; (try simp only [Bool.not_eq_true', Bool.not_eq_false', Bool.not_not, decide_eq_true_eq, decide_eq_false_iff_not] at _hg); try (exfalso; omega))) | (refine e_ends rfl ?_) | (apply r_1; (focus (simp only [rv, simB0, ZA, Nat.reduceEqDiff, ↓reduceIte, Nat.reduceAdd, Nat.reduceLeDiff]; with_reducible rfl))))
  · refine snap_int ?_
    rw [h3, List.drop_eq_nil_of_le (show b.length ≤ k by omega), drop_cons (l := a) (by omega)]; rfl
  · refine snap_int ?_
    rw [h3, drop_cons (l := a) (by omega), drop_cons (l := b) (by omega), order]
    split
    · rfl
    · rename_i h
      split
      · rfl
      · rename_i h'
        exact absurd (show (if a.getD k default < b.getD k default then (-1 : Int) else if a.getD k default > b.getD k default then 1 else 0) = 0 by rw [if_neg h, if_neg h']) ‹_›
  · refine ⟨k + 1, ⟨by omega, by omega, ?_⟩, by omega, by simp (disch := omega) only [agr, SA, Nat.reduceEqDiff, ↓reduceIte, wrap64, Int.natCast_add, Int.natCast_one, Int.natCast_zero, and_true, and_self], rfl, rfl⟩
    rw [h3, drop_cons (l := a) (by omega), drop_cons (l := b) (by omega), order]
    by_cases h : a.getD k default < b.getD k default
    · rw [if_pos h] at _hg; exact absurd (by decide) _hg
    · by_cases h' : a.getD k default > b.getD k default
      · rw [if_neg h, if_pos h'] at _hg; exact absurd (by decide) _hg
      · rw [if_neg h, if_neg h']
  · refine snap_int ?_
    rw [h3, List.drop_eq_nil_of_le (show a.length ≤ k by omega), drop_cons (l := b) (by omega)]; rfl
  · refine snap_int ?_
    rw [h3, List.drop_eq_nil_of_le (show a.length ≤ k by omega), List.drop_eq_nil_of_le (show b.length ≤ k by omega)]; rfl


theorem indexFV_c (l : List (List Int)) (p : List Int → Bool) (g : Nat) (caps : List AV) (hd : ∀ x ∈ caps, Dat x) (hg : ∀ x ∈ l, Pure Try.prog g (encV x :: caps) (.bool (p x))) (hl : Sh l) : Pure Try.prog 97 [encVV l, .func g caps] (.int .i64 (if l.any p then (l.findIdx p : Nat) else -1)) := by
  refine Pure.of_c2 follows is97 (Nat.le_of_ble_eq_true rfl) ?_
  simp only [b97, O, G, N]
  repeat' (first | refine w_seq ?_ | refine w_ops0 ?_ | refine w_block ?_ | refine a_n ?_ | refine o_nil ?_ | (apply o_val rfl rfl; (focus ((try simp (disch := omega) only [simB0, ZA, Nat.reduceEqDiff, ↓reduceIte, Nat.reduceAdd, Nat.reduceLeDiff, ZV, reduceCtorEq]); first | with_reducible rfl | (apply s_ite; (focus omega); with_reducible rfl)))) | refine w_loop ?_)
  refine loop0 (X := Nat) (fun k => [(0, encVV l), (1, .func g caps), (7, .int .i64 l.length), (8, .int .i64 k)]) (fun k => k ≤ l.length ∧ ∀ i, i < k → p (l.getD i default) = false) (fun k => l.length - k) 0 ⟨Nat.zero_le _, by simp⟩ (by simp (disch := omega) only [agr, SA, Nat.reduceEqDiff, ↓reduceIte, wrap64, Int.natCast_add, Int.natCast_one, Int.natCast_zero, and_true, and_self]) ?_
  rintro k ⟨h1, h2⟩
  repeat' (first | refine w_seq ?_ | refine w_ops0 ?_ | refine w_block ?_ | refine w_skip ?_ | refine w_exit ?_ | refine w_ret ?_ | refine a_n ?_ | refine a_x ?_ | refine a_r ?_ | refine o_nil ?_ | (apply o_val rfl rfl; (focus ((try simp (disch := omega) only [simB0, ZA, Nat.reduceEqDiff, ↓reduceIte, Nat.reduceAdd, Nat.reduceLeDiff, ZV, reduceCtorEq]); first | with_reducible rfl | (apply s_ite; (focus omega); with_reducible rfl)))) | (apply o_callD; (iterate 2 (focus ((try simp only [simB0, ZA, Nat.reduceEqDiff, ↓reduceIte, Nat.reduceAdd, Nat.reduceLeDiff]); (try with_reducible rfl); done))); (focus (first | (exact hg _ (mem_getD (by omega))))); (focus (first | (apply snap_data; repeat' (first | exact snapL_nil | apply snapL_dat | exact Dat.int | exact Dat.bool | exact Dat.str | exact Dat.esl | exact Dat.nilf | exact encV_dat _ | exact encVV_dat _ | exact snapL_datL hd)) | (apply snap_plain; (focus (repeat' (first | exact snapL_nil | apply snapL_dat | exact Dat.int | exact Dat.bool | exact Dat.str | exact encV_dat _ | exact encVV_dat _ | exact snapL_datL hd))); rfl)))) | (apply w_cond; (focus ((try simp only [simB0, ZA, Nat.reduceEqDiff, ↓reduceIte, Nat.reduceAdd, Nat.reduceLeDiff]); (try with_reducible rfl); done)); all_goals (intro _hg; (try simp only [Bool.not_eq_true', Bool.not_eq_false', Bool.not_not, decide_eq_true_eq, decide_eq_false_iff_not] at _hg); try (exfalso; omega))) | (refine e_ends rfl ?_) | (apply r_1; (focus (simp only [rv, simB0, ZA, Nat.reduceEqDiff, ↓reduceIte, Nat.reduceAdd, Nat.reduceLeDiff]; with_reducible rfl))))
  · refine snap_int ?_
    have hk : k < l.length := by omega
    have e : l.getD k default = l[k] := by simp [List.getD, hk]
    rw [e] at _hg
    have hm : l.any p = true := List.any_eq_true.2 ⟨l[k], List.getElem_mem hk, _hg⟩
    rw [if_pos hm, (List.findIdx_eq hk).2 ⟨_hg, fun j hj => by have := h2 j hj; rwa [show l.getD j default = l[j] by simp [List.getD, show j < l.length by omega]] at this⟩]
  · refine ⟨k + 1, ⟨by omega, fun i hi => ?_⟩, by omega, by simp (disch := omega) only [agr, SA, Nat.reduceEqDiff, ↓reduceIte, wrap64, Int.natCast_add, Int.natCast_one, Int.natCast_zero, and_true, and_self], rfl, rfl⟩
    rcases Nat.lt_succ_iff_lt_or_eq.1 hi with h | rfl
    · exact h2 i h
    · exact _hg
  · refine snap_int ?_
    rw [if_neg]
    rw [Bool.not_eq_true, List.any_eq_false]
    intro x hx
    obtain ⟨i, hi, e⟩ := List.getElem_of_mem hx
    have := h2 i (by omega)
    rw [show l.getD i default = x by simp [List.getD, hi, e]] at this
    simp [this]

theorem containsFV_c (l : List (List Int)) (p : List Int → Bool) (g : Nat) (caps : List AV) (hd : ∀ x ∈ caps, Dat x) (hg : ∀ x ∈ l, Pure Try.prog g (encV x :: caps) (.bool (p x))) (hl : Sh l) : Pure Try.prog 82 [encVV l, .func g caps] (.bool (l.any p)) := by
  refine Pure.of_c2 follows is82 (Nat.le_of_ble_eq_true rfl) ?_
  simp only [b82, O, G, N]
  repeat' (first | refine w_seq ?_ | refine w_ops0 ?_ | refine w_ret ?_ | refine a_n ?_ | refine o_nil ?_ | (apply o_val rfl rfl; (focus ((try simp (disch := omega) only [simB0, ZA, Nat.reduceEqDiff, ↓reduceIte, Nat.reduceAdd, Nat.reduceLeDiff, ZV, reduceCtorEq]); first | with_reducible rfl | (apply s_ite; (focus omega); with_reducible rfl)))) | (apply o_callD; (iterate 2 (focus ((try simp only [simB0, ZA, Nat.reduceEqDiff, ↓reduceIte, Nat.reduceAdd, Nat.reduceLeDiff]); (try with_reducible rfl); done))); (focus (first | (exact indexFV_c l p g caps hd hg hl))); (focus (first | (apply snap_data; repeat' (first | exact snapL_nil | apply snapL_dat | exact Dat.int | exact Dat.bool | exact Dat.str | exact Dat.esl | exact Dat.nilf | exact encV_dat _ | exact encVV_dat _ | exact Dat.func hd)) | (apply snap_plain; (focus (repeat' (first | exact snapL_nil | apply snapL_dat | exact Dat.int | exact Dat.bool | exact Dat.str | exact encV_dat _ | exact encVV_dat _ | exact Dat.func hd))); rfl)))) | (refine e_ends rfl ?_) | (apply r_1; (focus (simp only [rv, simB0, ZA, Nat.reduceEqDiff, ↓reduceIte, Nat.reduceAdd, Nat.reduceLeDiff]; with_reducible rfl))))
  refine snap_bool ?_
  split <;> simp_all


end Go.Proofs.Ytpbjhjkfobapeaa

/- Q6: contracts of functions and plain laws; for all inputs that the theorems name. -/
set_option linter.unusedSimpArgs false
set_option linter.unusedVariables false
namespace Go.Proofs.Ytpbjhjkfobapeaa
open Go Go.Abs

structure StepV where
  round : Int
  proc : Int
  h0 : Int
  h1 : Int
  h2 : Int
  h3 : Int
  h4 : Int
  to : Int
  deriving DecidableEq, Inhabited
def StepV.heard (s : StepV) : List Int := [s.h0, s.h1, s.h2, s.h3, s.h4]
def StepV.cells (s : StepV) : List AV := [.int .i64 s.round, .int .i64 s.proc, .int .i64 s.h0, .int .i64 s.h1, .int .i64 s.h2, .int .i64 s.h3, .int .i64 s.h4, .int .i64 s.to]
def encStep (s : StepV) : AV := .agg s.cells
def encSteps (l : List StepV) : AV := encL 8 encStep l
def encV3 (l : List (List (List Int))) : AV := encL 1 encVV l
def encV4 (l : List (List (List (List Int)))) : AV := encL 1 encV3 l
structure MachV where
  n : Int
  rounds : Int
  ins : Int
  outs : Int
  first : List (List Int)
  symbols : List (List (List (List Int)))
  steps : List StepV
  out : List (List (List Int))
  deriving DecidableEq, Inhabited
def MachV.cells (m : MachV) : List AV := [.int .i64 m.n, .int .i64 m.rounds, .int .i64 m.ins, .int .i64 m.outs, encVV m.first, encV4 m.symbols, encSteps m.steps, encV3 m.out]
def encM (m : MachV) : AV := .agg m.cells

theorem step_dat (s : StepV) : ∀ x ∈ s.cells, Dat x := DatL.cons .int (DatL.cons .int (DatL.cons .int (DatL.cons .int (DatL.cons .int (DatL.cons .int (DatL.cons .int (DatL.cons .int DatL.nil)))))))
theorem encStep_dat (s : StepV) : Dat (encStep s) := Dat.agg (step_dat s)
theorem encSteps_dat (l : List StepV) : Dat (encSteps l) := encL_dat (fun x _ c hc => step_dat x c hc)
theorem encV3_dat (l : List (List (List Int))) : Dat (encV3 l) := encL_dat1 (fun _ => rfl) encVV_dat
theorem encV4_dat (l : List (List (List (List Int)))) : Dat (encV4 l) := encL_dat1 (fun _ => rfl) encV3_dat
theorem mach_dat (m : MachV) : ∀ x ∈ m.cells, Dat x := DatL.cons .int (DatL.cons .int (DatL.cons .int (DatL.cons .int (DatL.cons (encVV_dat _) (DatL.cons (encV4_dat _) (DatL.cons (encSteps_dat _) (DatL.cons (encV3_dat _) DatL.nil)))))))
theorem encM_dat (m : MachV) : Dat (encM m) := Dat.agg (mach_dat m)
theorem ME : (∀ l : List StepV, (encSteps l).cells = [encSteps l]) ∧ (∀ l, (encV3 l).cells = [encV3 l]) ∧ (∀ l, (encV4 l).cells = [encV4 l]) ∧ (∀ l : List StepV, (encSteps l).one = true) ∧ (∀ l, (encV3 l).one = true) ∧ (∀ l, (encV4 l).one = true) ∧
    (∀ l : List StepV, alenS (encSteps l) = some (.int .i64 l.length)) ∧ (∀ l, alenS (encV3 l) = some (.int .i64 l.length)) ∧ (∀ l, alenS (encV4 l) = some (.int .i64 l.length)) ∧
    (∀ s : StepV, (encStep s).cells = s.cells) ∧ (∀ m : MachV, (encM m).cells = m.cells) ∧ (∀ s : StepV, s.cells = [.int .i64 s.round, .int .i64 s.proc, .int .i64 s.h0, .int .i64 s.h1, .int .i64 s.h2, .int .i64 s.h3, .int .i64 s.h4, .int .i64 s.to]) ∧
    (∀ m : MachV, m.cells = [.int .i64 m.n, .int .i64 m.rounds, .int .i64 m.ins, .int .i64 m.outs, encVV m.first, encV4 m.symbols, encSteps m.steps, encV3 m.out]) ∧
    (∀ (l : List StepV) (k : IntKind) (n : Int), aixS 8 (encSteps l) (.int k n) = if 0 ≤ n ∧ n < l.length then some (.iptr (l.getD n.toNat default).cells 0) else none) ∧
    (∀ (l : List (List (List Int))) (k : IntKind) (n : Int), aixS 1 (encV3 l) (.int k n) = if 0 ≤ n ∧ n < l.length then some (.iptr [encVV (l.getD n.toNat default)] 0) else none) ∧
    (∀ (l : List (List (List (List Int)))) (k : IntKind) (n : Int), aixS 1 (encV4 l) (.int k n) = if 0 ≤ n ∧ n < l.length then some (.iptr [encV3 (l.getD n.toNat default)] 0) else none) :=
  ⟨fun _ => rfl, fun _ => rfl, fun _ => rfl, fun _ => rfl, fun _ => rfl, fun _ => rfl, fun _ => alenS_encL, fun _ => alenS_encL, fun _ => alenS_encL, fun _ => rfl, fun _ => rfl, fun _ => rfl, fun _ => rfl, fun _ _ _ => aixS_encL, fun _ _ _ => aixS_encL, fun _ _ _ => aixS_encL⟩

def inB (n a b : Int) : Bool := decide (a ≤ n ∧ n ≤ b)
def allB (l : List Int) (a b : Int) : Bool := l.all fun n => inB n a b
attribute [local irreducible] awp2 aops2 ains aloop athen bbind obind gbind acond res1 Go.Abs.Fn PCall Go.Abs.Pure SnapArgs SnapL Yl

theorem in_c (n a b : Int) : Pure Try.prog 55 [.int .i64 n, .int .i64 a, .int .i64 b] (.bool (inB n a b)) := by
  refine Pure.of_c2 follows is55 (Nat.le_of_ble_eq_true rfl) ?_
  simp only [b55, O, G, N]
  repeat' (first | refine w_seq ?_ | refine w_ops0 ?_ | refine w_ret ?_ | refine a_n ?_ | refine o_nil ?_ | (apply o_val rfl rfl; (focus ((try simp (disch := omega) only [simB0, ZA, Nat.reduceEqDiff, ↓reduceIte, Nat.reduceAdd, Nat.reduceLeDiff, ZV, reduceCtorEq]); first | with_reducible rfl | (apply s_ite; (focus omega); with_reducible rfl)))) | (apply o_gT; (focus (simp only [simB0, ZA, Nat.reduceEqDiff, ↓reduceIte, Nat.reduceAdd, Nat.reduceLeDiff]; done))) | (apply o_gF; (focus (simp only [simB0, ZA, Nat.reduceEqDiff, ↓reduceIte, Nat.reduceAdd, Nat.reduceLeDiff, or_true, true_or]; done))) | (apply o_gB; (focus ((try simp only [simB0, ZA, Nat.reduceEqDiff, ↓reduceIte, Nat.reduceAdd, Nat.reduceLeDiff]); (try with_reducible rfl); done)); all_goals (intro _hg; (try simp only [Bool.not_true, Bool.not_false, Bool.not_eq_true', Bool.not_eq_false', Bool.not_not, decide_eq_true_eq, decide_eq_false_iff_not] at _hg); try (exfalso; omega))) | (refine e_ends rfl ?_) | (apply r_1; (focus (simp only [rv, simB0, ZA, Nat.reduceEqDiff, ↓reduceIte, Nat.reduceAdd, Nat.reduceLeDiff]; with_reducible rfl))))
  all_goals (refine snap_bool ?_; unfold inB)
  · exact decide_eq_decide.2 (by omega)
  · rw [decide_eq_false (by omega)]

theorem all1_c (n a b : Int) : Pure Try.prog 96 [.int .i64 n, .iptr [.int .i64 a] 0, .iptr [.int .i64 b] 0] (.bool (!inB n a b)) := by
  refine Pure.of_c2 follows is96 (Nat.le_of_ble_eq_true rfl) ?_
  simp only [b96, O, G, N]
  repeat' (first | refine w_seq ?_ | refine w_ops0 ?_ | refine w_ret ?_ | refine a_n ?_ | refine o_nil ?_ | (apply o_val rfl rfl; (focus ((try simp (disch := omega) only [simB0, ZA, Nat.reduceEqDiff, ↓reduceIte, Nat.reduceAdd, Nat.reduceLeDiff, ZV, reduceCtorEq]); first | with_reducible rfl | (apply s_ite; (focus omega); with_reducible rfl)))) | (apply o_callD; (iterate 2 (focus ((try simp only [simB0, ZA, Nat.reduceEqDiff, ↓reduceIte, Nat.reduceAdd, Nat.reduceLeDiff]); (try with_reducible rfl); done))); (focus (first | (exact in_c _ _ _))); (focus (first | (apply snap_data; repeat' (first | exact snapL_nil | apply snapL_dat | exact Dat.int | exact Dat.bool | exact Dat.str | exact Dat.esl | exact Dat.nilf | exact encV_dat _ | exact encVV_dat _)) | (apply snap_plain; (focus (repeat' (first | exact snapL_nil | apply snapL_dat | exact Dat.int | exact Dat.bool | exact Dat.str | exact encV_dat _ | exact encVV_dat _))); rfl)))) | (refine e_ends rfl ?_) | (apply r_1; (focus (simp only [rv, simB0, ZA, Nat.reduceEqDiff, ↓reduceIte, Nat.reduceAdd, Nat.reduceLeDiff]; with_reducible rfl))))
  exact .bool _

theorem all_c (l : List Int) (a b : Int) (hl : Sh l) : Pure Try.prog 81 [encV l, .int .i64 a, .int .i64 b] (.bool (allB l a b)) := by
  refine Pure.of_c2 follows is81 (Nat.le_of_ble_eq_true rfl) ?_
  simp only [b81, O, G, N]
  repeat' (first | refine w_seq ?_ | refine w_ops0 ?_ | refine a_n ?_ | refine o_nil ?_ | (apply o_val rfl rfl; (focus ((try simp (disch := omega) only [simB0, ZA, Nat.reduceEqDiff, ↓reduceIte, Nat.reduceAdd, Nat.reduceLeDiff, ZV, reduceCtorEq]); first | with_reducible rfl | (apply s_ite; (focus omega); with_reducible rfl)))) | (apply e_box rfl; (iterate 2 (focus ((try simp only [simB0, ZA, Nat.reduceEqDiff, ↓reduceIte, Nat.reduceAdd, Nat.reduceLeDiff]); (try with_reducible rfl); done))); (focus (simp only [SO, Bool.and_self, one_encV, one_encVV]))))
  refine o_callP (by ((try simp only [simB0, ZA, Nat.reduceEqDiff, ↓reduceIte, Nat.reduceAdd, Nat.reduceLeDiff]); (try with_reducible rfl))) (by ((try simp only [simB0, ZA, Nat.reduceEqDiff, ↓reduceIte, Nat.reduceAdd, Nat.reduceLeDiff]); (try with_reducible rfl))) (containsF_c l (fun n => !inB n a b) 96 [.iptr [.int .i64 a] 0, .iptr [.int .i64 b] 0] (DatL.cons (Dat.iptr (DatL.cons .int DatL.nil)) (DatL.cons (Dat.iptr (DatL.cons .int DatL.nil)) DatL.nil)) (fun x _ => all1_c x a b) hl) (snap_plain (by (repeat' (first | exact snapL_nil | exact Dat.snap Dat.int | exact Dat.snap Dat.bool | exact Dat.snap Dat.str | exact Dat.snap Dat.esl | exact Dat.snap Dat.nilf | exact Dat.snap (encV_dat _) | exact Dat.snap (encVV_dat _) | apply snapL_cons | apply snap_func | apply snap_iptr | (apply snap_ptr; (focus ((try simp only [simB0, ZA, Nat.reduceEqDiff, ↓reduceIte, Nat.reduceAdd, Nat.reduceLeDiff]); with_reducible rfl)); (focus rfl))))) rfl) ?_
  repeat' (first | refine w_ret ?_ | refine a_n ?_ | refine o_nil ?_ | (apply o_val rfl rfl; (focus ((try simp (disch := omega) only [simB0, ZA, Nat.reduceEqDiff, ↓reduceIte, Nat.reduceAdd, Nat.reduceLeDiff, ZV, reduceCtorEq]); first | with_reducible rfl | (apply s_ite; (focus omega); with_reducible rfl)))) | (refine e_ends rfl ?_) | (apply r_1; (focus (simp only [rv, simB0, ZA, Nat.reduceEqDiff, ↓reduceIte, Nat.reduceAdd, Nat.reduceLeDiff]; with_reducible rfl))))
  refine snap_bool ?_
  unfold allB
  rw [List.not_any_eq_all_not]; simp

def lens (l : List (List Int)) : Nat := (l.map List.length).sum
def statesN (m : MachV) : Nat := (m.out.map lens).sum
theorem lens_snoc (l : List (List Int)) (x : List Int) : lens (l ++ [x]) = lens l + x.length := by simp [lens]
theorem sumlens_snoc (l : List (List (List Int))) (x : List (List Int)) : ((l ++ [x]).map lens).sum = (l.map lens).sum + lens x := by simp
theorem lens_take (l : List (List Int)) (k : Nat) : lens (l.take k) ≤ lens l := by
  conv => rhs; rw [← List.take_append_drop k l]
  simp only [lens, List.map_append, List.sum_append]; omega
theorem sumlens_take (l : List (List (List Int))) (k : Nat) : ((l.take k).map lens).sum ≤ (l.map lens).sum := by
  conv => rhs; rw [← List.take_append_drop k l]
  simp only [List.map_append, List.sum_append]; omega

theorem states_c (m : MachV) (hl : Sh m.out) (hs : statesN m ≤ 9223372036854775807) (h2 : ∀ l ∈ m.out, Sh l) : Pure Try.prog 57 [encM m] (.int .i64 (statesN m)) := by
  refine Pure.of_c2 follows is57 (Nat.le_of_ble_eq_true rfl) ?_
  simp only [b57, O, G, N]
  have hl' : m.out.length ≤ 9223372036854775807 := hl
  repeat' (first | refine w_seq ?_ | refine w_ops0 ?_ | refine w_block ?_ | refine a_n ?_ | refine o_nil ?_ | (apply o_val rfl rfl; (focus ((try simp (disch := omega) only [simB0, ZA, Nat.reduceEqDiff, ↓reduceIte, Nat.reduceAdd, Nat.reduceLeDiff, ZV, reduceCtorEq, ME]); first | with_reducible rfl | (apply s_ite; (focus omega); with_reducible rfl)))) | (apply e_box rfl; (iterate 2 (focus ((try simp only [simB0, ZA, Nat.reduceEqDiff, ↓reduceIte, Nat.reduceAdd, Nat.reduceLeDiff, ME]); (try with_reducible rfl); done))); (focus (simp only [SO, Bool.and_self, one_encV, one_encVV, ME]))) | refine w_loop ?_)
  refine loop0 (X := Nat) (fun k => [(3, .int .i64 (((m.out.take k).map lens).sum : Nat)), (9, encV3 m.out), (10, .int .i64 m.out.length), (11, .int .i64 k)]) (fun k => k ≤ m.out.length) (fun k => m.out.length - k) 0 (Nat.zero_le _) (by simp (disch := omega) only [agr, SA, Nat.reduceEqDiff, ↓reduceIte, wrap64, Int.natCast_add, Int.natCast_one, Int.natCast_zero, and_true, and_self, List.take_zero, List.map_nil, List.sum_nil]) ?_
  rintro k h1
  by_cases hk : k < m.out.length
  · have hm := h2 _ (mem_getD hk)
    have ht := take_succ' hk
    have hb := sumlens_take m.out (k + 1)
    rw [ht, sumlens_snoc] at hb
    unfold statesN at hs
    generalize hc : m.out.getD k default = c at *
    have hc' : c.length ≤ 9223372036854775807 := hm
    repeat' (first | refine w_seq ?_ | refine w_ops0 ?_ | refine w_block ?_ | refine w_skip ?_ | refine a_n ?_ | refine o_nil ?_ | (apply o_val rfl rfl; (focus ((try simp (disch := omega) only [simB0, ZA, Nat.reduceEqDiff, ↓reduceIte, Nat.reduceAdd, Nat.reduceLeDiff, ZV, reduceCtorEq, ME, hc]); first | with_reducible rfl | (apply s_ite; (focus omega); with_reducible rfl)))) | (apply w_cond; (focus ((try simp only [simB0, ZA, Nat.reduceEqDiff, ↓reduceIte, Nat.reduceAdd, Nat.reduceLeDiff, ME, hc]); (try with_reducible rfl); done)); all_goals (intro _hg; (try simp only [Bool.not_eq_true', Bool.not_eq_false', Bool.not_not, decide_eq_true_eq, decide_eq_false_iff_not] at _hg); try (exfalso; omega))) | refine w_loop ?_)
    refine loop0 (X := Nat) (fun j => [(3, .int .i64 ((((m.out.take k).map lens).sum + lens (c.take j) : Nat) : Int)), (9, encV3 m.out), (10, .int .i64 m.out.length), (11, .int .i64 k), (15, encVV c), (16, .int .i64 c.length), (17, .int .i64 j)]) (fun j => j ≤ c.length) (fun j => c.length - j) 0 (Nat.zero_le _) (by simp (disch := omega) only [agr, SA, Nat.reduceEqDiff, ↓reduceIte, wrap64, Int.natCast_add, Int.natCast_one, Int.natCast_zero, and_true, and_self, List.take_zero, show lens [] = 0 from rfl, Nat.add_zero]) ?_
    rintro j h3
    by_cases hj : j < c.length
    · have ht2 := take_succ' hj
      have hb2 := lens_take c (j + 1)
      rw [ht2, lens_snoc] at hb2
      repeat' (first | refine w_seq ?_ | refine w_ops0 ?_ | refine w_block ?_ | refine w_skip ?_ | refine a_n ?_ | refine o_nil ?_ | (apply o_val rfl rfl; (focus ((try simp (disch := omega) only [simB0, ZA, Nat.reduceEqDiff, ↓reduceIte, Nat.reduceAdd, Nat.reduceLeDiff, ZV, reduceCtorEq, ME]); first | with_reducible rfl | (apply s_ite; (focus omega); with_reducible rfl)))) | (apply w_cond; (focus ((try simp only [simB0, ZA, Nat.reduceEqDiff, ↓reduceIte, Nat.reduceAdd, Nat.reduceLeDiff, ME]); (try with_reducible rfl); done)); all_goals (intro _hg; (try simp only [Bool.not_eq_true', Bool.not_eq_false', Bool.not_not, decide_eq_true_eq, decide_eq_false_iff_not] at _hg); try (exfalso; omega))))
      refine ⟨j + 1, by omega, by omega, ?_, rfl, rfl⟩
      rw [ht2, lens_snoc]
      simp (disch := omega) only [agr, SA, Nat.reduceEqDiff, ↓reduceIte, wrap64, Int.natCast_add, Int.natCast_one, Int.natCast_zero, and_true, and_self, show ((((m.out.take k).map lens).sum + (lens (c.take j) + (c.getD j default).length) : Nat) : Int) = ((((m.out.take k).map lens).sum + lens (c.take j) : Nat) : Int) + ((c.getD j default).length : Int) by omega]
    · repeat' (first | refine w_seq ?_ | refine w_ops0 ?_ | refine w_exit ?_ | refine a_n ?_ | refine a_x ?_ | refine o_nil ?_ | (apply o_val rfl rfl; (focus ((try simp (disch := omega) only [simB0, ZA, Nat.reduceEqDiff, ↓reduceIte, Nat.reduceAdd, Nat.reduceLeDiff, ZV, reduceCtorEq, ME]); first | with_reducible rfl | (apply s_ite; (focus omega); with_reducible rfl)))) | (apply w_cond; (focus ((try simp only [simB0, ZA, Nat.reduceEqDiff, ↓reduceIte, Nat.reduceAdd, Nat.reduceLeDiff, ME]); (try with_reducible rfl); done)); all_goals (intro _hg; (try simp only [Bool.not_eq_true', Bool.not_eq_false', Bool.not_not, decide_eq_true_eq, decide_eq_false_iff_not] at _hg); try (exfalso; omega))))
      refine ⟨k + 1, by omega, by omega, ?_, rfl, rfl⟩
      rw [ht, sumlens_snoc, List.take_of_length_le (show c.length ≤ j by omega)]
      simp (disch := omega) only [agr, SA, Nat.reduceEqDiff, ↓reduceIte, wrap64, Int.natCast_add, Int.natCast_one, Int.natCast_zero, and_true, and_self]
  · repeat' (first | refine w_seq ?_ | refine w_ops0 ?_ | refine w_exit ?_ | refine w_ret ?_ | refine a_n ?_ | refine a_x ?_ | refine o_nil ?_ | (apply o_val rfl rfl; (focus ((try simp (disch := omega) only [simB0, ZA, Nat.reduceEqDiff, ↓reduceIte, Nat.reduceAdd, Nat.reduceLeDiff, ZV, reduceCtorEq, ME]); first | with_reducible rfl | (apply s_ite; (focus omega); with_reducible rfl)))) | (apply w_cond; (focus ((try simp only [simB0, ZA, Nat.reduceEqDiff, ↓reduceIte, Nat.reduceAdd, Nat.reduceLeDiff, ME]); (try with_reducible rfl); done)); all_goals (intro _hg; (try simp only [Bool.not_eq_true', Bool.not_eq_false', Bool.not_not, decide_eq_true_eq, decide_eq_false_iff_not] at _hg); try (exfalso; omega))) | (refine e_ends rfl ?_) | (apply r_1; (focus (simp only [rv, simB0, ZA, Nat.reduceEqDiff, ↓reduceIte, Nat.reduceAdd, Nat.reduceLeDiff, ME]; with_reducible rfl))))
    rw [List.take_of_length_le (by omega)]
    exact .int _ _

end Go.Proofs.Ytpbjhjkfobapeaa

/- Q7: contracts of functions and plain laws; for all inputs that the theorems name. -/
set_option linter.unusedSimpArgs false
set_option linter.unusedVariables false
namespace Go.Proofs.Ytpbjhjkfobapeaa
open Go Go.Abs

def placeB (m : MachV) (k p q : Nat) : Bool := decide (((((m.symbols.getD k default).getD p default).getD q default).length : Int) = if p = q then 0 else (((m.out.getD k default).getD p default).length : Int))
def recvB (m : MachV) (k p : Nat) : Bool := decide ((((m.symbols.getD k default).getD p default).length : Int) = m.n) && (List.range ((m.symbols.getD k default).getD p default).length).all fun q => placeB m k p q
def sendB (m : MachV) (k : Nat) : Bool := decide (((m.symbols.getD k default).length : Int) = m.n) && (List.range (m.symbols.getD k default).length).all fun p => recvB m k p
def shapedB (m : MachV) : Bool := decide ((m.first.length : Int) = m.n ∧ (m.out.length : Int) = m.rounds + 1 ∧ (m.symbols.length : Int) = m.rounds) &&
  (m.first.all (fun l => decide ((l.length : Int) = m.ins)) && (m.out.all (fun l => decide ((l.length : Int) = m.n)) && (List.range m.symbols.length).all (fun k => sendB m k)))

structure ShM (m : MachV) : Prop where
  first : Sh m.first
  first1 : ∀ l ∈ m.first, Sh l
  out : Sh m.out
  out1 : ∀ l ∈ m.out, Sh l
  out2 : ∀ l ∈ m.out, ∀ x ∈ l, Sh x
  out3 : ∀ l ∈ m.out, ∀ x ∈ l, x.length ≤ 140737488355328
  symbols : Sh m.symbols
  symbols1 : ∀ l ∈ m.symbols, Sh l
  symbols2 : ∀ l ∈ m.symbols, ∀ x ∈ l, Sh x
  symbols3 : ∀ l ∈ m.symbols, ∀ x ∈ l, ∀ y ∈ x, Sh y
  steps : Sh m.steps
attribute [local irreducible] awp2 aops2 ains aloop athen bbind obind gbind acond res1 Go.Abs.Fn PCall Go.Abs.Pure SnapArgs SnapL Yl

theorem shaped_c (m : MachV) (hs : ShM m) (hn : 1 ≤ m.n ∧ m.n ≤ 5) (hr : 0 ≤ m.rounds ∧ m.rounds ≤ 6) : Pure Try.prog 56 [encM m] (.bool (shapedB m)) := by
  refine Pure.of_c2 follows is56 (Nat.le_of_ble_eq_true rfl) ?_
  simp only [b56, O, G, N]
  obtain ⟨s1, s2, s3, s4, s5, s5b, s6, s7, s8, s9, s10⟩ := hs
  have e1 : m.first.length ≤ 9223372036854775807 := s1
  have e2 : m.out.length ≤ 9223372036854775807 := s3
  have e3 : m.symbols.length ≤ 9223372036854775807 := s6
  refine w_seq ?_
  repeat' (first | refine w_ops0 ?_ | refine a_n ?_ | refine o_nil ?_ | (apply o_val rfl rfl; (focus ((try simp (disch := omega) only [simB0, ZA, Nat.reduceEqDiff, ↓reduceIte, Nat.reduceAdd, Nat.reduceLeDiff, ZV, reduceCtorEq, ME]); first | with_reducible rfl | (apply s_ite; (focus omega); with_reducible rfl)))) | (apply e_box rfl; (iterate 2 (focus ((try simp only [simB0, ZA, Nat.reduceEqDiff, ↓reduceIte, Nat.reduceAdd, Nat.reduceLeDiff, ME]); (try with_reducible rfl); done))); (focus (simp only [SO, Bool.and_self, one_encV, one_encVV, ME]))))
  refine w_seqC (fun T H nx => T 1 = .ptr 0 8 0 ∧ H = hupd noBoxes 0 m.cells ∧ ((m.first.length : Int) = m.n ∧ (m.out.length : Int) = m.rounds + 1 ∧ (m.symbols.length : Int) = m.rounds)) ?_ ?_
  · repeat' (first | refine w_seq ?_ | refine w_ops0 ?_ | refine w_skip ?_ | refine w_ret ?_ | refine a_n ?_ | refine a_r ?_ | refine o_nil ?_ | (apply o_val rfl rfl; (focus ((try simp (disch := omega) only [simB0, ZA, Nat.reduceEqDiff, ↓reduceIte, Nat.reduceAdd, Nat.reduceLeDiff, ZV, reduceCtorEq, ME]); first | with_reducible rfl | (apply s_ite; (focus omega); with_reducible rfl)))) | (apply o_gT; (focus (simp only [simB0, ZA, Nat.reduceEqDiff, ↓reduceIte, Nat.reduceAdd, Nat.reduceLeDiff, ME]; done))) | (apply o_gF; (focus (simp only [simB0, ZA, Nat.reduceEqDiff, ↓reduceIte, Nat.reduceAdd, Nat.reduceLeDiff, or_true, true_or, ME]; done))) | (apply o_gB; (focus ((try simp only [simB0, ZA, Nat.reduceEqDiff, ↓reduceIte, Nat.reduceAdd, Nat.reduceLeDiff, ME]); (try with_reducible rfl); done)); all_goals (intro _hg; (try simp only [Bool.not_true, Bool.not_false, Bool.not_eq_true', Bool.not_eq_false', Bool.not_not, decide_eq_true_eq, decide_eq_false_iff_not] at _hg); try (exfalso; omega))) | (apply w_condT; (focus (simp only [simB0, ZA, Nat.reduceEqDiff, ↓reduceIte, Nat.reduceAdd, Nat.reduceLeDiff, ME]; done))) | (apply w_cond; (focus ((try simp only [simB0, ZA, Nat.reduceEqDiff, ↓reduceIte, Nat.reduceAdd, Nat.reduceLeDiff, ME]); (try with_reducible rfl); done)); all_goals (intro _hg; (try simp only [Bool.not_eq_true', Bool.not_eq_false', Bool.not_not, decide_eq_true_eq, decide_eq_false_iff_not] at _hg); try (exfalso; omega))) | (refine e_ends rfl ?_) | (apply r_1; (focus (simp only [rv, simB0, ZA, Nat.reduceEqDiff, ↓reduceIte, Nat.reduceAdd, Nat.reduceLeDiff, ME]; with_reducible rfl))))
    all_goals first
      | exact ⟨rfl, rfl, by omega, by omega, by omega⟩
      | (refine snap_bool ?_
         unfold shapedB; rw [decide_eq_false (by omega)]; rfl)
  rintro T H nx ⟨t1, rfl, hl⟩
  have hb : shapedB m = (m.first.all (fun l => decide ((l.length : Int) = m.ins)) && (m.out.all (fun l => decide ((l.length : Int) = m.n)) && (List.range m.symbols.length).all (fun k => sendB m k))) := by
    unfold shapedB; rw [decide_eq_true hl, Bool.true_and]
  rw [hb]
  clear hb
  refine w_seqC (fun T H nx => T 1 = .ptr 0 8 0 ∧ H = hupd noBoxes 0 m.cells ∧ m.first.all (fun l => decide ((l.length : Int) = m.ins)) = true) ?_ ?_
  · repeat' (first | refine w_seq ?_ | refine w_ops0 ?_ | refine w_block ?_ | refine a_n ?_ | refine o_nil ?_ | (apply o_val rfl rfl; (focus ((try simp (disch := omega) only [simB0, ZA, Nat.reduceEqDiff, ↓reduceIte, Nat.reduceAdd, Nat.reduceLeDiff, ZV, reduceCtorEq, ME, t1]); first | with_reducible rfl | (apply s_ite; (focus omega); with_reducible rfl)))) | refine w_loop ?_)
    refine loopA (fun k => [(1, .ptr 0 8 0), (38, encVV m.first), (39, .int .i64 m.first.length), (40, .int .i64 k)]) m.first.length (fun k => ((m.first.getD k default).length : Int) = m.ins) (by simp (disch := omega) only [agr, SA, Nat.reduceEqDiff, ↓reduceIte, wrap64, Int.natCast_add, Int.natCast_one, Int.natCast_zero, and_true, and_self, t1]) ?_
    rintro k h1 h2
    have hsk : k < m.first.length → (m.first.getD k default).length ≤ 9223372036854775807 := fun h => s2 _ (mem_getD h)
    repeat' (first | refine w_seq ?_ | refine w_ops0 ?_ | refine w_block ?_ | refine w_skip ?_ | refine w_exit ?_ | refine w_ret ?_ | refine a_n ?_ | refine a_x ?_ | refine a_r ?_ | refine o_nil ?_ | (apply o_val rfl rfl; (focus ((try simp (disch := omega) only [simB0, ZA, Nat.reduceEqDiff, ↓reduceIte, Nat.reduceAdd, Nat.reduceLeDiff, ZV, reduceCtorEq, ME]); first | with_reducible rfl | (apply s_ite; (focus omega); with_reducible rfl)))) | (apply w_cond; (focus ((try simp only [simB0, ZA, Nat.reduceEqDiff, ↓reduceIte, Nat.reduceAdd, Nat.reduceLeDiff, ME]); (try with_reducible rfl); done)); all_goals (intro _hg; (try simp only [Bool.not_eq_true', Bool.not_eq_false', Bool.not_not, decide_eq_true_eq, decide_eq_false_iff_not] at _hg); try (exfalso; omega))) | (refine e_ends rfl ?_) | (apply r_1; (focus (simp only [rv, simB0, ZA, Nat.reduceEqDiff, ↓reduceIte, Nat.reduceAdd, Nat.reduceLeDiff, ME]; with_reducible rfl))))
    · refine snap_bool ?_
      have : m.first.all (fun l => decide ((l.length : Int) = m.ins)) = false := all_false (k := k) (by omega) (decide_eq_false (by omega))
      rw [this]; rfl
    · exact ⟨by omega, by omega, by simp (disch := omega) only [agr, SA, Nat.reduceEqDiff, ↓reduceIte, wrap64, Int.natCast_add, Int.natCast_one, Int.natCast_zero, and_true, and_self], rfl, rfl⟩
    · exact ⟨rfl, rfl, all_true fun i hi => decide_eq_true (h2 i (by omega))⟩
  clear t1
  rintro T H nx ⟨t1, rfl, h1⟩
  rw [h1, Bool.true_and]
  clear h1
  refine w_seqC (fun T H nx => T 1 = .ptr 0 8 0 ∧ H = hupd noBoxes 0 m.cells ∧ ∀ i, i < m.out.length → ((m.out.getD i default).length : Int) = m.n) ?_ ?_
  · repeat' (first | refine w_seq ?_ | refine w_ops0 ?_ | refine w_block ?_ | refine a_n ?_ | refine o_nil ?_ | (apply o_val rfl rfl; (focus ((try simp (disch := omega) only [simB0, ZA, Nat.reduceEqDiff, ↓reduceIte, Nat.reduceAdd, Nat.reduceLeDiff, ZV, reduceCtorEq, ME, t1]); first | with_reducible rfl | (apply s_ite; (focus omega); with_reducible rfl)))) | refine w_loop ?_)
    refine loopA (fun k => [(1, .ptr 0 8 0), (51, encV3 m.out), (52, .int .i64 m.out.length), (53, .int .i64 k)]) m.out.length (fun k => ((m.out.getD k default).length : Int) = m.n) (by simp (disch := omega) only [agr, SA, Nat.reduceEqDiff, ↓reduceIte, wrap64, Int.natCast_add, Int.natCast_one, Int.natCast_zero, and_true, and_self, t1]) ?_
    rintro k h1 h2
    repeat' (first | refine w_seq ?_ | refine w_ops0 ?_ | refine w_block ?_ | refine w_skip ?_ | refine w_exit ?_ | refine w_ret ?_ | refine a_n ?_ | refine a_x ?_ | refine a_r ?_ | refine o_nil ?_ | (apply o_val rfl rfl; (focus ((try simp (disch := omega) only [simB0, ZA, Nat.reduceEqDiff, ↓reduceIte, Nat.reduceAdd, Nat.reduceLeDiff, ZV, reduceCtorEq, ME]); first | with_reducible rfl | (apply s_ite; (focus omega); with_reducible rfl)))) | (apply w_cond; (focus ((try simp only [simB0, ZA, Nat.reduceEqDiff, ↓reduceIte, Nat.reduceAdd, Nat.reduceLeDiff, ME]); (try with_reducible rfl); done)); all_goals (intro _hg; (try simp only [Bool.not_eq_true', Bool.not_eq_false', Bool.not_not, decide_eq_true_eq, decide_eq_false_iff_not] at _hg); try (exfalso; omega))) | (refine e_ends rfl ?_) | (apply r_1; (focus (simp only [rv, simB0, ZA, Nat.reduceEqDiff, ↓reduceIte, Nat.reduceAdd, Nat.reduceLeDiff, ME]; with_reducible rfl))))
    · refine snap_bool ?_
      have : m.out.all (fun l => decide ((l.length : Int) = m.n)) = false := all_false (k := k) (by omega) (decide_eq_false (by omega))
      rw [this]; rfl
    · exact ⟨by omega, by omega, by simp (disch := omega) only [agr, SA, Nat.reduceEqDiff, ↓reduceIte, wrap64, Int.natCast_add, Int.natCast_one, Int.natCast_zero, and_true, and_self], rfl, rfl⟩
    · exact ⟨rfl, rfl, fun i hi => h2 i (by omega)⟩
  clear t1
  rintro T H nx ⟨t1, rfl, ho⟩
  have ho1 : m.out.all (fun l => decide ((l.length : Int) = m.n)) = true := all_true fun i hi => decide_eq_true (ho i hi)
  rw [ho1, Bool.true_and]
  repeat' (first | refine w_seq ?_ | refine w_ops0 ?_ | refine w_block ?_ | refine a_n ?_ | refine o_nil ?_ | (apply o_val rfl rfl; (focus ((try simp (disch := omega) only [simB0, ZA, Nat.reduceEqDiff, ↓reduceIte, Nat.reduceAdd, Nat.reduceLeDiff, ZV, reduceCtorEq, ME, t1]); first | with_reducible rfl | (apply s_ite; (focus omega); with_reducible rfl)))) | refine w_loop ?_)
  refine loopA (fun k => [(1, .ptr 0 8 0), (64, encV4 m.symbols), (65, .int .i64 m.symbols.length), (66, .int .i64 k)]) m.symbols.length (fun k => sendB m k = true) (by simp (disch := omega) only [agr, SA, Nat.reduceEqDiff, ↓reduceIte, wrap64, Int.natCast_add, Int.natCast_one, Int.natCast_zero, and_true, and_self, t1]) ?_
  clear t1
  rintro k h1 h2
  by_cases hk : k < m.symbols.length
  rotate_left
  · repeat' (first | refine w_seq ?_ | refine w_ops0 ?_ | refine w_exit ?_ | refine w_ret ?_ | refine a_n ?_ | refine a_x ?_ | refine o_nil ?_ | (apply o_val rfl rfl; (focus ((try simp (disch := omega) only [simB0, ZA, Nat.reduceEqDiff, ↓reduceIte, Nat.reduceAdd, Nat.reduceLeDiff, ZV, reduceCtorEq, ME]); first | with_reducible rfl | (apply s_ite; (focus omega); with_reducible rfl)))) | (apply w_cond; (focus ((try simp only [simB0, ZA, Nat.reduceEqDiff, ↓reduceIte, Nat.reduceAdd, Nat.reduceLeDiff, ME]); (try with_reducible rfl); done)); all_goals (intro _hg; (try simp only [Bool.not_eq_true', Bool.not_eq_false', Bool.not_not, decide_eq_true_eq, decide_eq_false_iff_not] at _hg); try (exfalso; omega))) | (refine e_ends rfl ?_) | (apply r_1; (focus (simp only [rv, simB0, ZA, Nat.reduceEqDiff, ↓reduceIte, Nat.reduceAdd, Nat.reduceLeDiff, ME]; with_reducible rfl))))
    exact snap_bool (range_all_true fun i hi => h2 i (by omega)).symm
  have hok := ho k (by omega)
  have hsk := s7 _ (mem_getD hk)
  have hsk2 := s8 _ (mem_getD hk)
  have hsk3 := s9 _ (mem_getD hk)
  have hk0 : sendB m k = (decide (((m.symbols.getD k default).length : Int) = m.n) && (List.range (m.symbols.getD k default).length).all fun p => recvB m k p) := rfl
  have hpd : ∀ p, recvB m k p = (decide ((((m.symbols.getD k default).getD p default).length : Int) = m.n) && (List.range ((m.symbols.getD k default).getD p default).length).all fun q => placeB m k p q) := fun p => rfl
  have hqd : ∀ p q, placeB m k p q = decide (((((m.symbols.getD k default).getD p default).getD q default).length : Int) = if p = q then 0 else (((m.out.getD k default).getD p default).length : Int)) := fun p q => rfl
  generalize hS : m.symbols.getD k default = S at *
  have hS' : S.length ≤ 9223372036854775807 := hsk
  repeat' (first | refine w_seq ?_ | refine w_ops0 ?_ | refine w_block ?_ | refine w_skip ?_ | refine w_ret ?_ | refine a_n ?_ | refine a_r ?_ | refine o_nil ?_ | (apply o_val rfl rfl; (focus ((try simp (disch := omega) only [simB0, ZA, Nat.reduceEqDiff, ↓reduceIte, Nat.reduceAdd, Nat.reduceLeDiff, ZV, reduceCtorEq, ME, hS]); first | with_reducible rfl | (apply s_ite; (focus omega); with_reducible rfl)))) | (apply w_cond; (focus ((try simp only [simB0, ZA, Nat.reduceEqDiff, ↓reduceIte, Nat.reduceAdd, Nat.reduceLeDiff, ME, hS]); (try with_reducible rfl); done)); all_goals (intro _hg; (try simp only [Bool.not_eq_true', Bool.not_eq_false', Bool.not_not, decide_eq_true_eq, decide_eq_false_iff_not] at _hg); try (exfalso; omega))) | (refine e_ends rfl ?_) | (apply r_1; (focus (simp only [rv, simB0, ZA, Nat.reduceEqDiff, ↓reduceIte, Nat.reduceAdd, Nat.reduceLeDiff, ME, hS]; with_reducible rfl))) | refine w_loop ?_)
  · refine snap_bool ?_
    symm
    refine range_all_false hk ?_
    rw [hk0, decide_eq_false ‹_›]; rfl
  refine loopA (fun p => [(1, .ptr 0 8 0), (7, .int .i64 k), (64, encV4 m.symbols), (65, .int .i64 m.symbols.length), (66, .int .i64 k), (76, encV3 S), (77, .int .i64 S.length), (78, .int .i64 p)]) S.length (fun p => recvB m k p = true) (by simp (disch := omega) only [agr, SA, Nat.reduceEqDiff, ↓reduceIte, wrap64, Int.natCast_add, Int.natCast_one, Int.natCast_zero, and_true, and_self]) ?_
  rintro p g1 g2
  by_cases hp : p < S.length
  rotate_left
  · repeat' (first | refine w_seq ?_ | refine w_ops0 ?_ | refine w_exit ?_ | refine a_n ?_ | refine a_x ?_ | refine o_nil ?_ | (apply o_val rfl rfl; (focus ((try simp (disch := omega) only [simB0, ZA, Nat.reduceEqDiff, ↓reduceIte, Nat.reduceAdd, Nat.reduceLeDiff, ZV, reduceCtorEq, ME]); first | with_reducible rfl | (apply s_ite; (focus omega); with_reducible rfl)))) | (apply w_cond; (focus ((try simp only [simB0, ZA, Nat.reduceEqDiff, ↓reduceIte, Nat.reduceAdd, Nat.reduceLeDiff, ME]); (try with_reducible rfl); done)); all_goals (intro _hg; (try simp only [Bool.not_eq_true', Bool.not_eq_false', Bool.not_not, decide_eq_true_eq, decide_eq_false_iff_not] at _hg); try (exfalso; omega))))
    refine ⟨by omega, ?_, by simp (disch := omega) only [agr, SA, Nat.reduceEqDiff, ↓reduceIte, wrap64, Int.natCast_add, Int.natCast_one, Int.natCast_zero, and_true, and_self], rfl, rfl⟩
    rw [hk0, decide_eq_true (by omega), Bool.true_and]
    exact range_all_true fun i hi => g2 i (by omega)
  have hsp := hsk2 _ (mem_getD hp)
  have hsp2 := hsk3 _ (mem_getD hp)
  have hpd := hpd p
  have hqd := hqd p
  generalize hR : S.getD p default = R at *
  have hR' : R.length ≤ 9223372036854775807 := hsp
  repeat' (first | refine w_seq ?_ | refine w_ops0 ?_ | refine w_block ?_ | refine w_skip ?_ | refine w_ret ?_ | refine a_n ?_ | refine a_r ?_ | refine o_nil ?_ | (apply o_val rfl rfl; (focus ((try simp (disch := omega) only [simB0, ZA, Nat.reduceEqDiff, ↓reduceIte, Nat.reduceAdd, Nat.reduceLeDiff, ZV, reduceCtorEq, ME, hR]); first | with_reducible rfl | (apply s_ite; (focus omega); with_reducible rfl)))) | (apply w_cond; (focus ((try simp only [simB0, ZA, Nat.reduceEqDiff, ↓reduceIte, Nat.reduceAdd, Nat.reduceLeDiff, ME, hR]); (try with_reducible rfl); done)); all_goals (intro _hg; (try simp only [Bool.not_eq_true', Bool.not_eq_false', Bool.not_not, decide_eq_true_eq, decide_eq_false_iff_not] at _hg); try (exfalso; omega))) | (refine e_ends rfl ?_) | (apply r_1; (focus (simp only [rv, simB0, ZA, Nat.reduceEqDiff, ↓reduceIte, Nat.reduceAdd, Nat.reduceLeDiff, ME, hR]; with_reducible rfl))) | refine w_loop ?_)
  · refine snap_bool ?_
    symm
    refine range_all_false hk ?_
    rw [hk0, range_all_false hp (by rw [hpd, decide_eq_false ‹_›]; rfl), Bool.and_false]
  refine loopA (fun q => [(1, .ptr 0 8 0), (7, .int .i64 k), (9, .int .i64 p), (64, encV4 m.symbols), (65, .int .i64 m.symbols.length), (66, .int .i64 k), (76, encV3 S), (77, .int .i64 S.length), (78, .int .i64 p), (88, encVV R), (89, .int .i64 R.length), (90, .int .i64 q)]) R.length (fun q => placeB m k p q = true) (by simp (disch := omega) only [agr, SA, Nat.reduceEqDiff, ↓reduceIte, wrap64, Int.natCast_add, Int.natCast_one, Int.natCast_zero, and_true, and_self]) ?_
  rintro q f1 f2
  by_cases hq : q < R.length
  rotate_left
  · repeat' (first | refine w_seq ?_ | refine w_ops0 ?_ | refine w_exit ?_ | refine a_n ?_ | refine a_x ?_ | refine o_nil ?_ | (apply o_val rfl rfl; (focus ((try simp (disch := omega) only [simB0, ZA, Nat.reduceEqDiff, ↓reduceIte, Nat.reduceAdd, Nat.reduceLeDiff, ZV, reduceCtorEq, ME]); first | with_reducible rfl | (apply s_ite; (focus omega); with_reducible rfl)))) | (apply w_cond; (focus ((try simp only [simB0, ZA, Nat.reduceEqDiff, ↓reduceIte, Nat.reduceAdd, Nat.reduceLeDiff, ME]); (try with_reducible rfl); done)); all_goals (intro _hg; (try simp only [Bool.not_eq_true', Bool.not_eq_false', Bool.not_not, decide_eq_true_eq, decide_eq_false_iff_not] at _hg); try (exfalso; omega))))
    refine ⟨by omega, ?_, by simp (disch := omega) only [agr, SA, Nat.reduceEqDiff, ↓reduceIte, wrap64, Int.natCast_add, Int.natCast_one, Int.natCast_zero, and_true, and_self], rfl, rfl⟩
    rw [hpd, decide_eq_true (by omega), Bool.true_and]
    exact range_all_true fun i hi => f2 i (by omega)
  have hqd := hqd q
  have hsq := hsp2 _ (mem_getD hq)
  have hsq' : (R.getD q default).length ≤ 9223372036854775807 := hsq
  repeat' (first | refine w_seq ?_ | refine w_ops0 ?_ | refine w_block ?_ | refine w_skip ?_ | refine w_ret ?_ | refine a_n ?_ | refine a_r ?_ | refine o_nil ?_ | (apply o_val rfl rfl; (focus ((try simp (disch := omega) only [simB0, ZA, Nat.reduceEqDiff, ↓reduceIte, Nat.reduceAdd, Nat.reduceLeDiff, ZV, reduceCtorEq, ME]); first | with_reducible rfl | (apply s_ite; (focus omega); with_reducible rfl)))) | (apply w_cond; (focus ((try simp only [simB0, ZA, Nat.reduceEqDiff, ↓reduceIte, Nat.reduceAdd, Nat.reduceLeDiff, ME]); (try with_reducible rfl); done)); all_goals (intro _hg; (try simp only [Bool.not_eq_true', Bool.not_eq_false', Bool.not_not, decide_eq_true_eq, decide_eq_false_iff_not] at _hg); try (exfalso; omega))) | (refine e_ends rfl ?_) | (apply r_1; (focus (simp only [rv, simB0, ZA, Nat.reduceEqDiff, ↓reduceIte, Nat.reduceAdd, Nat.reduceLeDiff, ME]; with_reducible rfl))))
  all_goals first
    | (refine snap_bool ?_
       symm
       refine range_all_false hk ?_
       rw [hk0, range_all_false hp (by rw [hpd, range_all_false hq (by rw [hqd, decide_eq_false (by split <;> omega)]), Bool.and_false]), Bool.and_false])
    | (refine ⟨by omega, ?_, by simp (disch := omega) only [agr, SA, Nat.reduceEqDiff, ↓reduceIte, wrap64, Int.natCast_add, Int.natCast_one, Int.natCast_zero, and_true, and_self], rfl, rfl⟩
       rw [hqd, decide_eq_true (by split <;> omega)])

end Go.Proofs.Ytpbjhjkfobapeaa
