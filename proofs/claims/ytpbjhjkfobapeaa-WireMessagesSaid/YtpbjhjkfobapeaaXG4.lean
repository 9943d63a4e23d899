/- Texts of this claim, one after the other: AbsD2, AbsO, Code, Q1, Q2, Q3, Q4, Q5, Q6. -/
import Derived.Test.YtpbjhjkfobapeaaXG3
import Derived.ChangeArms
import Derived.Carry
import Derived.Deep.Slices
import Derived.Lib.SmallJoins
import Derived.Test.YtpbjhjkfobapeaaProg
import Derived.KernelRfl

set_option linter.unusedSimpArgs false
set_option linter.unusedVariables false

/- Numbers of other kinds, and bits. -/
namespace Go.Abs

theorem wrapU8 {a : Int} : IntKind.wrap .u8 a = a % 256 := by
  simp only [IntKind.wrap, IntKind.bits, IntKind.signed]; simp

theorem bits_nat {k : IntKind} {a : Nat} (h : a < 2 ^ k.bits) : (BitVec.ofInt k.bits (a : Int)).toNat = a := by
  rw [BitVec.toNat_ofInt]
  have : ((2 ^ k.bits : Nat) : Int) = (2 : Int) ^ k.bits := by simp
  rw [Int.emod_eq_of_lt (by omega) (by omega)]; simp

theorem and_nat {k : IntKind} {a b : Nat} {tb tf : Bool} (ha : a < 2 ^ (k.bits - 1)) (hb : b < 2 ^ (k.bits - 1)) : abin2 .and tb tf (.int k a) (.int k b) = some (.int k ((a &&& b : Nat) : Int)) := by
  have h1 : 2 ^ (k.bits - 1) ≤ 2 ^ k.bits := Nat.pow_le_pow_right (by omega) (by omega)
  have h2 : (BitVec.ofInt k.bits (a : Int) &&& BitVec.ofInt k.bits (b : Int)).toNat = a &&& b := by
    rw [BitVec.toNat_and, bits_nat (by omega), bits_nat (by omega)]
  show (if (k = k) then aarith .and k a b else none) = _
  rw [if_pos rfl]
  simp only [aarith, h2]
  have h3 : a &&& b < 2 ^ (k.bits - 1) := Nat.lt_of_le_of_lt Nat.and_le_left ha
  congr 2
  generalize a &&& b = c at h3
  cases k <;> (simp only [IntKind.bits, IntKind.wrap, IntKind.signed] at h3 ⊢; simp at h3 ⊢; omega)

theorem or_nat {k : IntKind} {a b : Nat} {tb tf : Bool} (ha : a < 2 ^ (k.bits - 1)) (hb : b < 2 ^ (k.bits - 1)) : abin2 .or tb tf (.int k a) (.int k b) = some (.int k ((a ||| b : Nat) : Int)) := by
  have h1 : 2 ^ (k.bits - 1) ≤ 2 ^ k.bits := Nat.pow_le_pow_right (by omega) (by omega)
  have h2 : (BitVec.ofInt k.bits (a : Int) ||| BitVec.ofInt k.bits (b : Int)).toNat = a ||| b := by
    rw [BitVec.toNat_or, bits_nat (by omega), bits_nat (by omega)]
  show (if (k = k) then aarith .or k a b else none) = _
  rw [if_pos rfl]
  simp only [aarith, h2]
  have h3 : a ||| b < 2 ^ (k.bits - 1) := Nat.or_lt_two_pow ha hb
  congr 2
  generalize a ||| b = c at h3
  cases k <;> (simp only [IntKind.bits, IntKind.wrap, IntKind.signed] at h3 ⊢; simp at h3 ⊢; omega)

theorem shr_nat {k : IntKind} {a b : Nat} {tb tf : Bool} {k' : IntKind} (hb : b ≤ k.bits) : abin2 .shr tb tf (.int k a) (.int k' b) = some (.int k ((a / 2 ^ b : Nat) : Int)) := by
  have h : ¬ ((b : Int) < 0) := by omega
  simp only [abin2, ashift, h, if_false, or_true, if_true, Int.toNat_natCast, Nat.min_eq_left hb]
  congr 2
  rw [Int.fdiv_eq_ediv_of_nonneg _ (Int.le_of_lt (Int.pow_pos (by omega)))]
  simp

theorem shl_nat {k : IntKind} {a b : Nat} {tb tf : Bool} {k' : IntKind} (hb : b ≤ k.bits) (h : a * 2 ^ b < 2 ^ (k.bits - 1)) : abin2 .shl tb tf (.int k a) (.int k' b) = some (.int k ((a * 2 ^ b : Nat) : Int)) := by
  have h0 : ¬ ((b : Int) < 0) := by omega
  simp only [abin2, ashift, h0, if_false, true_or, if_true, Int.toNat_natCast, Nat.min_eq_left hb]
  congr 2
  have e : (a : Int) * 2 ^ b = ((a * 2 ^ b : Nat) : Int) := by simp
  rw [e]
  generalize a * 2 ^ b = c at h
  cases k <;> (simp only [IntKind.bits, IntKind.wrap, IntKind.signed] at h ⊢; simp at h ⊢; omega)

theorem mask_nat {n k : Nat} : n &&& (2 ^ k - 1) = n % 2 ^ k := Nat.and_two_pow_sub_one_eq_mod n k

theorem rem_pos {k : IntKind} {a b : Int} {tb tf : Bool} (ha : 0 ≤ a) (hb : 0 < b) : abin2 .rem tb tf (.int k a) (.int k b) = some (.int k (a % b)) := by
  show (if (k = k) then aarith .rem k a b else none) = _
  rw [if_pos rfl]
  simp only [aarith, if_neg (show ¬ b = 0 by omega), Int.tmod_eq_emod_of_nonneg ha]
theorem quo_pos {a b : Int} {tb tf : Bool} (ha : 0 ≤ a) (h2 : a ≤ 9223372036854775807) (hb : 0 < b) : abin2 .quo tb tf (.int .i64 a) (.int .i64 b) = some (.int .i64 (a / b)) := by
  show (if (IntKind.i64 = IntKind.i64) then aarith .quo .i64 a b else none) = _
  rw [if_pos rfl]
  have h3 : 0 ≤ a / b := Int.ediv_nonneg ha (by omega)
  have h4 : a / b ≤ a := Int.ediv_le_self _ ha
  simp only [aarith, if_neg (show ¬ b = 0 by omega), Int.tdiv_eq_ediv_of_nonneg ha]
  rw [wrap64 (by omega) (by omega)]

theorem w_mixS1F {P : Program} {T : Tm} {H : Hp} {nx : Nat} {K : CP} {l : List Op2} {C : List (Nat × Nat)} (Hf H' : Hp) (L : List (Nat × AV)) (hf : Fz Hf H H') (ha : agrF Hf T L) (h : aops2 P .draw l (tl L) H' nx fun T H nx => K .normal T H nx) : awp2 P (.mixS 1 l C) T H nx K := .inl ⟨by decide, _, H', nx, Hf, hf.gh ha, h⟩

theorem o_callE {P : Program} {T : Tm} {H : Hp} {nx : Nat} {K : SP} {l : List Op2} {d : Option Nat} {f : Opd} {args : List Opd} {g : FuncId} {caps xs : List AV} {R : AV → Hp → Nat → Prop} (hf : ov T f = .func g caps) (ha : args.map (ov T) ++ caps = xs) (hc : Fn P g xs H nx R)
    (k : ∀ r H' nx', R r H' nx' → aops2 P .text l (updo T d r) H' nx' K) : aops2 P .text (⟨d, none, .call f args⟩ :: l) T H nx K := by
  subst ha
  exact o_call hf (Fn.mono hc k)

/-! ### bytes and texts -/
def encS (l : List UInt8) : AV := .str ⟨l.toArray⟩
def encBs (l : List UInt8) : AV := encL 1 encB l
theorem encS_size {l : List UInt8} : (⟨l.toArray⟩ : ByteArray).size = l.length := by simp [ByteArray.size]
theorem encS_data {l : List UInt8} : (⟨l.toArray⟩ : ByteArray).data.toList = l := rfl
theorem encS_dat (l : List UInt8) : Dat (encS l) := .str
instance datI_encS {l : List UInt8} : DatI (encS l) := ⟨encS_dat l⟩
theorem encS_cells {l : List UInt8} : (encS l).cells = [encS l] := rfl
theorem encS_one {l : List UInt8} : (encS l).one = true := rfl
theorem encBs_cells {l : List UInt8} : (encBs l).cells = [encBs l] := rfl
theorem encBs_one {l : List UInt8} : (encBs l).one = true := rfl
theorem alenStr_encS {l : List UInt8} : alenStr (encS l) = some (.int .i64 l.length) := by simp [alenStr, encS, ByteArray.size]
theorem aixS_encBs {l : List UInt8} {k : IntKind} {n : Int} : aixS 1 (encBs l) (.int k n) = if 0 ≤ n ∧ n < l.length then some (.iptr [encB (l.getD n.toNat default)] 0) else none := aixS_encL
theorem alenS_encBs {l : List UInt8} : alenS (encBs l) = some (.int .i64 l.length) := alenS_encL
theorem aixStr_encS {l : List UInt8} {k : IntKind} {n : Int} (h1 : 0 ≤ n) (h2 : n < l.length) : aixStr (encS l) (.int k n) = some (encB (l.getD n.toNat default)) := by
  have h3 : n.toNat < l.length := by omega
  simp only [aixStr, encS, encS_size, h1, h2, and_self, if_true, encB]
  have e : (⟨l.toArray⟩ : ByteArray)[n.toNat]? = some (l[n.toNat]) := by
    rw [getElem?_pos (⟨l.toArray⟩ : ByteArray) n.toNat (by simpa [ByteArray.size] using h3)]
    rfl
  rw [e]
  simp [List.getD, h3]
theorem aslstr_hi {l : List UInt8} {k : Nat} (h : k ≤ l.length) : aslstr (encS l) none (some (.int .i64 k)) = some (encS (l.take k)) := by
  simp [aslstr, encS, abound, ByteArray.size, h]
  apply ByteArray.ext
  simp [ByteArray.data_extract]
theorem aslstr_lo {l : List UInt8} {k : Nat} (h : k ≤ l.length) : aslstr (encS l) (some (.int .i64 k)) none = some (encS (l.drop k)) := by
  simp [aslstr, encS, abound, ByteArray.size, h]
  apply ByteArray.ext
  simp [ByteArray.data_extract]
  exact List.take_of_length_le (by simp)
theorem asrc_bytes {H : Hp} {b n : Nat} {l : List UInt8} (hb : H b = some (l.map encB)) (hn : n = l.length) : asrc 1 H (.msl b n 1 0 n) = some (n, l.map encB) := by
  subst hn
  rw [asrc_msl hb (by simp) (by omega)]
  congr 2
  rw [List.drop_zero, List.take_of_length_le (by simp)]
theorem ones_bytes {l : List UInt8} : AV.ones (l.map encB) = true := ones_map (fun _ => rfl)
theorem byte_lt (b : UInt8) : (b.toNat : Int) < 256 := by
  have := UInt8.toNat_lt b
  omega

end Go.Abs

/- Arguments: from the reading of a statement to abstract values. -/
namespace Go.Abs
open Go Go.RowKit

def oldB (W : World) : Nat → Prop := fun b => b < W.heap.size

theorem oldB_cell {W : World} {a : Addr} {v : Value} (h : W.cell? a = some v) : oldB W a.block ∧ a.spot = none := by
  unfold World.cell? at h
  unfold oldB
  cases hb : W.heap[a.block]? with
  | none => simp [hb] at h
  | some o =>
    refine ⟨(Array.getElem?_eq_some_iff.1 hb).1, ?_⟩
    cases hs : a.spot with
    | none => rfl
    | some s => cases o <;> simp [hb, hs] at h

section
variable {H : Type} {enc : TypeId × Value → H} {P : Program} {W : World}

def Opens (enc : TypeId × Value → H) (P : Program) (W : World) (t : TypeId) {α : Type} (f : α → AV) (good : α → Prop) : Prop :=
  ∀ (n : Nat) (cs : List Value) (x : DataW H × List MemPlace), DataW.trod enc P W 0 (fun _ => true) true n t cs = some x → (∀ k ∈ x.1.weights P t, k ≤ reachBytes) → ∃ a : α, good a ∧ RelL (E0 (oldB W)) W (f a).cells cs

theorem Opens.mono {t : TypeId} {α : Type} {f : α → AV} {good good' : α → Prop} (h : Opens enc P W t f good) (hg : ∀ a, good a → good' a) : Opens enc P W t f good' :=
  fun n cs x hx hw => let ⟨a, h1, h2⟩ := h n cs x hx hw; ⟨a, hg a h1, h2⟩
theorem relL_one {E : Env} {w : World} {x : AV} {y : Value} (h : Rel E w x y) : RelL E w [x] [y] := ⟨rfl, fun i a b ha hb => by
  cases i with
  | zero => simp at ha hb; subst ha hb; exact h
  | succ i => simp at ha⟩
theorem RelL.app {E : Env} {w : World} {xs xs' : List AV} {ys ys' : List Value} (h : RelL E w xs ys) (h' : RelL E w xs' ys') : RelL E w (xs ++ xs') (ys ++ ys') := by
  have hl : xs.length = ys.length := h.1.symm
  refine ⟨by simp [h.1, h'.1], fun i a b ha hb => ?_⟩
  by_cases hi : i < xs.length
  · rw [List.getElem?_append_left hi] at ha
    rw [List.getElem?_append_left (by omega)] at hb
    exact h.2 i a b ha hb
  · rw [List.getElem?_append_right (by omega)] at ha
    rw [List.getElem?_append_right (by omega)] at hb
    rw [hl] at ha
    exact h'.2 _ a b ha hb

theorem opens_int {t : TypeId} {k : IntKind} (ht : P.underlying t = some (.int k)) : Opens enc P W t (AV.int k) (fun n => (Lit.int k n).wf = true) := fun n cs x hx _ => by
  obtain ⟨a, rfl, rfl, hw⟩ := DataW.trod_int ht hx
  exact ⟨a, hw, relL_one (.int _ _)⟩
theorem weightsAll_mem {e : TypeId} {l : List (DataW H)} {d : DataW H} (h : d ∈ l) {k : Nat} (hk : k ∈ d.weights P e) : k ∈ DataW.weightsAll P e l := by
  induction l with
  | nil => cases h
  | cons a l ih =>
    unfold DataW.weightsAll
    rcases List.mem_cons.1 h with rfl | h
    · exact List.mem_append_left _ hk
    · exact List.mem_append_right _ (ih h)

theorem choose_list {α : Type} {len : Nat} {Q : Nat → α → Prop} (h : ∀ i, i < len → ∃ a, Q i a) : ∃ l : List α, l.length = len ∧ ∀ i a, l[i]? = some a → Q i a := by
  induction len with
  | zero => exact ⟨[], rfl, fun i a h => by simp at h⟩
  | succ n ih =>
    obtain ⟨l, h1, h2⟩ := ih (fun i hi => h i (by omega))
    obtain ⟨a, ha⟩ := h n (by omega)
    refine ⟨l ++ [a], by simp [h1], fun i b hb => ?_⟩
    by_cases hi : i < l.length
    · rw [List.getElem?_append_left hi] at hb; exact h2 i b hb
    · rw [List.getElem?_append_right (by omega)] at hb
      have : i - l.length = 0 := by
        by_cases h0 : i - l.length = 0
        · exact h0
        · rw [List.getElem?_eq_none (by simp; omega)] at hb; cases hb
      rw [this] at hb; simp at hb; subst hb
      have : i = n := by omega
      subst this; exact ha

theorem opens_slice {t e : TypeId} {sz by_ : Nat} {α : Type} {f : α → AV} {good : α → Prop} (ht : P.underlying t = some (.slice e)) (hsz : P.cellsOf e = sz) (hby : P.bytesOf e = by_) (hpos : 0 < sz) (hc : ∀ a, (f a).cells.length = sz)
    (he : Opens enc P W e f good) : Opens enc P W t (encL sz f) (fun l => (∀ a ∈ l, good a) ∧ l.length ≤ 9223372036854775807 ∧ l.length * by_ ≤ 140737488351232) := fun n cs x hx hw => by
  rcases Go.Deep.open_slice ht hx with ⟨rfl, rfl⟩ | ⟨a, len, cap, m, n', D, Pl, rfl, hb, hlc, hcm, hm, hxe, hel⟩
  · exact ⟨[], ⟨fun _ h => (by cases h), by simp, by simp⟩, relL_one (.slnil _)⟩
  simp only [if_true] at hm
  subst hxe
  subst hm
  have hw' : ∀ k ∈ ((DataW.slice (H := H) ((List.range len).map D) ((List.range (m - len)).map fun j => D (len + j))).weights P t), k ≤ reachBytes := hw
  simp only [DataW.weights, ht] at hw'
  have hlen : (((List.range len).map D).length + ((List.range (m - len)).map fun j => D (len + j)).length) * P.bytesOf e ≤ reachBytes := hw' _ (List.mem_cons_self ..)
  have hbd : len * by_ ≤ 140737488351232 := by
    rw [hby] at hlen
    simp only [List.length_map, List.length_range] at hlen
    have h1 : len * by_ ≤ (len + (m - len)) * by_ := Nat.mul_le_mul_right _ (by omega)
    have h2 : reachBytes = 140737488351232 := rfl
    omega
  have hlm : len ≤ 9223372036854775807 := Nat.le_trans hlc hcm
  have key : ∀ i, i < len → ∃ a' : α, good a' ∧ ∃ cs', W.cells? 0 (a.add (i * sz)) sz = some cs' ∧ RelL (E0 (oldB W)) W (f a').cells cs' := fun i hi => by
    obtain ⟨cs', h1, h2⟩ := hel i (by omega)
    rw [hsz] at h1
    obtain ⟨a', g1, g2⟩ := he n' cs' _ h2 (fun k hk => hw' k (List.mem_cons_of_mem _ (List.mem_append_left _ (weightsAll_mem (List.mem_map.2 ⟨i, List.mem_range.2 hi, rfl⟩) hk))))
    exact ⟨a', g1, cs', h1, g2⟩
  obtain ⟨l, hl, hq⟩ := choose_list key
  refine ⟨l, ⟨fun x hx => ?_, by omega, by rw [hl]; exact hbd⟩, relL_one ?_⟩
  · obtain ⟨i, hi⟩ := List.getElem?_of_mem hx
    exact (hq i x hi).1
  by_cases h0 : len = 0
  · subst h0
    have : l = [] := List.length_eq_zero_iff.1 hl
    subst this
    exact .slempty _ _ _
  -- cells
  have hcell : ∀ i j, i < len → j < sz → ∃ v, W.cell? ((a.add (i * sz)).add j) = some v := fun i j hi hj => by
    obtain ⟨a', _, cs', h1, h2⟩ := key i hi
    unfold World.cells? at h1
    rw [if_pos (Nat.zero_le _)] at h1
    have h3 := mapM_some_get h1 j j (by simp [hj])
    have h4 : j < cs'.length := by
      have := mapM_some_length h1
      simp at this; omega
    exact ⟨cs'[j], by rw [h3]; simp [h4]⟩
  obtain ⟨v0, hv0⟩ := hcell 0 0 (by omega) hpos
  have ho := oldB_cell hv0
  simp only [Nat.zero_mul, Addr.add, if_true] at ho
  obtain ⟨blk, off, sp⟩ := a
  obtain ⟨ho, hsp⟩ := ho
  simp only at hsp ho
  subst hsp
  have hadd : ∀ i j, ((⟨blk, off, none⟩ : Addr).add (i * sz)).add j = ⟨blk, off + (i * sz + j), none⟩ := fun i j => by
    rw [addr_add, addr_add, Nat.add_assoc]
  have hcell' : ∀ k, k < len * sz → ∃ v, W.cell? ⟨blk, off + k, none⟩ = some v := fun k hk => by
    have h1 : k / sz < len := Nat.div_lt_of_lt_mul (by rw [Nat.mul_comm]; exact hk)
    have h2 : k % sz < sz := Nat.mod_lt _ hpos
    obtain ⟨v, hv⟩ := hcell (k / sz) (k % sz) h1 h2
    rw [hadd, Nat.div_add_mod'] at hv
    exact ⟨v, hv⟩
  have hlen2 : (l.map f).length = len := by simp [hl]
  have := Rel.sl (E := E0 (oldB W)) (w := W) sz (l.map f) blk off m (fun k => (W.cell? ⟨blk, off + k, none⟩).getD Go.undef) ho (by rw [hlen2]; exact hlc)
    (fun x hx => by obtain ⟨b, _, rfl⟩ := List.mem_map.1 hx; exact hc b)
    (fun k hk => by
      rw [hlen2] at hk
      obtain ⟨v, hv⟩ := hcell' k hk
      simp only [hv, Option.getD_some])
    (fun i j x y hx hy => by
      rw [List.getElem?_map, Option.map_eq_some_iff] at hx
      obtain ⟨a', ha', rfl⟩ := hx
      obtain ⟨_, cs', h1, h2⟩ := hq i a' ha'
      have hj : j < sz := by
        have := (List.getElem?_eq_some_iff.1 hy).1
        rwa [hc] at this
      have hi : i < len := by
        have := (List.getElem?_eq_some_iff.1 ha').1
        omega
      unfold World.cells? at h1
      rw [if_pos (Nat.zero_le _)] at h1
      have h3 := mapM_some_get h1 j j (by simp [hj])
      have h4 : j < cs'.length := by
        have := mapM_some_length h1
        simp at this; omega
      rw [hadd] at h3
      have h5 : cs'[j]? = some cs'[j] := by simp [h4]
      rw [h5] at h3
      simp only [h3, Option.getD_some]
      exact h2.2 j y _ hy h5)
  rw [hlen2] at this
  exact this

def OpensF (enc : TypeId × Value → H) (P : Program) (W : World) (fs : List Field) (off : Nat) {α : Type} (g : α → List AV) (good : α → Prop) : Prop :=
  ∀ (n tot : Nat) (cs : List Value) (ys : List (DataW H × List MemPlace)), ys.length = fs.length → (∀ (i : Nat) (f : Field), fs[i]? = some f → DataW.trod enc P W 0 (fun _ => true) true n f.type ((cs.drop f.offset).take (P.cellsOf f.type)) = ys[i]?) →
    (∀ k ∈ DataW.weightsEach P (fs.map fun f : Field => f.type) (ys.map (·.1)), k ≤ reachBytes) → cs.length = tot → tot = off + (fs.map fun f : Field => P.cellsOf f.type).sum → ∃ a : α, good a ∧ RelL (E0 (oldB W)) W (g a) (cs.drop off)

theorem opensF_nil {off : Nat} : OpensF enc P W [] off (fun _ : Unit => []) (fun _ => True) := fun n tot cs ys _ _ _ h1 h2 => by
  refine ⟨(), trivial, ?_⟩
  rw [List.drop_eq_nil_of_le (by simp at h2; omega)]
  exact ⟨rfl, fun i a b h => by simp at h⟩
theorem opensF_cons {fd : Field} {fs : List Field} {off off' : Nat} {α β : Type} {f : α → AV} {g : β → List AV} {good : α → Prop} {good' : β → Prop} (ho : fd.offset = off) (ho' : off + P.cellsOf fd.type = off')
    (h : Opens enc P W fd.type f good) (h' : OpensF enc P W fs off' g good') : OpensF enc P W (fd :: fs) off (fun a : α × β => (f a.1).cells ++ g a.2) (fun a => good a.1 ∧ good' a.2) := fun n tot cs ys hl hy hw h1 h2 => by
  obtain ⟨y, ys, rfl⟩ : ∃ y ys', ys = y :: ys' := by
    cases ys with
    | nil => simp at hl
    | cons y ys => exact ⟨y, ys, rfl⟩
  have hy0 := hy 0 fd rfl
  simp only [List.getElem?_cons_zero] at hy0
  rw [ho] at hy0
  simp only [List.map_cons, DataW.weightsEach] at hw
  obtain ⟨a, g1, g2⟩ := h n _ y hy0 (fun k hk => hw k (List.mem_append_left _ hk))
  simp only [List.map_cons, List.sum_cons] at h2
  obtain ⟨b, g3, g4⟩ := h' n tot cs ys (by simpa using hl) (fun i f hf => by
    have := hy (i + 1) f (by simpa using hf)
    simpa using this) (fun k hk => hw k (List.mem_append_right _ hk)) h1 (by omega)
  refine ⟨(a, b), ⟨g1, g3⟩, ?_⟩
  have e : cs.drop off = (cs.drop off).take (P.cellsOf fd.type) ++ cs.drop off' := by
    rw [← ho', ← List.drop_drop, List.take_append_drop]
  rw [e]
  exact RelL.app g2 g4
theorem opens_struct {t : TypeId} {fs : Array Field} {α : Type} {g : α → List AV} {good : α → Prop} (ht : P.underlying t = some (.struct fs)) (hsum : P.cellsOf t = (fs.toList.map fun f : Field => P.cellsOf f.type).sum)
    (h : OpensF enc P W fs.toList 0 g good) : Opens enc P W t (fun a => .agg (g a)) good := fun n cs x hx hw => by
  obtain ⟨ys, n', rfl, rfl, hl, hs, hy⟩ := DataW.trod_struct ht hx
  obtain ⟨a, g1, g2⟩ := h n' _ cs ys (by rw [hs]; simp) (fun i f hf => hy i f (by simpa using hf)) (fun k hk => hw k (by
    simp only [DataW.weights, ht]; exact hk)) hl (by rw [Nat.zero_add, hsum])
  exact ⟨a, g1, by rw [List.drop_zero] at g2; exact g2⟩

theorem opens_arr {t e : TypeId} {sz m : Nat} {α : Type} {f : α → AV} {good : α → Prop} (ht : P.underlying t = some (.array m e)) (hsz : P.cellsOf e = sz) (htot : P.cellsOf t = m * sz)
    (he : Opens enc P W e f good) : Opens enc P W t (fun l : List α => .agg (l.flatMap fun a => (f a).cells)) (fun l => l.length = m ∧ ∀ a ∈ l, good a) := fun n cs x hx hw => by
  cases n with
  | zero => simp [DataW.trod] at hx
  | succ n =>
    unfold DataW.trod at hx
    rw [ht] at hx
    have hx : (if cs.length = P.cellsOf t then ((List.range m).mapM fun i => DataW.trod enc P W 0 (fun _ => true) true n e ((cs.drop (i * P.cellsOf e)).take (P.cellsOf e))).map fun xs => (DataW.agg (xs.map (·.1)), xs.flatMap (·.2)) else none) = some x := by
      cases cs <;> exact hx
    split at hx
    case isFalse => cases hx
    case isTrue hl =>
    rw [Option.map_eq_some_iff] at hx
    obtain ⟨ys, hy, rfl⟩ := hx
    rw [hsz] at hy
    have hyl := mapM_some_length hy
    simp at hyl
    have hget : ∀ i, i < m → ∃ y, ys[i]? = some y ∧ DataW.trod enc P W 0 (fun _ => true) true n e ((cs.drop (i * sz)).take sz) = some y := fun i hi => by
      have h1 : i < ys.length := by omega
      exact ⟨ys[i], by simp [h1], by rw [mapM_some_get hy i i (by simp [hi])]; simp [h1]⟩
    have key : ∀ i, i < m → ∃ a, good a ∧ RelL (E0 (oldB W)) W (f a).cells ((cs.drop (i * sz)).take sz) := fun i hi => by
      obtain ⟨y, h1, h2⟩ := hget i hi
      exact he n _ y h2 (fun k hk => hw k (by
        simp only [DataW.weights, ht]
        exact weightsAll_mem (List.mem_map.2 ⟨y, List.mem_of_getElem? h1, rfl⟩) hk))
    obtain ⟨l, h1, h2⟩ := choose_list key
    refine ⟨l, ⟨h1, fun a ha => ?_⟩, ?_⟩
    · obtain ⟨i, hi⟩ := List.getElem?_of_mem ha; exact (h2 i a hi).1
    rw [htot] at hl
    have gen : ∀ (l : List α) (k : Nat), k + l.length = m → (∀ i a, l[i]? = some a → RelL (E0 (oldB W)) W (f a).cells ((cs.drop ((k + i) * sz)).take sz)) → RelL (E0 (oldB W)) W (l.flatMap fun a => (f a).cells) (cs.drop (k * sz)) := by
      intro l
      induction l with
      | nil =>
        intro k hk _
        rw [List.drop_eq_nil_of_le (by simp at hk; subst hk; omega)]
        exact ⟨rfl, fun i a b h => by simp at h⟩
      | cons a l ih =>
        intro k hk hq
        have e : cs.drop (k * sz) = (cs.drop (k * sz)).take sz ++ cs.drop ((k + 1) * sz) := by
          rw [Nat.add_mul, Nat.one_mul, ← List.drop_drop, List.take_append_drop]
        rw [e, List.flatMap_cons]
        refine RelL.app (hq 0 a rfl) (ih (k + 1) (by simp at hk; omega) (fun i b hb => ?_))
        have := hq (i + 1) b (by simpa using hb)
        rwa [show k + (i + 1) = k + 1 + i by omega] at this
    have := gen l 0 (by omega) (fun i a ha => by rw [Nat.zero_add]; exact (h2 i a ha).2)
    rwa [Nat.zero_mul, List.drop_zero] at this

theorem Opens.map {t : TypeId} {α β : Type} {f : α → AV} {good : α → Prop} {f' : β → AV} {good' : β → Prop} (h : Opens enc P W t f good) (φ : α → β) (hg : ∀ a, good a → good' (φ a)) (hf : ∀ a, good a → (f' (φ a)).cells = (f a).cells) : Opens enc P W t f' good' := fun n cs x hx hw => by
  obtain ⟨a, h1, h2⟩ := h n cs x hx hw
  exact ⟨φ a, hg a h1, by rw [hf a h1]; exact h2⟩
theorem Opens.at {t u : TypeId} {α : Type} {f : α → AV} {good : α → Prop} (e : t = u) (h : Opens enc P W u f good) : Opens enc P W t f good := e ▸ h

theorem Opens.argA {t : TypeId} {α : Type} {f : α → AV} {good : α → Prop} (h : Opens enc P W t f good) {r : Reach} {base : Nat} {v : Value} {d : DataW H} {ps : List MemPlace} (ht : tagg P t = true) (hf : ∀ a, ∃ cs, f a = .agg cs)
    (hval : Value.okWide P W r base t v) (hd : DataW.Trod enc P W 0 (fun _ => true) true t v d ps) (hw : ∀ k ∈ d.weights P t, k ≤ reachBytes) : ∃ a, good a ∧ Rel (E0 (oldB W)) W (f a) v := by
  obtain ⟨n, hn⟩ := hd
  obtain ⟨a, h1, h2⟩ := h n _ _ hn hw
  refine ⟨a, h1, ?_⟩
  obtain ⟨cs, hcs, _⟩ : ∃ cs, v = .agg cs ∧ True := by
    unfold Value.okWide at hval
    unfold tagg at ht
    split at hval
    · obtain ⟨cs, h, _⟩ := hval; exact ⟨cs, h, trivial⟩
    · obtain ⟨cs, h, _⟩ := hval; exact ⟨cs, h, trivial⟩
    · rename_i k1 k2
      revert ht
      cases hu : P.underlying t with
      | none => simp
      | some u =>
        cases u with
        | struct fs => exact absurd hu (k1 fs)
        | array m e => exact absurd hu (k2 m e)
        | _ => simp
  subst hcs
  obtain ⟨xs, hx⟩ := hf a
  rw [hx] at h2 ⊢
  exact .agg xs cs.toList h2.1 h2.2
theorem trodAll_stays (hl : laidOutB P = true) {W' : World} (hb : Below W.heap.size W W') {sp : Nat → Bool} : ∀ {ts : List TypeId} {vs : List Value} {ds : List (DataW H)} {ps : List MemPlace}, (∀ t ∈ ts, P.readableRec t = true ∧ t < P.types.size) →
    DataW.TrodAll enc P W 0 (fun _ => true) true ts vs ds ps → (∀ p ∈ ps, p.block < W.heap.size) → (∀ p ∈ ps, sp p.block = true) → DataW.TrodAll enc P W' 0 sp true ts vs ds ps
  | [], [], [], ps, _, h, _, _ => h
  | t :: ts, v :: vs, d :: ds, ps, hr, ⟨p, q, h1, h2, e⟩, hlt, hsp => by
    subst e
    exact ⟨p, q, WideElems.Trod_stays hl (hr t (List.mem_cons_self ..)).1 (hr t (List.mem_cons_self ..)).2 h1 (fun x hx => hb.same (hlt x (List.mem_append_left _ hx))) (fun x hx => hsp x (List.mem_append_left _ hx)),
      trodAll_stays hl hb (fun t ht => hr t (List.mem_cons_of_mem _ ht)) h2 (fun x hx => hlt x (List.mem_append_right _ hx)) (fun x hx => hsp x (List.mem_append_right _ hx)), rfl⟩
  | [], _ :: _, _, _, _, h, _, _ => h.elim
  | [], [], _ :: _, _, _, h, _, _ => h.elim
  | _ :: _, [], _, _, _, h, _, _ => h.elim
  | _ :: _, _ :: _, [], _, _, h, _, _ => h.elim
theorem weightsEach_at : ∀ {ts : List TypeId} {ds : List (DataW H)} {i : Nat} {t : TypeId} {d : DataW H}, ts[i]? = some t → ds[i]? = some d → ∀ k ∈ d.weights P t, k ∈ DataW.weightsEach P ts ds
  | t :: ts, d :: ds, 0, _, _, h1, h2, k, hk => by
    simp at h1 h2; subst h1 h2
    unfold DataW.weightsEach
    exact List.mem_append_left _ hk
  | t :: ts, d :: ds, i + 1, _, _, h1, h2, k, hk => by
    unfold DataW.weightsEach
    exact List.mem_append_right _ (weightsEach_at (ts := ts) (ds := ds) (by simpa using h1) (by simpa using h2) k hk)
  | [], _, i, _, _, h1, _, _, _ => by simp at h1
  | _ :: _, [], i, _, _, _, h2, _, _ => by simp at h2
end
end Go.Abs

/- Printed by a program: the functions' code without types. -/
namespace Go.Proofs.Ytpbjhjkfobapeaa
open Go Go.Abs Go.Abs.C2 Go.Abs.Ins Go.Abs.Opd Go.Abs.TK Go.Abs.MK

def O (d : Nat) (i : Ins) : Op2 := Op2.mk (some d) none i
def G (d g : Nat) (b : Bool) (i : Ins) : Op2 := Op2.mk (some d) (some (g, b)) i
def N (k : Int) : Opd := Opd.c (AV.int IntKind.i64 k)
def M (n : Nat) : Ins := Ins.mov (Opd.t n)
def D (n : Nat) : Ins := Ins.ld1 (Opd.t n)
def F (n : Nat) : Opd := Opd.c (AV.func n [])
def B2 (o : BinOp) (x y : Opd) : Ins := Ins.bin o false false x y
def cFal : Opd := Opd.c (AV.bool false)
def cTru : Opd := Opd.c (AV.bool true)
theorem follows : Try.prog.follows .mixedOrders = true := by rfl

def b3 : F2 := (F2.mk 131 [RV.t 6] ((ops 0 [O 3 (box (t 0)), O 4 (box (t 1)), O 6 (mov cFal)]).seq (((ops 0 [O 19 (ldn 8 (t 3)), O 20 (call (F 11) [t 19]), O 21 (un UnOp.not (t 20)), O 22 (M 21), G 23 22 false (M 2), G 24 22 false (lenStr (t 23)), G 25 22 false (B2 .gtr (t 24) (N ((200)))), O 26 (pick (t 22) cTru (t 25))]).seq (C2.cond (t 26) ((ops 0 [O 27 (call (F 12) []), O 6 (M 27)]).seq ret) skip)).seq ((ops 0 [O 29 (ldn 8 (t 3)), O 30 (fa 0 (t 4)), O 31 (D 30), O 32 (fa 1 (t 4)), O 33 (D 32), O 34 (fa 2 (t 4)), O 35 (D 34), O 36 (fa 3 (t 4)), O 37 (D 36), O 38 (call (F 13) [t 29, t 31, t 33, t 35, t 37]), O 28 (M 38), O 39 (ext (t 28) 0), O 40 (ext (t 28) 1), O 7 (M 39), O 8 (M 40)]).seq ((ops 0 [O 42 (ldn 8 (t 3)), O 43 (fa 0 (t 4)), O 44 (D 43), O 45 (fa 1 (t 4)), O 46 (D 45), O 47 (fa 2 (t 4)), O 48 (D 47), O 49 (fa 3 (t 4)), O 50 (D 49), O 51 (call (F 14) [t 42, t 44, t 46, t 48, t 50]), O 41 (M 51), O 52 (ext (t 41) 0), O 53 (ext (t 41) 1), O 9 (M 52), O 10 (M 53)]).seq ((ops 0 [O 55 (ldn 8 (t 3)), O 56 (fa 0 (t 4)), O 57 (D 56), O 58 (fa 1 (t 4)), O 59 (D 58), O 60 (fa 2 (t 4)), O 61 (D 60), O 62 (call (F 15) [t 55, t 57, t 59, t 61]), O 54 (M 62), O 63 (ext (t 54) 0), O 64 (ext (t 54) 1), O 11 (M 63), O 12 (M 64)]).seq ((ops 0 [O 66 (ldn 8 (t 3)), O 67 (fa 0 (t 4)), O 68 (D 67), O 69 (fa 1 (t 4)), O 70 (D 69), O 71 (fa 2 (t 4)), O 72 (D 71), O 73 (call (F 16) [t 66, t 68, t 70, t 72]), O 65 (M 73), O 74 (ext (t 65) 0), O 75 (ext (t 65) 1), O 13 (M 74), O 14 (M 75)]).seq ((ops 0 [O 77 (ldn 8 (t 3)), O 78 (fa 0 (t 4)), O 79 (D 78), O 80 (fa 1 (t 4)), O 81 (D 80), O 82 (fa 2 (t 4)), O 83 (D 82), O 84 (M 2), O 85 (call (F 17) [t 77, t 79, t 81, t 83, t 84]), O 76 (M 85), O 86 (ext (t 76) 0), O 87 (ext (t 76) 1), O 15 (M 86), O 16 (M 87)]).seq ((ops 0 [O 89 (ldn 8 (t 3)), O 90 (fa 0 (t 4)), O 91 (D 90), O 92 (fa 1 (t 4)), O 93 (D 92), O 94 (fa 2 (t 4)), O 95 (D 94), O 96 (M 2), O 97 (call (F 18) [t 89, t 91, t 93, t 95, t 96]), O 88 (M 97), O 98 (ext (t 88) 0), O 99 (ext (t 88) 1), O 17 (M 98), O 18 (M 99)]).seq ((ops 0 [O 100 (call (F 12) []), O 101 (M 100), G 102 101 true (M 7), G 103 101 true (M 9), G 104 101 true (B2 .eql (t 102) (t 103)), O 105 (pick (t 101) (t 104) cFal), O 106 (M 105), G 107 106 true (M 8), G 108 106 true (M 10), G 109 106 true (B2 .eql (t 107) (t 108)), O 110 (pick (t 106) (t 109) cFal), O 111 (M 110), G 112 111 true (M 11), G 113 111 true (M 13), G 114 111 true (B2 .eql (t 112) (t 113)), O 115 (pick (t 111) (t 114) cFal), O 116 (M 115), G 117 116 true (M 12), G 118 116 true (M 14), G 119 116 true (B2 .eql (t 117) (t 118)), O 120 (pick (t 116) (t 119) cFal), O 121 (M 120), G 122 121 true (M 15), G 123 121 true (M 17), G 124 121 true (B2 .eql (t 122) (t 123)), O 125 (pick (t 121) (t 124) cFal), O 126 (M 125), G 127 126 true (M 16), G 128 126 true (M 18), G 129 126 true (B2 .eql (t 127) (t 128)), O 130 (pick (t 126) (t 129) cFal), O 6 (M 130)]).seq ret))))))))))
theorem is3 : Is Try.prog 3 b3 := Is.mk' Try.func3 (by kernel_rfl)

def b5 : F2 := (F2.mk 37 [RV.t 2] ((ops 0 [O 2 (mov cFal)]).seq (((ops 0 [O 5 (M 0), O 6 (lenStr (t 5)), O 7 (B2 .gtr (t 6) (N ((5000))))]).seq (C2.cond (t 7) ((ops 0 [O 8 (call (F 12) []), O 2 (M 8)]).seq ret) skip)).seq ((ops 0 [O 9 (M 0), O 10 (lenStr (t 9)), O 11 (conv IntKind.u64 (t 10)), O 3 (M 11)]).seq (((ops 0 [O 12 (M 0), O 13 (lenStr (t 12)), O 14 (mov (N ((0))))]).seq (block 0 ((ops 0 [O 15 (B2 .lss (t 14) (t 13))]).seq ((C2.cond (t 15) skip (exit 0)).seq ((block 1 ((ops 0 [O 16 (M 14), O 4 (M 16)]).seq (ops 0 [O 17 (M 3), O 18 (M 4), O 19 (B2 .add (t 18) (N ((1)))), O 20 (conv IntKind.u64 (t 19)), O 21 (M 0), O 22 (M 4), O 23 (ixStr (t 21) (t 22)), O 24 (conv IntKind.u64 (t 23)), O 25 (B2 .mul (t 20) (t 24)), O 26 (B2 .add (t 17) (t 25)), O 3 (M 26)]))).seq (ops 0 [O 27 (B2 .add (t 14) (N ((1)))), O 14 (M 27)])))).loop)).seq ((ops 0 [O 28 (M 0), O 29 (call (F 24) [t 28]), O 30 (conv IntKind.u64 (t 29)), O 31 (M 3), O 32 (B2 .rem (t 31) (c (AV.int IntKind.u64 (65521)))), O 33 (B2 .eql (t 30) (t 32)), O 34 (M 33), G 35 34 true (call (F 12) []), O 36 (pick (t 34) (t 35) cFal), O 2 (M 36)]).seq ret))))))
def b6 : F2 := (F2.mk 80 [RV.t 6] ((ops 0 [O 6 (mov cFal)]).seq (((ops 0 [O 9 (M 0), O 10 (lenStr (t 9)), O 11 (B2 .gtr (t 10) (N ((5000)))), O 12 (M 11), G 13 12 false (M 0), G 14 12 false (lenStr (t 13)), G 15 12 false (B2 .eql (t 14) (N ((0)))), O 16 (pick (t 12) cTru (t 15))]).seq (C2.cond (t 16) ((ops 0 [O 17 (call (F 12) []), O 6 (M 17)]).seq ret) skip)).seq ((ops 0 [O 18 (M 1), O 19 (conv IntKind.i64 (t 18)), O 20 (M 0), O 21 (lenStr (t 20)), O 22 (B2 .rem (t 19) (t 21)), O 7 (M 22)]).seq ((ops 0 [O 23 (M 0), O 24 (s2b (t 23)), O 8 (M 24)]).seq ((ops 0 [O 25 (M 8), O 26 (M 7), O 27 (ixaS 1 (t 25) (t 26)), O 28 (D 27), O 29 (M 2), O 30 (B2 .xor (t 28) (t 29)), O 31 (ixaS 1 (t 25) (t 26)), Op2.mk none none (Ins.st 1 (t 31) (t 30))]).seq (((ops 0 [O 32 (M 8), O 33 (b2s (t 32)), O 34 (call (F 24) [t 33]), O 35 (M 0), O 36 (call (F 24) [t 35]), O 37 (B2 .eql (t 34) (t 36)), O 38 (M 2), O 39 (B2 .eql (t 38) (c (AV.int IntKind.u8 (0)))), O 40 (bin BinOp.neq true false (t 37) (t 39))]).seq (C2.cond (t 40) ((ops 0 [O 6 (mov cFal)]).seq ret) skip)).seq (((ops 0 [O 41 (M 7), O 42 (B2 .eql (t 41) (N ((0))))]).seq (C2.cond (t 42) ((ops 0 [O 43 (call (F 12) []), O 6 (M 43)]).seq ret) skip)).seq ((ops 0 [O 44 (M 0), O 45 (s2b (t 44)), O 8 (M 45)]).seq ((ops 1 [O 46 (M 8), O 47 (M 7), O 48 (B2 .sub (t 47) (N ((1)))), O 49 (M 8), O 50 (M 7), O 51 (M 8), O 52 (M 7), O 53 (ixaS 1 (t 51) (t 52)), O 54 (D 53), O 55 (M 8), O 56 (M 7), O 57 (B2 .sub (t 56) (N ((1)))), O 58 (ixaS 1 (t 55) (t 57)), O 59 (D 58), O 60 (ixaS 1 (t 46) (t 48)), Op2.mk none none (Ins.st 1 (t 60) (t 54)), O 61 (ixaS 1 (t 49) (t 50)), Op2.mk none none (Ins.st 1 (t 61) (t 59))]).seq ((mix 9 [O 62 (M 8), O 63 (b2s (t 62)), O 64 (call (F 24) [t 63]), O 65 (M 0), O 66 (call (F 24) [t 65]), O 67 (B2 .eql (t 64) (t 66)), O 68 (M 0), O 69 (M 7), O 70 (B2 .sub (t 69) (N ((1)))), O 71 (ixStr (t 68) (t 70)), O 72 (M 0), O 73 (M 7), O 74 (ixStr (t 72) (t 73)), O 75 (B2 .eql (t 71) (t 74)), O 76 (bin BinOp.eql true false (t 67) (t 75)), O 77 (M 76), G 78 77 true (call (F 12) []), O 79 (pick (t 77) (t 78) cFal), O 6 (M 79)] [0, 3, 6, 7, 8, 9, 10, 11, 12, 13, 1, 2, 4, 5, 14, 15, 16, 17, 18]).seq ret)))))))))))
def b7 : F2 := (F2.mk 156 [RV.t 4] ((ops 0 [O 2 (box (t 0)), O 3 (box (t 1)), O 4 (mov cFal)]).seq (((ops 0 [O 16 (ldn 8 (t 2)), O 17 (ldn 4 (t 3)), O 18 (call (F 25) [t 16, t 17]), O 19 (un UnOp.not (t 18))]).seq (C2.cond (t 19) ((ops 0 [O 20 (call (F 12) []), O 4 (M 20)]).seq ret) skip)).seq ((ops 1 [O 21 (fa 5 (t 2)), O 22 (D 21), O 23 (fa 0 (t 3)), O 24 (D 23), O 25 (ixaS 1 (t 22) (t 24)), O 26 (D 25), O 27 (fa 1 (t 3)), O 28 (D 27), O 29 (ixaS 1 (t 26) (t 28)), O 30 (D 29), O 31 (fa 2 (t 3)), O 32 (D 31), O 33 (ixaS 1 (t 30) (t 32)), O 34 (D 33), O 35 (fa 3 (t 3)), O 36 (D 35), O 37 (ixaS 1 (t 34) (t 36)), O 38 (D 37), O 5 (M 38)]).seq ((ops 0 [O 40 (ldn 8 (t 2)), O 41 (fa 0 (t 3)), O 42 (D 41), O 43 (fa 1 (t 3)), O 44 (D 43), O 45 (fa 2 (t 3)), O 46 (D 45), O 47 (fa 3 (t 3)), O 48 (D 47), O 49 (call (F 13) [t 40, t 42, t 44, t 46, t 48]), O 39 (M 49), O 50 (ext (t 39) 0), O 51 (ext (t 39) 1), O 6 (M 50), O 7 (M 51)]).seq ((ops 0 [O 53 (ldn 8 (t 2)), O 54 (fa 0 (t 3)), O 55 (D 54), O 56 (fa 1 (t 3)), O 57 (D 56), O 58 (fa 2 (t 3)), O 59 (D 58), O 60 (M 6), O 61 (call (F 17) [t 53, t 55, t 57, t 59, t 60]), O 52 (M 61), O 62 (ext (t 52) 0), O 63 (ext (t 52) 1), O 8 (M 62), O 9 (M 63)]).seq ((ops 0 [O 65 (ldn 8 (t 2)), O 66 (fa 0 (t 3)), O 67 (D 66), O 68 (fa 1 (t 3)), O 69 (D 68), O 70 (fa 2 (t 3)), O 71 (D 70), O 72 (call (F 15) [t 65, t 67, t 69, t 71]), O 64 (M 72), O 73 (ext (t 64) 0), O 74 (ext (t 64) 1), O 10 (M 73), O 11 (M 74)]).seq (((ops 0 [O 75 (M 7), O 76 (M 9), O 77 (B2 .add (t 75) (t 76)), O 78 (M 11), O 79 (B2 .add (t 77) (t 78)), O 80 (B2 .neq (t 79) (N ((0)))), O 81 (M 80), G 82 81 false (M 8), G 83 81 false (M 5), G 84 81 false (B2 .neq (t 82) (t 83)), O 85 (pick (t 81) cTru (t 84)), O 86 (M 85), G 87 86 false (M 6), G 88 86 false (lenStr (t 87)), G 89 86 false (B2 .lss (t 88) (N ((6)))), O 90 (pick (t 86) cTru (t 89)), O 91 (M 90), G 92 91 false (M 6), G 93 91 false (lenStr (t 92)), G 94 91 false (M 10), G 95 91 false (B2 .gtr (t 93) (t 94)), O 96 (pick (t 91) cTru (t 95))]).seq (C2.cond (t 96) ((ops 0 [O 4 (mov cFal)]).seq ret) skip)).seq ((ops 0 [O 98 (ldn 8 (t 2)), O 99 (fa 0 (t 3)), O 100 (D 99), O 101 (fa 2 (t 3)), O 102 (D 101), O 103 (fa 1 (t 3)), O 104 (D 103), O 105 (M 6), O 106 (call (F 17) [t 98, t 100, t 102, t 104, t 105]), O 97 (M 106), O 107 (ext (t 97) 0), O 108 (ext (t 97) 1), O 7 (M 108)]).seq (((ops 0 [O 109 (M 7), O 110 (B2 .neq (t 109) (N ((22))))]).seq (C2.cond (t 110) ((ops 0 [O 4 (mov cFal)]).seq ret) skip)).seq (((ops 1 [O 111 (fa 5 (t 2)), O 112 (D 111), O 113 (fa 0 (t 3)), O 114 (D 113), O 115 (ixaS 1 (t 112) (t 114)), O 116 (D 115), O 117 (fa 1 (t 3)), O 118 (D 117), O 119 (ixaS 1 (t 116) (t 118)), O 120 (D 119), O 121 (fa 2 (t 3)), O 122 (D 121), O 123 (ixaS 1 (t 120) (t 122)), O 124 (D 123), O 125 (lenS (t 124)), O 126 (mov (N ((0))))]).seq (block 0 ((ops 0 [O 127 (B2 .lss (t 126) (t 125))]).seq ((C2.cond (t 127) skip (exit 0)).seq ((block 1 ((ops 0 [O 128 (M 126), O 129 (ixaS 1 (t 124) (t 126)), O 130 (D 129), O 12 (M 128), O 13 (M 130)]).seq ((ops 0 [O 132 (ldn 8 (t 2)), O 133 (fa 0 (t 3)), O 134 (D 133), O 135 (fa 1 (t 3)), O 136 (D 135), O 137 (fa 2 (t 3)), O 138 (D 137), O 139 (M 12), O 140 (call (F 13) [t 132, t 134, t 136, t 138, t 139]), O 131 (M 140), O 141 (ext (t 131) 0), O 142 (ext (t 131) 1), O 14 (M 141), O 15 (M 142)]).seq ((ops 0 [O 143 (M 15), O 144 (B2 .neq (t 143) (N ((0)))), O 145 (M 144), G 146 145 false (M 6), G 147 145 false (M 14), G 148 145 false (B2 .eql (t 146) (t 147)), G 149 145 false (M 5), G 150 145 false (M 13), G 151 145 false (B2 .eql (t 149) (t 150)), G 152 145 false (bin BinOp.neq true false (t 148) (t 151)), O 153 (pick (t 145) cTru (t 152))]).seq (C2.cond (t 153) ((ops 0 [O 4 (mov cFal)]).seq ret) skip))))).seq (ops 0 [O 154 (B2 .add (t 126) (N ((1)))), O 126 (M 154)])))).loop)).seq ((ops 0 [O 155 (call (F 12) []), O 4 (M 155)]).seq ret))))))))))))
def b8 : F2 := (F2.mk 101 [RV.t 6] ((ops 0 [O 3 (box (t 0)), O 4 (box (t 1)), O 5 (box (t 2)), O 6 (mov cFal)]).seq (((ops 0 [O 14 (ldn 8 (t 3)), O 15 (ldn 4 (t 4)), O 16 (call (F 25) [t 14, t 15]), O 17 (un UnOp.not (t 16)), O 18 (M 17), G 19 18 false (ixaA 2 1 (t 5) (N ((1)))), G 20 18 false (D 19), G 21 18 false (B2 .eql (t 20) (c (AV.int IntKind.u8 (0)))), O 22 (pick (t 18) cTru (t 21))]).seq (C2.cond (t 22) ((ops 0 [O 23 (call (F 12) []), O 6 (M 23)]).seq ret) skip)).seq ((ops 0 [O 25 (ldn 8 (t 3)), O 26 (fa 0 (t 4)), O 27 (D 26), O 28 (fa 1 (t 4)), O 29 (D 28), O 30 (fa 2 (t 4)), O 31 (D 30), O 32 (fa 3 (t 4)), O 33 (D 32), O 34 (call (F 13) [t 25, t 27, t 29, t 31, t 33]), O 24 (M 34), O 35 (ext (t 24) 0), O 36 (ext (t 24) 1), O 7 (M 35), O 8 (M 36)]).seq (((ops 0 [O 37 (M 8), O 38 (B2 .neq (t 37) (N ((0)))), O 39 (M 38), G 40 39 false (M 7), G 41 39 false (lenStr (t 40)), G 42 39 false (B2 .eql (t 41) (N ((0)))), O 43 (pick (t 39) cTru (t 42))]).seq (C2.cond (t 43) ((ops 0 [O 6 (mov cFal)]).seq ret) skip)).seq ((ops 0 [O 44 (M 7), O 45 (s2b (t 44)), O 9 (M 45)]).seq ((ops 1 [O 46 (M 9), O 47 (ixaA 2 1 (t 5) (N ((0)))), O 48 (D 47), O 49 (conv IntKind.i64 (t 48)), O 50 (M 9), O 51 (lenS (t 50)), O 52 (B2 .rem (t 49) (t 51)), O 53 (ixaS 1 (t 46) (t 52)), O 54 (D 53), O 55 (ixaA 2 1 (t 5) (N ((1)))), O 56 (D 55), O 57 (B2 .xor (t 54) (t 56)), O 58 (ixaS 1 (t 46) (t 52)), Op2.mk none none (Ins.st 1 (t 58) (t 57))]).seq ((ops 0 [O 60 (ldn 8 (t 3)), O 61 (fa 0 (t 4)), O 62 (D 61), O 63 (fa 1 (t 4)), O 64 (D 63), O 65 (fa 2 (t 4)), O 66 (D 65), O 67 (M 9), O 68 (b2s (t 67)), O 69 (call (F 17) [t 60, t 62, t 64, t 66, t 68]), O 59 (M 69), O 70 (ext (t 59) 0), O 71 (ext (t 59) 1), O 10 (M 70), O 11 (M 71)]).seq ((mixS 1 [O 73 (ldn 8 (t 3)), O 74 (fa 0 (t 4)), O 75 (D 74), O 76 (fa 1 (t 4)), O 77 (D 76), O 78 (fa 2 (t 4)), O 79 (D 78), O 80 (M 7), O 81 (M 7), O 82 (lenStr (t 81)), O 83 (B2 .sub (t 82) (N ((1)))), O 84 (slstr (t 80) none (some (t 83))), O 85 (call (F 17) [t 73, t 75, t 77, t 79, t 84]), O 72 (M 85), O 86 (ext (t 72) 0), O 87 (ext (t 72) 1), O 12 (M 86), O 13 (M 87)] [(0, 0), (1, 0), (2, 0), (3, 0), (4, 0), (5, 0), (6, 0), (7, 0), (8, 0), (9, 0), (10, 0), (11, 0), (12, 2), (13, 0), (14, 0), (15, 0), (16, 0), (17, 0)]).seq ((ops 0 [O 88 (M 11), O 89 (B2 .eql (t 88) (N ((24)))), O 90 (M 89), G 91 90 true (M 10), G 92 90 true (B2 .eql (t 91) (N ((0)))), O 93 (pick (t 90) (t 92) cFal), O 94 (M 93), G 95 94 true (M 13), G 96 94 true (B2 .neq (t 95) (N ((0)))), O 97 (pick (t 94) (t 96) cFal), O 98 (M 97), G 99 98 true (call (F 12) []), O 100 (pick (t 98) (t 99) cFal), O 6 (M 100)]).seq ret))))))))))
def b11 : F2 := (F2.mk 66 [RV.t 2] ((ops 0 [O 1 (box (t 0)), O 2 (mov cFal)]).seq (((ops 0 [O 5 (fa 4 (t 1)), O 6 (D 5), O 7 (lenS (t 6)), O 8 (B2 .gtr (t 7) (N ((20)))), O 9 (M 8), G 10 9 false (fa 7 (t 1)), G 11 9 false (D 10), G 12 9 false (lenS (t 11)), G 13 9 false (B2 .gtr (t 12) (N ((20)))), O 14 (pick (t 9) cTru (t 13)), O 15 (M 14), G 16 15 false (fa 5 (t 1)), G 17 15 false (D 16), G 18 15 false (lenS (t 17)), G 19 15 false (B2 .gtr (t 18) (N ((20)))), O 20 (pick (t 15) cTru (t 19)), O 21 (M 20), G 22 21 false (fa 6 (t 1)), G 23 21 false (D 22), G 24 21 false (lenS (t 23)), G 25 21 false (B2 .gtr (t 24) (N ((400)))), O 26 (pick (t 21) cTru (t 25)), O 27 (M 26), G 28 27 false (ldn 8 (t 1)), G 29 27 false (call (F 28) [t 28]), G 30 27 false (B2 .gtr (t 29) (N ((400)))), O 31 (pick (t 27) cTru (t 30))]).seq (C2.cond (t 31) ((ops 0 [O 2 (mov cFal)]).seq ret) skip)).seq (((ops 0 [O 3 (mov (N ((0))))]).seq (block 0 (((ops 0 [O 32 (M 3), O 33 (fa 5 (t 1)), O 34 (D 33), O 35 (lenS (t 34)), O 36 (B2 .lss (t 32) (t 35))]).seq (C2.cond (t 36) skip (exit 0))).seq ((block 1 (((ops 0 [O 39 (fa 5 (t 1)), O 40 (D 39), O 41 (M 3), O 42 (ixaS 1 (t 40) (t 41)), O 43 (D 42), O 44 (lenS (t 43)), O 45 (B2 .gtr (t 44) (N ((20))))]).seq (C2.cond (t 45) ((ops 0 [O 2 (mov cFal)]).seq ret) skip)).seq ((ops 0 [O 4 (mov (N ((0))))]).seq (block 2 (((ops 0 [O 46 (M 4), O 47 (fa 5 (t 1)), O 48 (D 47), O 49 (M 3), O 50 (ixaS 1 (t 48) (t 49)), O 51 (D 50), O 52 (lenS (t 51)), O 53 (B2 .lss (t 46) (t 52))]).seq (C2.cond (t 53) skip (exit 2))).seq ((block 3 ((ops 0 [O 56 (fa 5 (t 1)), O 57 (D 56), O 58 (M 3), O 59 (ixaS 1 (t 57) (t 58)), O 60 (D 59), O 61 (M 4), O 62 (ixaS 1 (t 60) (t 61)), O 63 (D 62), O 64 (lenS (t 63)), O 65 (B2 .gtr (t 64) (N ((20))))]).seq (C2.cond (t 65) ((ops 0 [O 2 (mov cFal)]).seq ret) skip))).seq (ops 0 [O 54 (M 4), O 55 (B2 .add (t 54) (N ((1)))), O 4 (M 55)]))).loop)))).seq (ops 0 [O 37 (M 3), O 38 (B2 .add (t 37) (N ((1)))), O 3 (M 38)]))).loop)).seq ((ops 0 [O 2 (mov cTru)]).seq ret)))))
theorem is11 : Is Try.prog 11 b11 := Is.mk' Try.func11 (by kernel_rfl)

def b12 : F2 := (F2.mk 100 [RV.t 0] ((ops 0 [O 0 (mov cFal)]).seq ((ops 0 [O 11 (call (F 29) []), O 1 (alloc (AV.agg [AV.int IntKind.i64 (0), AV.int IntKind.i64 (0), AV.int IntKind.i64 (0), AV.int IntKind.i64 (0), AV.esl, AV.esl, AV.esl, AV.esl])), Op2.mk none none (Ins.st 8 (t 1) (t 11))]).seq ((ops 0 [O 13 (ldn 8 (t 1)), O 14 (call (F 13) [t 13, c (AV.int IntKind.i64 (0)), c (AV.int IntKind.i64 (1)), c (AV.int IntKind.i64 (0)), c (AV.int IntKind.i64 (1))]), O 12 (M 14), O 15 (ext (t 12) 0), O 16 (ext (t 12) 1), O 2 (M 15), O 3 (M 16)]).seq ((ops 0 [O 18 (ldn 8 (t 1)), O 19 (call (F 15) [t 18, c (AV.int IntKind.i64 (0)), c (AV.int IntKind.i64 (1)), c (AV.int IntKind.i64 (0))]), O 17 (M 19), O 20 (ext (t 17) 0), O 21 (ext (t 17) 1), O 4 (M 20), O 5 (M 21)]).seq ((ops 0 [O 23 (ldn 8 (t 1)), O 24 (call (F 17) [t 23, c (AV.int IntKind.i64 (0)), c (AV.int IntKind.i64 (1)), c (AV.int IntKind.i64 (0)), c (AV.str (ByteArray.mk (Array.mk [0, 1, 0, 0, 0, 6])))]), O 22 (M 24), O 25 (ext (t 22) 0), O 26 (ext (t 22) 1), O 6 (M 25), O 7 (M 26)]).seq (((ops 0 [O 27 (call (F 24) [c (AV.str (ByteArray.mk (Array.mk [1, 2, 3])))]), O 28 (B2 .neq (t 27) (N ((17)))), O 29 (M 28), G 30 29 false (call (F 24) [c (AV.str (ByteArray.mk (Array.mk [])))]), G 31 29 false (B2 .neq (t 30) (N ((0)))), O 32 (pick (t 29) cTru (t 31)), O 33 (M 32), G 34 33 false (M 3), G 35 33 false (M 5), G 36 33 false (B2 .add (t 34) (t 35)), G 37 33 false (M 7), G 38 33 false (B2 .add (t 36) (t 37)), G 39 33 false (B2 .neq (t 38) (N ((0)))), O 40 (pick (t 33) cTru (t 39)), O 41 (M 40), G 42 41 false (M 2), G 43 41 false (B2 .neq (t 42) (c (AV.str (ByteArray.mk (Array.mk [0, 1, 0, 0, 0, 6]))))), O 44 (pick (t 41) cTru (t 43)), O 45 (M 44), G 46 45 false (M 4), G 47 45 false (B2 .neq (t 46) (N ((6)))), O 48 (pick (t 45) cTru (t 47)), O 49 (M 48), G 50 49 false (M 6), G 51 49 false (B2 .neq (t 50) (N ((0)))), O 52 (pick (t 49) cTru (t 51))]).seq (C2.cond (t 52) ((ops 0 [O 0 (mov cFal)]).seq ret) skip)).seq ((ops 0 [O 54 (ldn 8 (t 1)), O 55 (call (F 17) [t 54, c (AV.int IntKind.i64 (0)), c (AV.int IntKind.i64 (1)), c (AV.int IntKind.i64 (0)), c (AV.str (ByteArray.mk (Array.mk [0, 1, 0, 0, 0, 7])))]), O 53 (M 55), O 56 (ext (t 53) 0), O 57 (ext (t 53) 1), O 3 (M 57)]).seq ((ops 0 [O 59 (ldn 8 (t 1)), O 60 (call (F 17) [t 59, c (AV.int IntKind.i64 (0)), c (AV.int IntKind.i64 (0)), c (AV.int IntKind.i64 (1)), c (AV.str (ByteArray.mk (Array.mk [0, 1, 0, 0, 0, 6])))]), O 58 (M 60), O 61 (ext (t 58) 0), O 62 (ext (t 58) 1), O 5 (M 62)]).seq ((ops 0 [O 64 (ldn 8 (t 1)), O 65 (call (F 19) [t 64]), O 63 (M 65), O 66 (ext (t 63) 0), O 67 (ext (t 63) 1), O 8 (M 66), O 7 (M 67)]).seq ((ops 0 [O 69 (M 8), O 70 (call (F 21) [t 69]), O 68 (M 70), O 71 (ext (t 68) 0), O 72 (ext (t 68) 1), O 9 (alloc (AV.agg [AV.int IntKind.i64 (0), AV.int IntKind.i64 (0), AV.int IntKind.i64 (0), AV.int IntKind.i64 (0), AV.esl, AV.esl, AV.esl, AV.esl])), Op2.mk none none (Ins.st 8 (t 9) (t 71)), O 10 (M 72)]).seq ((ops 0 [O 73 (M 3), O 74 (B2 .eql (t 73) (N ((24)))), O 75 (M 74), G 76 75 true (M 5), G 77 75 true (B2 .eql (t 76) (N ((22)))), O 78 (pick (t 75) (t 77) cFal), O 79 (M 78), G 80 79 true (M 7), G 81 79 true (M 10), G 82 79 true (B2 .add (t 80) (t 81)), G 83 79 true (B2 .eql (t 82) (N ((0)))), O 84 (pick (t 79) (t 83) cFal), O 85 (M 84), G 86 85 true (ldn 8 (t 9)), G 87 85 true (ldn 8 (t 1)), G 88 85 true (call (F 27) [t 86, t 87]), O 89 (pick (t 85) (t 88) cFal), O 90 (M 89), G 91 90 true (M 8), G 92 90 true (lenStr (t 91)), G 93 90 true (B2 .gtr (t 92) (N ((6)))), O 94 (pick (t 90) (t 93) cFal), O 95 (M 94), G 96 95 true (M 8), G 97 95 true (slstr (t 96) none (some (N ((4))))), G 98 95 true (B2 .eql (t 97) (c (AV.str (ByteArray.mk (Array.mk [82, 84, 77, 1]))))), O 99 (pick (t 95) (t 98) cFal), O 0 (M 99)]).seq ret))))))))))))
theorem is12 : Is Try.prog 12 b12 := Is.mk' Try.func12 (by kernel_rfl)

def b13 : F2 := (F2.mk 42 [RV.t 10, RV.t 11] ((ops 0 [O 5 (box (t 0)), O 10 (mov (c (AV.str (ByteArray.mk (Array.mk []))))), O 11 (mov (N ((0))))]).seq ((ops 0 [O 15 (M 1), O 16 (M 2), O 17 (M 3), O 18 (bld [AV.int IntKind.i64 (0), AV.int IntKind.i64 (0), AV.int IntKind.i64 (0)] [(0, 1, t 15), (1, 1, t 16), (2, 1, t 17)]), O 12 (alloc (AV.agg [AV.int IntKind.i64 (0), AV.int IntKind.i64 (0), AV.int IntKind.i64 (0)])), Op2.mk none none (Ins.st 3 (t 12) (t 18))]).seq (((ops 0 [O 19 (ldn 3 (t 12)), O 20 (ldn 8 (t 5)), O 21 (call (F 30) [t 19, t 20]), O 13 (M 21)]).seq ((ops 0 [O 22 (M 13), O 23 (B2 .neq (t 22) (N ((0))))]).seq (C2.cond (t 23) ((ops 0 [O 24 (M 13), O 10 (mov (c (AV.str (ByteArray.mk (Array.mk []))))), O 11 (M 24)]).seq ret) skip))).seq ((ops 0 [O 25 (ldn 8 (t 5)), O 26 (ldn 3 (t 12)), O 27 (call (F 31) [t 25, t 26]), O 14 (M 27)]).seq (((ops 0 [O 28 (M 4), O 29 (B2 .lss (t 28) (N ((0)))), O 30 (M 29), G 31 30 false (M 4), G 32 30 false (M 14), G 33 30 false (lenS (t 32)), G 34 30 false (B2 .geq (t 31) (t 33)), O 35 (pick (t 30) cTru (t 34))]).seq (C2.cond (t 35) ((ops 0 [O 10 (mov (c (AV.str (ByteArray.mk (Array.mk []))))), O 11 (mov (N ((6))))]).seq ret) skip)).seq ((mixS 1 [O 36 (ldn 3 (t 12)), O 37 (M 14), O 38 (M 4), O 39 (ixaS 1 (t 37) (t 38)), O 40 (D 39), O 41 (call (F 32) [t 36, t 40]), O 10 (M 41), O 11 (mov (N ((0))))] [(0, 0), (1, 0), (2, 0), (3, 0), (4, 0), (5, 2), (6, 0), (7, 0)]).seq ret)))))))
theorem is13 : Is Try.prog 13 b13 := Is.mk' Try.func13 (by kernel_rfl)

def b14 : F2 := (F2.mk 49 [RV.t 10, RV.t 11] ((ops 0 [O 5 (box (t 0)), O 10 (mov (c (AV.str (ByteArray.mk (Array.mk []))))), O 11 (mov (N ((0))))]).seq (((ops 0 [O 14 (ldn 8 (t 5)), O 15 (M 1), O 16 (M 2), O 17 (M 3), O 18 (call (F 33) [t 14, t 15, t 16, t 17]), O 12 (M 18)]).seq ((ops 0 [O 19 (M 12), O 20 (B2 .neq (t 19) (N ((0))))]).seq (C2.cond (t 20) ((ops 0 [O 21 (M 12), O 10 (mov (c (AV.str (ByteArray.mk (Array.mk []))))), O 11 (M 21)]).seq ret) skip))).seq ((ops 0 [O 22 (fa 5 (t 5)), O 23 (D 22), O 24 (M 1), O 25 (ixaS 1 (t 23) (t 24)), O 26 (D 25), O 27 (M 2), O 28 (ixaS 1 (t 26) (t 27)), O 29 (D 28), O 30 (M 3), O 31 (ixaS 1 (t 29) (t 30)), O 32 (D 31), O 13 (M 32)]).seq (((ops 0 [O 33 (M 4), O 34 (B2 .lss (t 33) (N ((0)))), O 35 (M 34), G 36 35 false (M 4), G 37 35 false (M 13), G 38 35 false (lenS (t 37)), G 39 35 false (B2 .geq (t 36) (t 38)), O 40 (pick (t 35) cTru (t 39))]).seq (C2.cond (t 40) ((ops 0 [O 10 (mov (c (AV.str (ByteArray.mk (Array.mk []))))), O 11 (mov (N ((6))))]).seq ret) skip)).seq ((ops 0 [O 41 (M 1), O 42 (M 2), O 43 (M 3), O 44 (M 13), O 45 (M 4), O 46 (ixaS 1 (t 44) (t 45)), O 47 (D 46), O 48 (call (F 34) [t 41, t 42, t 43, t 47]), O 10 (M 48), O 11 (mov (N ((0))))]).seq ret))))))
theorem is14 : Is Try.prog 14 b14 := Is.mk' Try.func14 (by kernel_rfl)

def b15 : F2 := (F2.mk 41 [RV.t 8, RV.t 9] ((ops 0 [O 4 (box (t 0)), O 8 (mov (N ((0)))), O 9 (mov (N ((0))))]).seq ((ops 0 [O 15 (M 1), O 16 (M 2), O 17 (M 3), O 18 (bld [AV.int IntKind.i64 (0), AV.int IntKind.i64 (0), AV.int IntKind.i64 (0)] [(0, 1, t 15), (1, 1, t 16), (2, 1, t 17)]), O 10 (alloc (AV.agg [AV.int IntKind.i64 (0), AV.int IntKind.i64 (0), AV.int IntKind.i64 (0)])), Op2.mk none none (Ins.st 3 (t 10) (t 18))]).seq (((ops 0 [O 19 (ldn 3 (t 10)), O 20 (ldn 8 (t 4)), O 21 (call (F 30) [t 19, t 20]), O 11 (M 21)]).seq ((ops 0 [O 22 (M 11), O 23 (B2 .neq (t 22) (N ((0))))]).seq (C2.cond (t 23) ((ops 0 [O 24 (M 11), O 8 (mov (N ((0)))), O 9 (M 24)]).seq ret) skip))).seq ((ops 0 [O 12 (mov (N ((0))))]).seq (((ops 0 [O 25 (ldn 8 (t 4)), O 26 (ldn 3 (t 10)), O 27 (call (F 31) [t 25, t 26]), O 28 (lenS (t 27)), O 29 (mov (N ((0))))]).seq (block 0 ((ops 0 [O 30 (B2 .lss (t 29) (t 28))]).seq ((C2.cond (t 30) skip (exit 0)).seq ((block 1 ((ops 0 [O 31 (ixaS 1 (t 27) (t 29)), O 32 (D 31), O 14 (M 32)]).seq (ops 0 [O 33 (M 12), O 34 (ldn 3 (t 10)), O 35 (M 14), O 36 (call (F 32) [t 34, t 35]), O 37 (lenStr (t 36)), O 38 (mx (t 33) [t 37]), O 12 (M 38)]))).seq (ops 0 [O 39 (B2 .add (t 29) (N ((1)))), O 29 (M 39)])))).loop)).seq ((ops 0 [O 40 (M 12), O 8 (M 40), O 9 (mov (N ((0))))]).seq ret)))))))
theorem is15 : Is Try.prog 15 b15 := Is.mk' Try.func15 (by kernel_rfl)

def b16 : F2 := (F2.mk 51 [RV.t 8, RV.t 9] ((ops 0 [O 4 (box (t 0)), O 8 (mov (N ((0)))), O 9 (mov (N ((0))))]).seq (((ops 0 [O 14 (ldn 8 (t 4)), O 15 (M 1), O 16 (M 2), O 17 (M 3), O 18 (call (F 33) [t 14, t 15, t 16, t 17]), O 10 (M 18)]).seq ((ops 0 [O 19 (M 10), O 20 (B2 .neq (t 19) (N ((0))))]).seq (C2.cond (t 20) ((ops 0 [O 21 (M 10), O 8 (mov (N ((0)))), O 9 (M 21)]).seq ret) skip))).seq ((ops 0 [O 11 (mov (N ((0))))]).seq ((ops 0 [O 22 (fa 5 (t 4)), O 23 (D 22), O 24 (M 1), O 25 (ixaS 1 (t 23) (t 24)), O 26 (D 25), O 27 (M 2), O 28 (ixaS 1 (t 26) (t 27)), O 29 (D 28), O 30 (M 3), O 31 (ixaS 1 (t 29) (t 30)), O 32 (D 31), O 12 (M 32)]).seq (((ops 0 [O 13 (mov (N ((0))))]).seq (block 0 (((ops 0 [O 33 (M 13), O 34 (M 12), O 35 (lenS (t 34)), O 36 (B2 .lss (t 33) (t 35))]).seq (C2.cond (t 36) skip (exit 0))).seq ((block 1 (ops 0 [O 39 (M 11), O 40 (M 1), O 41 (M 2), O 42 (M 3), O 43 (M 12), O 44 (M 13), O 45 (ixaS 1 (t 43) (t 44)), O 46 (D 45), O 47 (call (F 34) [t 40, t 41, t 42, t 46]), O 48 (lenStr (t 47)), O 49 (mx (t 39) [t 48]), O 11 (M 49)])).seq (ops 0 [O 37 (M 13), O 38 (B2 .add (t 37) (N ((1)))), O 13 (M 38)]))).loop)).seq ((ops 0 [O 50 (M 11), O 8 (M 50), O 9 (mov (N ((0))))]).seq ret)))))))
theorem is16 : Is Try.prog 16 b16 := Is.mk' Try.func16 (by kernel_rfl)

def b17 : F2 := (F2.mk 81 [RV.t 10, RV.t 11] ((ops 0 [O 5 (box (t 0)), O 10 (mov (N ((0)))), O 11 (mov (N ((0))))]).seq ((ops 0 [O 18 (M 1), O 19 (M 2), O 20 (M 3), O 21 (bld [AV.int IntKind.i64 (0), AV.int IntKind.i64 (0), AV.int IntKind.i64 (0)] [(0, 1, t 18), (1, 1, t 19), (2, 1, t 20)]), O 12 (alloc (AV.agg [AV.int IntKind.i64 (0), AV.int IntKind.i64 (0), AV.int IntKind.i64 (0)])), Op2.mk none none (Ins.st 3 (t 12) (t 21))]).seq (((ops 0 [O 22 (ldn 3 (t 12)), O 23 (ldn 8 (t 5)), O 24 (call (F 30) [t 22, t 23]), O 13 (M 24)]).seq ((ops 0 [O 25 (M 13), O 26 (B2 .neq (t 25) (N ((0))))]).seq (C2.cond (t 26) ((ops 0 [O 27 (M 13), O 10 (mov (N ((0)))), O 11 (M 27)]).seq ret) skip))).seq ((ops 0 [O 29 (M 4), O 30 (call (F 35) [t 29]), O 28 (M 30), O 31 (ext (t 28) 0), O 32 (ext (t 28) 1), O 14 (M 31), O 15 (M 32)]).seq (((ops 0 [O 33 (M 15), O 34 (B2 .neq (t 33) (N ((0))))]).seq (C2.cond (t 34) ((ops 0 [O 35 (M 15), O 10 (mov (N ((0)))), O 11 (M 35)]).seq ret) skip)).seq ((ops 0 [O 36 (M 14), O 37 (slstr (t 36) (some (N ((3)))) none), O 38 (s2b (t 37)), O 39 (bld [AV.esl, AV.bool false] [(0, 1, t 38)]), O 40 (box (t 39)), O 16 (M 40)]).seq ((ops 0 [O 41 (M 16), O 42 (call (F 36) [t 41]), O 17 (M 42)]).seq ((block 0 ((ops 0 [O 44 (M 16), O 45 (nilck (t 44)), O 46 (fa 1 (t 45)), O 47 (D 46), O 48 (M 47), G 49 48 false (M 16), G 50 48 false (nilck (t 49)), G 51 48 false (fa 0 (t 50)), G 52 48 false (D 51), G 53 48 false (lenS (t 52)), G 54 48 false (B2 .gtr (t 53) (N ((0)))), O 55 (pick (t 48) cTru (t 54)), O 56 (M 55), G 57 56 false (M 17), G 58 56 false (B2 .gtr (t 57) (N ((1048576)))), O 59 (pick (t 56) cTru (t 58)), O 43 (M 59)]).seq (C2.cond (t 43) ((ops 0 [O 10 (mov (N ((0)))), O 11 (mov (N ((3))))]).seq ret) ((ops 0 [O 61 (M 14), O 62 (slstr (t 61) none (some (N ((3))))), O 63 (s2b (t 62)), O 64 (M 1), O 65 (conv IntKind.u8 (t 64)), O 66 (M 2), O 67 (conv IntKind.u8 (t 66)), O 68 (M 3), O 69 (conv IntKind.u8 (t 68)), O 70 (bldS 1 3 [AV.int IntKind.u8 (0)] [(0, 1, t 65), (1, 1, t 67), (2, 1, t 69)]), O 71 (call (F 37) [t 63, t 70]), O 72 (un UnOp.not (t 71)), O 60 (M 72)]).seq (C2.cond (t 60) ((ops 0 [O 10 (mov (N ((0)))), O 11 (mov (N ((22))))]).seq ret) ((ops 0 [O 74 (ldn 8 (t 5)), O 75 (ldn 3 (t 12)), O 76 (call (F 31) [t 74, t 75]), O 77 (M 17), O 78 (call (F 38) [t 76, t 77]), O 79 (un UnOp.not (t 78)), O 73 (M 79)]).seq (C2.cond (t 73) ((ops 0 [O 10 (mov (N ((0)))), O 11 (mov (N ((6))))]).seq ret) skip))))))).seq ((ops 0 [O 80 (M 17), O 10 (M 80), O 11 (mov (N ((0))))]).seq ret))))))))))
theorem is17 : Is Try.prog 17 b17 := Is.mk' Try.func17 (by kernel_rfl)

def b18 : F2 := (F2.mk 84 [RV.t 10, RV.t 11] ((ops 0 [O 5 (box (t 0)), O 10 (mov (N ((0)))), O 11 (mov (N ((0))))]).seq (((ops 0 [O 17 (ldn 8 (t 5)), O 18 (M 1), O 19 (M 2), O 20 (M 3), O 21 (call (F 33) [t 17, t 18, t 19, t 20]), O 12 (M 21)]).seq ((ops 0 [O 22 (M 12), O 23 (B2 .neq (t 22) (N ((0))))]).seq (C2.cond (t 23) ((ops 0 [O 24 (M 12), O 10 (mov (N ((0)))), O 11 (M 24)]).seq ret) skip))).seq (((ops 0 [O 25 (M 4), O 26 (call (F 39) [t 25]), O 27 (un UnOp.not (t 26))]).seq (C2.cond (t 27) ((ops 0 [O 10 (mov (N ((0)))), O 11 (mov (N ((24))))]).seq ret) skip)).seq ((ops 0 [O 28 (M 4), O 29 (M 4), O 30 (lenStr (t 29)), O 31 (B2 .sub (t 30) (N ((2)))), O 32 (slstr (t 28) (some (N ((3)))) (some (t 31))), O 33 (bld [AV.str (ByteArray.mk (Array.mk [])), AV.int IntKind.i64 (0), AV.bool false] [(0, 1, t 32)]), O 13 (alloc (AV.agg [AV.str (ByteArray.mk (Array.mk [])), AV.int IntKind.i64 (0), AV.bool false])), Op2.mk none none (Ins.st 3 (t 13) (t 33))]).seq ((ops 0 [O 34 (call (F 40) [t 13]), O 14 (M 34)]).seq (((ops 0 [O 35 (fa 2 (t 13)), O 36 (D 35), O 37 (M 36), G 38 37 false (fa 1 (t 13)), G 39 37 false (D 38), G 40 37 false (fa 0 (t 13)), G 41 37 false (D 40), G 42 37 false (lenStr (t 41)), G 43 37 false (B2 .neq (t 39) (t 42)), O 44 (pick (t 37) cTru (t 43)), O 45 (M 44), G 46 45 false (M 14), G 47 45 false (B2 .gtr (t 46) (N ((1048576)))), O 48 (pick (t 45) cTru (t 47))]).seq (C2.cond (t 48) ((ops 0 [O 10 (mov (N ((0)))), O 11 (mov (N ((3))))]).seq ret) skip)).seq (((mix 1 [O 49 (M 4), O 50 (slstr (t 49) none (some (N ((3))))), O 51 (M 1), O 52 (call (F 41) [t 51]), O 53 (M 2), O 54 (call (F 41) [t 53]), O 55 (B2 .add (t 52) (t 54)), O 56 (M 3), O 57 (call (F 41) [t 56]), O 58 (B2 .add (t 55) (t 57)), O 59 (B2 .neq (t 50) (t 58))] [0, 1, 2, 4, 7, 3, 5, 6, 8, 9, 10]).seq (C2.cond (t 59) ((ops 0 [O 10 (mov (N ((0)))), O 11 (mov (N ((22))))]).seq ret) skip)).seq ((ops 0 [O 60 (fa 5 (t 5)), O 61 (D 60), O 62 (M 1), O 63 (ixaS 1 (t 61) (t 62)), O 64 (D 63), O 65 (M 2), O 66 (ixaS 1 (t 64) (t 65)), O 67 (D 66), O 68 (M 3), O 69 (ixaS 1 (t 67) (t 68)), O 70 (D 69), O 15 (M 70)]).seq (((ops 0 [O 16 (mov (N ((0))))]).seq (block 0 (((ops 0 [O 71 (M 16), O 72 (M 15), O 73 (lenS (t 72)), O 74 (B2 .lss (t 71) (t 73))]).seq (C2.cond (t 74) skip (exit 0))).seq ((block 1 ((ops 0 [O 77 (M 15), O 78 (M 16), O 79 (ixaS 1 (t 77) (t 78)), O 80 (D 79), O 81 (M 14), O 82 (B2 .eql (t 80) (t 81))]).seq (C2.cond (t 82) ((ops 0 [O 83 (M 14), O 10 (M 83), O 11 (mov (N ((0))))]).seq ret) skip))).seq (ops 0 [O 75 (M 16), O 76 (B2 .add (t 75) (N ((1)))), O 16 (M 76)]))).loop)).seq ((ops 0 [O 10 (mov (N ((0)))), O 11 (mov (N ((6))))]).seq ret)))))))))))
theorem is18 : Is Try.prog 18 b18 := Is.mk' Try.func18 (by kernel_rfl)

def b19 : F2 := (F2.mk 17 [RV.t 2, RV.t 3] ((ops 0 [O 1 (box (t 0)), O 2 (mov (c (AV.str (ByteArray.mk (Array.mk []))))), O 3 (mov (N ((0))))]).seq (((ops 0 [O 6 (ldn 8 (t 1)), O 7 (call (F 26) [t 6]), O 4 (M 7)]).seq ((ops 0 [O 8 (M 4), O 9 (B2 .neq (t 8) (N ((0))))]).seq (C2.cond (t 9) ((ops 0 [O 10 (M 4), O 2 (mov (c (AV.str (ByteArray.mk (Array.mk []))))), O 3 (M 10)]).seq ret) skip))).seq ((ops 0 [O 11 (ldn 8 (t 1)), O 12 (call (F 42) [t 11]), O 5 (M 12)]).seq (((ops 0 [O 13 (M 5), O 14 (lenStr (t 13)), O 15 (B2 .gtr (t 14) (N ((65536))))]).seq (C2.cond (t 15) ((ops 0 [O 2 (mov (c (AV.str (ByteArray.mk (Array.mk []))))), O 3 (mov (N ((13))))]).seq ret) skip)).seq ((ops 0 [O 16 (M 5), O 2 (M 16), O 3 (mov (N ((0))))]).seq ret))))))
theorem is19 : Is Try.prog 19 b19 := Is.mk' Try.func19 (by kernel_rfl)

def b21 : F2 := (F2.mk 74 [RV.cn 2 8, RV.t 3] ((ops 0 [O 2 (alloc (AV.agg [AV.int IntKind.i64 (0), AV.int IntKind.i64 (0), AV.int IntKind.i64 (0), AV.int IntKind.i64 (0), AV.esl, AV.esl, AV.esl, AV.esl])), O 3 (mov (N ((0))))]).seq (((ops 0 [O 8 (M 0), O 9 (lenStr (t 8)), O 10 (B2 .gtr (t 9) (N ((65536))))]).seq (C2.cond (t 10) ((ops 0 [O 11 (bld [AV.int IntKind.i64 (0), AV.int IntKind.i64 (0), AV.int IntKind.i64 (0), AV.int IntKind.i64 (0), AV.esl, AV.esl, AV.esl, AV.esl] []), Op2.mk none none (Ins.st 8 (t 2) (t 11)), O 3 (mov (N ((13))))]).seq ret) skip)).seq ((ops 0 [O 13 (M 0), O 14 (call (F 35) [t 13]), O 12 (M 14), O 15 (ext (t 12) 0), O 16 (ext (t 12) 1), O 4 (M 15), O 5 (M 16)]).seq (((ops 0 [O 17 (M 5), O 18 (B2 .neq (t 17) (N ((0))))]).seq (C2.cond (t 18) ((ops 0 [O 19 (bld [AV.int IntKind.i64 (0), AV.int IntKind.i64 (0), AV.int IntKind.i64 (0), AV.int IntKind.i64 (0), AV.esl, AV.esl, AV.esl, AV.esl] []), O 20 (M 5), Op2.mk none none (Ins.st 8 (t 2) (t 19)), O 3 (M 20)]).seq ret) skip)).seq ((ops 0 [O 21 (M 4), O 22 (slstr (t 21) (some (N ((4)))) none), O 23 (s2b (t 22)), O 24 (bld [AV.esl, AV.bool false] [(0, 1, t 23)]), O 25 (box (t 24)), O 6 (M 25)]).seq ((ops 0 [O 26 (M 6), O 27 (call (F 36) [t 26]), O 28 (M 6), O 29 (call (F 36) [t 28]), O 30 (M 6), O 31 (call (F 36) [t 30]), O 32 (M 6), O 33 (call (F 36) [t 32]), O 34 (bld [AV.int IntKind.i64 (0), AV.int IntKind.i64 (0), AV.int IntKind.i64 (0), AV.int IntKind.i64 (0), AV.esl, AV.esl, AV.esl, AV.esl] [(0, 1, t 27), (1, 1, t 29), (2, 1, t 31), (3, 1, t 33)]), O 7 (alloc (AV.agg [AV.int IntKind.i64 (0), AV.int IntKind.i64 (0), AV.int IntKind.i64 (0), AV.int IntKind.i64 (0), AV.esl, AV.esl, AV.esl, AV.esl])), Op2.mk none none (Ins.st 8 (t 7) (t 34))]).seq (((ops 0 [O 35 (M 6), O 36 (nilck (t 35)), O 37 (fa 1 (t 36)), O 38 (D 37), O 39 (M 38), G 40 39 false (fa 0 (t 7)), G 41 39 false (D 40), G 42 39 false (B2 .gtr (t 41) (N ((5)))), O 43 (pick (t 39) cTru (t 42)), O 44 (M 43), G 45 44 false (fa 1 (t 7)), G 46 44 false (D 45), G 47 44 false (B2 .gtr (t 46) (N ((6)))), O 48 (pick (t 44) cTru (t 47)), O 49 (M 48), G 50 49 false (fa 2 (t 7)), G 51 49 false (D 50), G 52 49 false (B2 .gtr (t 51) (N ((8)))), O 53 (pick (t 49) cTru (t 52))]).seq (C2.cond (t 53) ((ops 0 [O 54 (bld [AV.int IntKind.i64 (0), AV.int IntKind.i64 (0), AV.int IntKind.i64 (0), AV.int IntKind.i64 (0), AV.esl, AV.esl, AV.esl, AV.esl] []), Op2.mk none none (Ins.st 8 (t 2) (t 54)), O 3 (mov (N ((3))))]).seq ret) skip)).seq ((ops 0 [O 55 (M 6), O 56 (call (F 48) [t 55, t 7])]).seq (((ops 0 [O 57 (M 6), O 58 (nilck (t 57)), O 59 (fa 1 (t 58)), O 60 (D 59), O 61 (M 60), G 62 61 false (ldn 8 (t 7)), G 63 61 false (call (F 26) [t 62]), G 64 61 false (B2 .neq (t 63) (N ((0)))), O 65 (pick (t 61) cTru (t 64)), O 66 (M 65), G 67 66 false (ldn 8 (t 7)), G 68 66 false (call (F 42) [t 67]), G 69 66 false (M 0), G 70 66 false (B2 .neq (t 68) (t 69)), O 71 (pick (t 66) cTru (t 70))]).seq (C2.cond (t 71) ((ops 0 [O 72 (bld [AV.int IntKind.i64 (0), AV.int IntKind.i64 (0), AV.int IntKind.i64 (0), AV.int IntKind.i64 (0), AV.esl, AV.esl, AV.esl, AV.esl] []), Op2.mk none none (Ins.st 8 (t 2) (t 72)), O 3 (mov (N ((3))))]).seq ret) skip)).seq ((ops 0 [O 73 (ldn 8 (t 7)), Op2.mk none none (Ins.st 8 (t 2) (t 73)), O 3 (mov (N ((0))))]).seq ret)))))))))))
theorem is21 : Is Try.prog 21 b21 := Is.mk' Try.func21 (by kernel_rfl)

def b24 : F2 := (F2.mk 28 [RV.t 2] ((ops 0 [O 2 (mov (N ((0))))]).seq ((ops 0 [O 6 (M 0), O 7 (lenStr (t 6)), O 8 (B2 .rem (t 7) (N ((65521)))), O 3 (M 8)]).seq (((ops 0 [O 9 (M 0), O 10 (s2b (t 9)), O 11 (lenS (t 10)), O 12 (mov (N ((0))))]).seq (block 0 ((ops 0 [O 13 (B2 .lss (t 12) (t 11))]).seq ((C2.cond (t 13) skip (exit 0)).seq ((block 1 ((ops 0 [O 14 (M 12), O 15 (ixaS 1 (t 10) (t 12)), O 16 (D 15), O 4 (M 14), O 5 (M 16)]).seq (ops 0 [O 17 (M 3), O 18 (M 4), O 19 (B2 .add (t 18) (N ((1)))), O 20 (B2 .rem (t 19) (N ((65521)))), O 21 (M 5), O 22 (conv IntKind.i64 (t 21)), O 23 (B2 .mul (t 20) (t 22)), O 24 (B2 .add (t 17) (t 23)), O 25 (B2 .rem (t 24) (N ((65521)))), O 3 (M 25)]))).seq (ops 0 [O 26 (B2 .add (t 12) (N ((1)))), O 12 (M 26)])))).loop)).seq ((ops 0 [O 27 (M 3), O 2 (M 27)]).seq ret)))))
theorem is24 : Is Try.prog 24 b24 := Is.mk' Try.func24 (by kernel_rfl)

def b26 : F2 := (F2.mk 75 [RV.t 2] ((ops 0 [O 1 (box (t 0)), O 2 (mov (N ((0))))]).seq ((block 0 ((ops 0 [O 7 (fa 0 (t 1)), O 8 (D 7), O 9 (call (F 55) [t 8, c (AV.int IntKind.i64 (1)), c (AV.int IntKind.i64 (5))]), O 10 (un UnOp.not (t 9)), O 11 (M 10), G 12 11 false (fa 1 (t 1)), G 13 11 false (D 12), G 14 11 false (call (F 55) [t 13, c (AV.int IntKind.i64 (0)), c (AV.int IntKind.i64 (6))]), G 15 11 false (un UnOp.not (t 14)), O 16 (pick (t 11) cTru (t 15)), O 17 (M 16), G 18 17 false (fa 2 (t 1)), G 19 17 false (D 18), G 20 17 false (call (F 55) [t 19, c (AV.int IntKind.i64 (1)), c (AV.int IntKind.i64 (8))]), G 21 17 false (un UnOp.not (t 20)), O 22 (pick (t 17) cTru (t 21)), O 23 (M 22), G 24 23 false (fa 3 (t 1)), G 25 23 false (D 24), G 26 23 false (call (F 55) [t 25, c (AV.int IntKind.i64 (1)), c (AV.int IntKind.i64 (8))]), G 27 23 false (un UnOp.not (t 26)), O 28 (pick (t 23) cTru (t 27)), O 6 (M 28)]).seq (C2.cond (t 6) ((ops 0 [O 2 (mov (N ((2))))]).seq ret) ((ops 0 [O 30 (ldn 8 (t 1)), O 31 (call (F 56) [t 30]), O 32 (un UnOp.not (t 31)), O 29 (M 32)]).seq (C2.cond (t 29) ((ops 0 [O 2 (mov (N ((15))))]).seq ret) ((ops 0 [O 34 (ldn 8 (t 1)), O 35 (call (F 57) [t 34]), O 36 (B2 .gtr (t 35) (N ((8192)))), O 37 (M 36), G 38 37 false (fa 6 (t 1)), G 39 37 false (D 38), G 40 37 false (lenS (t 39)), G 41 37 false (B2 .gtr (t 40) (N ((65536)))), O 42 (pick (t 37) cTru (t 41)), O 33 (M 42)]).seq (C2.cond (t 33) ((ops 0 [O 2 (mov (N ((5))))]).seq ret) ((ops 0 [O 44 (ldn 8 (t 1)), O 45 (call (F 58) [t 44]), O 46 (un UnOp.not (t 45)), O 43 (M 46)]).seq (C2.cond (t 43) ((ops 0 [O 2 (mov (N ((2))))]).seq ret) skip))))))))).seq (((ops 0 [O 47 (fa 6 (t 1)), O 48 (D 47), O 49 (lenS (t 48)), O 50 (mov (N ((0))))]).seq (block 1 ((ops 0 [O 51 (B2 .lss (t 50) (t 49))]).seq ((C2.cond (t 51) skip (exit 1)).seq ((block 2 ((ops 0 [O 52 (M 50), O 53 (ixaS 8 (t 48) (t 50)), O 54 (ldn 8 (t 53)), O 4 (alloc (AV.agg [AV.int IntKind.i64 (0), AV.int IntKind.i64 (0), AV.int IntKind.i64 (0), AV.int IntKind.i64 (0), AV.int IntKind.i64 (0), AV.int IntKind.i64 (0), AV.int IntKind.i64 (0), AV.int IntKind.i64 (0)])), O 3 (M 52), Op2.mk none none (Ins.st 8 (t 4) (t 54))]).seq (((ops 0 [O 55 (ldn 8 (t 1)), O 56 (ldn 8 (t 4)), O 57 (call (F 59) [t 55, t 56]), O 5 (M 57)]).seq ((ops 0 [O 58 (M 5), O 59 (B2 .neq (t 58) (N ((0))))]).seq (C2.cond (t 59) ((ops 0 [O 60 (M 5), O 2 (M 60)]).seq ret) skip))).seq ((mixS 1 [O 61 (M 3), O 62 (B2 .gtr (t 61) (N ((0)))), O 63 (M 62), G 64 63 true (fa 6 (t 1)), G 65 63 true (D 64), G 66 63 true (M 3), G 67 63 true (B2 .sub (t 66) (N ((1)))), G 68 63 true (ixaS 8 (t 65) (t 67)), G 69 63 true (ldn 8 (t 68)), G 70 63 true (ldn 8 (t 4)), G 71 63 true (call (F 60) [t 69, t 70]), G 72 63 true (B2 .geq (t 71) (N ((0)))), O 73 (pick (t 63) (t 72) cFal)] [(0, 0), (1, 0), (2, 0), (3, 0), (4, 0), (5, 0), (6, 0), (7, 0), (8, 0), (9, 0), (10, 2), (11, 0), (12, 0)]).seq (C2.cond (t 73) ((ops 0 [O 2 (mov (N ((14))))]).seq ret) skip))))).seq (ops 0 [O 74 (B2 .add (t 50) (N ((1)))), O 50 (M 74)])))).loop)).seq ((ops 0 [O 2 (mov (N ((0))))]).seq ret)))))
theorem is26 : Is Try.prog 26 b26 := Is.mk' Try.func26 (by kernel_rfl)

def b27 : F2 := (F2.mk 59 [RV.t 4] ((ops 0 [O 2 (box (t 0)), O 3 (box (t 1)), O 4 (mov cFal)]).seq ((ops 0 [O 5 (fa 0 (t 2)), O 6 (D 5), O 7 (fa 0 (t 3)), O 8 (D 7), O 9 (B2 .eql (t 6) (t 8)), O 10 (M 9), G 11 10 true (fa 1 (t 2)), G 12 10 true (D 11), G 13 10 true (fa 1 (t 3)), G 14 10 true (D 13), G 15 10 true (B2 .eql (t 12) (t 14)), O 16 (pick (t 10) (t 15) cFal), O 17 (M 16), G 18 17 true (fa 2 (t 2)), G 19 17 true (D 18), G 20 17 true (fa 2 (t 3)), G 21 17 true (D 20), G 22 17 true (B2 .eql (t 19) (t 21)), O 23 (pick (t 17) (t 22) cFal), O 24 (M 23), G 25 24 true (fa 3 (t 2)), G 26 24 true (D 25), G 27 24 true (fa 3 (t 3)), G 28 24 true (D 27), G 29 24 true (B2 .eql (t 26) (t 28)), O 30 (pick (t 24) (t 29) cFal), O 31 (M 30), G 32 31 true (fa 4 (t 2)), G 33 31 true (D 32), G 34 31 true (fa 4 (t 3)), G 35 31 true (D 34), G 36 31 true (call (F 61) [t 33, t 35]), O 37 (pick (t 31) (t 36) cFal), O 38 (M 37), G 39 38 true (fa 7 (t 2)), G 40 38 true (D 39), G 41 38 true (fa 7 (t 3)), G 42 38 true (D 41), G 43 38 true (call (F 62) [t 40, t 42]), O 44 (pick (t 38) (t 43) cFal), O 45 (M 44), G 46 45 true (fa 5 (t 2)), G 47 45 true (D 46), G 48 45 true (fa 5 (t 3)), G 49 45 true (D 48), G 50 45 true (call (F 63) [t 47, t 49, c (AV.func 62 [])]), O 51 (pick (t 45) (t 50) cFal), O 52 (M 51), G 53 52 true (fa 6 (t 2)), G 54 52 true (D 53), G 55 52 true (fa 6 (t 3)), G 56 52 true (D 55), G 57 52 true (call (F 64) [t 54, t 56]), O 58 (pick (t 52) (t 57) cFal), O 4 (M 58)]).seq ret)))
theorem is27 : Is Try.prog 27 b27 := Is.mk' Try.func27 (by kernel_rfl)

def b28 : F2 := (F2.mk 35 [RV.t 2] ((ops 0 [O 1 (box (t 0)), O 2 (mov (N ((0))))]).seq ((ops 0 [O 3 (mov (N ((0))))]).seq (((ops 0 [O 4 (mov (N ((0))))]).seq (block 0 (((ops 0 [O 6 (M 4), O 7 (fa 7 (t 1)), O 8 (D 7), O 9 (lenS (t 8)), O 10 (B2 .lss (t 6) (t 9))]).seq (C2.cond (t 10) skip (exit 0))).seq ((block 1 ((ops 0 [O 5 (mov (N ((0))))]).seq (block 2 (((ops 0 [O 13 (M 5), O 14 (fa 7 (t 1)), O 15 (D 14), O 16 (M 4), O 17 (ixaS 1 (t 15) (t 16)), O 18 (D 17), O 19 (lenS (t 18)), O 20 (B2 .lss (t 13) (t 19))]).seq (C2.cond (t 20) skip (exit 2))).seq ((block 3 (ops 0 [O 23 (M 3), O 24 (fa 7 (t 1)), O 25 (D 24), O 26 (M 4), O 27 (ixaS 1 (t 25) (t 26)), O 28 (D 27), O 29 (M 5), O 30 (ixaS 1 (t 28) (t 29)), O 31 (D 30), O 32 (lenS (t 31)), O 33 (B2 .add (t 23) (t 32)), O 3 (M 33)])).seq (ops 0 [O 21 (M 5), O 22 (B2 .add (t 21) (N ((1)))), O 5 (M 22)]))).loop))).seq (ops 0 [O 11 (M 4), O 12 (B2 .add (t 11) (N ((1)))), O 4 (M 12)]))).loop)).seq ((ops 0 [O 34 (M 3), O 2 (M 34)]).seq ret)))))
theorem is28 : Is Try.prog 28 b28 := Is.mk' Try.func28 (by kernel_rfl)

def b29 : F2 := (F2.mk 27 [RV.cn 0 8] ((ops 0 [O 0 (alloc (AV.agg [AV.int IntKind.i64 (0), AV.int IntKind.i64 (0), AV.int IntKind.i64 (0), AV.int IntKind.i64 (0), AV.esl, AV.esl, AV.esl, AV.esl]))]).seq ((ops 0 [O 1 (bldS 1 2 [AV.int IntKind.i64 (0)] [(0, 1, c (AV.int IntKind.i64 (0))), (1, 1, c (AV.int IntKind.i64 (-1)))]), O 2 (bldS 1 2 [AV.int IntKind.i64 (0)] [(0, 1, c (AV.int IntKind.i64 (0))), (1, 1, c (AV.int IntKind.i64 (1)))]), O 3 (bldS 1 2 [AV.esl] [(0, 1, t 1), (1, 1, t 2)]), O 4 (bldS 1 1 [AV.int IntKind.i64 (0)] [(0, 1, c (AV.int IntKind.i64 (0)))]), O 5 (bldS 1 2 [AV.esl] [(0, 1, c AV.esl), (1, 1, t 4)]), O 6 (bldS 1 2 [AV.int IntKind.i64 (0)] [(0, 1, c (AV.int IntKind.i64 (0))), (1, 1, c (AV.int IntKind.i64 (0)))]), O 7 (bldS 1 2 [AV.esl] [(0, 1, t 6), (1, 1, c AV.esl)]), O 8 (bldS 1 2 [AV.esl] [(0, 1, t 5), (1, 1, t 7)]), O 9 (bldS 1 1 [AV.esl] [(0, 1, t 8)]), O 10 (call (F 65) [c (AV.int IntKind.i64 (0)), c (AV.int IntKind.i64 (-1))]), O 11 (bld [AV.int IntKind.i64 (0), AV.int IntKind.i64 (0), AV.int IntKind.i64 (0), AV.int IntKind.i64 (0), AV.int IntKind.i64 (0), AV.int IntKind.i64 (0), AV.int IntKind.i64 (0), AV.int IntKind.i64 (0)] [(2, 5, t 10)]), O 12 (call (F 65) [c (AV.int IntKind.i64 (0)), c (AV.int IntKind.i64 (0))]), O 13 (bld [AV.int IntKind.i64 (0), AV.int IntKind.i64 (0), AV.int IntKind.i64 (0), AV.int IntKind.i64 (0), AV.int IntKind.i64 (0), AV.int IntKind.i64 (0), AV.int IntKind.i64 (0), AV.int IntKind.i64 (0)] [(2, 5, t 12)]), O 14 (call (F 65) [c (AV.int IntKind.i64 (0)), c (AV.int IntKind.i64 (0))]), O 15 (bld [AV.int IntKind.i64 (0), AV.int IntKind.i64 (0), AV.int IntKind.i64 (0), AV.int IntKind.i64 (0), AV.int IntKind.i64 (0), AV.int IntKind.i64 (0), AV.int IntKind.i64 (0), AV.int IntKind.i64 (0)] [(1, 1, c (AV.int IntKind.i64 (1))), (2, 5, t 14)]), O 16 (call (F 65) [c (AV.int IntKind.i64 (0)), c (AV.int IntKind.i64 (1))]), O 17 (bld [AV.int IntKind.i64 (0), AV.int IntKind.i64 (0), AV.int IntKind.i64 (0), AV.int IntKind.i64 (0), AV.int IntKind.i64 (0), AV.int IntKind.i64 (0), AV.int IntKind.i64 (0), AV.int IntKind.i64 (0)] [(1, 1, c (AV.int IntKind.i64 (1))), (2, 5, t 16), (7, 1, c (AV.int IntKind.i64 (1)))]), O 18 (bldS 8 4 [AV.int IntKind.i64 (0), AV.int IntKind.i64 (0), AV.int IntKind.i64 (0), AV.int IntKind.i64 (0), AV.int IntKind.i64 (0), AV.int IntKind.i64 (0), AV.int IntKind.i64 (0), AV.int IntKind.i64 (0)] [(0, 8, t 11), (8, 8, t 13), (16, 8, t 15), (24, 8, t 17)]), O 19 (bldS 1 1 [AV.int IntKind.i64 (0)] [(0, 1, c (AV.int IntKind.i64 (-1)))]), O 20 (bldS 1 2 [AV.int IntKind.i64 (0)] [(0, 1, c (AV.int IntKind.i64 (-1))), (1, 1, c (AV.int IntKind.i64 (-1)))]), O 21 (bldS 1 2 [AV.esl] [(0, 1, t 19), (1, 1, t 20)]), O 22 (bldS 1 1 [AV.int IntKind.i64 (0)] [(0, 1, c (AV.int IntKind.i64 (-1)))]), O 23 (bldS 1 2 [AV.int IntKind.i64 (0)] [(0, 1, c (AV.int IntKind.i64 (-1))), (1, 1, c (AV.int IntKind.i64 (1)))]), O 24 (bldS 1 2 [AV.esl] [(0, 1, t 22), (1, 1, t 23)]), O 25 (bldS 1 2 [AV.esl] [(0, 1, t 21), (1, 1, t 24)]), O 26 (bld [AV.int IntKind.i64 (0), AV.int IntKind.i64 (0), AV.int IntKind.i64 (0), AV.int IntKind.i64 (0), AV.esl, AV.esl, AV.esl, AV.esl] [(0, 1, c (AV.int IntKind.i64 (2))), (1, 1, c (AV.int IntKind.i64 (1))), (2, 1, c (AV.int IntKind.i64 (2))), (3, 1, c (AV.int IntKind.i64 (2))), (4, 1, t 3), (5, 1, t 9), (6, 1, t 18), (7, 1, t 25)]), Op2.mk none none (Ins.st 8 (t 0) (t 26))]).seq ret)))
theorem is29 : Is Try.prog 29 b29 := Is.mk' Try.func29 (by kernel_rfl)

def b30 : F2 := (F2.mk 48 [RV.t 4] ((ops 0 [O 2 (box (t 0)), O 3 (box (t 1)), O 4 (mov (N ((0))))]).seq (((ops 0 [O 6 (ldn 8 (t 3)), O 7 (call (F 26) [t 6]), O 5 (M 7)]).seq ((ops 0 [O 8 (M 5), O 9 (B2 .neq (t 8) (N ((0))))]).seq (C2.cond (t 9) ((ops 0 [O 10 (M 5), O 4 (M 10)]).seq ret) skip))).seq ((block 0 (((ops 0 [O 12 (fa 0 (t 2)), O 13 (D 12), O 14 (B2 .lss (t 13) (N ((0)))), O 15 (M 14), G 16 15 false (fa 0 (t 2)), G 17 15 false (D 16), G 18 15 false (fa 1 (t 3)), G 19 15 false (D 18), G 20 15 false (B2 .geq (t 17) (t 19)), O 21 (pick (t 15) cTru (t 20)), O 11 (M 21)]).seq (C2.cond (t 11) skip ((ops 0 [O 22 (fa 1 (t 2)), O 23 (D 22), O 24 (B2 .lss (t 23) (N ((0)))), O 25 (M 24), G 26 25 false (fa 1 (t 2)), G 27 25 false (D 26), G 28 25 false (fa 0 (t 3)), G 29 25 false (D 28), G 30 25 false (B2 .geq (t 27) (t 29)), O 31 (pick (t 25) cTru (t 30)), O 11 (M 31)]).seq (C2.cond (t 11) skip (ops 0 [O 32 (fa 2 (t 2)), O 33 (D 32), O 34 (B2 .lss (t 33) (N ((0)))), O 35 (M 34), G 36 35 false (fa 2 (t 2)), G 37 35 false (D 36), G 38 35 false (fa 0 (t 3)), G 39 35 false (D 38), G 40 35 false (B2 .geq (t 37) (t 39)), O 41 (pick (t 35) cTru (t 40)), O 11 (M 41)]))))).seq (C2.cond (t 11) ((ops 0 [O 4 (mov (N ((2))))]).seq ret) ((ops 0 [O 43 (fa 1 (t 2)), O 44 (D 43), O 45 (fa 2 (t 2)), O 46 (D 45), O 47 (B2 .eql (t 44) (t 46)), O 42 (M 47)]).seq (C2.cond (t 42) ((ops 0 [O 4 (mov (N ((11))))]).seq ret) skip))))).seq ((ops 0 [O 4 (mov (N ((0))))]).seq ret)))))
theorem is30 : Is Try.prog 30 b30 := Is.mk' Try.func30 (by kernel_rfl)

def b31 : F2 := (F2.mk 47 [RV.t 4] ((ops 0 [O 2 (box (t 0)), O 3 (box (t 1)), O 4 (mov (c AV.esl))]).seq ((ops 0 [O 12 (mkm none), O 5 (M 12)]).seq (((ops 0 [O 13 (fa 5 (t 2)), O 14 (D 13), O 15 (lenS (t 14)), O 16 (mov (N ((0))))]).seq (block 0 ((ops 0 [O 17 (B2 .lss (t 16) (t 15))]).seq ((C2.cond (t 17) skip (exit 0)).seq ((block 1 ((ops 0 [O 18 (M 16), O 19 (ixaS 1 (t 14) (t 16)), O 20 (D 19), O 6 (M 18), O 7 (M 20)]).seq ((ops 0 [O 21 (M 7), O 22 (lenS (t 21)), O 23 (mov (N ((0))))]).seq (block 2 ((ops 0 [O 24 (B2 .lss (t 23) (t 22))]).seq ((C2.cond (t 24) skip (exit 2)).seq ((block 3 ((ops 0 [O 25 (M 23), O 26 (ixaS 1 (t 21) (t 23)), O 27 (D 26), O 8 (M 25), O 9 (M 27)]).seq ((ops 0 [O 28 (M 9), O 29 (lenS (t 28)), O 30 (mov (N ((0))))]).seq (block 4 ((ops 0 [O 31 (B2 .lss (t 30) (t 29))]).seq ((C2.cond (t 31) skip (exit 4)).seq ((block 5 ((ops 0 [O 32 (M 30), O 33 (ixaS 1 (t 28) (t 30)), O 34 (D 33), O 10 (M 32), O 11 (M 34)]).seq (ops 0 [O 35 (M 5), O 36 (M 6), O 37 (M 8), O 38 (M 10), O 39 (bld [AV.int IntKind.i64 (0), AV.int IntKind.i64 (0), AV.int IntKind.i64 (0)] [(0, 1, t 36), (1, 1, t 37), (2, 1, t 38)]), O 40 (M 11), Op2.mk none none (mput (MK.st [int, int, int]) (t 35) (t 39) (t 40))]))).seq (ops 0 [O 41 (B2 .add (t 30) (N ((1)))), O 30 (M 41)])))).loop)))).seq (ops 0 [O 42 (B2 .add (t 23) (N ((1)))), O 23 (M 42)])))).loop)))).seq (ops 0 [O 43 (B2 .add (t 16) (N ((1)))), O 16 (M 43)])))).loop)).seq ((ops 0 [O 44 (M 5), O 45 (ldn 3 (t 3)), O 46 (Ins.mget (MK.st [int, int, int]) AV.esl false (t 44) (t 45)), O 4 (M 46)]).seq ret)))))
theorem is31 : Is Try.prog 31 b31 := Is.mk' Try.func31 (by kernel_rfl)

def b32 : F2 := (F2.mk 29 [RV.t 4] ((ops 0 [O 2 (box (t 0)), O 4 (mov (c (AV.str (ByteArray.mk (Array.mk [])))))]).seq ((ops 0 [O 8 (fa 0 (t 2)), O 9 (D 8), O 10 (conv IntKind.u8 (t 9)), O 11 (fa 1 (t 2)), O 12 (D 11), O 13 (conv IntKind.u8 (t 12)), O 14 (fa 2 (t 2)), O 15 (D 14), O 16 (conv IntKind.u8 (t 15)), O 17 (bldS 1 3 [AV.int IntKind.u8 (0)] [(0, 1, t 10), (1, 1, t 13), (2, 1, t 16)]), O 18 (b2s (t 17)), O 19 (call (F 66) [t 18]), O 7 (M 19), O 20 (ext (t 7) 0), O 21 (ext (t 7) 1), O 5 (M 20), O 6 (M 21)]).seq ((ops 0 [O 22 (M 5), O 23 (M 1), O 24 (bldS 1 1 [AV.int IntKind.i64 (0)] [(0, 1, t 23)]), O 25 (call (t 22) [c (AV.int IntKind.i64 (0)), t 24])]).seq ((ops 0 [O 26 (M 6), O 27 (call (t 26) []), O 28 (call (F 67) [t 27]), O 4 (M 28)]).seq ret)))))
theorem is32 : Is Try.prog 32 b32 := Is.mk' Try.func32 (by kernel_rfl)

def b33 : F2 := (F2.mk 48 [RV.t 8] ((ops 0 [O 4 (box (t 0)), O 8 (mov (N ((0))))]).seq (((ops 0 [O 10 (ldn 8 (t 4)), O 11 (call (F 43) [t 10]), O 9 (M 11)]).seq ((ops 0 [O 12 (M 9), O 13 (B2 .neq (t 12) (N ((0))))]).seq (C2.cond (t 13) ((ops 0 [O 14 (M 9), O 8 (M 14)]).seq ret) skip))).seq ((block 0 ((ops 0 [O 16 (M 1), O 17 (B2 .lss (t 16) (N ((0)))), O 18 (M 17), G 19 18 false (M 1), G 20 18 false (fa 1 (t 4)), G 21 18 false (D 20), G 22 18 false (B2 .geq (t 19) (t 21)), O 23 (pick (t 18) cTru (t 22)), O 24 (M 23), G 25 24 false (M 2), G 26 24 false (B2 .lss (t 25) (N ((0)))), O 27 (pick (t 24) cTru (t 26)), O 28 (M 27), G 29 28 false (M 2), G 30 28 false (fa 0 (t 4)), G 31 28 false (D 30), G 32 28 false (B2 .geq (t 29) (t 31)), O 33 (pick (t 28) cTru (t 32)), O 34 (M 33), G 35 34 false (M 3), G 36 34 false (B2 .lss (t 35) (N ((0)))), O 37 (pick (t 34) cTru (t 36)), O 38 (M 37), G 39 38 false (M 3), G 40 38 false (fa 0 (t 4)), G 41 38 false (D 40), G 42 38 false (B2 .geq (t 39) (t 41)), O 43 (pick (t 38) cTru (t 42)), O 15 (M 43)]).seq (C2.cond (t 15) ((ops 0 [O 8 (mov (N ((2))))]).seq ret) ((ops 0 [O 45 (M 2), O 46 (M 3), O 47 (B2 .eql (t 45) (t 46)), O 44 (M 47)]).seq (C2.cond (t 44) ((ops 0 [O 8 (mov (N ((11))))]).seq ret) skip))))).seq ((ops 0 [O 8 (mov (N ((0))))]).seq ret)))))
theorem is33 : Is Try.prog 33 b33 := Is.mk' Try.func33 (by kernel_rfl)

def b34 : F2 := (F2.mk 21 [RV.t 8] ((ops 0 [O 8 (mov (c (AV.str (ByteArray.mk (Array.mk [])))))]).seq ((ops 0 [O 9 (M 0), O 10 (call (F 41) [t 9]), O 11 (M 1), O 12 (call (F 41) [t 11]), O 13 (B2 .add (t 10) (t 12)), O 14 (M 2), O 15 (call (F 41) [t 14]), O 16 (B2 .add (t 13) (t 15)), O 17 (M 3), O 18 (call (F 68) [t 17]), O 19 (B2 .add (t 16) (t 18)), O 20 (call (F 44) [t 19]), O 8 (M 20)]).seq ret)))
theorem is34 : Is Try.prog 34 b34 := Is.mk' Try.func34 (by kernel_rfl)

def b35 : F2 := (F2.mk 31 [RV.t 2, RV.t 3] ((ops 0 [O 2 (mov (c (AV.str (ByteArray.mk (Array.mk []))))), O 3 (mov (N ((0))))]).seq ((ops 0 [O 5 (M 0), O 6 (lenStr (t 5)), O 7 (B2 .sub (t 6) (N ((2)))), O 4 (M 7)]).seq (((mix 1 [O 8 (M 4), O 9 (B2 .lss (t 8) (N ((4)))), O 10 (M 9), G 11 10 false (M 0), G 12 10 false (M 4), G 13 10 false (slstr (t 11) none (some (t 12))), G 14 10 false (call (F 24) [t 13]), G 15 10 false (M 0), G 16 10 false (M 4), G 17 10 false (ixStr (t 15) (t 16)), G 18 10 false (conv IntKind.i64 (t 17)), G 19 10 false (B2 .shl (t 18) (c (AV.int IntKind.u64 (8)))), G 20 10 false (M 0), G 21 10 false (M 4), G 22 10 false (B2 .add (t 21) (N ((1)))), G 23 10 false (ixStr (t 20) (t 22)), G 24 10 false (conv IntKind.i64 (t 23)), G 25 10 false (B2 .or (t 19) (t 24)), G 26 10 false (B2 .neq (t 14) (t 25)), O 27 (pick (t 10) cTru (t 26))] [0, 1, 2, 3, 4, 5, 7, 8, 9, 10, 11, 12, 13, 14, 15, 16, 17, 6, 18, 19]).seq (C2.cond (t 27) ((ops 0 [O 2 (mov (c (AV.str (ByteArray.mk (Array.mk []))))), O 3 (mov (N ((24))))]).seq ret) skip)).seq ((ops 0 [O 28 (M 0), O 29 (M 4), O 30 (slstr (t 28) none (some (t 29))), O 2 (M 30), O 3 (mov (N ((0))))]).seq ret)))))
theorem is35 : Is Try.prog 35 b35 := Is.mk' Try.func35 (by kernel_rfl)

def b36 : F2 := (F2.mk 63 [RV.t 2] ((ops 0 [O 2 (mov (N ((0))))]).seq ((ops 0 [O 3 (mov (N ((0))))]).seq (((ops 0 [O 4 (mov (N ((0))))]).seq (block 0 (((ops 0 [O 6 (M 4), O 7 (B2 .lss (t 6) (N ((4)))), O 8 (M 7), G 9 8 true (M 4), G 10 8 true (M 0), G 11 8 true (nilck (t 10)), G 12 8 true (fa 0 (t 11)), G 13 8 true (D 12), G 14 8 true (lenS (t 13)), G 15 8 true (B2 .lss (t 9) (t 14)), O 16 (pick (t 8) (t 15) cFal), O 17 (M 16), G 18 17 true (M 0), G 19 17 true (nilck (t 18)), G 20 17 true (fa 1 (t 19)), G 21 17 true (D 20), G 22 17 true (un UnOp.not (t 21)), O 23 (pick (t 17) (t 22) cFal)]).seq (C2.cond (t 23) skip (exit 0))).seq ((block 1 ((ops 0 [O 26 (M 0), O 27 (nilck (t 26)), O 28 (fa 0 (t 27)), O 29 (D 28), O 30 (M 4), O 31 (ixaS 1 (t 29) (t 30)), O 32 (D 31), O 5 (M 32)]).seq ((ops 0 [O 33 (M 3), O 34 (M 5), O 35 (B2 .and (t 34) (c (AV.int IntKind.u8 (127)))), O 36 (conv IntKind.i64 (t 35)), O 37 (M 4), O 38 (B2 .mul (N ((7))) (t 37)), O 39 (B2 .shl (t 36) (t 38)), O 40 (B2 .or (t 33) (t 39)), O 3 (M 40)]).seq ((ops 0 [O 41 (M 5), O 42 (B2 .lss (t 41) (c (AV.int IntKind.u8 (128))))]).seq (C2.cond (t 42) (((ops 0 [O 43 (M 4), O 44 (B2 .gtr (t 43) (N ((0)))), O 45 (M 44), G 46 45 true (M 5), G 47 45 true (B2 .eql (t 46) (c (AV.int IntKind.u8 (0)))), O 48 (pick (t 45) (t 47) cFal)]).seq (C2.cond (t 48) (exit 0) skip)).seq ((ops 0 [O 49 (M 0), O 50 (M 0), O 51 (nilck (t 50)), O 52 (fa 0 (t 51)), O 53 (D 52), O 54 (M 4), O 55 (B2 .add (t 54) (N ((1)))), O 56 (sls 1 (t 53) (some (t 55)) none none), O 57 (nilck (t 49)), O 58 (fa 0 (t 57)), Op2.mk none none (Ins.st 1 (t 58) (t 56))]).seq ((ops 0 [O 59 (M 3), O 2 (M 59)]).seq ret))) skip))))).seq (ops 0 [O 24 (M 4), O 25 (B2 .add (t 24) (N ((1)))), O 4 (M 25)]))).loop)).seq ((ops 0 [O 60 (M 0), O 61 (nilck (t 60)), O 62 (fa 1 (t 61)), Op2.mk none none (Ins.st 1 (t 62) cTru)]).seq ((ops 0 [O 2 (mov (N ((0))))]).seq ret))))))
theorem is36 : Is Try.prog 36 b36 := Is.mk' Try.func36 (by kernel_rfl)

def b37 : F2 := (F2.mk 10 [RV.t 4] ((ops 0 [O 4 (mov cFal)]).seq ((ops 0 [O 5 (M 0), O 6 (b2s (t 5)), O 7 (M 1), O 8 (b2s (t 7)), O 9 (B2 .eql (t 6) (t 8)), O 4 (M 9)]).seq ret)))
theorem is37 : Is Try.prog 37 b37 := Is.mk' Try.func37 (by kernel_rfl)

def b38 : F2 := (F2.mk 9 [RV.t 4] ((ops 0 [O 4 (mov cFal)]).seq ((ops 0 [O 5 (M 0), O 6 (M 1), O 7 (call (F 69) [t 5, t 6]), O 8 (B2 .geq (t 7) (N ((0)))), O 4 (M 8)]).seq ret)))
theorem is38 : Is Try.prog 38 b38 := Is.mk' Try.func38 (by kernel_rfl)

def b39 : F2 := (F2.mk 16 [RV.t 2] ((ops 0 [O 2 (mov cFal)]).seq ((ops 0 [O 3 (M 0), O 4 (lenStr (t 3)), O 5 (B2 .geq (t 4) (N ((6)))), O 6 (M 5), G 7 6 true (M 0), G 8 6 true (M 0), G 9 6 true (lenStr (t 8)), G 10 6 true (B2 .sub (t 9) (N ((2)))), G 11 6 true (slstr (t 7) none (some (t 10))), G 12 6 true (call (F 44) [t 11]), G 13 6 true (M 0), G 14 6 true (B2 .eql (t 12) (t 13)), O 15 (pick (t 6) (t 14) cFal), O 2 (M 15)]).seq ret)))
theorem is39 : Is Try.prog 39 b39 := Is.mk' Try.func39 (by kernel_rfl)

def b40 : F2 := (F2.mk 81 [RV.t 2] ((ops 0 [O 2 (mov (N ((0))))]).seq ((ops 0 [O 3 (mov (N ((0)))), O 4 (mov (N ((1))))]).seq (((ops 0 [O 5 (mov (N ((0))))]).seq (block 0 (((ops 1 [O 7 (M 5), O 8 (B2 .lss (t 7) (N ((4)))), O 9 (M 8), G 10 9 true (M 0), G 11 9 true (nilck (t 10)), G 12 9 true (fa 1 (t 11)), G 13 9 true (D 12), G 14 9 true (M 0), G 15 9 true (nilck (t 14)), G 16 9 true (fa 0 (t 15)), G 17 9 true (D 16), G 18 9 true (lenStr (t 17)), G 19 9 true (B2 .lss (t 13) (t 18)), O 20 (pick (t 9) (t 19) cFal), O 21 (M 20), G 22 21 true (M 0), G 23 21 true (nilck (t 22)), G 24 21 true (fa 2 (t 23)), G 25 21 true (D 24), G 26 21 true (un UnOp.not (t 25)), O 27 (pick (t 21) (t 26) cFal)]).seq (C2.cond (t 27) skip (exit 0))).seq ((block 1 ((ops 1 [O 30 (M 0), O 31 (nilck (t 30)), O 32 (fa 0 (t 31)), O 33 (D 32), O 34 (M 0), O 35 (nilck (t 34)), O 36 (fa 1 (t 35)), O 37 (D 36), O 38 (ixStr (t 33) (t 37)), O 39 (conv IntKind.i64 (t 38)), O 6 (M 39)]).seq ((ops 0 [O 40 (M 0), O 41 (nilck (t 40)), O 42 (fa 1 (t 41)), O 43 (D 42), O 44 (B2 .add (t 43) (N ((1)))), O 45 (nilck (t 40)), O 46 (fa 1 (t 45)), Op2.mk none none (Ins.st 1 (t 46) (t 44))]).seq (((ops 0 [O 47 (M 6), O 48 (B2 .lss (t 47) (N ((128))))]).seq (C2.cond (t 48) ((ops 0 [O 49 (M 3), O 50 (M 6), O 51 (M 4), O 52 (B2 .mul (t 50) (t 51)), O 53 (B2 .add (t 49) (t 52)), O 3 (M 53)]).seq ((ops 0 [O 54 (M 0), O 55 (M 0), O 56 (nilck (t 55)), O 57 (fa 2 (t 56)), O 58 (D 57), O 59 (M 58), G 60 59 false (M 5), G 61 59 false (B2 .gtr (t 60) (N ((0)))), G 62 59 false (M 61), G 63 62 true (M 6), G 64 62 true (B2 .eql (t 63) (N ((0)))), G 65 59 false (pick (t 62) (t 64) cFal), O 66 (pick (t 59) cTru (t 65)), O 67 (nilck (t 54)), O 68 (fa 2 (t 67)), Op2.mk none none (Ins.st 1 (t 68) (t 66))]).seq ((ops 0 [O 69 (M 3), O 2 (M 69)]).seq ret))) skip)).seq (ops 0 [O 70 (M 3), O 71 (M 6), O 72 (B2 .sub (t 71) (N ((128)))), O 73 (M 4), O 74 (B2 .mul (t 72) (t 73)), O 75 (B2 .add (t 70) (t 74)), O 76 (M 4), O 77 (B2 .mul (t 76) (N ((128)))), O 3 (M 75), O 4 (M 77)]))))).seq (ops 0 [O 28 (M 5), O 29 (B2 .add (t 28) (N ((1)))), O 5 (M 29)]))).loop)).seq ((ops 0 [O 78 (M 0), O 79 (nilck (t 78)), O 80 (fa 2 (t 79)), Op2.mk none none (Ins.st 1 (t 80) cTru)]).seq ((ops 0 [O 2 (mov (N ((0))))]).seq ret))))))
theorem is40 : Is Try.prog 40 b40 := Is.mk' Try.func40 (by kernel_rfl)

def b41 : F2 := (F2.mk 7 [RV.t 2] ((ops 0 [O 2 (mov (c (AV.str (ByteArray.mk (Array.mk [])))))]).seq ((ops 0 [O 3 (M 0), O 4 (conv IntKind.u8 (t 3)), O 5 (bldS 1 1 [AV.int IntKind.u8 (0)] [(0, 1, t 4)]), O 6 (b2s (t 5)), O 2 (M 6)]).seq ret)))
theorem is41 : Is Try.prog 41 b41 := Is.mk' Try.func41 (by kernel_rfl)

def b42 : F2 := (F2.mk 128 [RV.t 2] ((ops 0 [O 1 (box (t 0)), O 2 (mov (c (AV.str (ByteArray.mk (Array.mk [])))))]).seq ((ops 0 [O 20 (call (F 66) [c (AV.str (ByteArray.mk (Array.mk [82, 84, 77, 1])))]), O 19 (M 20), O 21 (ext (t 19) 0), O 22 (ext (t 19) 1), O 3 (M 21), O 4 (M 22)]).seq ((ops 0 [O 23 (M 3), O 24 (fa 0 (t 1)), O 25 (D 24), O 26 (fa 1 (t 1)), O 27 (D 26), O 28 (fa 2 (t 1)), O 29 (D 28), O 30 (fa 3 (t 1)), O 31 (D 30), O 32 (bldS 1 4 [AV.int IntKind.i64 (0)] [(0, 1, t 25), (1, 1, t 27), (2, 1, t 29), (3, 1, t 31)]), O 33 (call (t 23) [c (AV.int IntKind.i64 (0)), t 32])]).seq (((ops 0 [O 34 (fa 4 (t 1)), O 35 (D 34), O 36 (lenS (t 35)), O 37 (mov (N ((0))))]).seq (block 0 ((ops 0 [O 38 (B2 .lss (t 37) (t 36))]).seq ((C2.cond (t 38) skip (exit 0)).seq ((block 1 ((ops 0 [O 39 (ixaS 1 (t 35) (t 37)), O 40 (D 39), O 6 (M 40)]).seq (ops 0 [O 41 (M 3), O 42 (M 6), O 43 (call (t 41) [c (AV.int IntKind.i64 (1)), t 42])]))).seq (ops 0 [O 44 (B2 .add (t 37) (N ((1)))), O 37 (M 44)])))).loop)).seq (((ops 0 [O 45 (fa 7 (t 1)), O 46 (D 45), O 47 (lenS (t 46)), O 48 (mov (N ((0))))]).seq (block 2 ((ops 0 [O 49 (B2 .lss (t 48) (t 47))]).seq ((C2.cond (t 49) skip (exit 2)).seq ((block 3 ((ops 0 [O 50 (ixaS 1 (t 46) (t 48)), O 51 (D 50), O 8 (M 51)]).seq ((ops 0 [O 52 (M 8), O 53 (lenS (t 52)), O 54 (mov (N ((0))))]).seq (block 4 ((ops 0 [O 55 (B2 .lss (t 54) (t 53))]).seq ((C2.cond (t 55) skip (exit 4)).seq ((block 5 ((ops 0 [O 56 (ixaS 1 (t 52) (t 54)), O 57 (D 56), O 10 (M 57)]).seq ((ops 0 [O 58 (M 3), O 59 (M 10), O 60 (lenS (t 59)), O 61 (bldS 1 1 [AV.int IntKind.i64 (0)] [(0, 1, t 60)]), O 62 (call (t 58) [c (AV.int IntKind.i64 (0)), t 61])]).seq (ops 0 [O 63 (M 3), O 64 (M 10), O 65 (call (t 63) [c (AV.int IntKind.i64 (1)), t 64])])))).seq (ops 0 [O 66 (B2 .add (t 54) (N ((1)))), O 54 (M 66)])))).loop)))).seq (ops 0 [O 67 (B2 .add (t 48) (N ((1)))), O 48 (M 67)])))).loop)).seq (((ops 0 [O 68 (fa 5 (t 1)), O 69 (D 68), O 70 (lenS (t 69)), O 71 (mov (N ((0))))]).seq (block 6 ((ops 0 [O 72 (B2 .lss (t 71) (t 70))]).seq ((C2.cond (t 72) skip (exit 6)).seq ((block 7 ((ops 0 [O 73 (ixaS 1 (t 69) (t 71)), O 74 (D 73), O 12 (M 74)]).seq ((ops 0 [O 75 (M 12), O 76 (lenS (t 75)), O 77 (mov (N ((0))))]).seq (block 8 ((ops 0 [O 78 (B2 .lss (t 77) (t 76))]).seq ((C2.cond (t 78) skip (exit 8)).seq ((block 9 ((ops 0 [O 79 (ixaS 1 (t 75) (t 77)), O 80 (D 79), O 14 (M 80)]).seq ((ops 0 [O 81 (M 14), O 82 (lenS (t 81)), O 83 (mov (N ((0))))]).seq (block 10 ((ops 0 [O 84 (B2 .lss (t 83) (t 82))]).seq ((C2.cond (t 84) skip (exit 10)).seq ((block 11 ((ops 0 [O 85 (ixaS 1 (t 81) (t 83)), O 86 (D 85), O 16 (M 86)]).seq (ops 0 [O 87 (M 3), O 88 (M 16), O 89 (call (t 87) [c (AV.int IntKind.i64 (0)), t 88])]))).seq (ops 0 [O 90 (B2 .add (t 83) (N ((1)))), O 83 (M 90)])))).loop)))).seq (ops 0 [O 91 (B2 .add (t 77) (N ((1)))), O 77 (M 91)])))).loop)))).seq (ops 0 [O 92 (B2 .add (t 71) (N ((1)))), O 71 (M 92)])))).loop)).seq ((ops 0 [O 93 (M 3), O 94 (fa 6 (t 1)), O 95 (D 94), O 96 (lenS (t 95)), O 97 (bldS 1 1 [AV.int IntKind.i64 (0)] [(0, 1, t 96)]), O 98 (call (t 93) [c (AV.int IntKind.i64 (0)), t 97])]).seq (((ops 0 [O 99 (fa 6 (t 1)), O 100 (D 99), O 101 (lenS (t 100)), O 102 (mov (N ((0))))]).seq (block 12 ((ops 0 [O 103 (B2 .lss (t 102) (t 101))]).seq ((C2.cond (t 103) skip (exit 12)).seq ((block 13 ((ops 0 [O 104 (ixaS 8 (t 100) (t 102)), O 105 (ldn 8 (t 104)), O 18 (alloc (AV.agg [AV.int IntKind.i64 (0), AV.int IntKind.i64 (0), AV.int IntKind.i64 (0), AV.int IntKind.i64 (0), AV.int IntKind.i64 (0), AV.int IntKind.i64 (0), AV.int IntKind.i64 (0), AV.int IntKind.i64 (0)])), Op2.mk none none (Ins.st 8 (t 18) (t 105))]).seq ((ops 0 [O 106 (M 3), O 107 (fa 0 (t 18)), O 108 (D 107), O 109 (fa 1 (t 18)), O 110 (D 109), O 111 (bldS 1 2 [AV.int IntKind.i64 (0)] [(0, 1, t 108), (1, 1, t 110)]), O 112 (call (t 106) [c (AV.int IntKind.i64 (0)), t 111])]).seq ((ops 0 [O 113 (M 3), O 114 (fa 2 (t 18)), O 115 (fa 0 (t 1)), O 116 (D 115), O 117 (slsA 5 (t 114) none (some (t 116))), O 118 (call (t 113) [c (AV.int IntKind.i64 (1)), t 117])]).seq (ops 0 [O 119 (M 3), O 120 (fa 7 (t 18)), O 121 (D 120), O 122 (bldS 1 1 [AV.int IntKind.i64 (0)] [(0, 1, t 121)]), O 123 (call (t 119) [c (AV.int IntKind.i64 (0)), t 122])]))))).seq (ops 0 [O 124 (B2 .add (t 102) (N ((1)))), O 102 (M 124)])))).loop)).seq ((ops 0 [O 125 (M 4), O 126 (call (t 125) []), O 127 (call (F 67) [t 126]), O 2 (M 127)]).seq ret))))))))))
theorem is42 : Is Try.prog 42 b42 := Is.mk' Try.func42 (by kernel_rfl)

def b43 : F2 := (F2.mk 80 [RV.t 2] ((ops 0 [O 1 (box (t 0)), O 2 (mov (N ((0))))]).seq ((block 0 ((ops 0 [O 6 (fa 0 (t 1)), O 7 (D 6), O 8 (call (F 70) [t 7, c (AV.int IntKind.i64 (1)), c (AV.int IntKind.i64 (5))]), O 9 (un UnOp.not (t 8)), O 10 (M 9), G 11 10 false (fa 1 (t 1)), G 12 10 false (D 11), G 13 10 false (call (F 70) [t 12, c (AV.int IntKind.i64 (0)), c (AV.int IntKind.i64 (6))]), G 14 10 false (un UnOp.not (t 13)), O 15 (pick (t 10) cTru (t 14)), O 16 (M 15), G 17 16 false (fa 2 (t 1)), G 18 16 false (D 17), G 19 16 false (call (F 70) [t 18, c (AV.int IntKind.i64 (1)), c (AV.int IntKind.i64 (8))]), G 20 16 false (un UnOp.not (t 19)), O 21 (pick (t 16) cTru (t 20)), O 22 (M 21), G 23 22 false (fa 3 (t 1)), G 24 22 false (D 23), G 25 22 false (call (F 70) [t 24, c (AV.int IntKind.i64 (1)), c (AV.int IntKind.i64 (8))]), G 26 22 false (un UnOp.not (t 25)), O 27 (pick (t 22) cTru (t 26)), O 5 (M 27)]).seq (C2.cond (t 5) ((ops 0 [O 2 (mov (N ((2))))]).seq ret) ((ops 0 [O 29 (ldn 8 (t 1)), O 30 (call (F 71) [t 29]), O 31 (un UnOp.not (t 30)), O 28 (M 31)]).seq (C2.cond (t 28) ((ops 0 [O 2 (mov (N ((15))))]).seq ret) ((ops 0 [O 33 (ldn 8 (t 1)), O 34 (call (F 28) [t 33]), O 35 (B2 .gtr (t 34) (N ((8192)))), O 36 (M 35), G 37 36 false (fa 6 (t 1)), G 38 36 false (D 37), G 39 36 false (lenS (t 38)), G 40 36 false (B2 .gtr (t 39) (N ((65536)))), O 41 (pick (t 36) cTru (t 40)), O 32 (M 41)]).seq (C2.cond (t 32) ((ops 0 [O 2 (mov (N ((5))))]).seq ret) ((ops 0 [O 43 (ldn 8 (t 1)), O 44 (call (F 72) [t 43]), O 45 (un UnOp.not (t 44)), O 42 (M 45)]).seq (C2.cond (t 42) ((ops 0 [O 2 (mov (N ((2))))]).seq ret) skip))))))))).seq (((ops 0 [O 3 (mov (N ((0))))]).seq (block 1 (((ops 0 [O 46 (M 3), O 47 (fa 6 (t 1)), O 48 (D 47), O 49 (lenS (t 48)), O 50 (B2 .lss (t 46) (t 49))]).seq (C2.cond (t 50) skip (exit 1))).seq ((block 2 (((mixS 1 [O 53 (ldn 8 (t 1)), O 54 (fa 6 (t 1)), O 55 (D 54), O 56 (M 3), O 57 (ixaS 8 (t 55) (t 56)), O 58 (ldn 8 (t 57)), O 59 (call (F 73) [t 53, t 58]), O 4 (M 59)] [(0, 0), (1, 0), (2, 0), (3, 0), (4, 0), (5, 0), (6, 2), (7, 0)]).seq ((ops 0 [O 60 (M 4), O 61 (B2 .neq (t 60) (N ((0))))]).seq (C2.cond (t 61) ((ops 0 [O 62 (M 4), O 2 (M 62)]).seq ret) skip))).seq ((mixS 1 [O 63 (M 3), O 64 (B2 .gtr (t 63) (N ((0)))), O 65 (M 64), G 66 65 true (fa 6 (t 1)), G 67 65 true (D 66), G 68 65 true (M 3), G 69 65 true (B2 .sub (t 68) (N ((1)))), G 70 65 true (ixaS 8 (t 67) (t 69)), G 71 65 true (ldn 8 (t 70)), G 72 65 true (fa 6 (t 1)), G 73 65 true (D 72), G 74 65 true (M 3), G 75 65 true (ixaS 8 (t 73) (t 74)), G 76 65 true (ldn 8 (t 75)), G 77 65 true (call (F 74) [t 71, t 76]), G 78 65 true (B2 .geq (t 77) (N ((0)))), O 79 (pick (t 65) (t 78) cFal)] [(0, 0), (1, 0), (2, 0), (3, 0), (4, 0), (5, 0), (6, 0), (7, 0), (8, 0), (9, 0), (10, 0), (11, 0), (12, 0), (13, 0), (14, 2), (15, 0), (16, 0)]).seq (C2.cond (t 79) ((ops 0 [O 2 (mov (N ((14))))]).seq ret) skip)))).seq (ops 0 [O 51 (M 3), O 52 (B2 .add (t 51) (N ((1)))), O 3 (M 52)]))).loop)).seq ((ops 0 [O 2 (mov (N ((0))))]).seq ret)))))
theorem is43 : Is Try.prog 43 b43 := Is.mk' Try.func43 (by kernel_rfl)

def b44 : F2 := (F2.mk 15 [RV.t 2] ((ops 0 [O 2 (mov (c (AV.str (ByteArray.mk (Array.mk [])))))]).seq ((ops 0 [O 4 (M 0), O 5 (call (F 75) [t 4]), O 3 (M 5)]).seq ((ops 0 [O 6 (M 0), O 7 (M 3), O 8 (B2 .quo (t 7) (N ((256)))), O 9 (call (F 41) [t 8]), O 10 (B2 .add (t 6) (t 9)), O 11 (M 3), O 12 (B2 .rem (t 11) (N ((256)))), O 13 (call (F 41) [t 12]), O 14 (B2 .add (t 10) (t 13)), O 2 (M 14)]).seq ret))))
theorem is44 : Is Try.prog 44 b44 := Is.mk' Try.func44 (by kernel_rfl)

def b48 : F2 := (F2.mk 182 [] (((ops 0 [O 13 (M 1), O 14 (nilck (t 13)), O 15 (fa 0 (t 14)), O 16 (D 15), O 17 (mov (N ((0))))]).seq (block 0 ((ops 0 [O 18 (B2 .lss (t 17) (t 16))]).seq ((C2.cond (t 18) skip (exit 0)).seq ((block 1 (mixS 1 [O 19 (M 1), O 20 (M 1), O 21 (nilck (t 20)), O 22 (fa 4 (t 21)), O 23 (D 22), O 24 (M 0), O 25 (M 1), O 26 (nilck (t 25)), O 27 (fa 2 (t 26)), O 28 (D 27), O 29 (M 0), O 30 (mkbf 78 [t 29]), O 31 (call (F 77) [t 24, t 28, t 30]), O 32 (bldS 1 1 [AV.esl] [(0, 1, t 31)]), O 33 (app 1 24 (t 23) (t 32)), O 34 (nilck (t 19)), O 35 (fa 4 (t 34)), Op2.mk none none (Ins.st 1 (t 35) (t 33))] [(0, 0), (1, 0), (2, 0), (3, 0), (4, 0), (5, 0), (6, 0), (7, 0), (8, 0), (9, 0), (10, 0), (11, 0), (12, 1), (13, 1), (14, 2), (15, 0), (16, 0), (17, 2)])).seq (ops 0 [O 36 (B2 .add (t 17) (N ((1)))), O 17 (M 36)])))).loop)).seq (((ops 0 [O 37 (M 1), O 38 (nilck (t 37)), O 39 (fa 1 (t 38)), O 40 (D 39), O 41 (B2 .add (t 40) (N ((1)))), O 42 (mov (N ((0))))]).seq (block 2 ((ops 0 [O 43 (B2 .lss (t 42) (t 41))]).seq ((C2.cond (t 43) skip (exit 2)).seq ((block 3 ((ops 0 [O 4 (mov (c AV.esl))]).seq (((ops 0 [O 44 (M 1), O 45 (nilck (t 44)), O 46 (fa 0 (t 45)), O 47 (D 46), O 48 (mov (N ((0))))]).seq (block 4 ((ops 0 [O 49 (B2 .lss (t 48) (t 47))]).seq ((C2.cond (t 49) skip (exit 4)).seq ((block 5 (ops 0 [O 50 (M 4), O 51 (M 0), O 52 (M 0), O 53 (call (F 36) [t 52]), O 54 (M 0), O 55 (mkbf 78 [t 54]), O 56 (call (F 77) [t 51, t 53, t 55]), O 57 (bldS 1 1 [AV.esl] [(0, 1, t 56)]), O 58 (app 1 24 (t 50) (t 57)), O 4 (M 58)])).seq (ops 0 [O 59 (B2 .add (t 48) (N ((1)))), O 48 (M 59)])))).loop)).seq (ops 0 [O 60 (M 1), O 61 (M 1), O 62 (nilck (t 61)), O 63 (fa 7 (t 62)), O 64 (D 63), O 65 (M 4), O 66 (bldS 1 1 [AV.esl] [(0, 1, t 65)]), O 67 (app 1 24 (t 64) (t 66)), O 68 (nilck (t 60)), O 69 (fa 7 (t 68)), Op2.mk none none (Ins.st 1 (t 69) (t 67))])))).seq (ops 0 [O 70 (B2 .add (t 42) (N ((1)))), O 42 (M 70)])))).loop)).seq (((ops 0 [O 71 (M 1), O 72 (nilck (t 71)), O 73 (fa 1 (t 72)), O 74 (D 73), O 75 (mov (N ((0))))]).seq (block 6 ((ops 0 [O 76 (B2 .lss (t 75) (t 74))]).seq ((C2.cond (t 76) skip (exit 6)).seq ((block 7 ((ops 0 [O 77 (M 75), O 5 (M 77)]).seq ((ops 0 [O 6 (mov (c AV.esl))]).seq (((ops 0 [O 78 (M 1), O 79 (nilck (t 78)), O 80 (fa 0 (t 79)), O 81 (D 80), O 82 (mov (N ((0))))]).seq (block 8 ((ops 0 [O 83 (B2 .lss (t 82) (t 81))]).seq ((C2.cond (t 83) skip (exit 8)).seq ((block 9 ((ops 0 [O 84 (M 82), O 7 (M 84)]).seq ((ops 0 [O 85 (M 1), O 86 (nilck (t 85)), O 87 (fa 0 (t 86)), O 88 (D 87), O 89 (mks 1 24 [AV.esl] (t 88) (t 88)), O 8 (M 89)]).seq (((ops 0 [O 90 (M 8), O 91 (lenS (t 90)), O 92 (mov (N ((0))))]).seq (block 10 ((ops 0 [O 93 (B2 .lss (t 92) (t 91))]).seq ((C2.cond (t 93) skip (exit 10)).seq ((block 11 ((ops 0 [O 94 (M 92), O 9 (M 94)]).seq ((ops 0 [O 95 (M 7), O 96 (M 9), O 97 (B2 .neq (t 95) (t 96))]).seq (C2.cond (t 97) (ops 0 [O 98 (M 8), O 99 (M 9), O 100 (M 0), O 101 (M 1), O 102 (nilck (t 101)), O 103 (fa 7 (t 102)), O 104 (D 103), O 105 (M 5), O 106 (ixaS 1 (t 104) (t 105)), O 107 (D 106), O 108 (M 7), O 109 (ixaS 1 (t 107) (t 108)), O 110 (D 109), O 111 (lenS (t 110)), O 112 (M 0), O 113 (mkbf 36 [t 112]), O 114 (call (F 77) [t 100, t 111, t 113]), O 115 (ixaS 1 (t 98) (t 99)), Op2.mk none none (Ins.st 1 (t 115) (t 114))]) skip)))).seq (ops 0 [O 116 (B2 .add (t 92) (N ((1)))), O 92 (M 116)])))).loop)).seq (ops 0 [O 117 (M 6), O 118 (M 8), O 119 (bldS 1 1 [AV.esl] [(0, 1, t 118)]), O 120 (app 1 24 (t 117) (t 119)), O 6 (M 120)]))))).seq (ops 0 [O 121 (B2 .add (t 82) (N ((1)))), O 82 (M 121)])))).loop)).seq (ops 0 [O 122 (M 1), O 123 (M 1), O 124 (nilck (t 123)), O 125 (fa 5 (t 124)), O 126 (D 125), O 127 (M 6), O 128 (bldS 1 1 [AV.esl] [(0, 1, t 127)]), O 129 (app 1 24 (t 126) (t 128)), O 130 (nilck (t 122)), O 131 (fa 5 (t 130)), Op2.mk none none (Ins.st 1 (t 131) (t 129))]))))).seq (ops 0 [O 132 (B2 .add (t 75) (N ((1)))), O 75 (M 132)])))).loop)).seq ((ops 0 [O 133 (M 0), O 134 (call (F 36) [t 133]), O 10 (M 134)]).seq (block 12 (((ops 0 [O 135 (M 10), O 136 (B2 .gtr (t 135) (N ((0)))), O 137 (M 136), G 138 137 true (M 0), G 139 137 true (nilck (t 138)), G 140 137 true (fa 1 (t 139)), G 141 137 true (D 140), G 142 137 true (un UnOp.not (t 141)), O 143 (pick (t 137) (t 142) cFal)]).seq (C2.cond (t 143) skip (exit 12))).seq ((block 13 ((ops 0 [O 146 (M 0), O 147 (call (F 36) [t 146]), O 148 (M 0), O 149 (call (F 36) [t 148]), O 150 (bld [AV.int IntKind.i64 (0), AV.int IntKind.i64 (0), AV.int IntKind.i64 (0), AV.int IntKind.i64 (0), AV.int IntKind.i64 (0), AV.int IntKind.i64 (0), AV.int IntKind.i64 (0), AV.int IntKind.i64 (0)] [(0, 1, t 147), (1, 1, t 149)]), O 11 (alloc (AV.agg [AV.int IntKind.i64 (0), AV.int IntKind.i64 (0), AV.int IntKind.i64 (0), AV.int IntKind.i64 (0), AV.int IntKind.i64 (0), AV.int IntKind.i64 (0), AV.int IntKind.i64 (0), AV.int IntKind.i64 (0)])), Op2.mk none none (Ins.st 8 (t 11) (t 150))]).seq (((ops 0 [O 151 (mov (N ((0))))]).seq (block 14 ((ops 0 [O 152 (B2 .lss (t 151) (N ((5))))]).seq ((C2.cond (t 152) skip (exit 14)).seq ((block 15 ((ops 0 [O 153 (M 151), O 12 (M 153)]).seq ((ops 0 [O 154 (M 12), O 155 (fa 2 (t 11)), O 156 (ixaA 5 1 (t 155) (t 154)), Op2.mk none none (Ins.st 1 (t 156) (N ((-1))))]).seq ((ops 0 [O 157 (M 12), O 158 (M 1), O 159 (nilck (t 158)), O 160 (fa 0 (t 159)), O 161 (D 160), O 162 (B2 .lss (t 157) (t 161))]).seq (C2.cond (t 162) (ops 0 [O 163 (M 12), O 164 (M 0), O 165 (call (F 78) [t 164]), O 166 (fa 2 (t 11)), O 167 (ixaA 5 1 (t 166) (t 163)), Op2.mk none none (Ins.st 1 (t 167) (t 165))]) skip))))).seq (ops 0 [O 168 (B2 .add (t 151) (N ((1)))), O 151 (M 168)])))).loop)).seq ((ops 0 [O 169 (M 0), O 170 (call (F 36) [t 169]), O 171 (fa 7 (t 11)), Op2.mk none none (Ins.st 1 (t 171) (t 170))]).seq (ops 1 [O 172 (M 1), O 173 (M 1), O 174 (nilck (t 173)), O 175 (fa 6 (t 174)), O 176 (D 175), O 177 (ldn 8 (t 11)), O 178 (bldS 8 1 [AV.int IntKind.i64 (0), AV.int IntKind.i64 (0), AV.int IntKind.i64 (0), AV.int IntKind.i64 (0), AV.int IntKind.i64 (0), AV.int IntKind.i64 (0), AV.int IntKind.i64 (0), AV.int IntKind.i64 (0)] [(0, 8, t 177)]), O 179 (app 8 64 (t 176) (t 178)), O 180 (nilck (t 172)), O 181 (fa 6 (t 180)), Op2.mk none none (Ins.st 1 (t 181) (t 179))]))))).seq (ops 0 [O 144 (M 10), O 145 (B2 .sub (t 144) (N ((1)))), O 10 (M 145)]))).loop))))))
theorem is48 : Is Try.prog 48 b48 := Is.mk' Try.func48 (by kernel_rfl)

def b55 : F2 := (F2.mk 15 [RV.t 6] ((ops 0 [O 6 (mov cFal)]).seq ((ops 0 [O 7 (M 0), O 8 (M 1), O 9 (B2 .geq (t 7) (t 8)), O 10 (M 9), G 11 10 true (M 0), G 12 10 true (M 2), G 13 10 true (B2 .leq (t 11) (t 12)), O 14 (pick (t 10) (t 13) cFal), O 6 (M 14)]).seq ret)))
theorem is55 : Is Try.prog 55 b55 := Is.mk' Try.func55 (by kernel_rfl)

def b56 : F2 := (F2.mk 114 [RV.t 2] ((ops 0 [O 1 (box (t 0)), O 2 (mov cFal)]).seq (((ops 0 [O 14 (fa 4 (t 1)), O 15 (D 14), O 16 (lenS (t 15)), O 17 (fa 0 (t 1)), O 18 (D 17), O 19 (B2 .neq (t 16) (t 18)), O 20 (M 19), G 21 20 false (fa 7 (t 1)), G 22 20 false (D 21), G 23 20 false (lenS (t 22)), G 24 20 false (fa 1 (t 1)), G 25 20 false (D 24), G 26 20 false (B2 .add (t 25) (N ((1)))), G 27 20 false (B2 .neq (t 23) (t 26)), O 28 (pick (t 20) cTru (t 27)), O 29 (M 28), G 30 29 false (fa 5 (t 1)), G 31 29 false (D 30), G 32 29 false (lenS (t 31)), G 33 29 false (fa 1 (t 1)), G 34 29 false (D 33), G 35 29 false (B2 .neq (t 32) (t 34)), O 36 (pick (t 29) cTru (t 35))]).seq (C2.cond (t 36) ((ops 0 [O 2 (mov cFal)]).seq ret) skip)).seq (((ops 0 [O 37 (fa 4 (t 1)), O 38 (D 37), O 39 (lenS (t 38)), O 40 (mov (N ((0))))]).seq (block 0 ((ops 0 [O 41 (B2 .lss (t 40) (t 39))]).seq ((C2.cond (t 41) skip (exit 0)).seq ((block 1 ((ops 0 [O 42 (ixaS 1 (t 38) (t 40)), O 43 (D 42), O 4 (M 43)]).seq ((ops 0 [O 44 (M 4), O 45 (lenS (t 44)), O 46 (fa 2 (t 1)), O 47 (D 46), O 48 (B2 .neq (t 45) (t 47))]).seq (C2.cond (t 48) ((ops 0 [O 2 (mov cFal)]).seq ret) skip)))).seq (ops 0 [O 49 (B2 .add (t 40) (N ((1)))), O 40 (M 49)])))).loop)).seq (((ops 0 [O 50 (fa 7 (t 1)), O 51 (D 50), O 52 (lenS (t 51)), O 53 (mov (N ((0))))]).seq (block 2 ((ops 0 [O 54 (B2 .lss (t 53) (t 52))]).seq ((C2.cond (t 54) skip (exit 2)).seq ((block 3 ((ops 0 [O 55 (ixaS 1 (t 51) (t 53)), O 56 (D 55), O 6 (M 56)]).seq ((ops 0 [O 57 (M 6), O 58 (lenS (t 57)), O 59 (fa 0 (t 1)), O 60 (D 59), O 61 (B2 .neq (t 58) (t 60))]).seq (C2.cond (t 61) ((ops 0 [O 2 (mov cFal)]).seq ret) skip)))).seq (ops 0 [O 62 (B2 .add (t 53) (N ((1)))), O 53 (M 62)])))).loop)).seq (((ops 0 [O 63 (fa 5 (t 1)), O 64 (D 63), O 65 (lenS (t 64)), O 66 (mov (N ((0))))]).seq (block 4 ((ops 0 [O 67 (B2 .lss (t 66) (t 65))]).seq ((C2.cond (t 67) skip (exit 4)).seq ((block 5 ((ops 0 [O 68 (M 66), O 69 (ixaS 1 (t 64) (t 66)), O 70 (D 69), O 7 (M 68), O 8 (M 70)]).seq (((ops 0 [O 71 (M 8), O 72 (lenS (t 71)), O 73 (fa 0 (t 1)), O 74 (D 73), O 75 (B2 .neq (t 72) (t 74))]).seq (C2.cond (t 75) ((ops 0 [O 2 (mov cFal)]).seq ret) skip)).seq ((ops 0 [O 76 (M 8), O 77 (lenS (t 76)), O 78 (mov (N ((0))))]).seq (block 6 ((ops 0 [O 79 (B2 .lss (t 78) (t 77))]).seq ((C2.cond (t 79) skip (exit 6)).seq ((block 7 ((ops 0 [O 80 (M 78), O 81 (ixaS 1 (t 76) (t 78)), O 82 (D 81), O 9 (M 80), O 10 (M 82)]).seq (((ops 0 [O 83 (M 10), O 84 (lenS (t 83)), O 85 (fa 0 (t 1)), O 86 (D 85), O 87 (B2 .neq (t 84) (t 86))]).seq (C2.cond (t 87) ((ops 0 [O 2 (mov cFal)]).seq ret) skip)).seq ((ops 0 [O 88 (M 10), O 89 (lenS (t 88)), O 90 (mov (N ((0))))]).seq (block 8 ((ops 0 [O 91 (B2 .lss (t 90) (t 89))]).seq ((C2.cond (t 91) skip (exit 8)).seq ((block 9 ((ops 0 [O 92 (M 90), O 93 (ixaS 1 (t 88) (t 90)), O 94 (D 93), O 11 (M 92), O 12 (M 94)]).seq ((ops 0 [O 95 (fa 7 (t 1)), O 96 (D 95), O 97 (M 7), O 98 (ixaS 1 (t 96) (t 97)), O 99 (D 98), O 100 (M 9), O 101 (ixaS 1 (t 99) (t 100)), O 102 (D 101), O 103 (lenS (t 102)), O 13 (M 103)]).seq (((ops 0 [O 104 (M 9), O 105 (M 11), O 106 (B2 .eql (t 104) (t 105))]).seq (C2.cond (t 106) (ops 0 [O 13 (mov (N ((0))))]) skip)).seq ((ops 0 [O 107 (M 12), O 108 (lenS (t 107)), O 109 (M 13), O 110 (B2 .neq (t 108) (t 109))]).seq (C2.cond (t 110) ((ops 0 [O 2 (mov cFal)]).seq ret) skip)))))).seq (ops 0 [O 111 (B2 .add (t 90) (N ((1)))), O 90 (M 111)])))).loop))))).seq (ops 0 [O 112 (B2 .add (t 78) (N ((1)))), O 78 (M 112)])))).loop))))).seq (ops 0 [O 113 (B2 .add (t 66) (N ((1)))), O 66 (M 113)])))).loop)).seq ((ops 0 [O 2 (mov cTru)]).seq ret)))))))
theorem is56 : Is Try.prog 56 b56 := Is.mk' Try.func56 (by kernel_rfl)

def b57 : F2 := (F2.mk 28 [RV.t 2] ((ops 0 [O 1 (box (t 0)), O 2 (mov (N ((0))))]).seq ((ops 0 [O 3 (mov (N ((0))))]).seq (((ops 0 [O 8 (fa 7 (t 1)), O 9 (D 8), O 10 (lenS (t 9)), O 11 (mov (N ((0))))]).seq (block 0 ((ops 0 [O 12 (B2 .lss (t 11) (t 10))]).seq ((C2.cond (t 12) skip (exit 0)).seq ((block 1 ((ops 0 [O 13 (ixaS 1 (t 9) (t 11)), O 14 (D 13), O 5 (M 14)]).seq ((ops 0 [O 15 (M 5), O 16 (lenS (t 15)), O 17 (mov (N ((0))))]).seq (block 2 ((ops 0 [O 18 (B2 .lss (t 17) (t 16))]).seq ((C2.cond (t 18) skip (exit 2)).seq ((block 3 ((ops 0 [O 19 (ixaS 1 (t 15) (t 17)), O 20 (D 19), O 7 (M 20)]).seq (ops 0 [O 21 (M 3), O 22 (M 7), O 23 (lenS (t 22)), O 24 (B2 .add (t 21) (t 23)), O 3 (M 24)]))).seq (ops 0 [O 25 (B2 .add (t 17) (N ((1)))), O 17 (M 25)])))).loop)))).seq (ops 0 [O 26 (B2 .add (t 11) (N ((1)))), O 11 (M 26)])))).loop)).seq ((ops 0 [O 27 (M 3), O 2 (M 27)]).seq ret)))))
theorem is57 : Is Try.prog 57 b57 := Is.mk' Try.func57 (by kernel_rfl)

def b58 : F2 := (F2.mk 60 [RV.t 2] ((ops 0 [O 1 (box (t 0)), O 2 (mov cFal)]).seq (((ops 0 [O 11 (fa 4 (t 1)), O 12 (D 11), O 13 (lenS (t 12)), O 14 (mov (N ((0))))]).seq (block 0 ((ops 0 [O 15 (B2 .lss (t 14) (t 13))]).seq ((C2.cond (t 15) skip (exit 0)).seq ((block 1 ((ops 0 [O 16 (M 14), O 17 (ixaS 1 (t 12) (t 14)), O 18 (D 17), O 3 (M 16), O 4 (M 18)]).seq ((ops 0 [O 19 (M 4), O 20 (fa 7 (t 1)), O 21 (D 20), O 22 (ixaS 1 (t 21) (N ((0)))), O 23 (D 22), O 24 (M 3), O 25 (ixaS 1 (t 23) (t 24)), O 26 (D 25), O 27 (lenS (t 26)), O 28 (B2 .sub (t 27) (N ((1)))), O 29 (call (F 81) [t 19, c (AV.int IntKind.i64 (-1)), t 28]), O 30 (un UnOp.not (t 29))]).seq (C2.cond (t 30) ((ops 0 [O 2 (mov cFal)]).seq ret) skip)))).seq (ops 0 [O 31 (B2 .add (t 14) (N ((1)))), O 14 (M 31)])))).loop)).seq (((ops 0 [O 32 (fa 7 (t 1)), O 33 (D 32), O 34 (lenS (t 33)), O 35 (mov (N ((0))))]).seq (block 2 ((ops 0 [O 36 (B2 .lss (t 35) (t 34))]).seq ((C2.cond (t 36) skip (exit 2)).seq ((block 3 ((ops 0 [O 37 (ixaS 1 (t 33) (t 35)), O 38 (D 37), O 6 (M 38)]).seq ((ops 0 [O 39 (M 6), O 40 (mkfn 83 [t 1]), O 41 (call (F 82) [t 39, t 40])]).seq (C2.cond (t 41) ((ops 0 [O 2 (mov cFal)]).seq ret) skip)))).seq (ops 0 [O 42 (B2 .add (t 35) (N ((1)))), O 35 (M 42)])))).loop)).seq (((ops 0 [O 43 (fa 5 (t 1)), O 44 (D 43), O 45 (lenS (t 44)), O 46 (mov (N ((0))))]).seq (block 4 ((ops 0 [O 47 (B2 .lss (t 46) (t 45))]).seq ((C2.cond (t 47) skip (exit 4)).seq ((block 5 ((ops 0 [O 48 (ixaS 1 (t 44) (t 46)), O 49 (D 48), O 8 (M 49)]).seq ((ops 0 [O 50 (M 8), O 51 (lenS (t 50)), O 52 (mov (N ((0))))]).seq (block 6 ((ops 0 [O 53 (B2 .lss (t 52) (t 51))]).seq ((C2.cond (t 53) skip (exit 6)).seq ((block 7 ((ops 0 [O 54 (ixaS 1 (t 50) (t 52)), O 55 (D 54), O 10 (M 55)]).seq ((ops 0 [O 56 (M 10), O 57 (call (F 82) [t 56, c (AV.func 84 [])])]).seq (C2.cond (t 57) ((ops 0 [O 2 (mov cFal)]).seq ret) skip)))).seq (ops 0 [O 58 (B2 .add (t 52) (N ((1)))), O 52 (M 58)])))).loop)))).seq (ops 0 [O 59 (B2 .add (t 46) (N ((1)))), O 46 (M 59)])))).loop)).seq ((ops 0 [O 2 (mov cTru)]).seq ret))))))
theorem is58 : Is Try.prog 58 b58 := Is.mk' Try.func58 (by kernel_rfl)

def b59 : F2 := (F2.mk 90 [RV.t 4] ((ops 0 [O 2 (box (t 0)), O 3 (box (t 1)), O 4 (mov (N ((0))))]).seq (((mixS 1 [O 7 (fa 0 (t 3)), O 8 (D 7), O 9 (fa 1 (t 2)), O 10 (D 9), O 11 (B2 .sub (t 10) (N ((1)))), O 12 (call (F 55) [t 8, c (AV.int IntKind.i64 (0)), t 11]), O 13 (un UnOp.not (t 12)), O 14 (M 13), G 15 14 false (fa 1 (t 3)), G 16 14 false (D 15), G 17 14 false (fa 0 (t 2)), G 18 14 false (D 17), G 19 14 false (B2 .sub (t 18) (N ((1)))), G 20 14 false (call (F 55) [t 16, c (AV.int IntKind.i64 (0)), t 19]), G 21 14 false (un UnOp.not (t 20)), O 22 (pick (t 14) cTru (t 21)), O 23 (M 22), G 24 23 false (fa 7 (t 3)), G 25 23 false (D 24), G 26 23 false (fa 7 (t 2)), G 27 23 false (D 26), G 28 23 false (fa 0 (t 3)), G 29 23 false (D 28), G 30 23 false (B2 .add (t 29) (N ((1)))), G 31 23 false (ixaS 1 (t 27) (t 30)), G 32 23 false (D 31), G 33 23 false (fa 1 (t 3)), G 34 23 false (D 33), G 35 23 false (ixaS 1 (t 32) (t 34)), G 36 23 false (D 35), G 37 23 false (lenS (t 36)), G 38 23 false (B2 .sub (t 37) (N ((1)))), G 39 23 false (call (F 55) [t 25, c (AV.int IntKind.i64 (0)), t 38]), G 40 23 false (un UnOp.not (t 39)), O 41 (pick (t 23) cTru (t 40))] [(0, 0), (1, 0), (2, 0), (3, 0), (4, 0), (5, 1), (6, 0), (7, 0), (8, 0), (9, 0), (10, 0), (11, 0), (12, 0), (13, 1), (14, 0), (15, 0), (16, 0), (17, 0), (18, 0), (19, 0), (20, 0), (21, 0), (22, 0), (23, 0), (24, 0), (25, 0), (26, 0), (27, 0), (28, 0), (29, 0), (30, 0), (31, 0), (32, 2), (33, 0), (34, 0)]).seq (C2.cond (t 41) ((ops 0 [O 4 (mov (N ((2))))]).seq ret) skip)).seq (((ops 0 [O 42 (fa 2 (t 3)), O 43 (fa 0 (t 2)), O 44 (D 43), O 45 (slsA 5 (t 42) (some (t 44)) none), O 46 (call (F 81) [t 45, c (AV.int IntKind.i64 (-1)), c (AV.int IntKind.i64 (-1))]), O 47 (un UnOp.not (t 46))]).seq (C2.cond (t 47) ((ops 0 [O 4 (mov (N ((3))))]).seq ret) skip)).seq (((ops 0 [O 48 (fa 2 (t 3)), O 49 (fa 0 (t 2)), O 50 (D 49), O 51 (slsA 5 (t 48) none (some (t 50))), O 52 (lenS (t 51)), O 53 (mov (N ((0))))]).seq (block 0 ((ops 0 [O 54 (B2 .lss (t 53) (t 52))]).seq ((C2.cond (t 54) skip (exit 0)).seq ((block 1 ((ops 0 [O 55 (M 53), O 56 (ixaS 1 (t 51) (t 53)), O 57 (D 56), O 5 (M 55), O 6 (M 57)]).seq ((ops 0 [O 58 (M 5), O 59 (fa 1 (t 3)), O 60 (D 59), O 61 (B2 .eql (t 58) (t 60)), O 62 (M 61), G 63 62 true (M 6), G 64 62 true (fa 7 (t 2)), G 65 62 true (D 64), G 66 62 true (fa 0 (t 3)), G 67 62 true (D 66), G 68 62 true (ixaS 1 (t 65) (t 67)), G 69 62 true (D 68), G 70 62 true (M 5), G 71 62 true (ixaS 1 (t 69) (t 70)), G 72 62 true (D 71), G 73 62 true (lenS (t 72)), G 74 62 true (B2 .sub (t 73) (N ((1)))), G 75 62 true (call (F 55) [t 63, c (AV.int IntKind.i64 (0)), t 74]), G 76 62 true (un UnOp.not (t 75)), O 77 (pick (t 62) (t 76) cFal), O 78 (M 77), G 79 78 false (M 5), G 80 78 false (fa 1 (t 3)), G 81 78 false (D 80), G 82 78 false (B2 .neq (t 79) (t 81)), G 83 78 false (M 82), G 84 83 true (M 6), G 85 83 true (call (F 55) [t 84, c (AV.int IntKind.i64 (-1)), c (AV.int IntKind.i64 (1048576))]), G 86 83 true (un UnOp.not (t 85)), G 87 78 false (pick (t 83) (t 86) cFal), O 88 (pick (t 78) cTru (t 87))]).seq (C2.cond (t 88) ((ops 0 [O 4 (mov (N ((2))))]).seq ret) skip)))).seq (ops 0 [O 89 (B2 .add (t 53) (N ((1)))), O 53 (M 89)])))).loop)).seq ((ops 0 [O 4 (mov (N ((0))))]).seq ret))))))
theorem is59 : Is Try.prog 59 b59 := Is.mk' Try.func59 (by kernel_rfl)

def b60 : F2 := (F2.mk 22 [RV.t 4] ((ops 0 [O 2 (box (t 0)), O 3 (box (t 1)), O 4 (mov (N ((0))))]).seq ((mixS 1 [O 5 (fa 0 (t 2)), O 6 (D 5), O 7 (fa 0 (t 3)), O 8 (D 7), O 9 (call (F 86) [t 6, t 8]), O 10 (fa 1 (t 2)), O 11 (D 10), O 12 (fa 1 (t 3)), O 13 (D 12), O 14 (call (F 86) [t 11, t 13]), O 15 (fa 2 (t 2)), O 16 (slsA 5 (t 15) none none), O 17 (fa 2 (t 3)), O 18 (slsA 5 (t 17) none none), O 19 (call (F 87) [t 16, t 18]), O 20 (bldS 1 3 [AV.int IntKind.i64 (0)] [(0, 1, t 9), (1, 1, t 14), (2, 1, t 19)]), O 21 (call (F 85) [t 20]), O 4 (M 21)] [(0, 0), (1, 0), (2, 0), (3, 0), (5, 0), (6, 0), (7, 0), (8, 0), (10, 0), (11, 0), (12, 0), (13, 0), (4, 1), (9, 2), (14, 2), (15, 2), (16, 2), (17, 0)]).seq ret)))
theorem is60 : Is Try.prog 60 b60 := Is.mk' Try.func60 (by kernel_rfl)

def b61 : F2 := (F2.mk 8 [RV.t 4] ((ops 0 [O 4 (mov cFal)]).seq ((ops 0 [O 5 (M 0), O 6 (M 1), O 7 (call (F 88) [t 5, t 6, c (AV.func 89 [])]), O 4 (M 7)]).seq ret)))
theorem is61 : Is Try.prog 61 b61 := Is.mk' Try.func61 (by kernel_rfl)

def b62 : F2 := (F2.mk 8 [RV.t 4] ((ops 0 [O 4 (mov cFal)]).seq ((ops 0 [O 5 (M 0), O 6 (M 1), O 7 (call (F 90) [t 5, t 6, c (AV.func 61 [])]), O 4 (M 7)]).seq ret)))
theorem is62 : Is Try.prog 62 b62 := Is.mk' Try.func62 (by kernel_rfl)

def b63 : F2 := (F2.mk 11 [RV.t 6] ((ops 0 [O 6 (mov cFal)]).seq ((ops 0 [O 7 (M 0), O 8 (M 1), O 9 (M 2), O 10 (call (F 91) [t 7, t 8, t 9]), O 6 (M 10)]).seq ret)))
theorem is63 : Is Try.prog 63 b63 := Is.mk' Try.func63 (by kernel_rfl)

def b64 : F2 := (F2.mk 26 [RV.t 4] ((ops 0 [O 4 (mov cFal)]).seq (((ops 0 [O 6 (M 0), O 7 (lenS (t 6)), O 8 (M 1), O 9 (lenS (t 8)), O 10 (B2 .neq (t 7) (t 9))]).seq (C2.cond (t 10) ((ops 0 [O 4 (mov cFal)]).seq ret) skip)).seq (((ops 0 [O 11 (M 0), O 12 (lenS (t 11)), O 13 (mov (N ((0))))]).seq (block 0 ((ops 0 [O 14 (B2 .lss (t 13) (t 12))]).seq ((C2.cond (t 14) skip (exit 0)).seq ((block 1 ((ops 0 [O 15 (M 13), O 5 (M 15)]).seq ((ops 1 [O 16 (M 0), O 17 (M 5), O 18 (ixaS 8 (t 16) (t 17)), O 19 (ldn 8 (t 18)), O 20 (M 1), O 21 (M 5), O 22 (ixaS 8 (t 20) (t 21)), O 23 (ldn 8 (t 22)), O 24 (binS BinOp.neq [int, int, int, int, int, int, int, int] (t 19) (t 23))]).seq (C2.cond (t 24) ((ops 0 [O 4 (mov cFal)]).seq ret) skip)))).seq (ops 0 [O 25 (B2 .add (t 13) (N ((1)))), O 13 (M 25)])))).loop)).seq ((ops 0 [O 4 (mov cTru)]).seq ret)))))
theorem is64 : Is Try.prog 64 b64 := Is.mk' Try.func64 (by kernel_rfl)

def b65 : F2 := (F2.mk 8 [RV.cn 4 5] ((ops 0 [O 4 (alloc (AV.agg [AV.int IntKind.i64 (0), AV.int IntKind.i64 (0), AV.int IntKind.i64 (0), AV.int IntKind.i64 (0), AV.int IntKind.i64 (0)]))]).seq ((ops 0 [O 5 (M 0), O 6 (M 1), O 7 (bld [AV.int IntKind.i64 (0), AV.int IntKind.i64 (0), AV.int IntKind.i64 (0), AV.int IntKind.i64 (0), AV.int IntKind.i64 (0)] [(0, 1, t 5), (1, 1, t 6), (2, 1, c (AV.int IntKind.i64 (-1))), (3, 1, c (AV.int IntKind.i64 (-1))), (4, 1, c (AV.int IntKind.i64 (-1)))]), Op2.mk none none (Ins.st 5 (t 4) (t 7))]).seq ret)))
theorem is65 : Is Try.prog 65 b65 := Is.mk' Try.func65 (by kernel_rfl)

def b66 : F2 := (F2.mk 11 [RV.t 2, RV.t 3] ((ops 0 [O 2 (mov (c AV.nilf)), O 3 (mov (c AV.nilf))]).seq ((ops 0 [O 6 (M 0), O 7 (s2b (t 6)), O 4 (alloc AV.esl), Op2.mk none none (Ins.st 1 (t 4) (t 7))]).seq ((ops 0 [O 8 (mkfn 92 [t 4]), O 5 (M 8)]).seq ((ops 0 [O 9 (M 5), O 10 (mkfn 93 [t 4]), O 2 (M 9), O 3 (M 10)]).seq ret)))))
theorem is66 : Is Try.prog 66 b66 := Is.mk' Try.func66 (by kernel_rfl)

def b67 : F2 := (F2.mk 16 [RV.t 2] ((ops 0 [O 2 (mov (c (AV.str (ByteArray.mk (Array.mk [])))))]).seq ((ops 0 [O 4 (M 0), O 5 (b2s (t 4)), O 6 (call (F 24) [t 5]), O 3 (M 6)]).seq ((ops 0 [O 7 (M 0), O 8 (M 3), O 9 (B2 .shr (t 8) (c (AV.int IntKind.u64 (8)))), O 10 (conv IntKind.u8 (t 9)), O 11 (M 3), O 12 (conv IntKind.u8 (t 11)), O 13 (bldS 1 2 [AV.int IntKind.u8 (0)] [(0, 1, t 10), (1, 1, t 12)]), O 14 (app 1 1 (t 7) (t 13)), O 15 (b2s (t 14)), O 2 (M 15)]).seq ret))))
theorem is67 : Is Try.prog 67 b67 := Is.mk' Try.func67 (by kernel_rfl)

def b68 : F2 := (F2.mk 18 [RV.t 2] ((ops 0 [O 2 (mov (c (AV.str (ByteArray.mk (Array.mk [])))))]).seq ((ops 0 [O 3 (mov (c (AV.str (ByteArray.mk (Array.mk [])))))]).seq ((block 0 (((ops 0 [O 4 (M 0), O 5 (B2 .gtr (t 4) (N ((127))))]).seq (C2.cond (t 5) skip (exit 0))).seq (block 1 ((ops 0 [O 6 (M 3), O 7 (M 0), O 8 (B2 .rem (t 7) (N ((128)))), O 9 (B2 .add (t 8) (N ((128)))), O 10 (call (F 41) [t 9]), O 11 (B2 .add (t 6) (t 10)), O 3 (M 11)]).seq (ops 0 [O 12 (M 0), O 13 (B2 .quo (t 12) (N ((128)))), O 0 (M 13)])))).loop).seq ((ops 0 [O 14 (M 3), O 15 (M 0), O 16 (call (F 41) [t 15]), O 17 (B2 .add (t 14) (t 16)), O 2 (M 17)]).seq ret)))))
theorem is68 : Is Try.prog 68 b68 := Is.mk' Try.func68 (by kernel_rfl)

def b69 : F2 := (F2.mk 19 [RV.t 4] ((ops 0 [O 4 (mov (N ((0))))]).seq (((ops 0 [O 6 (M 0), O 7 (lenS (t 6)), O 8 (mov (N ((0))))]).seq (block 0 ((ops 0 [O 9 (B2 .lss (t 8) (t 7))]).seq ((C2.cond (t 9) skip (exit 0)).seq ((block 1 ((ops 0 [O 10 (M 8), O 5 (M 10)]).seq ((ops 0 [O 11 (M 1), O 12 (M 0), O 13 (M 5), O 14 (ixaS 1 (t 12) (t 13)), O 15 (D 14), O 16 (B2 .eql (t 11) (t 15))]).seq (C2.cond (t 16) ((ops 0 [O 17 (M 5), O 4 (M 17)]).seq ret) skip)))).seq (ops 0 [O 18 (B2 .add (t 8) (N ((1)))), O 8 (M 18)])))).loop)).seq ((ops 0 [O 4 (mov (N ((-1))))]).seq ret))))
theorem is69 : Is Try.prog 69 b69 := Is.mk' Try.func69 (by kernel_rfl)

def b70 : F2 := (F2.mk 15 [RV.t 6] ((ops 0 [O 6 (mov cFal)]).seq ((ops 0 [O 7 (M 0), O 8 (M 1), O 9 (B2 .geq (t 7) (t 8)), O 10 (M 9), G 11 10 true (M 0), G 12 10 true (M 2), G 13 10 true (B2 .leq (t 11) (t 12)), O 14 (pick (t 10) (t 13) cFal), O 6 (M 14)]).seq ret)))
theorem is70 : Is Try.prog 70 b70 := Is.mk' Try.func70 (by kernel_rfl)

def b71 : F2 := (F2.mk 147 [RV.t 2] ((ops 0 [O 1 (box (t 0)), O 2 (mov cFal)]).seq (((ops 0 [O 8 (fa 4 (t 1)), O 9 (D 8), O 10 (lenS (t 9)), O 11 (fa 0 (t 1)), O 12 (D 11), O 13 (B2 .neq (t 10) (t 12)), O 14 (M 13), G 15 14 false (fa 7 (t 1)), G 16 14 false (D 15), G 17 14 false (lenS (t 16)), G 18 14 false (fa 1 (t 1)), G 19 14 false (D 18), G 20 14 false (B2 .add (t 19) (N ((1)))), G 21 14 false (B2 .neq (t 17) (t 20)), O 22 (pick (t 14) cTru (t 21)), O 23 (M 22), G 24 23 false (fa 5 (t 1)), G 25 23 false (D 24), G 26 23 false (lenS (t 25)), G 27 23 false (fa 1 (t 1)), G 28 23 false (D 27), G 29 23 false (B2 .neq (t 26) (t 28)), O 30 (pick (t 23) cTru (t 29))]).seq (C2.cond (t 30) ((ops 0 [O 2 (mov cFal)]).seq ret) skip)).seq (((ops 0 [O 3 (mov (N ((0))))]).seq (block 0 (((ops 0 [O 31 (M 3), O 32 (fa 0 (t 1)), O 33 (D 32), O 34 (B2 .lss (t 31) (t 33))]).seq (C2.cond (t 34) skip (exit 0))).seq ((block 1 ((ops 1 [O 37 (fa 4 (t 1)), O 38 (D 37), O 39 (M 3), O 40 (ixaS 1 (t 38) (t 39)), O 41 (D 40), O 42 (lenS (t 41)), O 43 (fa 2 (t 1)), O 44 (D 43), O 45 (B2 .neq (t 42) (t 44))]).seq (C2.cond (t 45) ((ops 0 [O 2 (mov cFal)]).seq ret) skip))).seq (ops 0 [O 35 (M 3), O 36 (B2 .add (t 35) (N ((1)))), O 3 (M 36)]))).loop)).seq (((ops 0 [O 4 (mov (N ((0))))]).seq (block 2 (((ops 0 [O 46 (M 4), O 47 (fa 1 (t 1)), O 48 (D 47), O 49 (B2 .leq (t 46) (t 48))]).seq (C2.cond (t 49) skip (exit 2))).seq ((block 3 ((ops 1 [O 52 (fa 7 (t 1)), O 53 (D 52), O 54 (M 4), O 55 (ixaS 1 (t 53) (t 54)), O 56 (D 55), O 57 (lenS (t 56)), O 58 (fa 0 (t 1)), O 59 (D 58), O 60 (B2 .neq (t 57) (t 59))]).seq (C2.cond (t 60) ((ops 0 [O 2 (mov cFal)]).seq ret) skip))).seq (ops 0 [O 50 (M 4), O 51 (B2 .add (t 50) (N ((1)))), O 4 (M 51)]))).loop)).seq (((ops 0 [O 5 (mov (N ((0))))]).seq (block 4 (((ops 0 [O 61 (M 5), O 62 (fa 1 (t 1)), O 63 (D 62), O 64 (B2 .lss (t 61) (t 63))]).seq (C2.cond (t 64) skip (exit 4))).seq ((block 5 (((ops 1 [O 67 (fa 5 (t 1)), O 68 (D 67), O 69 (M 5), O 70 (ixaS 1 (t 68) (t 69)), O 71 (D 70), O 72 (lenS (t 71)), O 73 (fa 0 (t 1)), O 74 (D 73), O 75 (B2 .neq (t 72) (t 74))]).seq (C2.cond (t 75) ((ops 0 [O 2 (mov cFal)]).seq ret) skip)).seq ((ops 0 [O 6 (mov (N ((0))))]).seq (block 6 (((ops 0 [O 76 (M 6), O 77 (fa 0 (t 1)), O 78 (D 77), O 79 (B2 .lss (t 76) (t 78))]).seq (C2.cond (t 79) skip (exit 6))).seq ((block 7 (((ops 1 [O 82 (fa 5 (t 1)), O 83 (D 82), O 84 (M 5), O 85 (ixaS 1 (t 83) (t 84)), O 86 (D 85), O 87 (M 6), O 88 (ixaS 1 (t 86) (t 87)), O 89 (D 88), O 90 (lenS (t 89)), O 91 (fa 0 (t 1)), O 92 (D 91), O 93 (B2 .neq (t 90) (t 92))]).seq (C2.cond (t 93) ((ops 0 [O 2 (mov cFal)]).seq ret) skip)).seq ((ops 0 [O 7 (mov (N ((0))))]).seq (block 8 (((ops 0 [O 94 (M 7), O 95 (fa 0 (t 1)), O 96 (D 95), O 97 (B2 .lss (t 94) (t 96))]).seq (C2.cond (t 97) skip (exit 8))).seq ((block 9 ((ops 1 [O 100 (M 6), O 101 (M 7), O 102 (B2 .eql (t 100) (t 101)), O 103 (M 102), G 104 103 true (fa 5 (t 1)), G 105 103 true (D 104), G 106 103 true (M 5), G 107 103 true (ixaS 1 (t 105) (t 106)), G 108 103 true (D 107), G 109 103 true (M 6), G 110 103 true (ixaS 1 (t 108) (t 109)), G 111 103 true (D 110), G 112 103 true (M 7), G 113 103 true (ixaS 1 (t 111) (t 112)), G 114 103 true (D 113), G 115 103 true (lenS (t 114)), G 116 103 true (B2 .gtr (t 115) (N ((0)))), O 117 (pick (t 103) (t 116) cFal), O 118 (M 117), G 119 118 false (M 6), G 120 118 false (M 7), G 121 118 false (B2 .neq (t 119) (t 120)), G 122 118 false (M 121), G 123 122 true (fa 5 (t 1)), G 124 122 true (D 123), G 125 122 true (M 5), G 126 122 true (ixaS 1 (t 124) (t 125)), G 127 122 true (D 126), G 128 122 true (M 6), G 129 122 true (ixaS 1 (t 127) (t 128)), G 130 122 true (D 129), G 131 122 true (M 7), G 132 122 true (ixaS 1 (t 130) (t 131)), G 133 122 true (D 132), G 134 122 true (lenS (t 133)), G 135 122 true (fa 7 (t 1)), G 136 122 true (D 135), G 137 122 true (M 5), G 138 122 true (ixaS 1 (t 136) (t 137)), G 139 122 true (D 138), G 140 122 true (M 6), G 141 122 true (ixaS 1 (t 139) (t 140)), G 142 122 true (D 141), G 143 122 true (lenS (t 142)), G 144 122 true (B2 .neq (t 134) (t 143)), G 145 118 false (pick (t 122) (t 144) cFal), O 146 (pick (t 118) cTru (t 145))]).seq (C2.cond (t 146) ((ops 0 [O 2 (mov cFal)]).seq ret) skip))).seq (ops 0 [O 98 (M 7), O 99 (B2 .add (t 98) (N ((1)))), O 7 (M 99)]))).loop)))).seq (ops 0 [O 80 (M 6), O 81 (B2 .add (t 80) (N ((1)))), O 6 (M 81)]))).loop)))).seq (ops 0 [O 65 (M 5), O 66 (B2 .add (t 65) (N ((1)))), O 5 (M 66)]))).loop)).seq ((ops 0 [O 2 (mov cTru)]).seq ret)))))))
theorem is71 : Is Try.prog 71 b71 := Is.mk' Try.func71 (by kernel_rfl)

def b72 : F2 := (F2.mk 72 [RV.t 2] ((ops 0 [O 1 (box (t 0)), O 2 (mov cFal)]).seq (((ops 0 [O 3 (mov (N ((0))))]).seq (block 0 (((ops 0 [O 6 (M 3), O 7 (fa 0 (t 1)), O 8 (D 7), O 9 (B2 .lss (t 6) (t 8))]).seq (C2.cond (t 9) skip (exit 0))).seq ((block 1 (((mixS 1 [O 12 (fa 4 (t 1)), O 13 (D 12), O 14 (M 3), O 15 (ixaS 1 (t 13) (t 14)), O 16 (D 15), O 17 (fa 7 (t 1)), O 18 (D 17), O 19 (ixaS 1 (t 18) (N ((0)))), O 20 (D 19), O 21 (M 3), O 22 (ixaS 1 (t 20) (t 21)), O 23 (D 22), O 24 (lenS (t 23)), O 25 (B2 .sub (t 24) (N ((1)))), O 26 (call (F 94) [t 16, c (AV.int IntKind.i64 (-1)), t 25]), O 27 (un UnOp.not (t 26))] [(0, 0), (1, 0), (2, 0), (3, 0), (4, 0), (5, 0), (6, 0), (7, 0), (8, 0), (9, 0), (10, 0), (11, 0), (12, 0), (13, 0), (14, 2), (15, 0)]).seq (C2.cond (t 27) ((ops 0 [O 2 (mov cFal)]).seq ret) skip)).seq ((ops 0 [O 4 (mov (N ((0))))]).seq (block 2 (((ops 0 [O 28 (M 4), O 29 (fa 1 (t 1)), O 30 (D 29), O 31 (B2 .leq (t 28) (t 30))]).seq (C2.cond (t 31) skip (exit 2))).seq ((block 3 (((mixS 1 [O 34 (fa 7 (t 1)), O 35 (D 34), O 36 (M 4), O 37 (ixaS 1 (t 35) (t 36)), O 38 (D 37), O 39 (M 3), O 40 (ixaS 1 (t 38) (t 39)), O 41 (D 40), O 42 (fa 3 (t 1)), O 43 (D 42), O 44 (B2 .sub (t 43) (N ((1)))), O 45 (call (F 94) [t 41, c (AV.int IntKind.i64 (-1)), t 44]), O 46 (un UnOp.not (t 45))] [(0, 0), (1, 0), (2, 0), (3, 0), (4, 0), (5, 0), (6, 0), (7, 0), (8, 0), (9, 0), (10, 0), (11, 2), (12, 0)]).seq (C2.cond (t 46) ((ops 0 [O 2 (mov cFal)]).seq ret) skip)).seq ((ops 0 [O 5 (mov (N ((0))))]).seq (block 4 (((ops 0 [O 47 (M 5), O 48 (fa 0 (t 1)), O 49 (D 48), O 50 (B2 .lss (t 47) (t 49)), O 51 (M 50), G 52 51 true (M 4), G 53 51 true (fa 1 (t 1)), G 54 51 true (D 53), G 55 51 true (B2 .lss (t 52) (t 54)), O 56 (pick (t 51) (t 55) cFal)]).seq (C2.cond (t 56) skip (exit 4))).seq ((block 5 ((ops 0 [O 59 (fa 5 (t 1)), O 60 (D 59), O 61 (M 4), O 62 (ixaS 1 (t 60) (t 61)), O 63 (D 62), O 64 (M 3), O 65 (ixaS 1 (t 63) (t 64)), O 66 (D 65), O 67 (M 5), O 68 (ixaS 1 (t 66) (t 67)), O 69 (D 68), O 70 (call (F 94) [t 69, c (AV.int IntKind.i64 (0)), c (AV.int IntKind.i64 (1048576))]), O 71 (un UnOp.not (t 70))]).seq (C2.cond (t 71) ((ops 0 [O 2 (mov cFal)]).seq ret) skip))).seq (ops 0 [O 57 (M 5), O 58 (B2 .add (t 57) (N ((1)))), O 5 (M 58)]))).loop)))).seq (ops 0 [O 32 (M 4), O 33 (B2 .add (t 32) (N ((1)))), O 4 (M 33)]))).loop)))).seq (ops 0 [O 10 (M 3), O 11 (B2 .add (t 10) (N ((1)))), O 3 (M 11)]))).loop)).seq ((ops 0 [O 2 (mov cTru)]).seq ret))))
theorem is72 : Is Try.prog 72 b72 := Is.mk' Try.func72 (by kernel_rfl)

def b73 : F2 := (F2.mk 84 [RV.t 4] ((ops 0 [O 2 (box (t 0)), O 3 (box (t 1)), O 4 (mov (N ((0))))]).seq (((mixS 1 [O 9 (fa 0 (t 3)), O 10 (D 9), O 11 (fa 1 (t 2)), O 12 (D 11), O 13 (B2 .sub (t 12) (N ((1)))), O 14 (call (F 70) [t 10, c (AV.int IntKind.i64 (0)), t 13]), O 15 (un UnOp.not (t 14)), O 16 (M 15), G 17 16 false (fa 1 (t 3)), G 18 16 false (D 17), G 19 16 false (fa 0 (t 2)), G 20 16 false (D 19), G 21 16 false (B2 .sub (t 20) (N ((1)))), G 22 16 false (call (F 70) [t 18, c (AV.int IntKind.i64 (0)), t 21]), G 23 16 false (un UnOp.not (t 22)), O 24 (pick (t 16) cTru (t 23)), O 25 (M 24), G 26 25 false (fa 7 (t 3)), G 27 25 false (D 26), G 28 25 false (fa 7 (t 2)), G 29 25 false (D 28), G 30 25 false (fa 0 (t 3)), G 31 25 false (D 30), G 32 25 false (B2 .add (t 31) (N ((1)))), G 33 25 false (ixaS 1 (t 29) (t 32)), G 34 25 false (D 33), G 35 25 false (fa 1 (t 3)), G 36 25 false (D 35), G 37 25 false (ixaS 1 (t 34) (t 36)), G 38 25 false (D 37), G 39 25 false (lenS (t 38)), G 40 25 false (B2 .sub (t 39) (N ((1)))), G 41 25 false (call (F 70) [t 27, c (AV.int IntKind.i64 (0)), t 40]), G 42 25 false (un UnOp.not (t 41)), O 43 (pick (t 25) cTru (t 42))] [(0, 0), (1, 0), (2, 0), (3, 0), (4, 0), (5, 1), (6, 0), (7, 0), (8, 0), (9, 0), (10, 0), (11, 0), (12, 0), (13, 1), (14, 0), (15, 0), (16, 0), (17, 0), (18, 0), (19, 0), (20, 0), (21, 0), (22, 0), (23, 0), (24, 0), (25, 0), (26, 0), (27, 0), (28, 0), (29, 0), (30, 0), (31, 0), (32, 2), (33, 0), (34, 0)]).seq (C2.cond (t 43) ((ops 0 [O 4 (mov (N ((2))))]).seq ret) skip)).seq (((ops 0 [O 44 (fa 0 (t 2)), O 45 (D 44), O 5 (M 45)]).seq (block 0 (((ops 0 [O 46 (M 5), O 47 (B2 .lss (t 46) (N ((5))))]).seq (C2.cond (t 47) skip (exit 0))).seq ((block 1 ((ops 0 [O 50 (M 5), O 51 (fa 2 (t 3)), O 52 (ixaA 5 1 (t 51) (t 50)), O 53 (D 52), O 54 (B2 .neq (t 53) (N ((-1))))]).seq (C2.cond (t 54) ((ops 0 [O 4 (mov (N ((3))))]).seq ret) skip))).seq (ops 0 [O 48 (M 5), O 49 (B2 .add (t 48) (N ((1)))), O 5 (M 49)]))).loop)).seq (((ops 0 [O 6 (mov (N ((0))))]).seq (block 2 (((ops 0 [O 55 (M 6), O 56 (fa 0 (t 2)), O 57 (D 56), O 58 (B2 .lss (t 55) (t 57))]).seq (C2.cond (t 58) skip (exit 2))).seq ((block 3 ((ops 0 [O 7 (mov (N ((-1)))), O 8 (mov (N ((1048576))))]).seq (((ops 0 [O 61 (M 6), O 62 (fa 1 (t 3)), O 63 (D 62), O 64 (B2 .eql (t 61) (t 63))]).seq (C2.cond (t 64) (ops 1 [O 65 (fa 7 (t 2)), O 66 (D 65), O 67 (fa 0 (t 3)), O 68 (D 67), O 69 (ixaS 1 (t 66) (t 68)), O 70 (D 69), O 71 (M 6), O 72 (ixaS 1 (t 70) (t 71)), O 73 (D 72), O 74 (lenS (t 73)), O 75 (B2 .sub (t 74) (N ((1)))), O 7 (mov (N ((0)))), O 8 (M 75)]) skip)).seq ((ops 0 [O 76 (M 6), O 77 (fa 2 (t 3)), O 78 (ixaA 5 1 (t 77) (t 76)), O 79 (D 78), O 80 (M 7), O 81 (M 8), O 82 (call (F 70) [t 79, t 80, t 81]), O 83 (un UnOp.not (t 82))]).seq (C2.cond (t 83) ((ops 0 [O 4 (mov (N ((2))))]).seq ret) skip))))).seq (ops 0 [O 59 (M 6), O 60 (B2 .add (t 59) (N ((1)))), O 6 (M 60)]))).loop)).seq ((ops 0 [O 4 (mov (N ((0))))]).seq ret))))))
theorem is73 : Is Try.prog 73 b73 := Is.mk' Try.func73 (by kernel_rfl)

def b74 : F2 := (F2.mk 61 [RV.t 4] ((ops 0 [O 2 (box (t 0)), O 3 (box (t 1)), O 4 (mov (N ((0))))]).seq ((ops 0 [O 9 (fa 0 (t 2)), O 10 (D 9), O 11 (fa 1 (t 2)), O 12 (D 11), O 13 (bldS 1 2 [AV.int IntKind.i64 (0)] [(0, 1, t 10), (1, 1, t 12)]), O 5 (M 13)]).seq ((ops 0 [O 14 (fa 0 (t 3)), O 15 (D 14), O 16 (fa 1 (t 3)), O 17 (D 16), O 18 (bldS 1 2 [AV.int IntKind.i64 (0)] [(0, 1, t 15), (1, 1, t 17)]), O 6 (M 18)]).seq (((ops 0 [O 7 (mov (N ((0))))]).seq (block 0 (((ops 0 [O 19 (M 7), O 20 (B2 .lss (t 19) (N ((5))))]).seq (C2.cond (t 20) skip (exit 0))).seq ((block 1 (mixS 9 [O 23 (M 5), O 24 (M 7), O 25 (fa 2 (t 2)), O 26 (ixaA 5 1 (t 25) (t 24)), O 27 (D 26), O 28 (bldS 1 1 [AV.int IntKind.i64 (0)] [(0, 1, t 27)]), O 29 (app 1 8 (t 23) (t 28)), O 30 (M 6), O 31 (M 7), O 32 (fa 2 (t 3)), O 33 (ixaA 5 1 (t 32) (t 31)), O 34 (D 33), O 35 (bldS 1 1 [AV.int IntKind.i64 (0)] [(0, 1, t 34)]), O 36 (app 1 8 (t 30) (t 35)), O 5 (M 29), O 6 (M 36)] [(0, 0), (1, 0), (2, 0), (3, 0), (4, 0), (5, 3), (7, 0), (8, 0), (9, 0), (10, 0), (11, 0), (12, 3), (6, 1), (13, 2), (14, 0), (15, 0)])).seq (ops 0 [O 21 (M 7), O 22 (B2 .add (t 21) (N ((1)))), O 7 (M 22)]))).loop)).seq (((ops 0 [O 8 (mov (N ((0))))]).seq (block 2 (((ops 0 [O 37 (M 8), O 38 (M 5), O 39 (lenS (t 38)), O 40 (B2 .lss (t 37) (t 39))]).seq (C2.cond (t 40) skip (exit 2))).seq ((block 3 (((ops 1 [O 43 (M 5), O 44 (M 8), O 45 (ixaS 1 (t 43) (t 44)), O 46 (D 45), O 47 (M 6), O 48 (M 8), O 49 (ixaS 1 (t 47) (t 48)), O 50 (D 49), O 51 (B2 .lss (t 46) (t 50))]).seq (C2.cond (t 51) ((ops 0 [O 4 (mov (N ((-1))))]).seq ret) skip)).seq ((ops 1 [O 52 (M 5), O 53 (M 8), O 54 (ixaS 1 (t 52) (t 53)), O 55 (D 54), O 56 (M 6), O 57 (M 8), O 58 (ixaS 1 (t 56) (t 57)), O 59 (D 58), O 60 (B2 .gtr (t 55) (t 59))]).seq (C2.cond (t 60) ((ops 0 [O 4 (mov (N ((1))))]).seq ret) skip)))).seq (ops 0 [O 41 (M 8), O 42 (B2 .add (t 41) (N ((1)))), O 8 (M 42)]))).loop)).seq ((ops 0 [O 4 (mov (N ((0))))]).seq ret)))))))
theorem is74 : Is Try.prog 74 b74 := Is.mk' Try.func74 (by kernel_rfl)

def b75 : F2 := (F2.mk 26 [RV.t 2] ((ops 0 [O 2 (mov (N ((0))))]).seq ((ops 0 [O 5 (M 0), O 6 (lenStr (t 5)), O 7 (B2 .rem (t 6) (N ((65521)))), O 3 (M 7)]).seq (((ops 0 [O 4 (mov (N ((0))))]).seq (block 0 (((ops 0 [O 8 (M 4), O 9 (M 0), O 10 (lenStr (t 9)), O 11 (B2 .lss (t 8) (t 10))]).seq (C2.cond (t 11) skip (exit 0))).seq ((block 1 (ops 0 [O 14 (M 3), O 15 (M 4), O 16 (B2 .add (t 15) (N ((1)))), O 17 (B2 .rem (t 16) (N ((65521)))), O 18 (M 0), O 19 (M 4), O 20 (ixStr (t 18) (t 19)), O 21 (conv IntKind.i64 (t 20)), O 22 (B2 .mul (t 17) (t 21)), O 23 (B2 .add (t 14) (t 22)), O 24 (B2 .rem (t 23) (N ((65521)))), O 3 (M 24)])).seq (ops 0 [O 12 (M 4), O 13 (B2 .add (t 12) (N ((1)))), O 4 (M 13)]))).loop)).seq ((ops 0 [O 25 (M 3), O 2 (M 25)]).seq ret)))))
theorem is75 : Is Try.prog 75 b75 := Is.mk' Try.func75 (by kernel_rfl)

def b77 : F2 := (F2.mk 27 [RV.t 6] ((ops 0 [O 6 (mov (c AV.esl))]).seq ((ops 0 [O 7 (mov (c AV.esl))]).seq (((ops 0 [O 8 (mov (N ((0))))]).seq (block 0 (((ops 0 [O 9 (M 8), O 10 (M 1), O 11 (B2 .lss (t 9) (t 10)), O 12 (M 11), G 13 12 true (M 0), G 14 12 true (nilck (t 13)), G 15 12 true (fa 1 (t 14)), G 16 12 true (D 15), G 17 12 true (un UnOp.not (t 16)), O 18 (pick (t 12) (t 17) cFal)]).seq (C2.cond (t 18) skip (exit 0))).seq ((block 1 (ops 0 [O 21 (M 7), O 22 (M 2), O 23 (call (t 22) []), O 24 (bldS 1 1 [AV.int IntKind.i64 (0)] [(0, 1, t 23)]), O 25 (app 1 8 (t 21) (t 24)), O 7 (M 25)])).seq (ops 0 [O 19 (M 8), O 20 (B2 .add (t 19) (N ((1)))), O 8 (M 20)]))).loop)).seq ((ops 0 [O 26 (M 7), O 6 (M 26)]).seq ret)))))
theorem is77 : Is Try.prog 77 b77 := Is.mk' Try.func77 (by kernel_rfl)

def b78 : F2 := (F2.mk 6 [RV.t 2] ((ops 0 [O 2 (mov (N ((0))))]).seq ((ops 0 [O 3 (M 0), O 4 (call (F 36) [t 3]), O 5 (B2 .sub (t 4) (N ((1)))), O 2 (M 5)]).seq ret)))
theorem is78 : Is Try.prog 78 b78 := Is.mk' Try.func78 (by kernel_rfl)

def b81 : F2 := (F2.mk 11 [RV.t 6] ((ops 0 [O 4 (box (t 1)), O 5 (box (t 2)), O 6 (mov cFal)]).seq ((ops 0 [O 7 (M 0), O 8 (mkfn 96 [t 4, t 5]), O 9 (call (F 95) [t 7, t 8]), O 10 (un UnOp.not (t 9)), O 6 (M 10)]).seq ret)))
theorem is81 : Is Try.prog 81 b81 := Is.mk' Try.func81 (by kernel_rfl)

def b82 : F2 := (F2.mk 9 [RV.t 4] ((ops 0 [O 4 (mov cFal)]).seq ((ops 0 [O 5 (M 0), O 6 (M 1), O 7 (call (F 97) [t 5, t 6]), O 8 (B2 .geq (t 7) (N ((0)))), O 4 (M 8)]).seq ret)))
theorem is82 : Is Try.prog 82 b82 := Is.mk' Try.func82 (by kernel_rfl)

def b83 : F2 := (F2.mk 10 [RV.t 3] ((ops 0 [O 3 (mov cFal)]).seq ((ops 0 [O 4 (M 0), O 5 (fa 3 (t 1)), O 6 (D 5), O 7 (B2 .sub (t 6) (N ((1)))), O 8 (call (F 81) [t 4, c (AV.int IntKind.i64 (-1)), t 7]), O 9 (un UnOp.not (t 8)), O 3 (M 9)]).seq ret)))
theorem is83 : Is Try.prog 83 b83 := Is.mk' Try.func83 (by kernel_rfl)

def b84 : F2 := (F2.mk 6 [RV.t 2] ((ops 0 [O 2 (mov cFal)]).seq ((ops 0 [O 3 (M 0), O 4 (call (F 81) [t 3, c (AV.int IntKind.i64 (0)), c (AV.int IntKind.i64 (1048576))]), O 5 (un UnOp.not (t 4)), O 2 (M 5)]).seq ret)))
theorem is84 : Is Try.prog 84 b84 := Is.mk' Try.func84 (by kernel_rfl)

def b85 : F2 := (F2.mk 18 [RV.t 2] ((ops 0 [O 2 (mov (N ((0))))]).seq ((ops 0 [O 3 (mov (N ((0))))]).seq (((ops 0 [O 6 (M 0), O 7 (lenS (t 6)), O 8 (mov (N ((0))))]).seq (block 0 ((ops 0 [O 9 (B2 .lss (t 8) (t 7))]).seq ((C2.cond (t 9) skip (exit 0)).seq ((block 1 ((ops 0 [O 10 (ixaS 1 (t 6) (t 8)), O 11 (D 10), O 5 (M 11)]).seq ((ops 0 [O 12 (M 5), O 13 (M 3), O 14 (B2 .neq (t 12) (t 13))]).seq (C2.cond (t 14) ((ops 0 [O 15 (M 5), O 2 (M 15)]).seq ret) skip)))).seq (ops 0 [O 16 (B2 .add (t 8) (N ((1)))), O 8 (M 16)])))).loop)).seq ((ops 0 [O 17 (M 3), O 2 (M 17)]).seq ret)))))
theorem is85 : Is Try.prog 85 b85 := Is.mk' Try.func85 (by kernel_rfl)

def b86 : F2 := (F2.mk 20 [RV.t 4] ((ops 0 [O 4 (mov (N ((0))))]).seq ((ops 0 [O 7 (M 0), O 8 (call (F 98) [t 7]), O 5 (M 8)]).seq ((ops 0 [O 9 (M 1), O 10 (call (F 98) [t 9]), O 6 (M 10)]).seq (((ops 0 [O 11 (M 5)]).seq (C2.cond (t 11) (((ops 0 [O 12 (M 6)]).seq (C2.cond (t 12) ((ops 0 [O 4 (mov (N ((0))))]).seq ret) skip)).seq ((ops 0 [O 4 (mov (N ((-1))))]).seq ret)) skip)).seq (((ops 0 [O 13 (M 6)]).seq (C2.cond (t 13) ((ops 0 [O 4 (mov (N ((1))))]).seq ret) skip)).seq (((ops 0 [O 14 (M 0), O 15 (M 1), O 16 (B2 .lss (t 14) (t 15))]).seq (C2.cond (t 16) ((ops 0 [O 4 (mov (N ((-1))))]).seq ret) skip)).seq (((ops 0 [O 17 (M 0), O 18 (M 1), O 19 (B2 .gtr (t 17) (t 18))]).seq (C2.cond (t 19) ((ops 0 [O 4 (mov (N ((1))))]).seq ret) skip)).seq ((ops 0 [O 4 (mov (N ((0))))]).seq ret)))))))))
theorem is86 : Is Try.prog 86 b86 := Is.mk' Try.func86 (by kernel_rfl)

def b87 : F2 := (F2.mk 36 [RV.t 4] ((ops 0 [O 4 (mov (N ((0))))]).seq (((ops 0 [O 9 (M 0), O 10 (lenS (t 9)), O 11 (mov (N ((0))))]).seq (block 0 ((ops 0 [O 12 (B2 .lss (t 11) (t 10))]).seq ((C2.cond (t 12) skip (exit 0)).seq ((block 1 ((ops 0 [O 13 (M 11), O 14 (ixaS 1 (t 9) (t 11)), O 15 (D 14), O 5 (M 13), O 6 (M 15)]).seq (((ops 0 [O 16 (M 5), O 17 (M 1), O 18 (lenS (t 17)), O 19 (B2 .geq (t 16) (t 18))]).seq (C2.cond (t 19) ((ops 0 [O 4 (mov (N ((1))))]).seq ret) skip)).seq ((ops 0 [O 20 (M 1), O 21 (M 5), O 22 (ixaS 1 (t 20) (t 21)), O 23 (D 22), O 7 (M 23)]).seq ((ops 0 [O 24 (M 6), O 25 (M 7), O 26 (call (F 86) [t 24, t 25]), O 8 (M 26)]).seq ((ops 0 [O 27 (M 8), O 28 (B2 .neq (t 27) (N ((0))))]).seq (C2.cond (t 28) ((ops 0 [O 29 (M 8), O 4 (M 29)]).seq ret) skip))))))).seq (ops 0 [O 30 (B2 .add (t 11) (N ((1)))), O 11 (M 30)])))).loop)).seq (((ops 0 [O 31 (M 0), O 32 (lenS (t 31)), O 33 (M 1), O 34 (lenS (t 33)), O 35 (B2 .lss (t 32) (t 34))]).seq (C2.cond (t 35) ((ops 0 [O 4 (mov (N ((-1))))]).seq ret) skip)).seq ((ops 0 [O 4 (mov (N ((0))))]).seq ret)))))
theorem is87 : Is Try.prog 87 b87 := Is.mk' Try.func87 (by kernel_rfl)

def b88 : F2 := (F2.mk 11 [RV.t 6] ((ops 0 [O 6 (mov cFal)]).seq ((ops 0 [O 7 (M 0), O 8 (M 1), O 9 (M 2), O 10 (call (F 99) [t 7, t 8, t 9]), O 6 (M 10)]).seq ret)))
theorem is88 : Is Try.prog 88 b88 := Is.mk' Try.func88 (by kernel_rfl)

def b89 : F2 := (F2.mk 26 [RV.t 4] ((ops 0 [O 4 (mov cFal)]).seq (((ops 0 [O 6 (M 0), O 7 (lenS (t 6)), O 8 (M 1), O 9 (lenS (t 8)), O 10 (B2 .neq (t 7) (t 9))]).seq (C2.cond (t 10) ((ops 0 [O 4 (mov cFal)]).seq ret) skip)).seq (((ops 0 [O 11 (M 0), O 12 (lenS (t 11)), O 13 (mov (N ((0))))]).seq (block 0 ((ops 0 [O 14 (B2 .lss (t 13) (t 12))]).seq ((C2.cond (t 14) skip (exit 0)).seq ((block 1 ((ops 0 [O 15 (M 13), O 5 (M 15)]).seq ((ops 1 [O 16 (M 0), O 17 (M 5), O 18 (ixaS 1 (t 16) (t 17)), O 19 (D 18), O 20 (M 1), O 21 (M 5), O 22 (ixaS 1 (t 20) (t 21)), O 23 (D 22), O 24 (B2 .neq (t 19) (t 23))]).seq (C2.cond (t 24) ((ops 0 [O 4 (mov cFal)]).seq ret) skip)))).seq (ops 0 [O 25 (B2 .add (t 13) (N ((1)))), O 13 (M 25)])))).loop)).seq ((ops 0 [O 4 (mov cTru)]).seq ret)))))
theorem is89 : Is Try.prog 89 b89 := Is.mk' Try.func89 (by kernel_rfl)

def b90 : F2 := (F2.mk 11 [RV.t 6] ((ops 0 [O 6 (mov cFal)]).seq ((ops 0 [O 7 (M 0), O 8 (M 1), O 9 (M 2), O 10 (call (F 100) [t 7, t 8, t 9]), O 6 (M 10)]).seq ret)))
theorem is90 : Is Try.prog 90 b90 := Is.mk' Try.func90 (by kernel_rfl)

def b91 : F2 := (F2.mk 32 [RV.t 6] ((ops 0 [O 6 (mov cFal)]).seq (((ops 0 [O 10 (M 0), O 11 (lenS (t 10)), O 12 (M 1), O 13 (lenS (t 12)), O 14 (B2 .neq (t 11) (t 13))]).seq (C2.cond (t 14) ((ops 0 [O 6 (mov cFal)]).seq ret) skip)).seq (((ops 0 [O 15 (M 0), O 16 (lenS (t 15)), O 17 (mov (N ((0))))]).seq (block 0 ((ops 0 [O 18 (B2 .lss (t 17) (t 16))]).seq ((C2.cond (t 18) skip (exit 0)).seq ((block 1 ((ops 0 [O 19 (M 17), O 20 (ixaS 1 (t 15) (t 17)), O 21 (D 20), O 7 (M 19), O 8 (M 21)]).seq ((ops 0 [O 22 (M 1), O 23 (M 7), O 24 (ixaS 1 (t 22) (t 23)), O 25 (D 24), O 9 (M 25)]).seq ((ops 0 [O 26 (M 2), O 27 (M 8), O 28 (M 9), O 29 (call (t 26) [t 27, t 28]), O 30 (un UnOp.not (t 29))]).seq (C2.cond (t 30) ((ops 0 [O 6 (mov cFal)]).seq ret) skip))))).seq (ops 0 [O 31 (B2 .add (t 17) (N ((1)))), O 17 (M 31)])))).loop)).seq ((ops 0 [O 6 (mov cTru)]).seq ret)))))
theorem is91 : Is Try.prog 91 b91 := Is.mk' Try.func91 (by kernel_rfl)

def b92 : F2 := (F2.mk 33 [] ((ops 0 [O 7 (M 1), O 8 (lenS (t 7)), O 9 (mov (N ((0))))]).seq (block 0 ((ops 0 [O 10 (B2 .lss (t 9) (t 8))]).seq ((C2.cond (t 10) skip (exit 0)).seq ((block 1 ((ops 0 [O 11 (ixaS 1 (t 7) (t 9)), O 12 (D 11), O 6 (M 12)]).seq (((ops 0 [O 13 (M 6), O 14 (M 0), O 15 (B2 .add (t 13) (t 14)), O 6 (M 15)]).seq (block 2 (((ops 0 [O 16 (M 6), O 17 (B2 .gtr (t 16) (N ((127))))]).seq (C2.cond (t 17) skip (exit 2))).seq ((block 3 (ops 0 [O 20 (D 2), O 21 (M 6), O 22 (B2 .and (t 21) (N ((127)))), O 23 (B2 .or (t 22) (N ((128)))), O 24 (conv IntKind.u8 (t 23)), O 25 (bldS 1 1 [AV.int IntKind.u8 (0)] [(0, 1, t 24)]), O 26 (app 1 1 (t 20) (t 25)), Op2.mk none none (Ins.st 1 (t 2) (t 26))])).seq (ops 0 [O 18 (M 6), O 19 (B2 .shr (t 18) (c (AV.int IntKind.u64 (7)))), O 6 (M 19)]))).loop)).seq (ops 0 [O 27 (D 2), O 28 (M 6), O 29 (conv IntKind.u8 (t 28)), O 30 (bldS 1 1 [AV.int IntKind.u8 (0)] [(0, 1, t 29)]), O 31 (app 1 1 (t 27) (t 30)), Op2.mk none none (Ins.st 1 (t 2) (t 31))])))).seq (ops 0 [O 32 (B2 .add (t 9) (N ((1)))), O 9 (M 32)])))).loop)))
theorem is92 : Is Try.prog 92 b92 := Is.mk' Try.func92 (by kernel_rfl)

def b93 : F2 := (F2.mk 3 [RV.t 1] ((ops 0 [O 1 (mov (c AV.esl))]).seq ((ops 0 [O 2 (D 0), O 1 (M 2)]).seq ret)))
theorem is93 : Is Try.prog 93 b93 := Is.mk' Try.func93 (by kernel_rfl)

def b94 : F2 := (F2.mk 22 [RV.t 6] ((ops 0 [O 6 (mov cFal)]).seq (((ops 0 [O 7 (mov (N ((0))))]).seq (block 0 (((ops 0 [O 8 (M 7), O 9 (M 0), O 10 (lenS (t 9)), O 11 (B2 .lss (t 8) (t 10))]).seq (C2.cond (t 11) skip (exit 0))).seq ((block 1 ((ops 0 [O 14 (M 0), O 15 (M 7), O 16 (ixaS 1 (t 14) (t 15)), O 17 (D 16), O 18 (M 1), O 19 (M 2), O 20 (call (F 70) [t 17, t 18, t 19]), O 21 (un UnOp.not (t 20))]).seq (C2.cond (t 21) ((ops 0 [O 6 (mov cFal)]).seq ret) skip))).seq (ops 0 [O 12 (M 7), O 13 (B2 .add (t 12) (N ((1)))), O 7 (M 13)]))).loop)).seq ((ops 0 [O 6 (mov cTru)]).seq ret))))
theorem is94 : Is Try.prog 94 b94 := Is.mk' Try.func94 (by kernel_rfl)

def b95 : F2 := (F2.mk 9 [RV.t 4] ((ops 0 [O 4 (mov cFal)]).seq ((ops 0 [O 5 (M 0), O 6 (M 1), O 7 (call (F 101) [t 5, t 6]), O 8 (B2 .geq (t 7) (N ((0)))), O 4 (M 8)]).seq ret)))
theorem is95 : Is Try.prog 95 b95 := Is.mk' Try.func95 (by kernel_rfl)

def b96 : F2 := (F2.mk 10 [RV.t 4] ((ops 0 [O 4 (mov cFal)]).seq ((ops 0 [O 5 (M 0), O 6 (D 1), O 7 (D 2), O 8 (call (F 55) [t 5, t 6, t 7]), O 9 (un UnOp.not (t 8)), O 4 (M 9)]).seq ret)))
theorem is96 : Is Try.prog 96 b96 := Is.mk' Try.func96 (by kernel_rfl)

def b97 : F2 := (F2.mk 19 [RV.t 4] ((ops 0 [O 4 (mov (N ((0))))]).seq (((ops 0 [O 6 (M 0), O 7 (lenS (t 6)), O 8 (mov (N ((0))))]).seq (block 0 ((ops 0 [O 9 (B2 .lss (t 8) (t 7))]).seq ((C2.cond (t 9) skip (exit 0)).seq ((block 1 ((ops 0 [O 10 (M 8), O 5 (M 10)]).seq ((ops 0 [O 11 (M 1), O 12 (M 0), O 13 (M 5), O 14 (ixaS 1 (t 12) (t 13)), O 15 (D 14), O 16 (call (t 11) [t 15])]).seq (C2.cond (t 16) ((ops 0 [O 17 (M 5), O 4 (M 17)]).seq ret) skip)))).seq (ops 0 [O 18 (B2 .add (t 8) (N ((1)))), O 8 (M 18)])))).loop)).seq ((ops 0 [O 4 (mov (N ((-1))))]).seq ret))))
theorem is97 : Is Try.prog 97 b97 := Is.mk' Try.func97 (by kernel_rfl)

def b98 : F2 := (F2.mk 6 [RV.t 2] ((ops 0 [O 2 (mov cFal)]).seq ((ops 0 [O 3 (M 0), O 4 (M 0), O 5 (B2 .neq (t 3) (t 4)), O 2 (M 5)]).seq ret)))
theorem is98 : Is Try.prog 98 b98 := Is.mk' Try.func98 (by kernel_rfl)

def b99 : F2 := (F2.mk 32 [RV.t 6] ((ops 0 [O 6 (mov cFal)]).seq (((ops 0 [O 10 (M 0), O 11 (lenS (t 10)), O 12 (M 1), O 13 (lenS (t 12)), O 14 (B2 .neq (t 11) (t 13))]).seq (C2.cond (t 14) ((ops 0 [O 6 (mov cFal)]).seq ret) skip)).seq (((ops 0 [O 15 (M 0), O 16 (lenS (t 15)), O 17 (mov (N ((0))))]).seq (block 0 ((ops 0 [O 18 (B2 .lss (t 17) (t 16))]).seq ((C2.cond (t 18) skip (exit 0)).seq ((block 1 ((ops 0 [O 19 (M 17), O 20 (ixaS 1 (t 15) (t 17)), O 21 (D 20), O 7 (M 19), O 8 (M 21)]).seq ((ops 0 [O 22 (M 1), O 23 (M 7), O 24 (ixaS 1 (t 22) (t 23)), O 25 (D 24), O 9 (M 25)]).seq ((ops 0 [O 26 (M 2), O 27 (M 8), O 28 (M 9), O 29 (call (t 26) [t 27, t 28]), O 30 (un UnOp.not (t 29))]).seq (C2.cond (t 30) ((ops 0 [O 6 (mov cFal)]).seq ret) skip))))).seq (ops 0 [O 31 (B2 .add (t 17) (N ((1)))), O 17 (M 31)])))).loop)).seq ((ops 0 [O 6 (mov cTru)]).seq ret)))))
theorem is99 : Is Try.prog 99 b99 := Is.mk' Try.func99 (by kernel_rfl)

def b100 : F2 := (F2.mk 32 [RV.t 6] ((ops 0 [O 6 (mov cFal)]).seq (((ops 0 [O 10 (M 0), O 11 (lenS (t 10)), O 12 (M 1), O 13 (lenS (t 12)), O 14 (B2 .neq (t 11) (t 13))]).seq (C2.cond (t 14) ((ops 0 [O 6 (mov cFal)]).seq ret) skip)).seq (((ops 0 [O 15 (M 0), O 16 (lenS (t 15)), O 17 (mov (N ((0))))]).seq (block 0 ((ops 0 [O 18 (B2 .lss (t 17) (t 16))]).seq ((C2.cond (t 18) skip (exit 0)).seq ((block 1 ((ops 0 [O 19 (M 17), O 20 (ixaS 1 (t 15) (t 17)), O 21 (D 20), O 7 (M 19), O 8 (M 21)]).seq ((ops 0 [O 22 (M 1), O 23 (M 7), O 24 (ixaS 1 (t 22) (t 23)), O 25 (D 24), O 9 (M 25)]).seq ((ops 0 [O 26 (M 2), O 27 (M 8), O 28 (M 9), O 29 (call (t 26) [t 27, t 28]), O 30 (un UnOp.not (t 29))]).seq (C2.cond (t 30) ((ops 0 [O 6 (mov cFal)]).seq ret) skip))))).seq (ops 0 [O 31 (B2 .add (t 17) (N ((1)))), O 17 (M 31)])))).loop)).seq ((ops 0 [O 6 (mov cTru)]).seq ret)))))
theorem is100 : Is Try.prog 100 b100 := Is.mk' Try.func100 (by kernel_rfl)

def b101 : F2 := (F2.mk 19 [RV.t 4] ((ops 0 [O 4 (mov (N ((0))))]).seq (((ops 0 [O 6 (M 0), O 7 (lenS (t 6)), O 8 (mov (N ((0))))]).seq (block 0 ((ops 0 [O 9 (B2 .lss (t 8) (t 7))]).seq ((C2.cond (t 9) skip (exit 0)).seq ((block 1 ((ops 0 [O 10 (M 8), O 5 (M 10)]).seq ((ops 0 [O 11 (M 1), O 12 (M 0), O 13 (M 5), O 14 (ixaS 1 (t 12) (t 13)), O 15 (D 14), O 16 (call (t 11) [t 15])]).seq (C2.cond (t 16) ((ops 0 [O 17 (M 5), O 4 (M 17)]).seq ret) skip)))).seq (ops 0 [O 18 (B2 .add (t 8) (N ((1)))), O 8 (M 18)])))).loop)).seq ((ops 0 [O 4 (mov (N ((-1))))]).seq ret))))
theorem is101 : Is Try.prog 101 b101 := Is.mk' Try.func101 (by kernel_rfl)

end Go.Proofs.Ytpbjhjkfobapeaa

/- Q1: contracts of functions and plain laws; for all inputs that the theorems name. -/
namespace Go.Proofs.Ytpbjhjkfobapeaa
open Go Go.Abs
open Nat (reduceEqDiff reduceAdd reduceLeDiff)
attribute [local irreducible] awp2 aops2 ains aloop athen bbind obind gbind acond res1 Go.Abs.Fn PCall Go.Abs.Pure SnapArgs SnapL Yl

abbrev Sh {α : Type} (l : List α) : Prop := l.length ≤ 9223372036854775807

def ckT (l : List UInt8) : Nat → Int
  | 0 => (l.length : Int) % 65521
  | k + 1 => (ckT l k + ((k : Int) + 1) % 65521 * ((l.getD k default).toNat : Int)) % 65521
def csum (l : List UInt8) : Int := ckT l l.length
theorem ckT_bd (l : List UInt8) : ∀ k, 0 ≤ ckT l k ∧ ckT l k < 65521
  | 0 => by simp only [ckT]; omega
  | k + 1 => by simp only [ckT]; omega

theorem checksum_c (l : List UInt8) (hl : Sh l) : Pure Try.prog 24 [encS l] (.int .i64 (csum l)) := by
  refine Pure.of_c2 follows is24 (Nat.le_of_ble_eq_true rfl) ?_
  simp only [b24, O, G, N, M, D, F, B2, cFal, cTru]
  have hl' : l.length ≤ 9223372036854775807 := hl
  repeat' (first | apply w_seq | apply w_ops0 | apply a_n | apply o_nil | (apply o_val rfl rfl; (focus ((try simp (disch := omega) only [simB0, ZA, reduceEqDiff, ↓reduceIte, reduceAdd, reduceLeDiff, ZV, reduceCtorEq, alenStr_encS, rem_pos]); first | with_reducible rfl | (apply s_ite; (focus omega); with_reducible rfl)))))
  refine o_s2b (bs := ⟨l.toArray⟩) (by ((try simp only [simB0, ZA, reduceEqDiff, ↓reduceIte, reduceAdd, reduceLeDiff]); (try with_reducible rfl)); rfl) (fun h0 => ?_) (fun h0 => ?_)
  all_goals rw [encS_size] at h0
  · have hn : l = [] := List.length_eq_zero_iff.1 h0
    repeat' (first | apply w_block | apply a_n | apply o_nil | (apply o_val rfl rfl; (focus ((try simp (disch := omega) only [simB0, ZA, reduceEqDiff, ↓reduceIte, reduceAdd, reduceLeDiff, ZV, reduceCtorEq]); first | with_reducible rfl | (apply s_ite; (focus omega); with_reducible rfl)))) | apply w_loop)
    refine loop0 (X := Unit) (fun k => [(3, .int .i64 ((l.length : Int) % 65521)), (11, .int .i64 0), (12, .int .i64 0)]) (fun _ => True) (fun k => 0) () trivial (by simp (disch := omega) only [agr, ZG, reduceEqDiff, ↓reduceIte, List.length_nil, Int.natCast_zero]) ?_
    rintro k _
    repeat' (first | apply w_seq | apply w_ops0 | apply w_exit | apply w_ret | apply a_n | apply a_x | apply o_nil | (apply o_val rfl rfl; (focus ((try simp (disch := omega) only [simB0, ZA, reduceEqDiff, ↓reduceIte, reduceAdd, reduceLeDiff, ZV, reduceCtorEq]); first | with_reducible rfl | (apply s_ite; (focus omega); with_reducible rfl)))) | (apply w_cond; (focus ((try simp only [simB0, ZA, reduceEqDiff, ↓reduceIte, reduceAdd, reduceLeDiff]); (try with_reducible rfl); done)); all_goals (intro _hg; (try simp only [ZB] at _hg); try first | exact absurd trivial _hg | (exfalso; omega))) | (refine e_ends rfl ?_) | (apply r_1; (focus (simp only [rv, simB0, ZA, reduceEqDiff, ↓reduceIte, reduceAdd, reduceLeDiff]; with_reducible rfl))))
    subst hn
    exact .int _ _
  · rw [encS_size]
    rw [encS_data]
    repeat' (first | apply w_block | apply a_n | apply o_nil | (apply o_val rfl rfl; (focus ((try simp (disch := omega) only [simB0, ZA, reduceEqDiff, ↓reduceIte, reduceAdd, reduceLeDiff, ZV, reduceCtorEq]); first | with_reducible rfl | (apply s_ite; (focus omega); with_reducible rfl)))) | apply w_loop)
    refine loopI (X := Nat) (fun k => [(3, .int .i64 (ckT l k)), (10, .msl 0 l.length 1 0 l.length), (11, .int .i64 l.length), (12, .int .i64 k)]) (fun k H nx => k ≤ l.length ∧ H 0 = some (l.map encB)) (fun k => l.length - k) 0 ⟨Nat.zero_le _, hupd_self'⟩ (by simp (disch := omega) only [agr, ZG, reduceEqDiff, ↓reduceIte, ckT]) ?_
    rintro k H nx ⟨h1, hH⟩
    have hb := ckT_bd l k
    have hc := byte_lt (l.getD k default)
    have hm : 0 ≤ ((k : Int) + 1) % 65521 * ((l.getD k default).toNat : Int) := Int.mul_nonneg (by omega) (by omega)
    have hm2 : ((k : Int) + 1) % 65521 * ((l.getD k default).toNat : Int) ≤ 65520 * 255 := Int.mul_le_mul (by omega) (by omega) (by omega) (by omega)
    repeat' (first | apply w_seq | apply w_ops0 | apply w_block | apply w_skip | apply w_exit | apply w_ret | apply a_n | apply a_x | apply o_nil | (apply o_val rfl rfl; (focus ((try simp (disch := omega) only [simB0, ZA, reduceEqDiff, ↓reduceIte, reduceAdd, reduceLeDiff, ZV, reduceCtorEq, hH, encB, rem_pos]); first | with_reducible rfl | (apply s_ite; (focus omega); with_reducible rfl)))) | (apply w_cond; (focus ((try simp only [simB0, ZA, reduceEqDiff, ↓reduceIte, reduceAdd, reduceLeDiff, hH, encB, rem_pos]); (try with_reducible rfl); done)); all_goals (intro _hg; (try simp only [ZB] at _hg); try first | exact absurd trivial _hg | (exfalso; omega))) | (refine e_ends rfl ?_) | (apply r_1; (focus (simp only [rv, simB0, ZA, reduceEqDiff, ↓reduceIte, reduceAdd, reduceLeDiff, hH, encB, rem_pos]; with_reducible rfl))))
    · refine ⟨k + 1, by omega, ⟨by omega, hH⟩, ?_⟩
      simp only [ckT]
      simp (disch := omega) only [agr, ZG, reduceEqDiff, ↓reduceIte]
    · rw [show k = l.length by omega]
      exact .int _ _

end Go.Proofs.Ytpbjhjkfobapeaa

/- Q2: contracts of functions and plain laws; for all inputs that the theorems name. -/
namespace Go.Proofs.Ytpbjhjkfobapeaa
open Go Go.Abs

def vintF : Nat → Nat → List UInt8
  | 0, n => [UInt8.ofNat n]
  | k + 1, n => if 127 < n then UInt8.ofNat (n % 128 + 128) :: vintF k (n / 128) else [UInt8.ofNat n]
def vint (n : Nat) : List UInt8 := vintF 9 n
def vints (add : Int) (l : List Int) : List UInt8 := l.flatMap fun x => vint (x + add).toNat
theorem vintF_succ : ∀ (k n : Nat), n < 128 ^ (k + 1) → vintF (k + 1) n = vintF k n
  | 0, n, h => by simp only [vintF]; rw [if_neg (by simpa using Nat.lt_succ_iff.1 h)]
  | k + 1, n, h => by
    have h2 : n / 128 < 128 ^ (k + 1) := by
      rw [Nat.div_lt_iff_lt_mul (by omega), ← Nat.pow_succ]; exact h
    show (if 127 < n then UInt8.ofNat (n % 128 + 128) :: vintF (k + 1) (n / 128) else [UInt8.ofNat n]) = (if 127 < n then UInt8.ofNat (n % 128 + 128) :: vintF k (n / 128) else [UInt8.ofNat n])
    rw [vintF_succ k _ h2]
theorem vint_big {n : Nat} (h : 127 < n) (h2 : n < 128 ^ 9) : vint n = UInt8.ofNat (n % 128 + 128) :: vint (n / 128) := by
  unfold vint
  rw [vintF, if_pos h]
  congr 1
  have h3 : n / 128 < 128 ^ 9 := Nat.lt_of_le_of_lt (Nat.div_le_self _ _) h2
  exact (vintF_succ 8 _ h3).symm
theorem vint_small {n : Nat} (h : ¬ 127 < n) : vint n = [UInt8.ofNat n] := by
  unfold vint
  rw [vintF, if_neg h]
theorem vintF_len : ∀ (k n : Nat), (vintF k n).length ≤ k + 1
  | 0, n => by simp [vintF]
  | k + 1, n => by
    simp only [vintF]
    split
    · have := vintF_len k (n / 128)
      simp; omega
    · simp
theorem vint_len (n : Nat) : (vint n).length ≤ 10 := vintF_len 9 n
theorem vints_len (add : Int) : ∀ l : List Int, (vints add l).length ≤ 10 * l.length
  | [] => by simp [vints]
  | x :: l => by
    have h1 := vints_len add l
    have h2 := vint_len (x + add).toNat
    unfold vints at *
    rw [List.flatMap_cons, List.length_append, List.length_cons]; omega
theorem vints_snoc (add : Int) (l : List Int) (x : Int) : vints add (l ++ [x]) = vints add l ++ vint (x + add).toNat := by simp [vints]

structure OutI (b : Nat) (bs : List UInt8) (H : Hp) (nx : Nat) (s : AV) : Prop where
  box : H b = some [s]
  row : Row H 1 s (bs.map encB)
  ne : rowB s ≠ some b
  lt : ∀ r, rowB s = some r → r < nx
  blt : b < nx
def OutS (H0 : Hp) (nx0 : Nat) (s0 : AV) (b : Nat) (bs : List UInt8) (H : Hp) (nx : Nat) : Prop :=
  ∃ s, OutI b bs H nx s ∧ nx0 ≤ nx ∧ (rowB s = rowB s0 ∨ ∀ r, rowB s = some r → nx0 ≤ r) ∧ ∀ i, i < nx0 → i ≠ b → rowB s0 ≠ some i → H i = H0 i

theorem OutS.refl {H0 : Hp} {nx0 : Nat} {s0 : AV} {b : Nat} {bs : List UInt8} (h : OutI b bs H0 nx0 s0) : OutS H0 nx0 s0 b bs H0 nx0 := ⟨s0, h, Nat.le_refl _, .inl rfl, fun _ _ _ _ => rfl⟩

structure Reads (H0 : Hp) (nx0 : Nat) (s0 : AV) (b : Nat) (x : AV) (l : List Int) : Prop where
  len : alenS x = some (.int .i64 l.length)
  ix : ∀ k : Nat, k < l.length → ∃ p, aixS 1 x (.int .i64 k) = some p ∧ ∀ H : Hp, (∀ i, i < nx0 → i ≠ b → rowB s0 ≠ some i → H i = H0 i) → rd1 H p = some (.int .i64 (l.getD k default))

theorem Reads.data {H0 : Hp} {nx0 : Nat} {s0 : AV} {b : Nat} (l : List Int) : Reads H0 nx0 s0 b (encV l) l :=
  ⟨alenS_encV, fun k hk => ⟨.iptr [.int .i64 (l.getD k default)] 0, by rw [aixS_encV, if_pos ⟨by omega, by omega⟩]; rfl, fun H _ => rfl⟩⟩
theorem Reads.box {H0 : Hp} {nx0 : Nat} {s0 : AV} {b bx n : Nat} {l : List Int} (hb : H0 bx = some (l.map (AV.int .i64))) (hlt : bx < nx0) (h1 : bx ≠ b) (h2 : rowB s0 ≠ some bx) (hn : n = l.length) : Reads H0 nx0 s0 b (.msl bx n 1 0 n) l :=
  ⟨by subst hn; rfl, fun k hk => ⟨.ptr bx n k, by rw [aixS_msl, if_pos ⟨by omega, by omega⟩]; simp, fun H hH => by
    have := hH bx hlt h1 h2
    simp only [rd1, this, hb]
    rw [if_pos (by simp [hn]), getElem?_map_lt hk]⟩⟩

theorem bytes_one {H : Hp} {b : Nat} {v : UInt8} (hb : H b = some [encB v]) : asrc 1 H (.msl b 1 1 0 1) = some (1, [v].map encB) := asrc_bytes (l := [v]) hb rfl

attribute [local irreducible] awp2 aops2 ains aloop athen bbind obind gbind acond res1 Go.Abs.Fn PCall Go.Abs.Pure SnapArgs SnapL Yl
theorem push_out {H0 : Hp} {nx0 : Nat} {s0 s : AV} {b : Nat} {bs : List UInt8} {H : Hp} {nx : Nat} {v : UInt8} {P : Program} {T : Tm} {K : SP} {l : List Op2} {d : Option Nat} {sx x : Opd} {bytes : Nat} (hI : OutI b bs H nx s) (hle : nx0 ≤ nx) (hr : rowB s = rowB s0 ∨ ∀ r, rowB s = some r → nx0 ≤ r) (hfr : ∀ i, i < nx0 → i ≠ b → rowB s0 ≠ some i → H i = H0 i)
    (hs : ov T sx = s) (hx : ov T x = .msl nx 1 1 0 1) (hb1 : bytes = 1) (hlen : bs.length ≤ 1099511627776)
    (k : ∀ (s' : AV) (H' : Hp) (nx' : Nat), s'.one = true → s'.cells = [s'] → H' b = some [s] → OutS H0 nx0 s0 b (bs ++ [v]) (hupd H' b [s']) nx' → aops2 P .text l (updo T d s') H' nx' K) :
    aops2 P .text (⟨d, none, .app 1 bytes sx x⟩ :: l) T (hupd H nx [encB v]) (nx + 1) K := by
  subst hb1
  obtain ⟨i1, i2, i3, i4, i5⟩ := hI
  refine e_row rfl hs (i2.same fun r hr => hupd_ne (by have := i4 r hr; omega)) hx (bytes_one hupd_self') ones_bytes rfl Nat.one_pos (by simp; omega) (by simp; omega) ?_
  rintro s' H' nx' hrow h1 h2 h3 h4
  have hbb : H' b = some [s] := by
    rw [h3 b (by omega) i3, hupd_ne (by omega), i1]
  refine k s' H' nx' hrow.one.1 hrow.one.2 hbb ⟨s', ⟨hupd_self', ?_, ?_, ?_, by omega⟩, by omega, ?_, ?_⟩
  · rw [List.map_append]
    refine hrow.same fun r hr => hupd_ne ?_
    rcases h4 r hr with h | h
    · exact fun e => i3 (by rw [h, e])
    · omega
  · intro h
    rcases h4 b h with h | h
    · exact i3 h
    · omega
  · intro r hr
    rcases h4 r hr with h | h
    · have := i4 r h; omega
    · omega
  · rcases hr with hr | hr
    · cases hs' : rowB s' with
      | none => exact .inr (fun r h => by cases h)
      | some r =>
        rcases h4 r hs' with h | h
        · left; rw [← hr, h]
        · right; intro r' hr'; cases hr'; omega
    · right
      intro r hr'
      rcases h4 r hr' with h | h
      · exact hr r h
      · omega
  · intro i hi hne hne2
    rw [hupd_ne hne, h3 i (by omega) (fun h => ?_), hupd_ne (by omega), hfr i hi hne hne2]
    rcases hr with hr | hr
    · exact hne2 (by rw [← hr, h])
    · have := hr i h; omega

end Go.Proofs.Ytpbjhjkfobapeaa

/- Q3: contracts of functions and plain laws; for all inputs that the theorems name. -/
namespace Go.Proofs.Ytpbjhjkfobapeaa
open Go Go.Abs
open Nat (reduceEqDiff reduceAdd reduceLeDiff)
attribute [local irreducible] awp2 aops2 ains aloop athen bbind obind gbind acond res1 Go.Abs.Fn PCall Go.Abs.Pure SnapArgs SnapL Yl

theorem byteU8 {n : Int} (h : 0 ≤ n) : IntKind.wrap .u8 n = ((UInt8.ofNat n.toNat).toNat : Int) := by
  rw [wrapU8, UInt8.toNat_ofNat']
  have : (2 : Nat) ^ 8 = 256 := rfl
  omega
theorem and127 {n : Int} {tb tf : Bool} (h0 : 0 ≤ n) (h : n < 9223372036854775808) : abin2 .and tb tf (.int .i64 n) (.int .i64 127) = some (.int .i64 (n % 128)) := by
  obtain ⟨m, rfl⟩ : ∃ m : Nat, n = m := ⟨n.toNat, by omega⟩
  have := and_nat (k := .i64) (a := m) (b := 127) (tb := tb) (tf := tf) (by simp [IntKind.bits]; omega) (by simp [IntKind.bits])
  rw [show ((127 : Nat) : Int) = 127 from rfl] at this
  rw [this, show (127 : Nat) = 2 ^ 7 - 1 from rfl, mask_nat]
  simp
theorem or128 {n : Int} {tb tf : Bool} (h0 : 0 ≤ n) (h : n < 128) : abin2 .or tb tf (.int .i64 n) (.int .i64 128) = some (.int .i64 (n + 128)) := by
  obtain ⟨m, rfl⟩ : ∃ m : Nat, n = m := ⟨n.toNat, by omega⟩
  have := or_nat (k := .i64) (a := m) (b := 128) (tb := tb) (tf := tf) (by simp [IntKind.bits]; omega) (by simp [IntKind.bits])
  rw [show ((128 : Nat) : Int) = 128 from rfl] at this
  rw [this]
  congr 2
  have h2 : m ||| 128 = m + 128 := by
    have := Nat.two_pow_add_eq_or_of_lt (i := 7) (b := m) (by omega) 1
    rw [Nat.or_comm, show (128 : Nat) = 2 ^ 7 * 1 from rfl, ← this]; omega
  rw [h2]; simp
theorem shr7 {n : Int} {tb tf : Bool} {k' : IntKind} (h0 : 0 ≤ n) : abin2 .shr tb tf (.int .i64 n) (.int k' 7) = some (.int .i64 (n / 128)) := by
  obtain ⟨m, rfl⟩ : ∃ m : Nat, n = m := ⟨n.toNat, by omega⟩
  have := shr_nat (k := .i64) (a := m) (b := 7) (tb := tb) (tf := tf) (k' := k') (by simp [IntKind.bits])
  rw [show ((7 : Nat) : Int) = 7 from rfl] at this
  rw [this]; simp

theorem write_f (add : Int) (l : List Int) (x s0 : AV) (b : Nat) (bs : List UInt8) (H : Hp) (nx : Nat) (hI : OutI b bs H nx s0) (hx : Reads H nx s0 b x l) (hl : bs.length + 10 * l.length ≤ 1099511627776) (hn : ∀ n ∈ l, 0 ≤ n + add ∧ n + add ≤ 4611686018427387904) (ha : -1000 ≤ add ∧ add ≤ 1000) :
    Abs.Fn Try.prog 92 [.int .i64 add, x, .ptr b 1 0] H nx fun _ H' nx' => OutS H nx s0 b (bs ++ vints add l) H' nx' := by
  refine Abs.Fn.of_c2 follows is92 (Nat.le_of_ble_eq_true rfl) ?_
  simp only [b92, O, G, N, M, D, F, B2, cFal, cTru]
  have hlen := hx.len
  repeat' (first | apply w_seq | apply w_ops0 | apply w_block | apply a_n | apply o_nil | (apply o_val rfl rfl; (focus ((try simp (disch := omega) only [simB0, ZA, reduceEqDiff, ↓reduceIte, reduceAdd, reduceLeDiff, ZV, reduceCtorEq, hlen]); first | with_reducible rfl | (apply s_ite; (focus omega); with_reducible rfl)))) | apply w_loop)
  refine loopI (X := Nat) (fun k => [(0, .int .i64 add), (2, .ptr b 1 0), (7, x), (8, .int .i64 l.length), (9, .int .i64 k)]) (fun k H' nx' => k ≤ l.length ∧ OutS H nx s0 b (bs ++ vints add (l.take k)) H' nx') (fun k => l.length - k) 0 ⟨Nat.zero_le _, by simpa [vints] using OutS.refl hI⟩ (by simp (disch := omega) only [agr, ZG, reduceEqDiff, ↓reduceIte]) ?_
  rintro k H1 nx1 ⟨h1, hO⟩
  by_cases hk : k < l.length
  rotate_left
  · repeat' (first | apply w_seq | apply w_ops0 | apply w_exit | apply a_n | apply a_x | apply o_nil | (apply o_val rfl rfl; (focus ((try simp (disch := omega) only [simB0, ZA, reduceEqDiff, ↓reduceIte, reduceAdd, reduceLeDiff, ZV, reduceCtorEq, hlen]); first | with_reducible rfl | (apply s_ite; (focus omega); with_reducible rfl)))) | (apply w_cond; (focus ((try simp only [simB0, ZA, reduceEqDiff, ↓reduceIte, reduceAdd, reduceLeDiff, hlen]); (try with_reducible rfl); done)); all_goals (intro _hg; (try simp only [ZB] at _hg); try first | exact absurd trivial _hg | (exfalso; omega))) | (refine e_ends rfl ?_) | apply r_0)
    rw [List.take_of_length_le (by omega)] at hO
    exact hO
  obtain ⟨p, hp, hrd⟩ := hx.ix k hk
  have hmem := hn _ (mem_getD hk)
  have hvl := vints_len add (l.take k)
  rw [List.length_take] at hvl
  obtain ⟨s, hs, hle, hrow, hfr⟩ := hO
  have hrd := hrd H1 hfr
  generalize hv : l.getD k default = v at *
  repeat' (first | apply w_seq | apply w_ops0 | apply w_block | apply w_skip | apply a_n | apply o_nil | (apply o_val rfl rfl; (focus ((try simp (disch := omega) only [simB0, ZA, reduceEqDiff, ↓reduceIte, reduceAdd, reduceLeDiff, ZV, reduceCtorEq, hlen, hp, hrd]); first | with_reducible rfl | (apply s_ite; (focus omega); with_reducible rfl)))) | (apply w_cond; (focus ((try simp only [simB0, ZA, reduceEqDiff, ↓reduceIte, reduceAdd, reduceLeDiff, hlen, hp, hrd]); (try with_reducible rfl); done)); all_goals (intro _hg; (try simp only [ZB] at _hg); try first | exact absurd trivial _hg | (exfalso; omega))) | apply w_loop)
  refine loopI (X := Nat × List UInt8) (fun y => [(0, .int .i64 add), (2, .ptr b 1 0), (6, .int .i64 y.1), (7, x), (8, .int .i64 l.length), (9, .int .i64 k)])
    (fun y H' nx' => (y.1 : Int) ≤ v + add ∧ y.2.length ≤ bs.length + 10 * l.length ∧ bs ++ vints add (l.take k) ++ vint (v + add).toNat = y.2 ++ vint y.1 ∧ OutS H nx s0 b y.2 H' nx') (fun y => y.1) ((v + add).toNat, bs ++ vints add (l.take k)) ⟨by omega, by simp; omega, rfl, ⟨s, hs, hle, hrow, hfr⟩⟩ (by simp (disch := omega) only [agr, ZG, reduceEqDiff, ↓reduceIte, show (((v + add).toNat : Nat) : Int) = v + add by omega]) ?_
  clear hs hle hrow hfr hrd s
  rintro ⟨m, cs⟩ H2 nx2 ⟨k1, k2, k3, s, hs, hle, hrow, hfr⟩
  dsimp only at k1 k2 k3 hs ⊢
  have hbx := hs.box
  have h9 : m < 128 ^ 9 := by omega
  by_cases hm : 127 < m
  · have hw : IntKind.wrap .u8 ((m : Int) % 128 + 128) = ((UInt8.ofNat (m % 128 + 128)).toNat : Int) := by
      rw [byteU8 (by omega)]
      rw [show ((m : Int) % 128 + 128).toNat = m % 128 + 128 by omega]
    have a1 := fun tb tf => and127 (n := m) (tb := tb) (tf := tf) (by omega) (by omega)
    have a2 := fun tb tf => or128 (n := (m : Int) % 128) (tb := tb) (tf := tf) (by omega) (by omega)
    have a3 := fun tb tf (k' : IntKind) => shr7 (n := m) (tb := tb) (tf := tf) (k' := k') (by omega)
    repeat' (first | apply w_seq | apply w_ops0 | apply w_block | apply w_skip | apply a_n | apply o_nil | (apply o_val rfl; (focus (first | rfl | (simp (disch := omega) only [dm2, oldP, newP, simB0, ZA, reduceEqDiff, ↓reduceIte, reduceAdd, reduceLeDiff, decide_eq_true_eq]; first | done | omega))); (focus ((try simp (disch := omega) only [simB2, ZA, reduceEqDiff, ↓reduceIte, reduceAdd, reduceLeDiff, ZV, reduceCtorEq, hlen, hbx, a1, a2, a3, hw]); first | with_reducible rfl | (apply s_ite; (focus omega); with_reducible rfl)))) | (apply e_bld rfl; (focus (exact Nat.succ_ne_zero _)); (focus ((try simp (disch := omega) only [simB2, ZA, reduceEqDiff, ↓reduceIte, reduceAdd, reduceLeDiff, hlen, hbx, a1, a2, a3, hw]); (try with_reducible rfl); done)); (focus ((try simp (disch := omega) only [simB2, ZA, reduceEqDiff, ↓reduceIte, reduceAdd, reduceLeDiff, SO, Bool.and_self, one_encV, one_encVV, hlen, hbx, a1, a2, a3, hw]); (try with_reducible rfl); done))) | (apply w_cond; (focus ((try simp (disch := omega) only [simB2, ZA, reduceEqDiff, ↓reduceIte, reduceAdd, reduceLeDiff, hlen, hbx, a1, a2, a3, hw]); (try with_reducible rfl); done)); all_goals (intro _hg; (try simp (disch := omega) only [ZB] at _hg); try first | exact absurd trivial _hg | (exfalso; omega))))
    refine push_out (v := UInt8.ofNat (m % 128 + 128)) hs (by omega) hrow hfr (by ((try simp only [simB0, ZA, reduceEqDiff, ↓reduceIte, reduceAdd, reduceLeDiff]); (try with_reducible rfl))) (by ((try simp only [simB0, ZA, reduceEqDiff, ↓reduceIte, reduceAdd, reduceLeDiff]); (try with_reducible rfl))) rfl (by omega) ?_
    rintro s' H' nx' c1 c2 hbb hO
    repeat' (first | apply w_ops0 | apply a_n | apply o_nil | (apply o_val rfl; (focus (first | rfl | (simp (disch := omega) only [dm2, oldP, newP, simB0, ZA, reduceEqDiff, ↓reduceIte, reduceAdd, reduceLeDiff, decide_eq_true_eq]; first | done | omega))); (focus ((try simp (disch := omega) only [simB2, ZA, reduceEqDiff, ↓reduceIte, reduceAdd, reduceLeDiff, ZV, reduceCtorEq, hlen, hbb, a1, a2, a3, hw, c1, c2]); first | with_reducible rfl | (apply s_ite; (focus omega); with_reducible rfl)))) | (apply e_st; (focus (first | rfl | (simp (disch := omega) only [dm2, oldP, newP, simB0, ZA, reduceEqDiff, ↓reduceIte, reduceAdd, reduceLeDiff, decide_eq_true_eq]; first | done | omega))); (iterate 4 (focus ((try simp (disch := omega) only [simB2, ZA, reduceEqDiff, ↓reduceIte, reduceAdd, reduceLeDiff, hlen, hbb, a1, a2, a3, hw, c1, c2]); (try with_reducible rfl); done))); (focus (simp (disch := omega) only [SO, Bool.and_self, one_encV, one_encVV, hlen, hbb, a1, a2, a3, hw, c1, c2])); (iterate 3 (focus ((try simp (disch := omega) only [SL, reduceAdd, Nat.reduceMul, List.length_map]); first | done | omega)))))
    have e := vint_big hm h9
    have hlm : 1 ≤ (vint (m / 128)).length := by
      unfold vint vintF
      split <;> simp
    have htot := congrArg List.length k3
    rw [e] at htot
    have hv10 := vint_len (v + add).toNat
    simp only [List.length_append, List.length_cons] at htot
    refine ⟨(m / 128, cs ++ [UInt8.ofNat (m % 128 + 128)]), by dsimp only; omega, ⟨by dsimp only; omega, ?_, ?_, hO⟩, by simp (disch := omega) only [agr, ZG, reduceEqDiff, ↓reduceIte, show ((m / 128 : Nat) : Int) = (m : Int) / 128 by omega]⟩
    · dsimp only
      rw [List.length_append, List.length_singleton]
      omega
    · dsimp only
      rw [k3, e, List.append_assoc]; rfl
  · have e := vint_small hm
    have hw : IntKind.wrap .u8 (m : Int) = ((UInt8.ofNat m).toNat : Int) := by
      rw [byteU8 (by omega), Int.toNat_natCast]
    repeat' (first | apply w_seq | apply w_ops0 | apply w_exit | apply a_n | apply a_x | apply o_nil | (apply o_val rfl; (focus (first | rfl | (simp (disch := omega) only [dm2, oldP, newP, simB0, ZA, reduceEqDiff, ↓reduceIte, reduceAdd, reduceLeDiff, decide_eq_true_eq]; first | done | omega))); (focus ((try simp (disch := omega) only [simB2, ZA, reduceEqDiff, ↓reduceIte, reduceAdd, reduceLeDiff, ZV, reduceCtorEq, hlen, hbx, hw]); first | with_reducible rfl | (apply s_ite; (focus omega); with_reducible rfl)))) | (apply e_bld rfl; (focus (exact Nat.succ_ne_zero _)); (focus ((try simp (disch := omega) only [simB2, ZA, reduceEqDiff, ↓reduceIte, reduceAdd, reduceLeDiff, hlen, hbx, hw]); (try with_reducible rfl); done)); (focus ((try simp (disch := omega) only [simB2, ZA, reduceEqDiff, ↓reduceIte, reduceAdd, reduceLeDiff, SO, Bool.and_self, one_encV, one_encVV, hlen, hbx, hw]); (try with_reducible rfl); done))) | (apply w_cond; (focus ((try simp (disch := omega) only [simB2, ZA, reduceEqDiff, ↓reduceIte, reduceAdd, reduceLeDiff, hlen, hbx, hw]); (try with_reducible rfl); done)); all_goals (intro _hg; (try simp (disch := omega) only [ZB] at _hg); try first | exact absurd trivial _hg | (exfalso; omega))))
    refine push_out (v := UInt8.ofNat m) hs (by omega) hrow hfr (by ((try simp only [simB0, ZA, reduceEqDiff, ↓reduceIte, reduceAdd, reduceLeDiff]); (try with_reducible rfl))) (by ((try simp only [simB0, ZA, reduceEqDiff, ↓reduceIte, reduceAdd, reduceLeDiff]); (try with_reducible rfl))) rfl (by omega) ?_
    rintro s' H' nx' c1 c2 hbb hO
    repeat' (first | apply w_ops0 | apply a_n | apply o_nil | (apply o_val rfl; (focus (first | rfl | (simp (disch := omega) only [dm2, oldP, newP, simB0, ZA, reduceEqDiff, ↓reduceIte, reduceAdd, reduceLeDiff, decide_eq_true_eq]; first | done | omega))); (focus ((try simp (disch := omega) only [simB2, ZA, reduceEqDiff, ↓reduceIte, reduceAdd, reduceLeDiff, ZV, reduceCtorEq, hlen, hbb, hw, c1, c2]); first | with_reducible rfl | (apply s_ite; (focus omega); with_reducible rfl)))) | (apply e_st; (focus (first | rfl | (simp (disch := omega) only [dm2, oldP, newP, simB0, ZA, reduceEqDiff, ↓reduceIte, reduceAdd, reduceLeDiff, decide_eq_true_eq]; first | done | omega))); (iterate 4 (focus ((try simp (disch := omega) only [simB2, ZA, reduceEqDiff, ↓reduceIte, reduceAdd, reduceLeDiff, hlen, hbb, hw, c1, c2]); (try with_reducible rfl); done))); (focus (simp (disch := omega) only [SO, Bool.and_self, one_encV, one_encVV, hlen, hbb, hw, c1, c2])); (iterate 3 (focus ((try simp (disch := omega) only [SL, reduceAdd, Nat.reduceMul, List.length_map]); first | done | omega)))))
    refine ⟨k + 1, by omega, ⟨by omega, ?_⟩, by simp (disch := omega) only [agr, ZG, reduceEqDiff, ↓reduceIte]⟩
    rw [e] at k3
    rw [take_succ' hk, hv, vints_snoc, ← List.append_assoc, k3]
    exact hO

end Go.Proofs.Ytpbjhjkfobapeaa

/- Q4: contracts of functions and plain laws; for all inputs that the theorems name. -/
namespace Go.Proofs.Ytpbjhjkfobapeaa
open Go Go.Abs
open Nat (reduceEqDiff reduceAdd reduceLeDiff)

def sealB (l : List UInt8) : List UInt8 := l ++ [UInt8.ofNat (csum l / 256).toNat, UInt8.ofNat (csum l % 256).toNat]
def messageB (r f t symbol : Int) : List UInt8 := sealB ([UInt8.ofNat (r % 256).toNat, UInt8.ofNat (f % 256).toNat, UInt8.ofNat (t % 256).toNat] ++ vint symbol.toNat)
theorem csum_bd (l : List UInt8) : 0 ≤ csum l ∧ csum l < 65521 := ckT_bd l _
theorem Row.bytes {H : Hp} {s : AV} {l : List UInt8} (h : Row H 1 s (l.map encB)) : asrc 1 H s = some (l.length, l.map encB) := by
  generalize hc : l.map encB = cs at h
  cases h with
  | nil =>
    have : l = [] := by simpa using hc
    subst this; rfl
  | box b len cs hb hl =>
    subst hc
    have : len = l.length := by simpa using hl.symm
    subst this
    rw [Nat.mul_one]
    exact asrc_bytes hb rfl
theorem OutI.more {b : Nat} {bs : List UInt8} {H : Hp} {nx : Nat} {s : AV} {cs : List AV} (h : OutI b bs H nx s) : OutI b bs (hupd H nx cs) (nx + 1) s := by
  obtain ⟨h1, h2, h3, h4, h5⟩ := h
  exact ⟨by rw [hupd_ne (by omega), h1], h2.same fun r hr => hupd_ne (by have := h4 r hr; omega), h3, fun r hr => by have := h4 r hr; omega, by omega⟩
theorem OutS.out {H0 : Hp} {nx0 : Nat} {s0 : AV} {b : Nat} {bs : List UInt8} {H : Hp} {nx : Nat} (h : OutS H0 nx0 s0 b bs H nx) : ∃ s, OutI b bs H nx s := by
  obtain ⟨s, h, _⟩ := h
  exact ⟨s, h⟩
attribute [local irreducible] awp2 aops2 ains aloop athen bbind obind gbind acond res1 Go.Abs.Fn PCall Go.Abs.Pure SnapArgs SnapL Yl

theorem done_f (b : Nat) (s : AV) (H : Hp) (nx : Nat) (hb : H b = some [s]) : Abs.Fn Try.prog 93 [.ptr b 1 0] H nx fun r H' nx' => r = s ∧ H' = H ∧ nx' = nx := by
  refine Abs.Fn.of_c2 follows is93 (Nat.le_of_ble_eq_true rfl) ?_
  simp only [b93, O, G, N, M, D, F, B2, cFal, cTru]
  repeat' (first | apply w_seq | apply w_ops0 | apply w_ret | apply a_n | apply o_nil | (apply o_val rfl rfl; (focus ((try simp (disch := omega) only [simB0, ZA, reduceEqDiff, ↓reduceIte, reduceAdd, reduceLeDiff, ZV, reduceCtorEq, hb]); first | with_reducible rfl | (apply s_ite; (focus omega); with_reducible rfl)))) | (refine e_ends rfl ?_) | (apply r_1; (focus (simp only [rv, simB0, ZA, reduceEqDiff, ↓reduceIte, reduceAdd, reduceLeDiff, hb]; with_reducible rfl))))
  exact ⟨rfl, rfl, rfl⟩

theorem writer_f (l : List UInt8) (h0 : l ≠ []) (H : Hp) (nx : Nat) : Abs.Fn Try.prog 66 [encS l] H nx fun r H' nx' => r = .tup [.func 92 [.ptr (nx + 1) 1 0], .func 93 [.ptr (nx + 1) 1 0]] ∧ nx' = nx + 2 ∧ (∀ i, i < nx → H' i = H i) ∧ OutI (nx + 1) l H' (nx + 2) (.msl nx l.length 1 0 l.length) := by
  refine Abs.Fn.of_c2 follows is66 (Nat.le_of_ble_eq_true rfl) ?_
  simp only [b66, O, G, N, M, D, F, B2, cFal, cTru]
  have hpos := List.length_pos_iff.2 h0
  repeat' (first | apply w_seq | apply w_ops0 | apply a_n | apply o_nil | (apply o_val rfl rfl; (focus ((try simp (disch := omega) only [simB0, ZA, reduceEqDiff, ↓reduceIte, reduceAdd, reduceLeDiff, ZV, reduceCtorEq]); first | with_reducible rfl | (apply s_ite; (focus omega); with_reducible rfl)))))
  refine o_s2b (bs := ⟨l.toArray⟩) (by ((try simp only [simB0, ZA, reduceEqDiff, ↓reduceIte, reduceAdd, reduceLeDiff]); (try with_reducible rfl)); rfl) (fun h => by rw [encS_size] at h; omega) (fun h => ?_)
  rw [encS_size, encS_data]
  repeat' (first | apply w_seq | apply w_ops0 | apply w_ret | apply a_n | apply o_nil | (apply o_val rfl; (focus (first | rfl | (simp (disch := omega) only [dm2, oldP, newP, simB0, ZA, reduceEqDiff, ↓reduceIte, reduceAdd, reduceLeDiff, decide_eq_true_eq]; first | done | omega))); (focus ((try simp (disch := omega) only [simB2, ZA, reduceEqDiff, ↓reduceIte, reduceAdd, reduceLeDiff, ZV, reduceCtorEq]); first | with_reducible rfl | (apply s_ite; (focus omega); with_reducible rfl)))) | (apply e_alloc rfl; (focus ((try simp (disch := omega) only [simB2, ZA, reduceEqDiff, ↓reduceIte, reduceAdd, reduceLeDiff]); (try with_reducible rfl); done)); (focus (simp (disch := omega) only [SO, Bool.and_self, one_encV, one_encVV]))) | (apply e_st; (focus (first | rfl | (simp (disch := omega) only [dm2, oldP, newP, simB0, ZA, reduceEqDiff, ↓reduceIte, reduceAdd, reduceLeDiff, decide_eq_true_eq]; first | done | omega))); (iterate 4 (focus ((try simp (disch := omega) only [simB2, ZA, reduceEqDiff, ↓reduceIte, reduceAdd, reduceLeDiff]); (try with_reducible rfl); done))); (focus (simp (disch := omega) only [SO, Bool.and_self, one_encV, one_encVV])); (iterate 3 (focus ((try simp (disch := omega) only [SL, reduceAdd, Nat.reduceMul, List.length_map]); first | done | omega)))) | (refine e_ends rfl ?_) | (apply r_2; (iterate 2 (focus (simp (disch := omega) only [rv, simB2, ZA, reduceEqDiff, ↓reduceIte, reduceAdd, reduceLeDiff]; with_reducible rfl)))))
  refine ⟨rfl, rfl, fun i hi => ?_, ⟨hupd_self', ?_, ?_, ?_, by omega⟩⟩
  · rw [hupd_ne (by omega), hupd_ne (by omega), hupd_ne (by omega)]
  · have := Row.box (H := hupd (hupd (hupd H nx (l.map encB)) (nx + 1) [.esl]) (nx + 1) [.msl nx l.length 1 0 l.length]) (sz := 1) nx l.length (l.map encB) (by rw [hupd_ne (by omega), hupd_ne (by omega), hupd_self']) (by simp)
    rwa [Nat.mul_one] at this
  · intro h; cases h
  · intro r h; cases h; omega

theorem sealed_f (l : List UInt8) (s : AV) (H : Hp) (nx : Nat) (hr : Row H 1 s (l.map encB)) (hlt : ∀ r, rowB s = some r → r < nx) (hl : l.length ≤ 1099511627776) : Abs.Fn Try.prog 67 [s] H nx fun r H' nx' => r = encS (sealB l) := by
  refine Abs.Fn.of_c2 follows is67 (Nat.le_of_ble_eq_true rfl) ?_
  simp only [b67, O, G, N, M, D, F, B2, cFal, cTru]
  repeat' (first | apply w_seq | apply w_ops0 | apply a_n | apply o_nil | (apply o_val rfl rfl; (focus ((try simp (disch := omega) only [simB0, ZA, reduceEqDiff, ↓reduceIte, reduceAdd, reduceLeDiff, ZV, reduceCtorEq]); first | with_reducible rfl | (apply s_ite; (focus omega); with_reducible rfl)))))
  refine o_b2s (n := l.length) (bs := l) (by ((try simp only [simB0, ZA, reduceEqDiff, ↓reduceIte, reduceAdd, reduceLeDiff]); (try with_reducible rfl)); exact Row.bytes hr) ?_
  have hck := checksum_c l (by show _ ≤ _; omega)
  unfold encS at hck
  have hbd := csum_bd l
  generalize hs : csum l = c at *
  have a1 : ∀ tb tf (k' : IntKind), abin2 .shr tb tf (.int .i64 c) (.int k' 8) = some (.int .i64 (c / 256)) := fun tb tf k' => by
    obtain ⟨m, rfl⟩ : ∃ m : Nat, c = m := ⟨c.toNat, by omega⟩
    have := shr_nat (k := .i64) (a := m) (b := 8) (tb := tb) (tf := tf) (k' := k') (by simp [IntKind.bits])
    rw [show ((8 : Nat) : Int) = 8 from rfl] at this
    rw [this]; simp
  have w1 : IntKind.wrap .u8 (c / 256) = ((UInt8.ofNat (c / 256).toNat).toNat : Int) := byteU8 (by omega)
  have w2 : IntKind.wrap .u8 c = ((UInt8.ofNat (c % 256).toNat).toNat : Int) := by
    rw [wrapU8]
    rw [UInt8.toNat_ofNat']
    have : (2 : Nat) ^ 8 = 256 := rfl
    omega
  repeat' (first | apply w_seq | apply w_ops0 | apply a_n | apply o_nil | (apply o_val rfl rfl; (focus ((try simp (disch := omega) only [simB0, ZA, reduceEqDiff, ↓reduceIte, reduceAdd, reduceLeDiff, ZV, reduceCtorEq, a1, w1, w2]); first | with_reducible rfl | (apply s_ite; (focus omega); with_reducible rfl)))) | (apply o_callD; (iterate 2 (focus ((try simp only [simB0, ZA, reduceEqDiff, ↓reduceIte, reduceAdd, reduceLeDiff, a1, w1, w2]); (try with_reducible rfl); done))); (focus (first | (exact hck))); (focus ((first | refine snap_plain ?_ rfl | apply snap_data); repeat' (first | exact snapL_nil | apply snapL_i | apply snapL_dat | exact Dat.str)))) | (apply e_bld rfl; (focus (exact Nat.succ_ne_zero _)); (focus ((try simp only [simB0, ZA, reduceEqDiff, ↓reduceIte, reduceAdd, reduceLeDiff, a1, w1, w2]); (try with_reducible rfl); done)); (focus ((try simp only [simB0, ZA, reduceEqDiff, ↓reduceIte, reduceAdd, reduceLeDiff, SO, Bool.and_self, one_encV, one_encVV, a1, w1, w2]); (try with_reducible rfl); done))))
  refine e_row (k := 2) rfl (by ((try simp only [simB0, ZA, reduceEqDiff, ↓reduceIte, reduceAdd, reduceLeDiff]); (try with_reducible rfl))) (hr.same fun r hr => hupd_ne (by have := hlt r hr; omega)) (by ((try simp only [simB0, ZA, reduceEqDiff, ↓reduceIte, reduceAdd, reduceLeDiff]); (try with_reducible rfl))) (asrc_bytes (l := [UInt8.ofNat (c / 256).toNat, UInt8.ofNat (c % 256).toNat]) hupd_self' rfl) ones_bytes rfl Nat.one_pos (by simp; omega) (by simp; omega) ?_
  rintro s' H' nx' hrow _ _ _ _
  skip
  rw [← List.map_append] at hrow
  refine o_b2s (by ((try simp only [simB0, ZA, reduceEqDiff, ↓reduceIte, reduceAdd, reduceLeDiff]); (try with_reducible rfl)); exact Row.bytes hrow) ?_
  repeat' (first | apply w_ret | apply a_n | apply o_nil | (apply o_val rfl rfl; (focus ((try simp (disch := omega) only [simB0, ZA, reduceEqDiff, ↓reduceIte, reduceAdd, reduceLeDiff, ZV, reduceCtorEq]); first | with_reducible rfl | (apply s_ite; (focus omega); with_reducible rfl)))) | (refine e_ends rfl ?_) | (apply r_1; (focus (simp only [rv, simB0, ZA, reduceEqDiff, ↓reduceIte, reduceAdd, reduceLeDiff]; with_reducible rfl))))
  unfold sealB
  rw [hs]; rfl

theorem message_c (r f t symbol : Int) (hs : 0 ≤ symbol ∧ symbol ≤ 4611686018427387904) : Pure Try.prog 32 [.agg [.int .i64 r, .int .i64 f, .int .i64 t], .int .i64 symbol] (encS (messageB r f t symbol)) := by
  refine Pure.of_c2 follows is32 (Nat.le_of_ble_eq_true rfl) ?_
  simp only [b32, O, G, N, M, D, F, B2, cFal, cTru]
  have w : ∀ n : Int, IntKind.wrap .u8 n = ((UInt8.ofNat (n % 256).toNat).toNat : Int) := fun n => by
    rw [wrapU8, UInt8.toNat_ofNat']
    have : (2 : Nat) ^ 8 = 256 := rfl
    omega
  repeat' (first | apply w_seq | apply w_ops0 | apply a_n | apply o_nil | (apply o_val rfl rfl; (focus ((try simp (disch := omega) only [simB0, ZA, reduceEqDiff, ↓reduceIte, reduceAdd, reduceLeDiff, ZV, reduceCtorEq, w r, w f, w t]); first | with_reducible rfl | (apply s_ite; (focus omega); with_reducible rfl)))) | (apply e_box rfl; (iterate 2 (focus ((try simp only [simB0, ZA, reduceEqDiff, ↓reduceIte, reduceAdd, reduceLeDiff, w r, w f, w t]); (try with_reducible rfl); done))); (focus (simp only [SO, Bool.and_self, one_encV, one_encVV, w r, w f, w t]))) | (apply e_bld rfl; (focus (exact Nat.succ_ne_zero _)); (focus ((try simp only [simB0, ZA, reduceEqDiff, ↓reduceIte, reduceAdd, reduceLeDiff, w r, w f, w t]); (try with_reducible rfl); done)); (focus ((try simp only [simB0, ZA, reduceEqDiff, ↓reduceIte, reduceAdd, reduceLeDiff, SO, Bool.and_self, one_encV, one_encVV, w r, w f, w t]); (try with_reducible rfl); done))))
  refine o_b2s (n := 3) (bs := [UInt8.ofNat (r % 256).toNat, UInt8.ofNat (f % 256).toNat, UInt8.ofNat (t % 256).toNat]) (by ((try simp only [simB0, ZA, reduceEqDiff, ↓reduceIte, reduceAdd, reduceLeDiff]); (try with_reducible rfl)); exact asrc_bytes (l := [UInt8.ofNat (r % 256).toNat, UInt8.ofNat (f % 256).toNat, UInt8.ofNat (t % 256).toNat]) rfl rfl) ?_
  skip
  refine o_callE (by ((try simp only [simB0, ZA, reduceEqDiff, ↓reduceIte, reduceAdd, reduceLeDiff]); (try with_reducible rfl))) (by ((try simp only [simB0, ZA, reduceEqDiff, ↓reduceIte, reduceAdd, reduceLeDiff]); (try with_reducible rfl)); rfl) (writer_f [UInt8.ofNat (r % 256).toNat, UInt8.ofNat (f % 256).toNat, UInt8.ofNat (t % 256).toNat] (by simp) _ _) ?_
  rintro v H1 nx1 ⟨rfl, rfl, hfr, hO⟩
  simp only [reduceAdd] at hO hfr
  repeat' (first | apply w_seq | apply w_ops0 | apply a_n | apply o_nil | (apply o_val rfl rfl; (focus ((try simp (disch := omega) only [simB0, ZA, reduceEqDiff, ↓reduceIte, reduceAdd, reduceLeDiff, ZV, reduceCtorEq]); first | with_reducible rfl | (apply s_ite; (focus omega); with_reducible rfl)))) | (apply e_bld rfl; (focus (exact Nat.succ_ne_zero _)); (focus ((try simp only [simB0, ZA, reduceEqDiff, ↓reduceIte, reduceAdd, reduceLeDiff]); (try with_reducible rfl); done)); (focus ((try simp only [simB0, ZA, reduceEqDiff, ↓reduceIte, reduceAdd, reduceLeDiff, SO, Bool.and_self, one_encV, one_encVV]); (try with_reducible rfl); done))))
  refine o_callE (xs := [.int .i64 0, .msl 4 1 1 0 1, .ptr 3 1 0]) (by ((try simp only [simB0, ZA, reduceEqDiff, ↓reduceIte, reduceAdd, reduceLeDiff]); (try with_reducible rfl))) (by ((try simp only [simB0, ZA, reduceEqDiff, ↓reduceIte, reduceAdd, reduceLeDiff]); (try with_reducible rfl))) (write_f 0 [symbol] _ _ 3 _ _ _ hO.more (Reads.box (by simp [hupd]) (by omega) (by omega) (by simp [rowB]) rfl) (by simp) (by simp; omega) (by omega)) ?_
  rintro v2 H2 nx2 hO2
  obtain ⟨s2, hs2⟩ := hO2.out
  repeat' (first | apply w_seq | apply w_ops0 | apply a_n | apply o_nil | (apply o_val rfl rfl; (focus ((try simp (disch := omega) only [simB0, ZA, reduceEqDiff, ↓reduceIte, reduceAdd, reduceLeDiff, ZV, reduceCtorEq]); first | with_reducible rfl | (apply s_ite; (focus omega); with_reducible rfl)))))
  refine o_callE (by ((try simp only [simB0, ZA, reduceEqDiff, ↓reduceIte, reduceAdd, reduceLeDiff]); (try with_reducible rfl))) (by ((try simp only [simB0, ZA, reduceEqDiff, ↓reduceIte, reduceAdd, reduceLeDiff]); (try with_reducible rfl))) (done_f 3 s2 H2 nx2 hs2.box) ?_
  rintro v3 H3 nx3 ⟨rfl, rfl, rfl⟩
  have hvl := vints_len 0 [symbol]
  skip
  refine o_callE (by ((try simp only [simB0, ZA, reduceEqDiff, ↓reduceIte, reduceAdd, reduceLeDiff]); (try with_reducible rfl))) (by ((try simp only [simB0, ZA, reduceEqDiff, ↓reduceIte, reduceAdd, reduceLeDiff]); (try with_reducible rfl))) (sealed_f _ _ _ _ hs2.row hs2.lt (by simp at hvl ⊢; omega)) ?_
  rintro v4 H4 nx4 rfl
  repeat' (first | apply w_ret | apply a_n | apply o_nil | (apply o_val rfl rfl; (focus ((try simp (disch := omega) only [simB0, ZA, reduceEqDiff, ↓reduceIte, reduceAdd, reduceLeDiff, ZV, reduceCtorEq]); first | with_reducible rfl | (apply s_ite; (focus omega); with_reducible rfl)))) | (refine e_ends rfl ?_) | (apply r_1; (focus (simp only [rv, simB0, ZA, reduceEqDiff, ↓reduceIte, reduceAdd, reduceLeDiff]; with_reducible rfl))))
  unfold messageB
  simp only [vints, List.flatMap_cons, List.flatMap_nil, List.append_nil, Int.add_zero]
  exact encS_dat _ _

end Go.Proofs.Ytpbjhjkfobapeaa

/- Q5: contracts of functions and plain laws; for all inputs that the theorems name. -/
namespace Go.Proofs.Ytpbjhjkfobapeaa
open Go Go.Abs
open Nat (reduceEqDiff reduceAdd reduceLeDiff)

def idx (l : List Int) (v : Int) : Int := if v ∈ l then (l.idxOf v : Nat) else -1
theorem idx_at {l : List Int} {v : Int} {k : Nat} (hk : k < l.length) (h : ∀ i, i < k → l.getD i default ≠ v) (hv : v = l.getD k default) : idx l v = k := by
  have e : l.getD k default = l[k] := by simp [List.getD, hk]
  have hm : v ∈ l := by rw [hv, e]; exact List.getElem_mem hk
  unfold idx; rw [if_pos hm]
  have h1 : l.idxOf v ≤ k := by
    by_cases hlt : l.idxOf v ≤ k
    · exact hlt
    · exfalso
      have := List.not_of_lt_findIdx (xs := l) (p := (· == v)) (i := k) (by simp only [List.idxOf] at hlt; omega)
      rw [e] at hv; subst hv; simp at this
  have h2 : k ≤ l.idxOf v := by
    by_cases hlt : k ≤ l.idxOf v
    · exact hlt
    · exfalso
      have hi := List.idxOf_lt_length_iff.2 hm
      have := h (l.idxOf v) (by omega)
      apply this
      simp [List.getD, hi]
  omega
theorem idx_none {l : List Int} {v : Int} (h : ∀ i, i < l.length → l.getD i default ≠ v) : idx l v = -1 := by
  unfold idx; rw [if_neg]
  intro hm
  obtain ⟨i, hi, e⟩ := List.getElem_of_mem hm
  exact h i hi (by simp [List.getD, hi, e])

def idxF (l : List Int) (p : Int → Bool) : Int := if l.any p then (l.findIdx p : Nat) else -1
theorem idxF_at {l : List Int} {p : Int → Bool} {k : Nat} (hk : k < l.length) (h : ∀ i, i < k → p (l.getD i default) = false) (hv : p (l.getD k default) = true) : idxF l p = k := by
  have e : l.getD k default = l[k] := by simp [List.getD, hk]
  have hm : l.any p = true := List.any_eq_true.2 ⟨l[k], List.getElem_mem hk, by rw [← e]; exact hv⟩
  unfold idxF; rw [if_pos hm]
  have : l.findIdx p = k := (List.findIdx_eq hk).2 ⟨by rw [← e]; exact hv, fun j hj => by have := h j hj; rwa [show l.getD j default = l[j] by simp [List.getD, show j < l.length by omega]] at this⟩
  rw [this]
theorem idxF_none {l : List Int} {p : Int → Bool} (h : ∀ i, i < l.length → p (l.getD i default) = false) : l.any p = false := by
  rw [List.any_eq_false]
  intro x hx
  obtain ⟨i, hi, e⟩ := List.getElem_of_mem hx
  have := h i hi
  rw [show l.getD i default = l[i] by simp [List.getD, hi], e] at this
  simp [this]

def order : List Int → List Int → Int
  | [], [] => 0
  | [], _ :: _ => -1
  | _ :: _, [] => 1
  | a :: l, b :: m => if a < b then -1 else if a > b then 1 else order l m

attribute [local irreducible] awp2 aops2 ains aloop athen bbind obind gbind acond res1 Go.Abs.Fn PCall Go.Abs.Pure SnapArgs SnapL Yl
theorem index_c (l : List Int) (v : Int) (hl : Sh l) : Pure Try.prog 69 [encV l, .int .i64 v] (.int .i64 (idx l v)) := by
  refine Pure.of_c2 follows is69 (Nat.le_of_ble_eq_true rfl) ?_
  simp only [b69, O, G, N, M, D, F, B2, cFal, cTru]
  repeat' (first | apply w_seq | apply w_ops0 | apply w_block | apply a_n | apply o_nil | (apply o_val rfl rfl; (focus ((try simp (disch := omega) only [simB0, ZA, reduceEqDiff, ↓reduceIte, reduceAdd, reduceLeDiff, ZV, reduceCtorEq]); first | with_reducible rfl | (apply s_ite; (focus omega); with_reducible rfl)))) | apply w_loop)
  refine loop0 (X := Nat) (fun k => [(0, encV l), (1, .int .i64 v), (7, .int .i64 l.length), (8, .int .i64 k)]) (fun k => k ≤ l.length ∧ ∀ i, i < k → l.getD i default ≠ v) (fun k => l.length - k) 0 ⟨Nat.zero_le _, by simp⟩ (by simp (disch := omega) only [agr, ZG, reduceEqDiff, ↓reduceIte]) ?_
  rintro k ⟨h1, h2⟩
  repeat' (first | apply w_seq | apply w_ops0 | apply w_block | apply w_skip | apply w_exit | apply w_ret | apply a_n | apply a_x | apply a_r | apply o_nil | (apply o_val rfl rfl; (focus ((try simp (disch := omega) only [simB0, ZA, reduceEqDiff, ↓reduceIte, reduceAdd, reduceLeDiff, ZV, reduceCtorEq]); first | with_reducible rfl | (apply s_ite; (focus omega); with_reducible rfl)))) | (apply w_cond; (focus ((try simp only [simB0, ZA, reduceEqDiff, ↓reduceIte, reduceAdd, reduceLeDiff]); (try with_reducible rfl); done)); all_goals (intro _hg; (try simp only [ZB] at _hg); try first | exact absurd trivial _hg | (exfalso; omega))) | (refine e_ends rfl ?_) | (apply r_1; (focus (simp only [rv, simB0, ZA, reduceEqDiff, ↓reduceIte, reduceAdd, reduceLeDiff]; with_reducible rfl))))
  · exact snap_int (idx_at (by omega) h2 _hg).symm
  · refine ⟨k + 1, ⟨by omega, fun i hi => ?_⟩, by omega, by simp (disch := omega) only [agr, ZG, reduceEqDiff, ↓reduceIte], rfl, rfl⟩
    rcases Nat.lt_succ_iff_lt_or_eq.1 hi with h | rfl
    · exact h2 i h
    · exact fun e => _hg e.symm
  · exact snap_int (idx_none fun i hi => h2 i (by omega)).symm

theorem contains_c (l : List Int) (v : Int) (hl : Sh l) : Pure Try.prog 38 [encV l, .int .i64 v] (.bool (decide (v ∈ l))) := by
  refine Pure.of_c2 follows is38 (Nat.le_of_ble_eq_true rfl) ?_
  simp only [b38, O, G, N, M, D, F, B2, cFal, cTru]
  repeat' (first | apply w_seq | apply w_ops0 | apply w_ret | apply a_n | apply o_nil | (apply o_val rfl rfl; (focus ((try simp (disch := omega) only [simB0, ZA, reduceEqDiff, ↓reduceIte, reduceAdd, reduceLeDiff, ZV, reduceCtorEq]); first | with_reducible rfl | (apply s_ite; (focus omega); with_reducible rfl)))) | (apply o_callD; (iterate 2 (focus ((try simp only [simB0, ZA, reduceEqDiff, ↓reduceIte, reduceAdd, reduceLeDiff]); (try with_reducible rfl); done))); (focus (first | (exact index_c _ _ hl))); (focus ((first | refine snap_plain ?_ rfl | apply snap_data); repeat' (first | exact snapL_nil | apply snapL_i | apply snapL_dat)))) | (refine e_ends rfl ?_) | (apply r_1; (focus (simp only [rv, simB0, ZA, reduceEqDiff, ↓reduceIte, reduceAdd, reduceLeDiff]; with_reducible rfl))))
  refine snap_bool ?_
  unfold idx; split <;> simp_all

theorem indexF_c (l : List Int) (p : Int → Bool) (g : Nat) (caps : List AV) (hd : ∀ x ∈ caps, Dat x) (hg : ∀ x ∈ l, Pure Try.prog g (.int .i64 x :: caps) (.bool (p x))) (hl : Sh l) : Pure Try.prog 101 [encV l, .func g caps] (.int .i64 (idxF l p)) := by
  refine Pure.of_c2 follows is101 (Nat.le_of_ble_eq_true rfl) ?_
  simp only [b101, O, G, N, M, D, F, B2, cFal, cTru]
  repeat' (first | apply w_seq | apply w_ops0 | apply w_block | apply a_n | apply o_nil | (apply o_val rfl rfl; (focus ((try simp (disch := omega) only [simB0, ZA, reduceEqDiff, ↓reduceIte, reduceAdd, reduceLeDiff, ZV, reduceCtorEq]); first | with_reducible rfl | (apply s_ite; (focus omega); with_reducible rfl)))) | apply w_loop)
  refine loop0 (X := Nat) (fun k => [(0, encV l), (1, .func g caps), (6, encV l), (7, .int .i64 l.length), (8, .int .i64 k)]) (fun k => k ≤ l.length ∧ ∀ i, i < k → p (l.getD i default) = false) (fun k => l.length - k) 0 ⟨Nat.zero_le _, by simp⟩ (by simp (disch := omega) only [agr, ZG, reduceEqDiff, ↓reduceIte]) ?_
  rintro k ⟨h1, h2⟩
  repeat' (first | apply w_seq | apply w_ops0 | apply w_block | apply w_skip | apply w_exit | apply w_ret | apply a_n | apply a_x | apply a_r | apply o_nil | (apply o_val rfl rfl; (focus ((try simp (disch := omega) only [simB0, ZA, reduceEqDiff, ↓reduceIte, reduceAdd, reduceLeDiff, ZV, reduceCtorEq]); first | with_reducible rfl | (apply s_ite; (focus omega); with_reducible rfl)))) | (apply o_callD; (iterate 2 (focus ((try simp only [simB0, ZA, reduceEqDiff, ↓reduceIte, reduceAdd, reduceLeDiff]); (try with_reducible rfl); done))); (focus (first | (exact hg _ (mem_getD (by omega))))); (focus ((first | refine snap_plain ?_ rfl | apply snap_data); repeat' (first | exact snapL_nil | apply snapL_i | apply snapL_dat | exact snapL_datL hd)))) | (apply w_cond; (focus ((try simp only [simB0, ZA, reduceEqDiff, ↓reduceIte, reduceAdd, reduceLeDiff]); (try with_reducible rfl); done)); all_goals (intro _hg; (try simp only [ZB] at _hg); try first | exact absurd trivial _hg | (exfalso; omega))) | (refine e_ends rfl ?_) | (apply r_1; (focus (simp only [rv, simB0, ZA, reduceEqDiff, ↓reduceIte, reduceAdd, reduceLeDiff]; with_reducible rfl))))
  · refine snap_int ?_
    rw [idxF_at (by omega) h2 _hg]
  · refine ⟨k + 1, ⟨by omega, fun i hi => ?_⟩, by omega, by simp (disch := omega) only [agr, ZG, reduceEqDiff, ↓reduceIte], rfl, rfl⟩
    rcases Nat.lt_succ_iff_lt_or_eq.1 hi with h | rfl
    · exact h2 i h
    · exact _hg
  · refine snap_int ?_
    unfold idxF; rw [idxF_none fun i hi => h2 i (by omega)]; rfl

theorem containsF_c (l : List Int) (p : Int → Bool) (g : Nat) (caps : List AV) (hd : ∀ x ∈ caps, Dat x) (hg : ∀ x ∈ l, Pure Try.prog g (.int .i64 x :: caps) (.bool (p x))) (hl : Sh l) : Pure Try.prog 95 [encV l, .func g caps] (.bool (l.any p)) := by
  refine Pure.of_c2 follows is95 (Nat.le_of_ble_eq_true rfl) ?_
  simp only [b95, O, G, N, M, D, F, B2, cFal, cTru]
  repeat' (first | apply w_seq | apply w_ops0 | apply w_ret | apply a_n | apply o_nil | (apply o_val rfl rfl; (focus ((try simp (disch := omega) only [simB0, ZA, reduceEqDiff, ↓reduceIte, reduceAdd, reduceLeDiff, ZV, reduceCtorEq]); first | with_reducible rfl | (apply s_ite; (focus omega); with_reducible rfl)))) | (apply o_callD; (iterate 2 (focus ((try simp only [simB0, ZA, reduceEqDiff, ↓reduceIte, reduceAdd, reduceLeDiff]); (try with_reducible rfl); done))); (focus (first | (exact indexF_c l p g caps hd hg hl))); (focus ((first | refine snap_plain ?_ rfl | apply snap_data); repeat' (first | exact snapL_nil | apply snapL_i | apply snapL_dat | exact Dat.func hd)))) | (refine e_ends rfl ?_) | (apply r_1; (focus (simp only [rv, simB0, ZA, reduceEqDiff, ↓reduceIte, reduceAdd, reduceLeDiff]; with_reducible rfl))))
  refine snap_bool ?_
  unfold idxF; split <;> simp_all

theorem equalV_c (l m : List Int) (hl : Sh l) (hm : Sh m) : Pure Try.prog 89 [encV l, encV m] (.bool (decide (l = m))) := by
  refine Pure.of_c2 follows is89 (Nat.le_of_ble_eq_true rfl) ?_
  simp only [b89, O, G, N, M, D, F, B2, cFal, cTru]
  repeat' (first | apply w_seq | apply w_ops0 | apply w_block | apply w_skip | apply w_ret | apply a_n | apply a_r | apply o_nil | (apply o_val rfl rfl; (focus ((try simp (disch := omega) only [simB0, ZA, reduceEqDiff, ↓reduceIte, reduceAdd, reduceLeDiff, ZV, reduceCtorEq]); first | with_reducible rfl | (apply s_ite; (focus omega); with_reducible rfl)))) | (apply w_cond; (focus ((try simp only [simB0, ZA, reduceEqDiff, ↓reduceIte, reduceAdd, reduceLeDiff]); (try with_reducible rfl); done)); all_goals (intro _hg; (try simp only [ZB] at _hg); try first | exact absurd trivial _hg | (exfalso; omega))) | (refine e_ends rfl ?_) | (apply r_1; (focus (simp only [rv, simB0, ZA, reduceEqDiff, ↓reduceIte, reduceAdd, reduceLeDiff]; with_reducible rfl))) | apply w_loop)
  · refine snap_bool ?_
    symm; rw [decide_eq_false_iff_not]; rintro rfl; omega
  refine loop0 (X := Nat) (fun k => [(0, encV l), (1, encV m), (12, .int .i64 l.length), (13, .int .i64 k)]) (fun k => k ≤ l.length ∧ ∀ i, i < k → l.getD i default = m.getD i default) (fun k => l.length - k) 0 ⟨Nat.zero_le _, by simp⟩ (by simp (disch := omega) only [agr, ZG, reduceEqDiff, ↓reduceIte]) ?_
  rintro k ⟨h1, h2⟩
  repeat' (first | apply w_seq | apply w_ops0 | apply w_ops1 | apply w_block | apply w_skip | apply w_exit | apply w_ret | apply a_n | apply a_x | apply a_r | apply o_nil | (apply o_val rfl rfl; (focus ((try simp (disch := omega) only [simB0, ZA, reduceEqDiff, ↓reduceIte, reduceAdd, reduceLeDiff, ZV, reduceCtorEq]); first | with_reducible rfl | (apply s_ite; (focus omega); with_reducible rfl)))) | (apply w_cond; (focus ((try simp only [simB0, ZA, reduceEqDiff, ↓reduceIte, reduceAdd, reduceLeDiff]); (try with_reducible rfl); done)); all_goals (intro _hg; (try simp only [ZB] at _hg); try first | exact absurd trivial _hg | (exfalso; omega))) | (refine e_ends rfl ?_) | (apply r_1; (focus (simp only [rv, simB0, ZA, reduceEqDiff, ↓reduceIte, reduceAdd, reduceLeDiff]; with_reducible rfl))))
  · refine snap_bool ?_
    symm; rw [decide_eq_false_iff_not]; rintro rfl; exact absurd rfl ‹_›
  · refine ⟨k + 1, ⟨by omega, fun i hi => ?_⟩, by omega, by simp (disch := omega) only [agr, ZG, reduceEqDiff, ↓reduceIte], rfl, rfl⟩
    rcases Nat.lt_succ_iff_lt_or_eq.1 hi with h | rfl
    · exact h2 i h
    · omega
  · refine snap_bool ?_
    symm; rw [decide_eq_true_iff]
    refine List.ext_getElem (by omega) (fun i h3 h4 => ?_)
    have := h2 i (by omega)
    simpa [List.getD, h3, h4] using this

theorem isNaN_c (n : Int) : Pure Try.prog 98 [.int .i64 n] (.bool false) := by
  refine Pure.of_c2 follows is98 (Nat.le_of_ble_eq_true rfl) ?_
  simp only [b98, O, G, N, M, D, F, B2, cFal, cTru]
  repeat' (first | apply w_seq | apply w_ops0 | apply w_ret | apply a_n | apply o_nil | (apply o_val rfl rfl; (focus ((try simp (disch := omega) only [simB0, ZA, reduceEqDiff, ↓reduceIte, reduceAdd, reduceLeDiff, ZV, reduceCtorEq]); first | with_reducible rfl | (apply s_ite; (focus omega); with_reducible rfl)))) | (refine e_ends rfl ?_) | (apply r_1; (focus (simp only [rv, simB0, ZA, reduceEqDiff, ↓reduceIte, reduceAdd, reduceLeDiff]; with_reducible rfl))))
  exact snap_bool (by simp)

theorem cmp_c (a b : Int) : Pure Try.prog 86 [.int .i64 a, .int .i64 b] (.int .i64 (if a < b then -1 else if a > b then 1 else 0)) := by
  refine Pure.of_c2 follows is86 (Nat.le_of_ble_eq_true rfl) ?_
  simp only [b86, O, G, N, M, D, F, B2, cFal, cTru]
  repeat' (first | apply w_seq | apply w_ops0 | apply w_skip | apply w_ret | apply a_n | apply a_r | apply o_nil | (apply o_val rfl rfl; (focus ((try simp (disch := omega) only [simB0, ZA, reduceEqDiff, ↓reduceIte, reduceAdd, reduceLeDiff, ZV, reduceCtorEq, Bool.false_eq_true]); first | with_reducible rfl | (apply s_ite; (focus omega); with_reducible rfl)))) | (apply o_callD; (iterate 2 (focus ((try simp only [simB0, ZA, reduceEqDiff, ↓reduceIte, reduceAdd, reduceLeDiff, Bool.false_eq_true]); (try with_reducible rfl); done))); (focus (first | (exact isNaN_c _))); (focus ((first | refine snap_plain ?_ rfl | apply snap_data); repeat' (first | exact snapL_nil | apply snapL_i | apply snapL_dat)))) | (apply w_condF; (focus (simp only [simB0, ZA, reduceEqDiff, ↓reduceIte, reduceAdd, reduceLeDiff, Bool.false_eq_true]; done))) | (apply w_cond; (focus ((try simp only [simB0, ZA, reduceEqDiff, ↓reduceIte, reduceAdd, reduceLeDiff, Bool.false_eq_true]); (try with_reducible rfl); done)); all_goals (intro _hg; (try simp only [ZB] at _hg); try first | exact absurd trivial _hg | (exfalso; omega))) | (refine e_ends rfl ?_) | (apply r_1; (focus (simp only [rv, simB0, ZA, reduceEqDiff, ↓reduceIte, reduceAdd, reduceLeDiff, Bool.false_eq_true]; with_reducible rfl))))
  all_goals (refine snap_int ?_)
  · rw [if_pos ‹_›]
  · rw [if_neg ‹_›, if_pos ‹_›]
  · rw [if_neg (by omega), if_neg (by omega)]

theorem compare_c (a b : List Int) (ha : Sh a) (hb : Sh b) : Pure Try.prog 87 [encV a, encV b] (.int .i64 (order a b)) := by
  refine Pure.of_c2 follows is87 (Nat.le_of_ble_eq_true rfl) ?_
  simp only [b87, O, G, N, M, D, F, B2, cFal, cTru]
  repeat' (first | apply w_seq | apply w_ops0 | apply w_block | apply a_n | apply o_nil | (apply o_val rfl rfl; (focus ((try simp (disch := omega) only [simB0, ZA, reduceEqDiff, ↓reduceIte, reduceAdd, reduceLeDiff, ZV, reduceCtorEq]); first | with_reducible rfl | (apply s_ite; (focus omega); with_reducible rfl)))) | apply w_loop)
  refine loop0 (X := Nat) (fun k => [(0, encV a), (1, encV b), (9, encV a), (10, .int .i64 a.length), (11, .int .i64 k)]) (fun k => k ≤ a.length ∧ k ≤ b.length ∧ order a b = order (a.drop k) (b.drop k)) (fun k => a.length - k) 0 ⟨Nat.zero_le _, Nat.zero_le _, rfl⟩ (by simp (disch := omega) only [agr, ZG, reduceEqDiff, ↓reduceIte]) ?_
  rintro k ⟨h1, h2, h3⟩
  repeat' (first | apply w_seq | apply w_ops0 | apply w_block | apply w_skip | apply w_exit | apply w_ret | apply a_n | apply a_x | apply a_r | apply o_nil | (apply o_val rfl rfl; (focus ((try simp (disch := omega) only [simB0, ZA, reduceEqDiff, ↓reduceIte, reduceAdd, reduceLeDiff, ZV, reduceCtorEq]); first | with_reducible rfl | (apply s_ite; (focus omega); with_reducible rfl)))) | (apply o_callD; (iterate 2 (focus ((try simp only [simB0, ZA, reduceEqDiff, ↓reduceIte, reduceAdd, reduceLeDiff]); (try with_reducible rfl); done))); (focus (first | (exact cmp_c _ _))); (focus ((first | refine snap_plain ?_ rfl | apply snap_data); repeat' (first | exact snapL_nil | apply snapL_i | apply snapL_dat)))) | (apply w_cond; (focus ((try simp only [simB0, ZA, reduceEqDiff, ↓reduceIte, reduceAdd, reduceLeDiff]); (try with_reducible rfl); done)); all_goals (intro _hg; (try simp only [ZB] at _hg); try first | exact absurd trivial _hg | (exfalso; omega))) | (refine e_ends rfl ?_) | (apply r_1; (focus (simp only [rv, simB0, ZA, reduceEqDiff, ↓reduceIte, reduceAdd, reduceLeDiff]; with_reducible rfl))))
  · refine snap_int ?_
    rw [h3, List.drop_eq_nil_of_le (show b.length ≤ k by omega), drop_cons (l := a) (by omega)]; rfl
  · refine snap_int ?_
    rw [h3, drop_cons (l := a) (by omega), drop_cons (l := b) (by omega), order]
    split
    · rfl
    · rename_i h
      split
      · rfl
      · rename_i h'
        exact absurd (show (if a.getD k default < b.getD k default then (-1 : Int) else if a.getD k default > b.getD k default then 1 else 0) = 0 by rw [if_neg h, if_neg h']) ‹_›
  · refine ⟨k + 1, ⟨by omega, by omega, ?_⟩, by omega, by simp (disch := omega) only [agr, ZG, reduceEqDiff, ↓reduceIte], rfl, rfl⟩
    rw [h3, drop_cons (l := a) (by omega), drop_cons (l := b) (by omega), order]
    by_cases h : a.getD k default < b.getD k default
    · rw [if_pos h] at _hg; exact absurd (by decide) _hg
    · by_cases h' : a.getD k default > b.getD k default
      · rw [if_neg h, if_pos h'] at _hg; exact absurd (by decide) _hg
      · rw [if_neg h, if_neg h']
  · refine snap_int ?_
    rw [h3, List.drop_eq_nil_of_le (show a.length ≤ k by omega), drop_cons (l := b) (by omega)]; rfl
  · refine snap_int ?_
    rw [h3, List.drop_eq_nil_of_le (show a.length ≤ k by omega), List.drop_eq_nil_of_le (show b.length ≤ k by omega)]; rfl

theorem indexFV_c (l : List (List Int)) (p : List Int → Bool) (g : Nat) (caps : List AV) (hd : ∀ x ∈ caps, Dat x) (hg : ∀ x ∈ l, Pure Try.prog g (encV x :: caps) (.bool (p x))) (hl : Sh l) : Pure Try.prog 97 [encVV l, .func g caps] (.int .i64 (if l.any p then (l.findIdx p : Nat) else -1)) := by
  refine Pure.of_c2 follows is97 (Nat.le_of_ble_eq_true rfl) ?_
  simp only [b97, O, G, N, M, D, F, B2, cFal, cTru]
  repeat' (first | apply w_seq | apply w_ops0 | apply w_block | apply a_n | apply o_nil | (apply o_val rfl rfl; (focus ((try simp (disch := omega) only [simB0, ZA, reduceEqDiff, ↓reduceIte, reduceAdd, reduceLeDiff, ZV, reduceCtorEq]); first | with_reducible rfl | (apply s_ite; (focus omega); with_reducible rfl)))) | apply w_loop)
  refine loop0 (X := Nat) (fun k => [(0, encVV l), (1, .func g caps), (7, .int .i64 l.length), (8, .int .i64 k)]) (fun k => k ≤ l.length ∧ ∀ i, i < k → p (l.getD i default) = false) (fun k => l.length - k) 0 ⟨Nat.zero_le _, by simp⟩ (by simp (disch := omega) only [agr, ZG, reduceEqDiff, ↓reduceIte]) ?_
  rintro k ⟨h1, h2⟩
  repeat' (first | apply w_seq | apply w_ops0 | apply w_block | apply w_skip | apply w_exit | apply w_ret | apply a_n | apply a_x | apply a_r | apply o_nil | (apply o_val rfl rfl; (focus ((try simp (disch := omega) only [simB0, ZA, reduceEqDiff, ↓reduceIte, reduceAdd, reduceLeDiff, ZV, reduceCtorEq]); first | with_reducible rfl | (apply s_ite; (focus omega); with_reducible rfl)))) | (apply o_callD; (iterate 2 (focus ((try simp only [simB0, ZA, reduceEqDiff, ↓reduceIte, reduceAdd, reduceLeDiff]); (try with_reducible rfl); done))); (focus (first | (exact hg _ (mem_getD (by omega))))); (focus ((first | refine snap_plain ?_ rfl | apply snap_data); repeat' (first | exact snapL_nil | apply snapL_i | apply snapL_dat | exact snapL_datL hd)))) | (apply w_cond; (focus ((try simp only [simB0, ZA, reduceEqDiff, ↓reduceIte, reduceAdd, reduceLeDiff]); (try with_reducible rfl); done)); all_goals (intro _hg; (try simp only [ZB] at _hg); try first | exact absurd trivial _hg | (exfalso; omega))) | (refine e_ends rfl ?_) | (apply r_1; (focus (simp only [rv, simB0, ZA, reduceEqDiff, ↓reduceIte, reduceAdd, reduceLeDiff]; with_reducible rfl))))
  · refine snap_int ?_
    have hk : k < l.length := by omega
    have e : l.getD k default = l[k] := by simp [List.getD, hk]
    rw [e] at _hg
    have hm : l.any p = true := List.any_eq_true.2 ⟨l[k], List.getElem_mem hk, _hg⟩
    rw [if_pos hm, (List.findIdx_eq hk).2 ⟨_hg, fun j hj => by have := h2 j hj; rwa [show l.getD j default = l[j] by simp [List.getD, show j < l.length by omega]] at this⟩]
  · refine ⟨k + 1, ⟨by omega, fun i hi => ?_⟩, by omega, by simp (disch := omega) only [agr, ZG, reduceEqDiff, ↓reduceIte], rfl, rfl⟩
    rcases Nat.lt_succ_iff_lt_or_eq.1 hi with h | rfl
    · exact h2 i h
    · exact _hg
  · refine snap_int ?_
    rw [if_neg]
    rw [Bool.not_eq_true, List.any_eq_false]
    intro x hx
    obtain ⟨i, hi, e⟩ := List.getElem_of_mem hx
    have := h2 i (by omega)
    rw [show l.getD i default = x by simp [List.getD, hi, e]] at this
    simp [this]

theorem containsFV_c (l : List (List Int)) (p : List Int → Bool) (g : Nat) (caps : List AV) (hd : ∀ x ∈ caps, Dat x) (hg : ∀ x ∈ l, Pure Try.prog g (encV x :: caps) (.bool (p x))) (hl : Sh l) : Pure Try.prog 82 [encVV l, .func g caps] (.bool (l.any p)) := by
  refine Pure.of_c2 follows is82 (Nat.le_of_ble_eq_true rfl) ?_
  simp only [b82, O, G, N, M, D, F, B2, cFal, cTru]
  repeat' (first | apply w_seq | apply w_ops0 | apply w_ret | apply a_n | apply o_nil | (apply o_val rfl rfl; (focus ((try simp (disch := omega) only [simB0, ZA, reduceEqDiff, ↓reduceIte, reduceAdd, reduceLeDiff, ZV, reduceCtorEq]); first | with_reducible rfl | (apply s_ite; (focus omega); with_reducible rfl)))) | (apply o_callD; (iterate 2 (focus ((try simp only [simB0, ZA, reduceEqDiff, ↓reduceIte, reduceAdd, reduceLeDiff]); (try with_reducible rfl); done))); (focus (first | (exact indexFV_c l p g caps hd hg hl))); (focus ((first | refine snap_plain ?_ rfl | apply snap_data); repeat' (first | exact snapL_nil | apply snapL_i | apply snapL_dat | exact Dat.func hd)))) | (refine e_ends rfl ?_) | (apply r_1; (focus (simp only [rv, simB0, ZA, reduceEqDiff, ↓reduceIte, reduceAdd, reduceLeDiff]; with_reducible rfl))))
  refine snap_bool ?_
  split <;> simp_all

end Go.Proofs.Ytpbjhjkfobapeaa

/- Q6: contracts of functions and plain laws; for all inputs that the theorems name. -/
namespace Go.Proofs.Ytpbjhjkfobapeaa
open Go Go.Abs
open Nat (reduceEqDiff reduceAdd reduceLeDiff)

structure StepV where
  round : Int
  proc : Int
  h0 : Int
  h1 : Int
  h2 : Int
  h3 : Int
  h4 : Int
  to : Int
  deriving DecidableEq, Inhabited
def StepV.heard (s : StepV) : List Int := [s.h0, s.h1, s.h2, s.h3, s.h4]
def StepV.cells (s : StepV) : List AV := [.int .i64 s.round, .int .i64 s.proc, .int .i64 s.h0, .int .i64 s.h1, .int .i64 s.h2, .int .i64 s.h3, .int .i64 s.h4, .int .i64 s.to]
def encStep (s : StepV) : AV := .agg s.cells
def encSteps (l : List StepV) : AV := encL 8 encStep l
def encV3 (l : List (List (List Int))) : AV := encL 1 encVV l
def encV4 (l : List (List (List (List Int)))) : AV := encL 1 encV3 l
structure MachV where
  n : Int
  rounds : Int
  ins : Int
  outs : Int
  first : List (List Int)
  symbols : List (List (List (List Int)))
  steps : List StepV
  out : List (List (List Int))
  deriving DecidableEq, Inhabited
def MachV.cells (m : MachV) : List AV := [.int .i64 m.n, .int .i64 m.rounds, .int .i64 m.ins, .int .i64 m.outs, encVV m.first, encV4 m.symbols, encSteps m.steps, encV3 m.out]
def encM (m : MachV) : AV := .agg m.cells

theorem step_dat (s : StepV) : ∀ x ∈ s.cells, Dat x := DatL.cons .int (DatL.cons .int (DatL.cons .int (DatL.cons .int (DatL.cons .int (DatL.cons .int (DatL.cons .int (DatL.cons .int DatL.nil)))))))
theorem encStep_dat (s : StepV) : Dat (encStep s) := Dat.agg (step_dat s)
theorem encSteps_dat (l : List StepV) : Dat (encSteps l) := encL_dat (fun x _ c hc => step_dat x c hc)
theorem encV3_dat (l : List (List (List Int))) : Dat (encV3 l) := encL_dat1 (fun _ => rfl) encVV_dat
theorem encV4_dat (l : List (List (List (List Int)))) : Dat (encV4 l) := encL_dat1 (fun _ => rfl) encV3_dat
theorem mach_dat (m : MachV) : ∀ x ∈ m.cells, Dat x := DatL.cons .int (DatL.cons .int (DatL.cons .int (DatL.cons .int (DatL.cons (encVV_dat _) (DatL.cons (encV4_dat _) (DatL.cons (encSteps_dat _) (DatL.cons (encV3_dat _) DatL.nil)))))))
theorem encM_dat (m : MachV) : Dat (encM m) := Dat.agg (mach_dat m)
theorem ME : (∀ l : List StepV, (encSteps l).cells = [encSteps l]) ∧ (∀ l, (encV3 l).cells = [encV3 l]) ∧ (∀ l, (encV4 l).cells = [encV4 l]) ∧ (∀ l : List StepV, (encSteps l).one = true) ∧ (∀ l, (encV3 l).one = true) ∧ (∀ l, (encV4 l).one = true) ∧
    (∀ l : List StepV, alenS (encSteps l) = some (.int .i64 l.length)) ∧ (∀ l, alenS (encV3 l) = some (.int .i64 l.length)) ∧ (∀ l, alenS (encV4 l) = some (.int .i64 l.length)) ∧
    (∀ s : StepV, (encStep s).cells = s.cells) ∧ (∀ m : MachV, (encM m).cells = m.cells) ∧ (∀ s : StepV, s.cells = [.int .i64 s.round, .int .i64 s.proc, .int .i64 s.h0, .int .i64 s.h1, .int .i64 s.h2, .int .i64 s.h3, .int .i64 s.h4, .int .i64 s.to]) ∧
    (∀ m : MachV, m.cells = [.int .i64 m.n, .int .i64 m.rounds, .int .i64 m.ins, .int .i64 m.outs, encVV m.first, encV4 m.symbols, encSteps m.steps, encV3 m.out]) ∧
    (∀ (l : List StepV) (k : IntKind) (n : Int), aixS 8 (encSteps l) (.int k n) = if 0 ≤ n ∧ n < l.length then some (.iptr (l.getD n.toNat default).cells 0) else none) ∧
    (∀ (l : List (List (List Int))) (k : IntKind) (n : Int), aixS 1 (encV3 l) (.int k n) = if 0 ≤ n ∧ n < l.length then some (.iptr [encVV (l.getD n.toNat default)] 0) else none) ∧
    (∀ (l : List (List (List (List Int)))) (k : IntKind) (n : Int), aixS 1 (encV4 l) (.int k n) = if 0 ≤ n ∧ n < l.length then some (.iptr [encV3 (l.getD n.toNat default)] 0) else none) :=
  ⟨fun _ => rfl, fun _ => rfl, fun _ => rfl, fun _ => rfl, fun _ => rfl, fun _ => rfl, fun _ => alenS_encL, fun _ => alenS_encL, fun _ => alenS_encL, fun _ => rfl, fun _ => rfl, fun _ => rfl, fun _ => rfl, fun _ _ _ => aixS_encL, fun _ _ _ => aixS_encL, fun _ _ _ => aixS_encL⟩

def inB (n a b : Int) : Bool := decide (a ≤ n ∧ n ≤ b)
def allB (l : List Int) (a b : Int) : Bool := l.all fun n => inB n a b
attribute [local irreducible] awp2 aops2 ains aloop athen bbind obind gbind acond res1 Go.Abs.Fn PCall Go.Abs.Pure SnapArgs SnapL Yl

theorem in_c (n a b : Int) : Pure Try.prog 55 [.int .i64 n, .int .i64 a, .int .i64 b] (.bool (inB n a b)) := by
  refine Pure.of_c2 follows is55 (Nat.le_of_ble_eq_true rfl) ?_
  simp only [b55, O, G, N, M, D, F, B2, cFal, cTru]
  repeat' (first | apply w_seq | apply w_ops0 | apply w_ret | apply a_n | apply o_nil | (apply o_val rfl rfl; (focus ((try simp (disch := omega) only [simB0, ZA, reduceEqDiff, ↓reduceIte, reduceAdd, reduceLeDiff, ZV, reduceCtorEq]); first | with_reducible rfl | (apply s_ite; (focus omega); with_reducible rfl)))) | (apply o_gT; (focus (simp only [simB0, ZA, reduceEqDiff, ↓reduceIte, reduceAdd, reduceLeDiff]; done))) | (apply o_gF; (focus (simp only [simB0, ZA, reduceEqDiff, ↓reduceIte, reduceAdd, reduceLeDiff, or_true, true_or]; done))) | (apply o_gB; (focus ((try simp only [simB0, ZA, reduceEqDiff, ↓reduceIte, reduceAdd, reduceLeDiff]); (try with_reducible rfl); done)); all_goals (intro _hg; (try simp only [ZB] at _hg); try first | exact absurd trivial _hg | (exfalso; omega))) | (refine e_ends rfl ?_) | (apply r_1; (focus (simp only [rv, simB0, ZA, reduceEqDiff, ↓reduceIte, reduceAdd, reduceLeDiff]; with_reducible rfl))))
  all_goals (refine snap_bool ?_; unfold inB)
  · exact decide_eq_decide.2 (by omega)
  · rw [decide_eq_false (by omega)]

theorem all1_c (n a b : Int) : Pure Try.prog 96 [.int .i64 n, .iptr [.int .i64 a] 0, .iptr [.int .i64 b] 0] (.bool (!inB n a b)) := by
  refine Pure.of_c2 follows is96 (Nat.le_of_ble_eq_true rfl) ?_
  simp only [b96, O, G, N, M, D, F, B2, cFal, cTru]
  repeat' (first | apply w_seq | apply w_ops0 | apply w_ret | apply a_n | apply o_nil | (apply o_val rfl rfl; (focus ((try simp (disch := omega) only [simB0, ZA, reduceEqDiff, ↓reduceIte, reduceAdd, reduceLeDiff, ZV, reduceCtorEq]); first | with_reducible rfl | (apply s_ite; (focus omega); with_reducible rfl)))) | (apply o_callD; (iterate 2 (focus ((try simp only [simB0, ZA, reduceEqDiff, ↓reduceIte, reduceAdd, reduceLeDiff]); (try with_reducible rfl); done))); (focus (first | (exact in_c _ _ _))); (focus ((first | refine snap_plain ?_ rfl | apply snap_data); repeat' (first | exact snapL_nil | apply snapL_i | apply snapL_dat)))) | (refine e_ends rfl ?_) | (apply r_1; (focus (simp only [rv, simB0, ZA, reduceEqDiff, ↓reduceIte, reduceAdd, reduceLeDiff]; with_reducible rfl))))
  exact .bool _

theorem all_c (l : List Int) (a b : Int) (hl : Sh l) : Pure Try.prog 81 [encV l, .int .i64 a, .int .i64 b] (.bool (allB l a b)) := by
  refine Pure.of_c2 follows is81 (Nat.le_of_ble_eq_true rfl) ?_
  simp only [b81, O, G, N, M, D, F, B2, cFal, cTru]
  repeat' (first | apply w_seq | apply w_ops0 | apply a_n | apply o_nil | (apply o_val rfl rfl; (focus ((try simp (disch := omega) only [simB0, ZA, reduceEqDiff, ↓reduceIte, reduceAdd, reduceLeDiff, ZV, reduceCtorEq]); first | with_reducible rfl | (apply s_ite; (focus omega); with_reducible rfl)))) | (apply e_box rfl; (iterate 2 (focus ((try simp only [simB0, ZA, reduceEqDiff, ↓reduceIte, reduceAdd, reduceLeDiff]); (try with_reducible rfl); done))); (focus (simp only [SO, Bool.and_self, one_encV, one_encVV]))))
  refine o_callP (by ((try simp only [simB0, ZA, reduceEqDiff, ↓reduceIte, reduceAdd, reduceLeDiff]); (try with_reducible rfl))) (by ((try simp only [simB0, ZA, reduceEqDiff, ↓reduceIte, reduceAdd, reduceLeDiff]); (try with_reducible rfl))) (containsF_c l (fun n => !inB n a b) 96 [.iptr [.int .i64 a] 0, .iptr [.int .i64 b] 0] (DatL.cons (Dat.iptr (DatL.cons .int DatL.nil)) (DatL.cons (Dat.iptr (DatL.cons .int DatL.nil)) DatL.nil)) (fun x _ => all1_c x a b) hl) (snap_plain (by (repeat' (first | exact snapL_nil | exact Dat.snap Dat.int | exact Dat.snap Dat.bool | exact Dat.snap Dat.str | exact Dat.snap Dat.esl | exact Dat.snap Dat.nilf | exact Dat.snap (encV_dat _) | exact Dat.snap (encVV_dat _) | apply snapL_cons | apply snap_func | apply snap_iptr | (apply snap_ptr; (focus ((try simp only [simB0, ZA, reduceEqDiff, ↓reduceIte, reduceAdd, reduceLeDiff]); with_reducible rfl)); (focus rfl))))) rfl) ?_
  repeat' (first | apply w_ret | apply a_n | apply o_nil | (apply o_val rfl rfl; (focus ((try simp (disch := omega) only [simB0, ZA, reduceEqDiff, ↓reduceIte, reduceAdd, reduceLeDiff, ZV, reduceCtorEq]); first | with_reducible rfl | (apply s_ite; (focus omega); with_reducible rfl)))) | (refine e_ends rfl ?_) | (apply r_1; (focus (simp only [rv, simB0, ZA, reduceEqDiff, ↓reduceIte, reduceAdd, reduceLeDiff]; with_reducible rfl))))
  refine snap_bool ?_
  unfold allB
  rw [List.not_any_eq_all_not]; simp

def lens (l : List (List Int)) : Nat := (l.map List.length).sum
def statesN (m : MachV) : Nat := (m.out.map lens).sum
theorem lens_snoc (l : List (List Int)) (x : List Int) : lens (l ++ [x]) = lens l + x.length := by simp [lens]
theorem sumlens_snoc (l : List (List (List Int))) (x : List (List Int)) : ((l ++ [x]).map lens).sum = (l.map lens).sum + lens x := by simp
theorem lens_take (l : List (List Int)) (k : Nat) : lens (l.take k) ≤ lens l := by
  conv => rhs; rw [← List.take_append_drop k l]
  simp only [lens, List.map_append, List.sum_append]; omega
theorem sumlens_take (l : List (List (List Int))) (k : Nat) : ((l.take k).map lens).sum ≤ (l.map lens).sum := by
  conv => rhs; rw [← List.take_append_drop k l]
  simp only [List.map_append, List.sum_append]; omega

theorem states_c (m : MachV) (hl : Sh m.out) (hs : statesN m ≤ 9223372036854775807) (h2 : ∀ l ∈ m.out, Sh l) : Pure Try.prog 57 [encM m] (.int .i64 (statesN m)) := by
  refine Pure.of_c2 follows is57 (Nat.le_of_ble_eq_true rfl) ?_
  simp only [b57, O, G, N, M, D, F, B2, cFal, cTru]
  have hl' : m.out.length ≤ 9223372036854775807 := hl
  repeat' (first | apply w_seq | apply w_ops0 | apply w_block | apply a_n | apply o_nil | (apply o_val rfl rfl; (focus ((try simp (disch := omega) only [simB0, ZA, reduceEqDiff, ↓reduceIte, reduceAdd, reduceLeDiff, ZV, reduceCtorEq, ME]); first | with_reducible rfl | (apply s_ite; (focus omega); with_reducible rfl)))) | (apply e_box rfl; (iterate 2 (focus ((try simp only [simB0, ZA, reduceEqDiff, ↓reduceIte, reduceAdd, reduceLeDiff, ME]); (try with_reducible rfl); done))); (focus (simp only [SO, Bool.and_self, one_encV, one_encVV, ME]))) | apply w_loop)
  refine loop0 (X := Nat) (fun k => [(3, .int .i64 (((m.out.take k).map lens).sum : Nat)), (9, encV3 m.out), (10, .int .i64 m.out.length), (11, .int .i64 k)]) (fun k => k ≤ m.out.length) (fun k => m.out.length - k) 0 (Nat.zero_le _) (by simp (disch := omega) only [agr, ZG, reduceEqDiff, ↓reduceIte, List.take_zero, List.map_nil, List.sum_nil]) ?_
  rintro k h1
  by_cases hk : k < m.out.length
  · have hm := h2 _ (mem_getD hk)
    have ht := take_succ' hk
    have hb := sumlens_take m.out (k + 1)
    rw [ht, sumlens_snoc] at hb
    unfold statesN at hs
    generalize hc : m.out.getD k default = c at *
    have hc' : c.length ≤ 9223372036854775807 := hm
    repeat' (first | apply w_seq | apply w_ops0 | apply w_block | apply w_skip | apply a_n | apply o_nil | (apply o_val rfl rfl; (focus ((try simp (disch := omega) only [simB0, ZA, reduceEqDiff, ↓reduceIte, reduceAdd, reduceLeDiff, ZV, reduceCtorEq, ME, hc]); first | with_reducible rfl | (apply s_ite; (focus omega); with_reducible rfl)))) | (apply w_cond; (focus ((try simp only [simB0, ZA, reduceEqDiff, ↓reduceIte, reduceAdd, reduceLeDiff, ME, hc]); (try with_reducible rfl); done)); all_goals (intro _hg; (try simp only [ZB] at _hg); try first | exact absurd trivial _hg | (exfalso; omega))) | apply w_loop)
    refine loop0 (X := Nat) (fun j => [(3, .int .i64 ((((m.out.take k).map lens).sum + lens (c.take j) : Nat) : Int)), (9, encV3 m.out), (10, .int .i64 m.out.length), (11, .int .i64 k), (15, encVV c), (16, .int .i64 c.length), (17, .int .i64 j)]) (fun j => j ≤ c.length) (fun j => c.length - j) 0 (Nat.zero_le _) (by simp (disch := omega) only [agr, ZG, reduceEqDiff, ↓reduceIte, List.take_zero, show lens [] = 0 from rfl, Nat.add_zero]) ?_
    rintro j h3
    by_cases hj : j < c.length
    · have ht2 := take_succ' hj
      have hb2 := lens_take c (j + 1)
      rw [ht2, lens_snoc] at hb2
      repeat' (first | apply w_seq | apply w_ops0 | apply w_block | apply w_skip | apply a_n | apply o_nil | (apply o_val rfl rfl; (focus ((try simp (disch := omega) only [simB0, ZA, reduceEqDiff, ↓reduceIte, reduceAdd, reduceLeDiff, ZV, reduceCtorEq, ME]); first | with_reducible rfl | (apply s_ite; (focus omega); with_reducible rfl)))) | (apply w_cond; (focus ((try simp only [simB0, ZA, reduceEqDiff, ↓reduceIte, reduceAdd, reduceLeDiff, ME]); (try with_reducible rfl); done)); all_goals (intro _hg; (try simp only [ZB] at _hg); try first | exact absurd trivial _hg | (exfalso; omega))))
      refine ⟨j + 1, by omega, by omega, ?_, rfl, rfl⟩
      rw [ht2, lens_snoc]
      simp (disch := omega) only [agr, ZG, reduceEqDiff, ↓reduceIte, show ((((m.out.take k).map lens).sum + (lens (c.take j) + (c.getD j default).length) : Nat) : Int) = ((((m.out.take k).map lens).sum + lens (c.take j) : Nat) : Int) + ((c.getD j default).length : Int) by omega]
    · repeat' (first | apply w_seq | apply w_ops0 | apply w_exit | apply a_n | apply a_x | apply o_nil | (apply o_val rfl rfl; (focus ((try simp (disch := omega) only [simB0, ZA, reduceEqDiff, ↓reduceIte, reduceAdd, reduceLeDiff, ZV, reduceCtorEq, ME]); first | with_reducible rfl | (apply s_ite; (focus omega); with_reducible rfl)))) | (apply w_cond; (focus ((try simp only [simB0, ZA, reduceEqDiff, ↓reduceIte, reduceAdd, reduceLeDiff, ME]); (try with_reducible rfl); done)); all_goals (intro _hg; (try simp only [ZB] at _hg); try first | exact absurd trivial _hg | (exfalso; omega))))
      refine ⟨k + 1, by omega, by omega, ?_, rfl, rfl⟩
      rw [ht, sumlens_snoc, List.take_of_length_le (show c.length ≤ j by omega)]
      simp (disch := omega) only [agr, ZG, reduceEqDiff, ↓reduceIte]
  · repeat' (first | apply w_seq | apply w_ops0 | apply w_exit | apply w_ret | apply a_n | apply a_x | apply o_nil | (apply o_val rfl rfl; (focus ((try simp (disch := omega) only [simB0, ZA, reduceEqDiff, ↓reduceIte, reduceAdd, reduceLeDiff, ZV, reduceCtorEq, ME]); first | with_reducible rfl | (apply s_ite; (focus omega); with_reducible rfl)))) | (apply w_cond; (focus ((try simp only [simB0, ZA, reduceEqDiff, ↓reduceIte, reduceAdd, reduceLeDiff, ME]); (try with_reducible rfl); done)); all_goals (intro _hg; (try simp only [ZB] at _hg); try first | exact absurd trivial _hg | (exfalso; omega))) | (refine e_ends rfl ?_) | (apply r_1; (focus (simp only [rv, simB0, ZA, reduceEqDiff, ↓reduceIte, reduceAdd, reduceLeDiff, ME]; with_reducible rfl))))
    rw [List.take_of_length_le (by omega)]
    exact .int _ _

end Go.Proofs.Ytpbjhjkfobapeaa
