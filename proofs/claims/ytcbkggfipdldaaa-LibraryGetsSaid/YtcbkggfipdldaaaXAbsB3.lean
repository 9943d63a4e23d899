/- Regions that draw their order: the theorem. -/
import Derived.Test.YtcbkggfipdldaaaXAbsB2
set_option linter.unusedVariables false
namespace Go.Abs
open Go.RowKit

variable {P : Program} {N : Cfg} {fr : Option Nat} {ops : List Oper} {s : Nat → St} {r : Nat → AV}

theorem Txt.nx_mono (h : Txt P N fr ops s r) (h0 : Dom (s 0).H (s 0).nx) {i : Nat} : ∀ j, i ≤ j → j ≤ ops.length → (s i).nx ≤ (s j).nx
  | 0, hij, _ => by obtain rfl : i = 0 := by omega
                    exact Nat.le_refl _
  | j + 1, hij, hj => by
    by_cases he : i = j + 1
    · subst he; exact Nat.le_refl _
    · obtain ⟨o, ho⟩ : ∃ o, ops[j]? = some o := exists_get (by omega)
      exact Nat.le_trans (h.nx_mono h0 j (by omega) (by omega)) ((h.step j o ho).dom (h.dom h0 j (by omega))).2

/-- boxes that are new where nothing was written have new numbers -/
theorem Txt.new (h : Txt P N fr ops s r) (h0 : Dom (s 0).H (s 0).nx) {i : Nat} : ∀ j, i ≤ j → j ≤ ops.length → (∀ k o, i ≤ k → k < j → ops[k]? = some o → opk o.op ≠ .write) →
    ∀ b cs, (s j).H b = some cs → (s i).H b = some cs ∨ (s i).nx ≤ b ∧ ∀ x ∈ cs, x.one = true
  | 0, hij, _, _ => by obtain rfl : i = 0 := by omega
                       exact fun _ _ h => .inl h
  | j + 1, hij, hj, hk => by
    by_cases he : i = j + 1
    · subst he; exact fun _ _ h => .inl h
    · obtain ⟨o, ho⟩ : ∃ o, ops[j]? = some o := exists_get (by omega)
      intro b cs hb
      have ih := h.new h0 j (by omega) (by omega) (fun k o h1 h2 h3 => hk k o h1 (by omega) h3) b cs
      have hmono := h.nx_mono h0 j (show i ≤ j by omega) (by omega)
      have hst := h.step j o ho
      generalize hsj : s (j + 1) = s' at hst hb
      generalize r j = q at hst
      cases hst with
      | eff _ H' nx' _ hg hdk h1 =>
        rw [St.put_H] at hb
        rcases aeff_kind h1 with hk' | hk'
        · rcases aeff_alloc_shape hk' h1 with ⟨rfl, _⟩ | ⟨cs', rfl, _, hone⟩
          · exact ih hb
          · rcases hupd_some hb with ⟨rfl, rfl⟩ | ⟨_, h2⟩
            · exact .inr ⟨hmono, hone⟩
            · exact ih h2
        · exact absurd hk' (hk j o (by omega) (by omega) ho)
      | skip => exact ih hb
      | val => exact ih hb
      | call => exact ih hb

/-- what lay before the region stays, where stores go to what the region makes -/
theorem Txt.old (h : Txt P N fr ops s r) (h0 : Dom (s 0).H (s 0).nx) {m : Nat} (hm : fr = some m) : ∀ j, j ≤ ops.length → ∀ b, b < m → (s j).H b = (s 0).H b
  | 0, _, _, _ => rfl
  | j + 1, hj, b, hb => by
    obtain ⟨o, ho⟩ : ∃ o, ops[j]? = some o := exists_get (by omega)
    rw [← h.old h0 hm j (by omega) b hb]
    have hmono := h.nx_mono h0 j (Nat.zero_le j) (by omega)
    have hm0 := h.m0 m hm
    have hst := h.step j o ho
    generalize s (j + 1) = s' at hst
    generalize r j = q at hst
    cases hst with
    | eff _ H' nx' hf hg hdk h1 =>
      rw [St.put_H]
      show H' b = _
      rcases aeff_kind h1 with hk' | hk'
      · rcases aeff_alloc_shape hk' h1 with ⟨rfl, _⟩ | ⟨cs', rfl, _⟩
        · rfl
        · simp only [hupd]; rw [if_neg (by omega)]
      · have hfo := hf m hm
        generalize o.op = op at hk' hfo h1
        cases op <;> first | (simp [opk] at hk'; done) | skip
        · rename_i t p x
          simp only [frOk] at hfo
          simp only [aeff] at h1
          split at h1
          · rename_i H1 hs
            cases h1
            unfold astore at hs
            split at hs
            · rename_i b' n off hp
              rw [hp] at hfo
              simp only [decide_eq_true_eq] at hfo
              split at hs
              · split at hs
                · cases hs
                  simp only [hupd]; rw [if_neg (by omega)]
                · cases hs
              · cases hs
            · cases hs
          · cases h1
        · simp [frOk, hk'] at hfo
    | skip => rfl
    | val => rfl
    | call => rfl

def TL (ops : List Oper) (T0 : Nat → AV) (r : Nat → AV) (L : Array Bool) (t : Nat) : AV := match wtr ops t with
  | some j => if L.getD j false = true then r j else T0 t
  | none => T0 t

structure DInv (P : Program) (N : Cfg) (ops : List Oper) (s : Nat → St) (r : Nat → AV) (E₀ : Env) (w₀ : World) (df : List Deferred) (L : Array Bool) (a : Act) (w : World) (E : Env) : Prop where
  lsz : L.size = ops.length
  dc : ∀ j i, L.getD j false = true → mbit (Region.before ops.toArray) j i = true → i < ops.length → L.getD i false = true
  env : EnvOk E w
  ext : Ext E₀ w₀ E w
  asz : a.tmps.size = N.n
  tm : ∀ t, Rel E w (TL ops (s 0).T r L t) (a.tmps.getD t Go.undef)
  defs : a.defers = df
  rnd : ∀ l, N.rd = some l → ∃ b x, E₀.lp b = some x ∧ E₀.sp b = some l
  flr : N.floor ≤ w₀.heap.size
  cur : ∃ c, c ≤ ops.length ∧ (∀ k o, k < c → ops[k]? = some o → opk o.op = .write → L.getD k false = true) ∧ (c < ops.length → (∃ o, ops[c]? = some o ∧ opk o.op = .write) ∧ L.getD c false = false) ∧
    HeapOk E (s c).H (s c).nx w ∧ Fresh E (s c).nx ∧
    (∀ k o, k < c → ops[k]? = some o → L.getD k false = false → opk o.op = .alloc → (s k).nx < (s (k + 1)).nx → FreeAt E (s k).nx)

theorem getD_set (L : Array Bool) (i k : Nat) (hi : i < L.size) : (L.setIfInBounds i true).getD k false = (if k = i then true else L.getD k false) := by
  by_cases h : k = i
  · subst h; simp [hi]
  · rw [if_neg h]
    simp only [Array.getD_eq_getD_getElem?]
    rw [Array.getElem?_setIfInBounds_ne (Ne.symm h)]

structure Ready (ops : List Oper) (L : Array Bool) (i : Nat) (o : Oper) : Prop where
  get : ops[i]? = some o
  not : L.getD i false = false
  dir : ∀ k ∈ direct o, L.getD k false = true

theorem ready_of {L : Array Bool} {i : Nat} (hsz : L.size = ops.length) (h : i ∈ Region.ready .any ops.toArray L) : ∃ o, Ready ops L i o := by
  obtain ⟨h1, o, ho, hall⟩ := mem_ready.1 h
  have ho' : ops[i]? = some o := by simpa using ho
  have hlt : i < ops.length := (List.getElem?_eq_some_iff.1 ho').1
  refine ⟨o, ho', ?_, ?_⟩
  · have : i < L.size := by omega
    simp [this] at h1 ⊢; exact h1
  · intro k hk
    simp only [direct, List.mem_map, List.mem_filter] at hk
    obtain ⟨e, ⟨he, hb⟩, rfl⟩ := hk
    exact hall e (by simpa using he) hb

theorem drawOk_parts {fb : Bool} (h : drawOk fb ops = true) :
    (∀ j o, ops[j]? = some o → ∀ k ∈ direct o, k < j) ∧
    (∀ j o i, ops[j]? = some o → i < ops.length → mbit (Region.before ops.toArray) j i = true → ∃ k ∈ direct o, k = i ∨ mbit (Region.before ops.toArray) k i = true) ∧
    (∀ i j oi oj, ops[i]? = some oi → ops[j]? = some oj → i < j → conflict fb ops oi oj = true → mbit (Region.before ops.toArray) j i = true) := by
  simp only [drawOk, Bool.and_eq_true, List.all_eq_true, List.mem_range, Bool.or_eq_true, Bool.not_eq_true', decide_eq_true_eq, List.any_eq_true, beq_iff_eq] at h
  obtain ⟨⟨⟨h1, h2⟩, h3⟩, _⟩ := h
  have hlt := fun {k : Nat} {o : Oper} (hk : ops[k]? = some o) => (List.getElem?_eq_some_iff.1 hk).1
  refine ⟨fun j o ho k hk => ?_, fun j o i ho hi hb => ?_, fun i j oi oj hi hj hij hc => ?_⟩
  · have := h1 j (hlt ho) k; rw [getD_of ho] at this; exact this hk
  · have := h2 j (hlt ho) i hi; rw [getD_of ho, hb] at this
    rcases this with h | h
    · cases h
    · exact h
  · have := h3 j (hlt hj) i hij; rw [getD_of hi, getD_of hj, hc] at this
    rcases this with h | h
    · cases h
    · exact h

section
variable {E₀ : Env} {w₀ : World} {df : List Deferred} {L : Array Bool} {a : Act} {w : World} {E : Env}

theorem DInv.bits (hI : DInv P N ops s r E₀ w₀ df L a w E) {fb : Bool} (hok : drawOk fb ops = true) {i : Nat} {o : Oper} (hr : Ready ops L i o) {k : Nat} (hk : k < ops.length) (hb : mbit (Region.before ops.toArray) i k = true) : L.getD k false = true := by
  obtain ⟨_, h2, _⟩ := drawOk_parts hok
  obtain ⟨q, hq, h⟩ := h2 i o k hr.get hk hb
  rcases h with rfl | h
  · exact hr.dir _ hq
  · exact hI.dc q k (hr.dir _ hq) h hk

theorem DInv.earlier (hI : DInv P N ops s r E₀ w₀ df L a w E) {fb : Bool} (hok : drawOk fb ops = true) {i k : Nat} {o ok : Oper} (hr : Ready ops L i o) (hk : ops[k]? = some ok) (hki : k < i) (hc : conflict fb ops ok o = true) : L.getD k false = true :=
  hI.bits hok hr (List.getElem?_eq_some_iff.1 hk).1 ((drawOk_parts hok).2.2 k i ok o hk hr.get hki hc)

theorem DInv.later (hI : DInv P N ops s r E₀ w₀ df L a w E) {fb : Bool} (hok : drawOk fb ops = true) {i k : Nat} {o ok : Oper} (hr : Ready ops L i o) (hk : ops[k]? = some ok) (hki : i < k) (hc : conflict fb ops o ok = true) : L.getD k false = false := by
  cases h : L.getD k false with
  | false => rfl
  | true =>
    have := hI.dc k i h ((drawOk_parts hok).2.2 i k o ok hr.get hk hki hc) (List.getElem?_eq_some_iff.1 hr.get).1
    rw [hr.not] at this; cases this

theorem conflict_left {fb : Bool} {x y : Oper} {d : Nat} (h : x.dst = some d) (hy : d ∈ y.looksAt ops.toArray) : conflict fb ops x y = true := by
  simp [conflict, h, hy]
theorem conflict_right {fb : Bool} {x y : Oper} {d : Nat} (h : y.dst = some d) (hx : d ∈ x.looksAt ops.toArray) : conflict fb ops x y = true := by
  simp [conflict, h, hx]
theorem conflict_wl {fb : Bool} {x y : Oper} (h : opk x.op = .write) (hy : quiet fb y.op = false) : conflict fb ops x y = true := by
  simp [conflict, h, hy]
theorem conflict_wr {fb : Bool} {x y : Oper} (h : opk y.op = .write) (hx : quiet fb x.op = false) : conflict fb ops x y = true := by
  simp [conflict, h, hx]

theorem DInv.looks (hI : DInv P N ops s r E₀ w₀ df L a w E) (ht : Txt P N fr ops s r) {i : Nat} {o : Oper} (hr : Ready ops L i o) {t : Nat} (hl : t ∈ o.looksAt ops.toArray) : TL ops (s 0).T r L t = (s i).T t := by
  have hi : i < ops.length := (List.getElem?_eq_some_iff.1 hr.get).1
  rw [ht.temps t i (by omega)]
  unfold TL
  cases hw : wtr ops t with
  | none => rfl
  | some j =>
    obtain ⟨oj, hj, hdj⟩ := wtr_some hw
    simp only
    rcases Nat.lt_trichotomy j i with h | h | h
    · rw [if_pos (hI.earlier ht.ok hr hj h (conflict_left hdj hl)), if_pos h]
    · subst h
      rw [if_neg (by rw [hr.not]; simp), if_neg (by omega)]
    · rw [if_neg (by rw [hI.later ht.ok hr hj h (conflict_right hdj hl)]; simp), if_neg (by omega)]

theorem DInv.operands (hI : DInv P N ops s r E₀ w₀ df L a w E) (ht : Txt P N fr ops s r) {i : Nat} {o : Oper} (hr : Ready ops L i o) : ∀ x ∈ o.op.operands, ev (TL ops (s 0).T r L) x = ev (s i).T x := by
  intro x hx
  refine ev_congr fun t e => ?_
  subst e
  refine hI.looks ht hr ?_
  unfold Oper.looksAt
  exact List.mem_append_left _ (List.mem_filterMap.2 ⟨.tmp t, by simpa using hx, rfl⟩)

theorem DInv.guard (hI : DInv P N ops s r E₀ w₀ df L a w E) (ht : Txt P N fr ops s r) {i : Nat} {o : Oper} (hr : Ready ops L i o) {b : Bool} (hg : gval (s i).T (ops.map (·.dst)) o.guard = some b) : Region.wanted o (yielded ops.toArray a.tmps) = b := by
  refine gval_sound (E := E) (w := w) (T := (s i).T) (fun t ⟨j, want, hgj, hd⟩ => ?_) hg
  have hl : t ∈ o.looksAt ops.toArray := by
    unfold Oper.looksAt
    refine List.mem_append_right _ ?_
    rw [hgj]
    simp only [List.getElem?_toArray, hd]
    simp
  rw [← hI.looks ht hr hl]
  exact hI.tm t

theorem TL_next {fb : Bool} (hok : drawOk fb ops = true) (hsz : L.size = ops.length) {i : Nat} {o : Oper} (hr : Ready ops L i o) (T0 : Nat → AV) : TL ops T0 r (L.setIfInBounds i true) = updo (TL ops T0 r L) o.dst (r i) := by
  have hi : i < ops.length := (List.getElem?_eq_some_iff.1 hr.get).1
  funext t
  have hset := getD_set L i
  by_cases hd : o.dst = some t
  · have hw := wtr_eq hok hr.get hd
    simp [TL, hw, updo, upd, hd, hsz, hi]
  · have e2 : updo (TL ops T0 r L) o.dst (r i) t = TL ops T0 r L t := by
      cases ho : o.dst with
      | none => rfl
      | some d =>
        have : t ≠ d := fun e => hd (by rw [ho, e])
        simp [updo, upd, this]
    rw [e2]
    unfold TL
    cases hw : wtr ops t with
    | none => rfl
    | some j =>
      obtain ⟨oj, hj, hdj⟩ := wtr_some hw
      have hji : j ≠ i := fun e => by subst e; rw [hr.get] at hj; cases hj; exact hd hdj
      simp only
      rw [hset j (by omega), if_neg hji]

/-- what stays the same for every operation -/
theorem DInv.next (hI : DInv P N ops s r E₀ w₀ df L a w E) (ht : Txt P N fr ops s r) {i : Nat} {o : Oper} (hr : Ready ops L i o) {v : Value} {w' : World} {E' : Env} (he : Ext E w E' w') (hE' : EnvOk E' w') (hv : Rel E' w' (r i) v) (hd : dok N.n o.dst = true)
    (hcur : ∃ c, c ≤ ops.length ∧ (∀ k o, k < c → ops[k]? = some o → opk o.op = .write → (L.setIfInBounds i true).getD k false = true) ∧ (c < ops.length → (∃ o, ops[c]? = some o ∧ opk o.op = .write) ∧ (L.setIfInBounds i true).getD c false = false) ∧
      HeapOk E' (s c).H (s c).nx w' ∧ Fresh E' (s c).nx ∧
      (∀ k o, k < c → ops[k]? = some o → (L.setIfInBounds i true).getD k false = false → opk o.op = .alloc → (s k).nx < (s (k + 1)).nx → FreeAt E' (s k).nx)) :
    DInv P N ops s r E₀ w₀ df (L.setIfInBounds i true) (a.put o.dst v) w' E' := by
  have hi : i < ops.length := (List.getElem?_eq_some_iff.1 hr.get).1
  have hset := fun k => getD_set L i k (by rw [hI.lsz]; exact hi)
  refine ⟨by simp [hI.lsz], ?_, hE', hI.ext.trans he, ?_, ?_, ?_, hI.rnd, hI.flr, hcur⟩
  · intro j k hj hb hk
    rw [hset] at hj ⊢
    by_cases hki : k = i
    · rw [if_pos hki]
    · rw [if_neg hki]
      by_cases hji : j = i
      · subst hji; exact hI.bits ht.ok hr hk hb
      · rw [if_neg hji] at hj; exact hI.dc j k hj hb hk
  · cases ho : o.dst with
    | none => exact hI.asz
    | some d => simp [Act.put, hI.asz]
  · intro t
    rw [TL_next ht.ok hI.lsz hr]
    cases ho : o.dst with
    | none => exact (hI.tm t).ext he
    | some d =>
      rw [ho] at hd
      simp only [dok, decide_eq_true_eq] at hd
      simp only [updo, upd, Act.put]
      by_cases hdt : t = d
      · subst hdt
        rw [if_pos rfl]
        have : t < a.tmps.size := by rw [hI.asz]; exact hd
        simp [this]; exact hv
      · rw [if_neg hdt]
        have := (hI.tm t).ext he
        have e : (a.tmps.setIfInBounds d v).getD t Go.undef = a.tmps.getD t Go.undef := by
          simp only [Array.getD_eq_getD_getElem?]
          rw [Array.getElem?_setIfInBounds_ne (Ne.symm hdt)]
        rw [e]; exact this
  · cases ho : o.dst <;> exact hI.defs

/-- an operation that does not write: the boxes' list stays -/
theorem DInv.stay (hI : DInv P N ops s r E₀ w₀ df L a w E) (ht : Txt P N fr ops s r) {i : Nat} {o : Oper} (hr : Ready ops L i o) (hk : opk o.op ≠ .write) {v : Value} {w' : World} {E' : Env} (he : Ext E w E' w') (hE' : EnvOk E' w') (hv : Rel E' w' (r i) v) (hd : dok N.n o.dst = true)
    (hmu : ∀ b m, (b = (s i).nx ∧ opk o.op = .alloc ∧ (s i).nx < (s (i + 1)).nx) ∨ E'.mu b m = E.mu b m) (hsp : E'.sp = E.sp) (hlp : E'.lp = E.lp)
    (h0 : Dom (s 0).H (s 0).nx) {c : Nat} (hc : c ≤ ops.length) (c1 : ∀ k o, k < c → ops[k]? = some o → opk o.op = .write → L.getD k false = true) (c2 : c < ops.length → (∃ o, ops[c]? = some o ∧ opk o.op = .write) ∧ L.getD c false = false)
    (c4 : Fresh E (s c).nx)
    (c5 : ∀ k o, k < c → ops[k]? = some o → L.getD k false = false → opk o.op = .alloc → (s k).nx < (s (k + 1)).nx → FreeAt E (s k).nx)
    (hheap : HeapOk E' (s c).H (s c).nx w') :
    DInv P N ops s r E₀ w₀ df (L.setIfInBounds i true) (a.put o.dst v) w' E' := by
  have hi : i < ops.length := (List.getElem?_eq_some_iff.1 hr.get).1
  have hset := fun k => getD_set L i k (by rw [hI.lsz]; exact hi)
  have hic : i ≠ c := by
    intro e; subst e
    obtain ⟨⟨o', ho', hw⟩, _⟩ := c2 hi
    rw [hr.get] at ho'; cases ho'; exact hk hw
  have hpos : quiet fr.isSome o.op = false → i < c := by
    intro hp
    rcases Nat.lt_or_ge i c with h | h
    · exact h
    · have hci : c < i := by omega
      obtain ⟨⟨oc, hoc, hw⟩, hn⟩ := c2 (by omega)
      have := hI.earlier ht.ok hr hoc hci (conflict_wl hw hp)
      rw [hn] at this; cases this
  refine hI.next ht hr he hE' hv hd ⟨c, hc, ?_, ?_, hheap, ?_, ?_⟩
  · intro k o' h1 h2 h3
    rw [hset]; split
    · rfl
    · exact c1 k o' h1 h2 h3
  · intro h1
    obtain ⟨h2, h3⟩ := c2 h1
    refine ⟨h2, ?_⟩
    rw [hset, if_neg (Ne.symm hic)]; exact h3
  · intro b hb
    refine ⟨fun m => ?_, by rw [hsp]; exact (c4 b hb).2.1, by rw [hlp]; exact (c4 b hb).2.2⟩
    rcases hmu b m with ⟨rfl, hal, hlt⟩ | h
    · have hp := hpos (quiet_alloc hal)
      have := ht.nx_mono h0 c (show i + 1 ≤ c by omega) hc
      omega
    · rw [h]; exact (c4 b hb).1 m
  · intro k o' h1 h2 h3 h4 h5
    rw [hset] at h3
    split at h3
    · cases h3
    · rename_i hki
      have c5k := c5 k o' h1 h2 h3 h4 h5
      refine ⟨fun m => ?_, by rw [hsp]; exact c5k.2.1, by rw [hlp]; exact c5k.2.2⟩
      rcases hmu (s k).nx m with ⟨hb, hal, hlt⟩ | h
      · exfalso
        have hp := hpos (quiet_alloc hal)
        rcases Nat.lt_or_ge k i with hlt' | hge
        · have := ht.nx_mono h0 i (show k + 1 ≤ i by omega) (by omega); omega
        · have := ht.nx_mono h0 k (show i + 1 ≤ k by omega) (by omega); omega
      · rw [h]; exact c5k.1 m

end
end Go.Abs
