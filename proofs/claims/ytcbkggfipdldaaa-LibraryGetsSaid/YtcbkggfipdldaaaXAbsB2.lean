/- Regions that draw their order: any order leaves what the order of the text leaves. -/
import Derived.Test.YtcbkggfipdldaaaXAbsB1
set_option linter.unusedVariables false
namespace Go.Abs
open Go.RowKit

def FW (r : Option Nat) : Fence := { Fence.wide with round := r }

theorem callsIn_FW {r : Option Nat} {n : Nat} {P : Program} {f : FuncId} {args : Array Value} {w : World} {R : Ending → World → Prop} (h : Calls P f args w R) : CallsIn (FW r) n P f args w R :=
  (callsIn_wide (n := n)).2 h

theorem semAt_FW {r : Option Nat} {ρ : Operand → Value} {o : Oper} (h : ∀ c, o.op ≠ .defer c) : o.semAt (FW r).round ρ = execOp ρ o := Oper.semAt_eq _ _ _ h

/-- what one operation does, in the order of the text -/
inductive DStep (P : Program) (N : Cfg) (fr : Option Nat) (dsts : List (Option Nat)) (o : Oper) (st : St) : AV → St → Prop
  | skip (hg : gval st.T dsts o.guard = some false) (hd : dok N.n o.dst = true) : DStep P N fr dsts o st (.tup []) (st.put o.dst (.tup []))
  | val (r : AV) (hfr : ∀ m, fr = some m → frOk st.T o.op m = true) (hg : gval st.T dsts o.guard = some true) (hd : dok N.n o.dst = true) (h : aval P st.T st.H o.op = some r) : DStep P N fr dsts o st r (st.put o.dst r)
  | call (r : AV) (f : Operand) (args : Array Operand) (argTypes : Array TypeId) (g : FuncId) (caps : List AV) (hg : gval st.T dsts o.guard = some true) (hd : dok N.n o.dst = true)
      (ho : o.op = .call { callee := .value f, args := args, argTypes := argTypes }) (hf : ev st.T f = .func g caps)
      (hp : CallOk P g (args.toList.map (ev st.T) ++ caps) st.H r) : DStep P N fr dsts o st r (st.put o.dst r)
  | eff (r : AV) (H' : Nat → Option (List AV)) (nx' : Nat) (hfr : ∀ m, fr = some m → frOk st.T o.op m = true) (hg : gval st.T dsts o.guard = some true) (hd : dok N.n o.dst = true) (h : aeff P st.T st.H st.nx o.op = some (r, H', nx')) :
      DStep P N fr dsts o st r ({ st with H := H', nx := nx' }.put o.dst r)

theorem St.put_T {st : St} {d : Option Nat} {v : AV} : (st.put d v).T = updo st.T d v := rfl
theorem St.put_H {st : St} {d : Option Nat} {v : AV} : (st.put d v).H = st.H := rfl
theorem St.put_nx {st : St} {d : Option Nat} {v : AV} : (st.put d v).nx = st.nx := rfl

theorem DStep.T {P : Program} {N : Cfg} {fr : Option Nat} {dsts : List (Option Nat)} {o : Oper} {st st' : St} {r : AV} (h : DStep P N fr dsts o st r st') : st'.T = updo st.T o.dst r := by
  cases h <;> rw [St.put_T]

theorem DStep.dok {P : Program} {N : Cfg} {fr : Option Nat} {dsts : List (Option Nat)} {o : Oper} {st st' : St} {r : AV} (h : DStep P N fr dsts o st r st') : dok N.n o.dst = true := by
  cases h <;> assumption

/-- the operation that writes temporary t -/
def wtr (ops : List Oper) (t : Nat) : Option Nat := ops.findIdx? (fun o => o.dst == some t)

structure Txt (P : Program) (N : Cfg) (fr : Option Nat) (ops : List Oper) (s : Nat → St) (r : Nat → AV) : Prop where
  step : ∀ i o, ops[i]? = some o → DStep P N fr (ops.map (·.dst)) o (s i) (r i) (s (i + 1))
  ok : drawOk fr.isSome ops = true
  m0 : ∀ m, fr = some m → m = (s 0).nx

theorem wtr_some {ops : List Oper} {t j : Nat} (h : wtr ops t = some j) : ∃ o, ops[j]? = some o ∧ o.dst = some t := by
  unfold wtr at h
  rw [List.findIdx?_eq_some_iff_getElem] at h
  obtain ⟨hj, h1, _⟩ := h
  exact ⟨ops[j], by simp [hj], by simpa using h1⟩

theorem wtr_none {ops : List Oper} {t j : Nat} {o : Oper} (h : wtr ops t = none) (ho : ops[j]? = some o) : o.dst ≠ some t := by
  unfold wtr at h
  rw [List.findIdx?_eq_none_iff] at h
  have := h o (List.mem_of_getElem? ho)
  simpa using this

theorem getD_of {ops : List Oper} {j : Nat} {o : Oper} (h : ops[j]? = some o) : ops.getD j default = o := by simp [List.getD, h]

theorem drawOk_single {fr : Bool} {ops : List Oper} (h : drawOk fr ops = true) {i j : Nat} {oi oj : Oper} (hi : ops[i]? = some oi) (hj : ops[j]? = some oj) {d : Nat} (h1 : oi.dst = some d) (h2 : oj.dst = some d) : i = j := by
  simp only [drawOk, Bool.and_eq_true, List.all_eq_true, List.mem_range] at h
  have hlt := fun {k o} (hk : ops[k]? = some o) => (List.getElem?_eq_some_iff.1 hk).1
  rcases Nat.lt_trichotomy i j with hij | hij | hij
  · have := h.2 j (hlt hj) i hij
    rw [getD_of hi, getD_of hj, h1, h2] at this
    simp at this
  · exact hij
  · have := h.2 i (hlt hi) j hij
    rw [getD_of hi, getD_of hj, h1, h2] at this
    simp at this

theorem wtr_eq {fr : Bool} {ops : List Oper} (h : drawOk fr ops = true) {i d : Nat} {o : Oper} (hi : ops[i]? = some o) (hd : o.dst = some d) : wtr ops d = some i := by
  cases hw : wtr ops d with
  | none => exact absurd hd (wtr_none hw hi)
  | some j =>
    obtain ⟨oj, hj, hdj⟩ := wtr_some hw
    rw [drawOk_single h hj hi hdj hd]

theorem exists_get {ops : List Oper} {i : Nat} (h : i < ops.length) : ∃ o, ops[i]? = some o := ⟨_, List.getElem?_eq_getElem h⟩

variable {P : Program} {N : Cfg} {fr : Option Nat} {ops : List Oper} {s : Nat → St} {r : Nat → AV}

theorem Txt.temps (h : Txt P N fr ops s r) (t : Nat) : ∀ i, i ≤ ops.length → (s i).T t = (match wtr ops t with | some j => if j < i then r j else (s 0).T t | none => (s 0).T t)
  | 0, _ => by cases wtr ops t <;> simp
  | i + 1, hi => by
    obtain ⟨o, ho⟩ : ∃ o, ops[i]? = some o := exists_get (by omega)
    have ih := h.temps t i (by omega)
    have hT := (h.step i o ho).T
    cases hw : wtr ops t with
    | none =>
      have := wtr_none hw ho
      rw [hw] at ih
      rw [hT]
      cases hd : o.dst with
      | none => exact ih
      | some d =>
        have hne : t ≠ d := fun e => this (by rw [hd, e])
        simp only [updo, upd, if_neg hne]; exact ih
    | some j =>
      rw [hw] at ih
      simp only at ih ⊢
      rw [hT]
      obtain ⟨oj, hj, hdj⟩ := wtr_some hw
      by_cases hji : j = i
      · subst hji
        rw [hj] at ho; cases ho
        simp [hdj, updo, upd]
      · have hnd : ∀ d, o.dst = some d → t ≠ d := fun d hd e => by
          subst e
          exact hji (drawOk_single h.ok hj ho hdj hd)
        have : updo (s i).T o.dst (r i) t = (s i).T t := by
          cases hd : o.dst with
          | none => rfl
          | some d => simp [updo, upd, hnd d hd]
        rw [this, ih]
        by_cases h1 : j < i
        · rw [if_pos h1, if_pos (by omega)]
        · rw [if_neg h1, if_neg (by omega)]

/-! ### what lies -/
theorem hupd_some {H : Nat → Option (List AV)} {b x : Nat} {cs c : List AV} (h : hupd H b cs x = some c) : (x = b ∧ c = cs) ∨ (x ≠ b ∧ H x = some c) := by
  unfold hupd at h
  split at h
  · cases h; exact .inl ⟨‹_›, rfl⟩
  · exact .inr ⟨‹_›, h⟩

theorem zcells_one {z : AV} {k : Nat} (h : z.flat = true) : ∀ x ∈ zcells z k, x.one = true := by
  intro x hx
  simp only [zcells, List.mem_flatten, List.mem_replicate] at hx
  obtain ⟨l, ⟨_, rfl⟩, hx⟩ := hx
  exact List.all_eq_true.1 h x hx

theorem afill_one {place : Nat → Option (Nat × Nat)} : ∀ (parts : List (Nat × AV)) (cells r : List AV), (∀ x ∈ cells, x.one = true) → afill place cells parts = some r → ∀ x ∈ r, x.one = true
  | [], cells, r, h0, h => by cases h; exact h0
  | (i, x) :: rest, cells, r, h0, h => by
    simp only [afill] at h
    split at h
    · split at h
      · rename_i hc
        refine afill_one rest _ _ (fun y hy => ?_) h
        simp only [lput, List.mem_append] at hy
        rcases hy with (hy | hy) | hy
        · exact h0 y (List.mem_of_mem_take hy)
        · exact List.all_eq_true.1 hc.1 y hy
        · exact h0 y (List.mem_of_mem_drop hy)
      · cases h
    · cases h

/-- an operation that makes a box: the next number, or nothing -/
theorem aeff_alloc_shape {T : Nat → AV} {H : Nat → Option (List AV)} {nx : Nat} {op : Op} {q : AV} {H' : Nat → Option (List AV)} {nx' : Nat} (hk : opk op = .alloc) (h : aeff P T H nx op = some (q, H', nx')) :
    (H' = H ∧ nx' = nx) ∨ ∃ cs, H' = hupd H nx cs ∧ nx' = nx + 1 ∧ ∀ x ∈ cs, x.one = true := by
  cases op <;> first | (simp [opk] at hk; done) | skip
  · simp only [aeff, aalloc] at h
    split at h
    · simp only [abox] at h
      split at h <;> cases h
      rename_i hf
      exact .inr ⟨_, rfl, rfl, List.all_eq_true.1 hf⟩
    · cases h
  · simp only [aeff, abox] at h
    split at h <;> cases h
    rename_i hf
    exact .inr ⟨_, rfl, rfl, List.all_eq_true.1 hf⟩
  · simp only [aeff, abuildS] at h
    split at h
    · cases h
    · split at h
      · split at h
        · split at h <;> cases h; exact .inl ⟨rfl, rfl⟩
        · split at h
          · split at h
            · rename_i hz
              split at h
              · rename_i hfl
                cases h; exact .inr ⟨_, rfl, rfl, afill_one _ _ _ (zcells_one hz.1) hfl⟩
              · cases h
            · cases h
          · cases h
      · cases h
  · simp only [aeff, amake] at h
    split at h
    · split at h
      · split at h
        · rename_i hz
          cases h; exact .inr ⟨_, rfl, rfl, zcells_one hz.2.1⟩
        · cases h
      · cases h
    · cases h
  · rename_i c
    obtain ⟨callee, args, argTypes⟩ := c
    cases callee <;> first | (simp [opk] at hk; done) | skip
    rename_i b
    cases b <;> simp [opk] at hk

/-- boxes have numbers below the next one -/
def Dom (H : Nat → Option (List AV)) (nx : Nat) : Prop := ∀ b cs, H b = some cs → b < nx

theorem aeff_dom {T : Nat → AV} {H : Nat → Option (List AV)} {nx : Nat} {op : Op} {q : AV} {H' : Nat → Option (List AV)} {nx' : Nat} (hd : Dom H nx) (h : aeff P T H nx op = some (q, H', nx')) : Dom H' nx' ∧ nx ≤ nx' := by
  have hup : ∀ b cs, b < nx → Dom (hupd H b cs) nx := fun b cs hb x c hx => by
    rcases hupd_some hx with ⟨rfl, _⟩ | ⟨_, h⟩
    · exact hb
    · exact hd _ _ h
  have hnew : ∀ cs, Dom (hupd H nx cs) (nx + 1) := fun cs x c hx => by
    rcases hupd_some hx with ⟨rfl, _⟩ | ⟨_, h⟩
    · omega
    · have := hd _ _ h; omega
  rcases aeff_kind h with hk | hk
  · rcases aeff_alloc_shape hk h with ⟨rfl, rfl⟩ | ⟨cs, rfl, rfl, _⟩
    · exact ⟨hd, Nat.le_refl _⟩
    · exact ⟨hnew cs, by omega⟩
  · unfold aeff at h
    split at h <;> first | (simp [opk] at hk; done) | skip
    · rename_i t p x
      split at h
      · rename_i H1 hs
        cases h
        unfold astore at hs
        split at hs
        · split at hs
          · rename_i cs hb
            split at hs
            · cases hs; exact ⟨hup _ _ (hd _ _ hb), Nat.le_refl _⟩
            · cases hs
          · cases hs
        · cases hs
      · cases h
    · unfold aappend at h
      split at h
      · cases h
      · split at h
        · split at h
          · cases h
          · split at h
            · split at h
              · split at h
                · cases h; exact ⟨hnew _, by omega⟩
                · cases h
              · split at h
                · rename_i cs hb
                  split at h
                  · split at h
                    · cases h; exact ⟨hup _ _ (hd _ _ hb), Nat.le_refl _⟩
                    · split at h
                      · cases h; exact ⟨hup _ _ (hd _ _ hb), Nat.le_refl _⟩
                      · cases h
                  · cases h
                · cases h
              · cases h
            · cases h
        · cases h
    · cases h

theorem DStep.dom {dsts : List (Option Nat)} {o : Oper} {st st' : St} {q : AV} (h : DStep P N fr dsts o st q st') (hd : Dom st.H st.nx) : Dom st'.H st'.nx ∧ st.nx ≤ st'.nx := by
  cases h with
  | eff _ H' nx' _ hg hdk h =>
    rw [St.put_H, St.put_nx]
    exact aeff_dom hd h
  | _ => rw [St.put_H, St.put_nx]; exact ⟨hd, Nat.le_refl _⟩

/-- what an operation that does not write leaves of the boxes -/
theorem DStep.sub {dsts : List (Option Nat)} {o : Oper} {st st' : St} {q : AV} (h : DStep P N fr dsts o st q st') (hd : Dom st.H st.nx) (hk : opk o.op ≠ .write) : ∀ b cs, st.H b = some cs → st'.H b = some cs := by
  cases h with
  | eff _ H' nx' _ hg hdk h =>
    rw [St.put_H]
    rcases aeff_kind h with hk' | hk'
    · rcases aeff_alloc_shape hk' h with ⟨rfl, rfl⟩ | ⟨cs, rfl, rfl, _⟩
      · exact fun _ _ h => h
      · intro b cs hb
        have := hd _ _ hb
        simp only [hupd]
        rw [if_neg (by omega)]; exact hb
    · exact absurd hk' hk
  | _ => rw [St.put_H]; exact fun _ _ h => h

theorem Txt.dom (h : Txt P N fr ops s r) (h0 : Dom (s 0).H (s 0).nx) : ∀ i, i ≤ ops.length → Dom (s i).H (s i).nx
  | 0, _ => h0
  | i + 1, hi => by
    obtain ⟨o, ho⟩ : ∃ o, ops[i]? = some o := exists_get (by omega)
    exact ((h.step i o ho).dom (h.dom h0 i (by omega))).1

theorem Txt.sub (h : Txt P N fr ops s r) (h0 : Dom (s 0).H (s 0).nx) {i : Nat} : ∀ j, i ≤ j → j ≤ ops.length → (∀ k o, i ≤ k → k < j → ops[k]? = some o → opk o.op ≠ .write) →
    (∀ b cs, (s i).H b = some cs → (s j).H b = some cs) ∧ (s i).nx ≤ (s j).nx
  | 0, hij, _, _ => by obtain rfl : i = 0 := by omega
                       exact ⟨fun _ _ h => h, Nat.le_refl _⟩
  | j + 1, hij, hj, hk => by
    by_cases he : i = j + 1
    · subst he; exact ⟨fun _ _ h => h, Nat.le_refl _⟩
    · obtain ⟨o, ho⟩ : ∃ o, ops[j]? = some o := exists_get (by omega)
      obtain ⟨h1, h2⟩ := h.sub h0 j (by omega) (by omega) (fun k o h1 h2 h3 => hk k o h1 (by omega) h3)
      have hd := h.dom h0 j (by omega)
      exact ⟨fun b cs hb => (h.step j o ho).sub hd (hk j o (by omega) (by omega) ho) b cs (h1 b cs hb), Nat.le_trans h2 ((h.step j o ho).dom hd).2⟩

/-- fewer boxes -/
theorem HeapOk.fewer {E : Env} {H H' : Nat → Option (List AV)} {nx nx' : Nat} {w : World} (h : HeapOk E H' nx' w) (hs : ∀ b cs, H b = some cs → H' b = some cs) (hd : Dom H nx) : HeapOk E H nx w :=
  ⟨fun b cs hb => h.box b cs (hs b cs hb), hd, fun b b' cs cs' blk sz blk' sz' hb hb' => h.apart b b' cs cs' blk sz blk' sz' (hs _ _ hb) (hs _ _ hb'), h.size, fun b cs m x hb => h.top b cs m x (hs _ _ hb), fun b x hb hx => h.spec b x (hs _ _ hb) hx, fun b hb => h.nsp b (hs _ _ hb)⟩

/-- boxes that have no block yet -/
theorem HeapOk.more {E : Env} {H H' : Nat → Option (List AV)} {nx nx' : Nat} {w : World} (h : HeapOk E H nx w) (hs : ∀ b cs, H' b = some cs → H b = some cs ∨ FreeAt E b ∧ ∀ x ∈ cs, x.one = true) (hd : Dom H' nx') : HeapOk E H' nx' w := by
  have key : ∀ b cs m x, H' b = some cs → E.mu b m = some x → H b = some cs := fun b cs m x hb hm => (hs b cs hb).resolve_right (fun hn => by rw [hn.1.1] at hm; cases hm)
  refine ⟨fun b cs hb => ?_, hd, ?_, h.size, fun b cs m x hb hm => h.top b cs m x (key b cs m x hb hm) hm, fun b x hb hx => ?_, fun b hb => (hs b [] hb).elim (h.nsp b) (fun h => h.1.2.1)⟩
  · rcases hs b cs hb with h1 | h1
    · exact h.box b cs h1
    · exact .inl (h1.1.1 _)
  rotate_left
  · rcases hs b [x] hb with h1 | h1
    · exact h.spec b x h1 hx
    · rw [AV.one_special (h1.2 x (by simp))] at hx; cases hx
  · intro b b' cs cs' blk sz blk' sz' hb hb' hne h1 h2
    exact h.apart b b' cs cs' blk sz blk' sz' (key _ _ _ _ hb h1) (key _ _ _ _ hb' h2) hne h1 h2

end Go.Abs
