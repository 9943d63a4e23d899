/- Regions that draw their order: one operation more. -/
import Derived.Test.YtcbkggfipdldaaaXAbsB3
set_option linter.unusedVariables false
namespace Go.Abs
open Go.RowKit

variable {P : Program} {N : Cfg} {fr : Option Nat} {ops : List Oper} {s : Nat → St} {r : Nat → AV}

theorem run_callValue {o : Oper} {f : Operand} {args : Array Operand} {argTypes : Array TypeId} {a : Act} {w : World} {g : FuncId} {cv : Array Value} (ho : o.op = .call { callee := .value f, args := args, argTypes := argTypes })
    (hf : a.eval f = .func (.func g) #[] cv) (hc : cok P g = true) : (execOp a.eval o).run P w = .ok (.enter g (args.map a.eval ++ cv)) w := by
  unfold execOp
  rw [ho]
  simp only [resolve, hf, Deferred.ofValue, invoke, Sem.run_bind, Sem.run_pure, Result.andThen_ok, Array.empty_append]
  exact run_callFunc hc _ w

theorem aval_nodefer {T : Nat → AV} {H : Nat → Option (List AV)} {op : Op} {q : AV} (h : aval P T H op = some q) : ∀ c, op ≠ .defer c := by
  intro c e; subst e; cases h
theorem aeff_nodefer {T : Nat → AV} {H : Nat → Option (List AV)} {nx : Nat} {op : Op} {q : AV × (Nat → Option (List AV)) × Nat} (h : aeff P T H nx op = some q) : ∀ c, op ≠ .defer c := by
  intro c e; subst e; cases h

section
variable {E₀ : Env} {w₀ : World} {df : List Deferred} {L : Array Bool} {a : Act} {w : World} {E : Env}

/-- the write that comes next -/
theorem DInv.move (hI : DInv P N ops s r E₀ w₀ df L a w E) (ht : Txt P N fr ops s r) (h0 : Dom (s 0).H (s 0).nx) {i : Nat} {o : Oper} (hr : Ready ops L i o) (hk : opk o.op = .write) :
    HeapOk E (s i).H (s i).nx w ∧ Fresh E (s i).nx ∧
    ∀ (v : Value) (w' : World) (E' : Env), Ext E w E' w' → EnvOk E' w' → Rel E' w' (r i) v → dok N.n o.dst = true → HeapOk E' (s (i + 1)).H (s (i + 1)).nx w' → Fresh E' (s (i + 1)).nx →
      DInv P N ops s r E₀ w₀ df (L.setIfInBounds i true) (a.put o.dst v) w' E' := by
  have hi : i < ops.length := (List.getElem?_eq_some_iff.1 hr.get).1
  have hset := fun k => getD_set L i k (by rw [hI.lsz]; exact hi)
  obtain ⟨c, hc, c1, c2, c3, c4, c5⟩ := hI.cur
  have hkp : quiet fr.isSome o.op = false := quiet_write hk
  have hci : c = i := by
    rcases Nat.lt_trichotomy i c with h | h | h
    · have := c1 i o h hr.get hk; rw [hr.not] at this; cases this
    · exact h.symm
    · obtain ⟨⟨oc, hoc, hw⟩, hn⟩ := c2 (by omega)
      have := hI.earlier ht.ok hr hoc h (conflict_wl hw hkp)
      rw [hn] at this; cases this
  subst hci
  refine ⟨c3, c4, fun v w' E' he hE' hv hd hH hfr => hI.next ht hr he hE' hv hd ?_⟩
  have hex : ∃ c', c < c' ∧ c' ≤ ops.length ∧ (∀ k o, c < k → k < c' → ops[k]? = some o → opk o.op ≠ .write) ∧ (c' < ops.length → ∃ o, ops[c']? = some o ∧ opk o.op = .write) := by
    have : ∀ m, c < m → m ≤ ops.length → (∃ c', c < c' ∧ c' ≤ ops.length ∧ (∀ k o, c < k → k < c' → ops[k]? = some o → opk o.op ≠ .write) ∧ (c' < ops.length → ∃ o, ops[c']? = some o ∧ opk o.op = .write)) ∨ (∀ k o, c < k → k < m → ops[k]? = some o → opk o.op ≠ .write) := by
      intro m
      induction m with
      | zero => intro h; omega
      | succ m ih =>
        intro h1 h2
        by_cases hcm : c = m
        · subst hcm; exact .inr (fun k o h1 h2 => by omega)
        · rcases ih (by omega) (by omega) with h | h
          · exact .inl h
          · obtain ⟨om, hom⟩ := exists_get (ops := ops) (i := m) (by omega)
            by_cases hw : opk om.op = .write
            · exact .inl ⟨m, by omega, by omega, h, fun _ => ⟨om, hom, hw⟩⟩
            · refine .inr (fun k o h3 h4 h5 => ?_)
              by_cases hkm : k = m
              · subst hkm; rw [hom] at h5; cases h5; exact hw
              · exact h k o h3 (by omega) h5
    rcases this ops.length hi (Nat.le_refl _) with h | h
    · exact h
    · exact ⟨ops.length, hi, Nat.le_refl _, h, fun h => by omega⟩
  obtain ⟨c', hcc, hcl, hno, hyes⟩ := hex
  have hno' : ∀ k o, c + 1 ≤ k → k < c' → ops[k]? = some o → opk o.op ≠ .write := fun k o h1 h2 h3 => hno k o (by omega) h2 h3
  have hmono := ht.nx_mono h0 c' (show c + 1 ≤ c' by omega) hcl
  refine ⟨c', hcl, ?_, ?_, ?_, ?_, ?_⟩
  · intro k o' h1 h2 h3
    rw [hset]; split
    · rfl
    · rename_i hne
      rcases Nat.lt_or_ge k c with h | h
      · exact c1 k o' h h2 h3
      · exact absurd h3 (hno k o' (by omega) h1 h2)
  · intro h
    obtain ⟨o', ho', hw'⟩ := hyes h
    refine ⟨⟨o', ho', hw'⟩, ?_⟩
    rw [hset, if_neg (by omega)]
    exact hI.later ht.ok hr ho' hcc (conflict_wl hk (quiet_write hw'))
  · exact hH.more (fun b cs hb => (ht.new h0 c' (show c + 1 ≤ c' by omega) hcl hno' b cs hb).imp id (fun h => ⟨hfr b h.1, h.2⟩)) (ht.dom h0 c' hcl)
  · exact hfr.le (by omega)
  · intro k o' h1 h2 h3 h4 h5
    rw [hset] at h3
    split at h3
    · cases h3
    · rename_i hne
      rcases Nat.lt_or_ge k c with h | h
      · have := hI.earlier ht.ok hr h2 h (conflict_wr hk (quiet_alloc h4))
        rw [h3] at this; cases this
      · exact hfr _ (ht.nx_mono h0 k (show c + 1 ≤ k by omega) (by have := (List.getElem?_eq_some_iff.1 h2).1; omega))

theorem DInv.step {rr : Option Nat} {Q : Exit → Act → World → Prop} {K : Act → World → Prop} (hI : DInv P N ops s r E₀ w₀ df L a w E) (ht : Txt P N fr ops s r) (h0 : Dom (s 0).H (s 0).nx) {i : Nat} {o : Oper} (hr : Ready ops L i o)
    (hK : ∀ a' w' E', DInv P N ops s r E₀ w₀ df (L.setIfInBounds i true) a' w' E' → K a' w') : wpOpIn (FW rr) 0 P ops.toArray Q i K a w := by
  have hi : i < ops.length := (List.getElem?_eq_some_iff.1 hr.get).1
  have hgeti : (ops.toArray)[i]? = some o := by simpa using hr.get
  unfold wpOpIn
  rw [hgeti]
  simp only
  obtain ⟨c, hc, c1, c2, c3, c4, c5⟩ := hI.cur
  have touch : ∀ cc, cc ≤ ops.length → HeapOk E (s cc).H (s cc).nx w → (i < cc ∧ ∀ k ok, i ≤ k → k < cc → ops[k]? = some ok → opk ok.op ≠ .write) → HeapOk E (s i).H (s i).nx w := by
    intro cc hcc hh ⟨h1, h2⟩
    exact hh.fewer (ht.sub h0 cc (by omega) hcc h2).1 (ht.dom h0 i (by omega))
  -- where an operation that is not pure and does not write stands
  have pos : quiet fr.isSome o.op = false → opk o.op ≠ .write → i < c ∧ ∀ k ok, i ≤ k → k < c → ops[k]? = some ok → opk ok.op ≠ .write := by
    intro hp hk
    have hlt : i < c := by
      rcases Nat.lt_trichotomy i c with h | h | h
      · exact h
      · subst h
        obtain ⟨⟨oc, hoc, hw⟩, hn⟩ := c2 hi
        rw [hr.get] at hoc; cases hoc; exact absurd hw hk
      · obtain ⟨⟨oc, hoc, hw⟩, hn⟩ := c2 (by omega)
        have := hI.earlier ht.ok hr hoc h (conflict_wl hw hp)
        rw [hn] at this; cases this
    refine ⟨hlt, fun k ok hik hkc hok hw => ?_⟩
    by_cases he : k = i
    · subst he; rw [hr.get] at hok; cases hok; exact hk hw
    · have h1 := c1 k ok hkc hok hw
      have h2 := hI.later ht.ok hr hok (by omega) (conflict_wr hw hp)
      rw [h2] at h1; cases h1
  have htm := hI.tm
  have hops := hI.operands ht hr
  have hoprel : ∀ x ∈ o.op.operands, Rel E w (ev (s i).T x) (a.eval x) := fun x hx => by rw [← hops x hx]; exact ev_rel htm x
  have hst := ht.step i o hr.get
  generalize hsi : s (i + 1) = s' at hst
  generalize hri : r i = q at hst
  have same : ∀ (v : Value), Rel E w q v → dok N.n o.dst = true → (s'.H = (s i).H ∧ s'.nx = (s i).nx) → DInv P N ops s r E₀ w₀ df (L.setIfInBounds i true) (a.put o.dst v) w E := by
    intro v hv hd ⟨hsH, hsn⟩
    subst hri hsi
    by_cases hk : opk o.op = .write
    · obtain ⟨h1, h2, h3⟩ := hI.move ht h0 hr hk
      exact h3 v w E (Ext.refl _ _) hI.env hv hd (by rw [hsH, hsn]; exact h1) (by rw [hsn]; exact h2)
    · exact hI.stay ht hr hk (Ext.refl _ _) hI.env hv hd (fun _ _ => .inr rfl) rfl rfl h0 hc c1 c2 c4 c5 c3
  cases hst with
  | skip hg hd =>
    rw [hI.guard ht hr hg]
    simp only [Bool.false_eq_true, if_false]
    exact ⟨fun _ _ => trivial, hK _ _ _ (same Go.undef (undef_rel _ _) hd ⟨rfl, rfl⟩)⟩
  | val _ hff hg hd h =>
    rw [hI.guard ht hr hg]
    simp only [if_true]
    have hnd := aval_nodefer h
    have hcong := aval_congr (P := P) (T := TL ops (s 0).T r L) (T' := (s i).T) (H := (s i).H) hops
    obtain ⟨v, h1, h2⟩ : ∃ v, (execOp a.eval o).run P w = .ok (.value v) w ∧ Rel E w q v := by
      rcases aval_kind h with hk | hk
      · rw [← hcong, aval_pure (H' := (s c).H) hk] at h
        exact aval_sound c3 htm h
      · cases hq : quiet fr.isSome o.op with
        | false =>
          rw [← hcong] at h
          exact aval_sound (touch c hc c3 (pos hq (by rw [hk]; decide))) htm h
        | true =>
          have hl : isLoad o.op = true ∧ fr.isSome = true := by
            simp only [quiet, hk, Bool.or_eq_true, Bool.and_eq_true] at hq
            rcases hq with hq | hq
            · exact absurd hq (by decide)
            · exact hq.symm
          obtain ⟨m, hm⟩ := Option.isSome_iff_exists.1 hl.2
          have hfo := hff m hm
          have hH : aval P (s i).T (s i).H o.op = aval P (s i).T (s c).H o.op := by
            generalize o.op = op at hl hfo
            cases op <;> first | (simp [isLoad] at hl; done) | skip
            rename_i t p
            simp only [aval]
            refine aload_old (fun b n off hp => ?_)
            simp only [frOk, hp, decide_eq_true_eq] at hfo
            rw [ht.old h0 hm i (by omega) b hfo, ht.old h0 hm c hc b hfo]
          rw [hH, ← aval_congr (P := P) (T := TL ops (s 0).T r L) (T' := (s i).T) (H := (s c).H) hops] at h
          exact aval_sound c3 htm h
    refine ⟨fun _ _ => trivial, ?_⟩
    rw [semAt_FW hnd, h1, Oper.uponIn_value]
    exact hK _ _ _ (same v h2 hd ⟨rfl, rfl⟩)
  | call _ f args argTypes g caps hg hd ho hf hp =>
    rw [hI.guard ht hr hg]
    simp only [if_true]
    have hk : opk o.op = .touch := by rw [ho]; rfl
    have hkw : opk o.op ≠ .write := by rw [hk]; decide
    have hh := touch c hc c3 (pos (quiet_of (by rw [hk]; decide) (by rw [ho]; rfl)) hkw)
    have hfr := hoprel f (by rw [ho]; simp [Op.operands, Call.operands])
    rw [hf] at hfr
    generalize hev : a.eval f = vf at hfr
    cases hfr with
    | func _ _ cv hl hcr =>
    have hargs : RelL E w (args.toList.map (ev (s i).T) ++ caps) (args.toList.map a.eval ++ cv) := by
      refine ⟨by simp [hl], fun j x y hx hy => ?_⟩
      rw [List.getElem?_append] at hx hy
      simp only [List.length_map] at hx hy
      split at hx
      · rename_i hlt
        rw [if_pos hlt] at hy
        rw [List.getElem?_map] at hx hy
        cases hj : args.toList[j]? with
        | none => rw [hj] at hx; cases hx
        | some z =>
          rw [hj] at hx hy; cases hx; cases hy
          exact hoprel z (by rw [ho]; simp only [Op.operands, Call.operands]; exact Array.mem_append.2 (.inr (by simpa using List.mem_of_getElem? hj)))
      · rename_i hlt
        rw [if_neg hlt] at hy
        exact hcr _ _ _ hx hy
    have hcalls := hp.2 E _ w _ hI.env hh hargs
    refine ⟨fun _ _ => trivial, ?_⟩
    rw [semAt_FW (by rw [ho]; intro c; simp), run_callValue ho hev hp.1, Oper.uponIn_enter]
    refine ⟨(fun h => by cases h), ?_⟩
    have harr : args.map a.eval ++ cv.toArray = (args.toList.map a.eval ++ cv).toArray := by
      rw [arr_map]; simp
    rw [harr]
    refine (callsIn_FW hcalls).mono ?_
    rintro e w' ⟨v, E', rfl, hb, he, hE', hmu, himm, hsp, hlp, hrel⟩
    refine hK _ _ E' ?_
    subst hri
    exact hI.stay ht hr hkw he hE' hrel hd (fun b m => .inr (by rw [hmu])) hsp hlp h0 hc c1 c2 c4 c5 (c3.below he hb hmu himm hsp)
  | eff _ H' nx' hff hg hd h =>
    rw [hI.guard ht hr hg]
    simp only [if_true]
    have hnd := aeff_nodefer h
    have hcong := aeff_congr (P := P) (T := TL ops (s 0).T r L) (T' := (s i).T) (H := (s i).H) (nx := (s i).nx) hops
    rcases aeff_kind h with hk | hk
    · have hkw : opk o.op ≠ .write := by rw [hk]; decide
      have hkp : quiet fr.isSome o.op = false := quiet_alloc hk
      obtain ⟨sm, hsm, hrun⟩ := aeff_alloc (E := E) (w := w) hk hoprel h
      refine ⟨fun _ _ => trivial, ?_⟩
      rw [semAt_FW hnd, hsm]
      rcases hrun with ⟨rfl, rfl, v, ob, h1, h2⟩ | ⟨cells, vals, ty, v, rfl, rfl, h1, h2, h3, h4⟩
      · have e : (do pure (Next.value (← sm)) : Sem Next).run P w = .ok (.value v) (w.alloc ob) := by
          simp only [Sem.run_bind, h1, Result.andThen_ok]; rfl
        rw [e, Oper.uponIn_value]
        refine hK _ _ E ?_
        subst hri
        exact hI.stay ht hr hkw (Ext.alloc E w ob hI.env) (hI.env.alloc c3.size ob) (h2 _ _) hd (fun b m => .inr rfl) rfl rfl h0 hc c1 c2 c4 c5 (c3.alloc hI.env ob)
      · have e : (do pure (Next.value (← sm)) : Sem Next).run P w = .ok (.value v) (w.alloc (.cells vals ty)) := by
          simp only [Sem.run_bind, h1, Result.andThen_ok]; rfl
        rw [e, Oper.uponIn_value]
        have hposc := pos hkp hkw
        have hlt : (s i).nx < (s (i + 1)).nx := by rw [hsi]; exact Nat.lt_succ_self _
        have hfresh := c5 i o hposc.1 hr.get hr.not hk hlt
        have hnew : ∀ cc, i < cc → cc ≤ ops.length → (∀ k ok, i ≤ k → k < cc → ops[k]? = some ok → opk ok.op ≠ .write) → (s cc).H (s i).nx = some cells ∧ (s i).nx < (s cc).nx := by
          intro cc h1 h2 h3
          obtain ⟨k1, k2⟩ := ht.sub h0 cc (show i + 1 ≤ cc by omega) h2 (fun k ok hk1 hk2 => h3 k ok (by omega) hk2)
          refine ⟨k1 _ _ ?_, by omega⟩
          rw [hsi]; simp [hupd, St.put]
        obtain ⟨hnc, hnc2⟩ := hnew c hposc.1 hc hposc.2
        obtain ⟨E', he, hE', hH, hmu, _, hmo, hms, hml⟩ := c3.place hI.env hnc2 (Nat.le_refl _) (cs' := cells) (fun m x hm => by rw [hfresh.1] at hm; cases hm) hfresh.2.1 vals ty h2 h3
        refine hK _ _ E' ?_
        subst hri
        refine hI.stay ht hr hkw he hE' (h4 E' _ hmu) hd (fun b m => ?_) hms hml h0 hc c1 c2 c4 c5 (by rw [hupd_self hnc] at hH; exact hH)
        by_cases hb : b = (s i).nx
        · exact .inl ⟨hb, hk, hlt⟩
        · exact .inr (hmo b m hb)
    · obtain ⟨hh, hfr, hmv⟩ := hI.move ht h0 hr hk
      rw [← hcong] at h
      obtain ⟨n, v, w', E', h1, h2, h3, h4, h5, h6, h7⟩ := aeff_sound hI.env hh hfr htm h
      refine ⟨fun _ _ => trivial, ?_⟩
      rw [semAt_FW hnd, h1]
      have hfin : K (a.put o.dst v) w' := by
        refine hK _ _ E' ?_
        subst hri
        exact hmv v w' E' h3 h4 h6 hd (by rw [hsi]; exact h5) (by rw [hsi]; exact h7)
      rcases h2 with rfl | ⟨rfl, rfl⟩
      · rw [Oper.uponIn_value]; exact hfin
      · rw [Oper.uponIn_skip]; exact hfin


/-- how many are left -/
def left (n : Nat) (L : Array Bool) : Nat := (List.range n).countP (fun k => L.getD k false == false)

theorem left_set (L : Array Bool) (i n : Nat) (hi : i < n) (hs : L.size = n) (hn : L.getD i false = false) : left n (L.setIfInBounds i true) < left n L := by
  have key : ∀ (l : List Nat), i ∈ l → l.countP (fun k => (L.setIfInBounds i true).getD k false == false) < l.countP (fun k => L.getD k false == false) ∧ True := by
    have le : ∀ (l : List Nat), l.countP (fun k => (L.setIfInBounds i true).getD k false == false) ≤ l.countP (fun k => L.getD k false == false) := by
      intro l
      refine List.countP_mono_left (fun k _ h => ?_)
      rw [getD_set L i k (by omega)] at h
      split at h
      · cases h
      · exact h
    intro l
    induction l with
    | nil => intro h; cases h
    | cons x l ih =>
      intro h
      refine ⟨?_, trivial⟩
      rw [List.countP_cons, List.countP_cons, getD_set L i x (by omega)]
      by_cases hx : x = i
      · subst hx
        have := le l
        rw [if_pos rfl, hn, if_neg (by decide), if_pos (by decide)]; omega
      · rw [if_neg hx]
        rcases List.mem_cons.1 h with rfl | h
        · exact absurd rfl hx
        · have := (ih h).1
          omega
  exact (key _ (List.mem_range.2 hi)).1

theorem least (L : Array Bool) : ∀ n, (∀ k, k < n → L.getD k false = true) ∨ ∃ k, k < n ∧ L.getD k false = false ∧ ∀ j, j < k → L.getD j false = true
  | 0 => .inl (fun k h => by omega)
  | n + 1 => by
    rcases least L n with h | ⟨k, h1, h2⟩
    · cases hn : L.getD n false with
      | true => exact .inl (fun k hk => by
          by_cases e : k = n
          · subst e; exact hn
          · exact h k (by omega))
      | false => exact .inr ⟨n, by omega, hn, h⟩
    · exact .inr ⟨k, by omega, h2⟩

theorem DInv.some_ready (hI : DInv P N ops s r E₀ w₀ df L a w E) (ht : Txt P N fr ops s r) (h : Region.ready .any ops.toArray L = []) : ∀ k, k < ops.length → L.getD k false = true := by
  rcases least L ops.length with h1 | ⟨k, hk, hn, hall⟩
  · exact h1
  · exfalso
    obtain ⟨o, ho⟩ := exists_get hk
    have : k ∈ Region.ready .any ops.toArray L := by
      refine mem_ready.2 ⟨?_, o, by simpa using ho, fun e he hb => hall _ ?_⟩
      · have : k < L.size := by rw [hI.lsz]; exact hk
        simp [this] at hn ⊢; exact hn
      · refine (drawOk_parts ht.ok).1 k o ho e.on ?_
        simp only [direct, List.mem_map, List.mem_filter]
        exact ⟨e, ⟨by simpa using he, hb⟩, rfl⟩
    rw [h] at this; cases this

theorem DInv.final (hI : DInv P N ops s r E₀ w₀ df L a w E) (ht : Txt P N fr ops s r) (hall : ∀ k, k < ops.length → L.getD k false = true) (hdf : Marks E₀ N w₀ df) : Sim E N (s ops.length) a w := by
  obtain ⟨c, hc, c1, c2, c3, c4, c5⟩ := hI.cur
  have hcl : c = ops.length := by
    rcases Nat.lt_or_ge c ops.length with h | h
    · have := (c2 h).2
      rw [hall c h] at this; cases this
    · omega
  subst hcl
  refine ⟨hI.env, c3, c4, fun l hl => let ⟨b, x, h1, h2⟩ := hI.rnd l hl; ⟨b, x, hI.ext.lp _ _ h1, hI.ext.sp _ _ h2⟩, Nat.le_trans hI.flr hI.ext.size, hI.asz, fun t => ?_, by rw [hI.defs]; exact hdf.ext hI.ext⟩
  · have := hI.tm t
    rw [ht.temps t _ (Nat.le_refl _)]
    unfold TL at this
    cases hw : wtr ops t with
    | none => rw [hw] at this; exact this
    | some j =>
      rw [hw] at this
      obtain ⟨oj, hj, _⟩ := wtr_some hw
      have hlt := (List.getElem?_eq_some_iff.1 hj).1
      simp only [hall j hlt, if_true] at this
      simp only [if_pos hlt]; exact this

theorem any_order {rr : Option Nat} {Q : Exit → Act → World → Prop} (ht : Txt P N fr ops s r) (h0 : Dom (s 0).H (s 0).nx) (hdf : Marks E₀ N w₀ df)
    (hQ : ∀ E' a' w', Ext E₀ w₀ E' w' → Sim E' N (s ops.length) a' w' → Q .normal a' w') :
    ∀ (fuel : Nat) (L : Array Bool) (a : Act) (w : World) (E : Env), DInv P N ops s r E₀ w₀ df L a w E → left ops.length L ≤ fuel → wpAnyIn (FW rr) 0 P .any ops.toArray Q fuel L a w
  | 0, L, a, w, E, hI, hl => by
    have hall : ∀ k, k < ops.length → L.getD k false = true := by
      rcases least L ops.length with h1 | ⟨k, hk, hn, hall⟩
      · exact h1
      · exfalso
        have : left ops.length (L.setIfInBounds k true) < left ops.length L := left_set L k _ hk hI.lsz hn
        omega
    have hr : Region.ready .any ops.toArray L = [] := by
      refine List.eq_nil_iff_forall_not_mem.2 (fun i hi => ?_)
      obtain ⟨o, ho⟩ := ready_of hI.lsz hi
      have := hall i (List.getElem?_eq_some_iff.1 ho.get).1
      rw [ho.not] at this; cases this
    exact ⟨hr, hQ E a w hI.ext (hI.final ht hall hdf)⟩
  | fuel + 1, L, a, w, E, hI, hl => by
    refine ⟨fun hr => hQ E a w hI.ext (hI.final ht (hI.some_ready ht hr) hdf), fun i hi => ?_⟩
    obtain ⟨o, ho⟩ := ready_of hI.lsz hi
    refine hI.step ht h0 ho (fun a' w' E' hI' => any_order ht h0 hdf hQ fuel _ a' w' E' hI' ?_)
    have := left_set L i ops.length (List.getElem?_eq_some_iff.1 ho.get).1 hI.lsz ho.not
    omega

/-- a region that draws its order -/
theorem wp_draw {rr : Option Nat} {Q : Exit → Act → World → Prop} {rid : Nat} (hm : P.follows .mixedOrders = true) (ht : Txt P N fr ops s r) (hS : Sim E₀ N (s 0) a w₀)
    (hQ : ∀ E' a' w', Ext E₀ w₀ E' w' → Sim E' N (s ops.length) a' w' → Q .normal a' w') : (Code.region rid ops.toArray true).wpIn (FW rr) 0 P Q a w₀ := by
  refine wpIn_region_any hm ?_
  have hdr : ({ w₀ with drawn := w₀.drawn + 1 } : World).heap = w₀.heap := rfl
  have hext : Ext E₀ w₀ E₀ { w₀ with drawn := w₀.drawn + 1 } := Ext.same hdr
  have h0 : Dom (s 0).H (s 0).nx := hS.heap.dom
  refine any_order (E₀ := E₀) (w₀ := w₀) (df := a.defers) ht h0 hS.defers hQ _ _ _ _ E₀ ?_ (by rw [List.size_toArray]; unfold left; exact Nat.le_trans List.countP_le_length (by simp))
  have hfalse : ∀ k, (Array.replicate ops.toArray.size false).getD k false = false := by
    intro k
    simp only [Array.getD_eq_getD_getElem?, Array.getElem?_replicate]
    split <;> rfl
  have hex : ∃ c, c ≤ ops.length ∧ (∀ k o, k < c → ops[k]? = some o → opk o.op ≠ .write) ∧ (c < ops.length → ∃ o, ops[c]? = some o ∧ opk o.op = .write) := by
    have : ∀ m, m ≤ ops.length → (∃ c, c ≤ ops.length ∧ (∀ k o, k < c → ops[k]? = some o → opk o.op ≠ .write) ∧ (c < ops.length → ∃ o, ops[c]? = some o ∧ opk o.op = .write)) ∨ (∀ k o, k < m → ops[k]? = some o → opk o.op ≠ .write) := by
      intro m
      induction m with
      | zero => intro _; exact .inr (fun k o h => by omega)
      | succ m ih =>
        intro h2
        rcases ih (by omega) with h | h
        · exact .inl h
        · obtain ⟨om, hom⟩ := exists_get (ops := ops) (i := m) (by omega)
          by_cases hw : opk om.op = .write
          · exact .inl ⟨m, by omega, h, fun _ => ⟨om, hom, hw⟩⟩
          · refine .inr (fun k o h4 h5 => ?_)
            by_cases hkm : k = m
            · subst hkm; rw [hom] at h5; cases h5; exact hw
            · exact h k o (by omega) h5
    rcases this ops.length (Nat.le_refl _) with h | h
    · exact h
    · exact ⟨ops.length, Nat.le_refl _, h, fun h => by omega⟩
  obtain ⟨c, hc, c1, c2⟩ := hex
  have hsub := ht.sub h0 c (Nat.zero_le _) hc (fun k o _ h2 h3 => c1 k o h2 h3)
  refine ⟨by simp, ?_, hS.env.drew, hext, hS.size, fun t => ?_, rfl, hS.round, hS.floor, c, hc, fun k o h1 h2 h3 => absurd h3 (c1 k o h1 h2), fun h => ⟨c2 h, hfalse _⟩, ?_, hS.fresh.le hsub.2, ?_⟩
  · intro j i h1; rw [hfalse] at h1; cases h1
  · unfold TL
    have := (hS.tmps t).ext hext
    cases wtr ops t with
    | none => exact this
    | some j => simp only [hfalse]; exact this
  · refine (hS.heap.same hdr).more (fun b cs hb => ?_) (ht.dom h0 c hc)
    refine (ht.new h0 c (Nat.zero_le _) hc (fun k o _ h2 h3 => c1 k o h2 h3) b cs hb).imp id (fun h => ⟨hS.fresh b h.1, h.2⟩)
  · intro k o h1 h2 _ _ _
    exact hS.fresh _ (ht.nx_mono h0 k (Nat.zero_le _) (by omega))

end
end Go.Abs
