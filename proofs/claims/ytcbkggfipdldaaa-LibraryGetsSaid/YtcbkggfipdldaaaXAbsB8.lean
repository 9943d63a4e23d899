/- Special operations: maps, copy, clear. -/
import Derived.Test.YtcbkggfipdldaaaXAbsB7
set_option linter.unusedVariables false
set_option linter.unusedSimpArgs false
namespace Go.Abs
open Go.RowKit

/-- what an operation does, from its run -/
theorem aspec_of_run {P : Program} {op : Op} {T : Tm} {H : Hp} {nx : Nat} {K : AV → Hp → Nat → Prop} (hnd : ∀ c, op ≠ .defer c)
    (h : ∀ (E : Env) (w : World) (a : Act) (o : Oper), o.op = op → EnvOk E w → HeapOk E H nx w → Fresh E nx → (∀ t, Rel E w (T t) (a.tmps.getD t Go.undef)) →
      ∃ n v w' E' r H' nx', (execOp a.eval o).run P w = .ok n w' ∧ (n = .value v ∨ n = .skip ∧ v = Go.undef) ∧ Ext E w E' w' ∧ EnvOk E' w' ∧ HeapOk E' H' nx' w' ∧ Fresh E' nx' ∧ Rel E' w' r v ∧ K r H' nx') : aspec P op T H nx K := by
  refine ⟨hnd, ?_⟩
  rintro rr E w a o next Q ho hE hh hf ht hn
  obtain ⟨n, v, w', E', r, H', nx', h1, h2, h3, h4, h5, h6, h7, h8⟩ := h E w a o ho hE hh hf ht
  rw [h1]
  have := hn E' H' nx' r v w' h3 h4 h5 h6 h7 h8
  rcases h2 with rfl | ⟨rfl, rfl⟩
  · rw [Oper.uponIn_value]; exact this
  · rw [Oper.uponIn_skip]; exact this

/-! ### keys -/
inductive MK where
  | one (k : TK)
  | st (ks : List TK)

def mkk (P : Program) (t : TypeId) : Option MK := match tk1 P t with
  | some k => some (.one k)
  | none => (tkS P t).map .st

def ksame (k : MK) (x y : AV) : Option Bool := match k, x, y with
  | .one k, x, y => same1 k x y
  | .st ks, .agg xs, .agg ys => sameL ks xs ys
  | _, _, _ => none

/-- the place of a key -/
def mfind (k : MK) (key : AV) : List AV → Option (Option Nat)
  | [] => some none
  | x :: l => match ksame k key x with
    | some true => some (some 0)
    | some false => (mfind k key l).map (·.map (· + 1))
    | none => none

theorem mkk_cases {P : Program} {t : TypeId} {k : MK} (h : mkk P t = some k) : (∃ k', k = .one k' ∧ tk1 P t = some k') ∨ (∃ ks, k = .st ks ∧ tkS P t = some ks) := by
  unfold mkk at h
  split at h
  · cases h; exact .inl ⟨_, rfl, by assumption⟩
  · cases hk : tkS P t with
    | none => rw [hk] at h; cases h
    | some ks => rw [hk] at h; cases h; exact .inr ⟨ks, rfl, rfl⟩

theorem ksame_sound {P : Program} {E : Env} {w : World} {t : TypeId} {k : MK} {x y : AV} {vx vy : Value} {r : Bool} (hk : mkk P t = some k) (hx : Rel E w x vx) (hy : Rel E w y vy) (h : ksame k x y = some r) :
    (Op.equal t vx vy).run P w = .ok r w := by
  unfold Op.equal Op.maxDepth
  rcases mkk_cases hk with ⟨k', rfl, hk'⟩ | ⟨ks, rfl, hk'⟩
  · exact same1_sound hk' hx hy h 9999
  · cases x <;> first | (cases h; done) | skip
    cases y <;> first | (cases h; done) | skip
    exact sameS_sound hk' hx hy h 9998

def mres (l : List MapEntry) (i : Nat) (r : Option Nat) : Option (Nat × Value) := r.map fun j => (i + j, (l.getD j default).val)

theorem mres_succ {e : MapEntry} {l : List MapEntry} {i : Nat} {r : Option Nat} : mres (e :: l) i (r.map (· + 1)) = mres l (i + 1) r := by
  cases r with
  | none => rfl
  | some j => simp [mres]; omega

theorem findAsking_sound {P : Program} {E : Env} {w : World} {t : TypeId} {k : MK} {key : AV} {vk : Value} (hk : mkk P t = some k) (hx : Rel E w key vk) : ∀ (es : List MapEntry) (ks : List AV) (i : Nat) (r : Option Nat),
    es.length = ks.length → (∀ (j : Nat) (x : AV) (e : MapEntry), ks[j]? = some x → es[j]? = some e → Rel E w x e.key) → mfind k key ks = some r → (Instr.findAsking t vk es i).run P w = .ok (mres es i r) w
  | [], ks, i, r, hl, hr, h => by
    have : ks = [] := List.length_eq_zero_iff.1 hl.symm
    subst this; cases h; rfl
  | e :: es, ks, i, r, hl, hr, h => by
    cases ks with
    | nil => cases hl
    | cons x ks =>
      simp only [mfind] at h
      have he := hr 0 x e rfl rfl
      simp only [Instr.findAsking, Sem.run_bind]
      split at h
      · rename_i hs
        cases h
        rw [ksame_sound hk hx he hs]
        simp [Result.andThen, mres]
      · rename_i hs
        cases hm : mfind k key ks with
        | none => rw [hm] at h; cases h
        | some r' =>
          rw [hm] at h; cases h
          rw [ksame_sound hk hx he hs]
          simp only [Result.andThen_ok, Bool.false_eq_true, if_false]
          rw [findAsking_sound hk hx es ks (i + 1) r' (by simpa using hl) (fun j x e h1 h2 => hr (j + 1) x e (by simpa using h1) (by simpa using h2)) hm, mres_succ]
      · cases h

theorem findNow_sound {P : Program} {E : Env} {w : World} {t : TypeId} {d : TypeDesc} {k : TK} {key : AV} {vk : Value} (hd : P.underlying t = some d) (hk : tk1 P t = some k) (hx : Rel E w key vk) : ∀ (es : List MapEntry) (ks : List AV) (i : Nat) (r : Option Nat),
    es.length = ks.length → (∀ (j : Nat) (x : AV) (e : MapEntry), ks[j]? = some x → es[j]? = some e → Rel E w x e.key) → mfind (.one k) key ks = some r → Instr.findNow d vk es i = some (mres es i r)
  | [], ks, i, r, hl, hr, h => by
    have : ks = [] := List.length_eq_zero_iff.1 hl.symm
    subst this; cases h; rfl
  | e :: es, ks, i, r, hl, hr, h => by
    cases ks with
    | nil => cases hl
    | cons x ks =>
      simp only [mfind] at h
      have he := hr 0 x e rfl rfl
      have hs : ∀ b, ksame (.one k) key x = some b → Instr.sameNow d vk e.key = some b := by
        intro b hb
        generalize e.key = vke at he
        replace hb : same1 k key x = some b := hb
        unfold same1 at hb
        unfold tk1 at hk
        rw [hd] at hk
        split at hb
        · cases hx; cases he
          split at hb
          · rename_i e2; subst e2
            cases d <;> first | (cases hk; done) | skip
            simp only [Instr.sameNow, if_true]; exact hb
          · cases hb
        · cases hx; cases he
          cases d <;> first | (cases hk; done) | skip
          simp only [Instr.sameNow, beq_toListBytes]; exact hb
        · cases hx; cases he
          cases d <;> first | (cases hk; done) | skip
          simp only [Instr.sameNow]; exact hb
        · cases hb
      simp only [Instr.findNow]
      split at h
      · rename_i hb
        cases h
        rw [hs _ hb]
        simp [mres]
      · rename_i hb
        cases hm : mfind (.one k) key ks with
        | none => rw [hm] at h; cases h
        | some r' =>
          rw [hm] at h; cases h
          rw [hs _ hb]
          simp only
          rw [findNow_sound hd hk hx es ks (i + 1) r' (by simpa using hl) (fun j x e h1 h2 => hr (j + 1) x e (by simpa using h1) (by simpa using h2)) hm, mres_succ]
      · cases h

theorem findKey_sound {P : Program} {E : Env} {w : World} {t : TypeId} {k : MK} {key : AV} {vk : Value} (hk : mkk P t = some k) (hx : Rel E w key vk) {es : List MapEntry} {ks : List AV} {r : Option Nat}
    (hl : es.length = ks.length) (hr : ∀ (j : Nat) (x : AV) (e : MapEntry), ks[j]? = some x → es[j]? = some e → Rel E w x e.key) (h : mfind k key ks = some r) : (Instr.findKey t vk es).run P w = .ok (mres es 0 r) w := by
  rcases mkk_cases hk with ⟨k', rfl, hk'⟩ | ⟨fks, rfl, hk'⟩
  · obtain ⟨d, hd⟩ : ∃ d, P.underlying t = some d := by
      unfold tk1 at hk'
      cases hu : P.underlying t with
      | none => rw [hu] at hk'; cases hk'
      | some d => exact ⟨d, rfl⟩
    unfold Instr.findKey
    simp only [Sem.run_bind, run_underlying hd, Result.andThen_ok, findNow_sound hd hk' hx es ks 0 r hl hr h]
    rfl
  · have hu := (tkS_eq hk').1
    unfold Instr.findKey
    simp only [Sem.run_bind, run_underlying hu, Result.andThen_ok]
    cases es with
    | nil =>
      have : ks = [] := List.length_eq_zero_iff.1 hl.symm
      subst this; cases h; rfl
    | cons e es =>
      have : Instr.findNow (.struct (P.fieldsOf t)) vk (e :: es) 0 = none := rfl
      rw [this]
      exact findAsking_sound hk hx _ ks 0 r hl hr h

/-- a key of a plain type -/
def kfit (k : MK) (x : AV) : Bool := match k, x with
  | .one .int, .int _ _ => true
  | .one .str, .str _ => true
  | .one .bool, .bool _ => true
  | .st ks, .agg xs => ks.length == xs.length
  | _, _ => false

theorem run_checkKey1 {P : Program} {w : World} {t : TypeId} {k : TK} (hk : tk1 P t = some k) (em : Bool) (n : Nat) (v : Value) : (Instr.checkKey em (n + 1) t v).run P w = .ok () w := by
  unfold tk1 at hk
  cases hu : P.underlying t with
  | none => rw [hu] at hk; cases hk
  | some d =>
    rw [hu] at hk
    cases d <;> first | (cases hk; done) | skip
    all_goals
      simp only [Instr.checkKey, Sem.run_bind, run_underlying hu, Result.andThen_ok]
      cases v <;> rfl

theorem tkF_mem {P : Program} : ∀ (fs : List Field) (i : Nat) (ks : List TK), tkF P i fs = some ks → ks.length = fs.length ∧ ∀ (j : Nat) (f : Field), fs[j]? = some f → f.offset = i + j ∧ ∃ k, tk1 P f.type = some k
  | [], i, ks, h => by cases h; exact ⟨rfl, by simp⟩
  | f :: fs, i, ks, h => by
    simp only [tkF] at h
    split at h
    case isFalse => cases h
    case isTrue hc =>
    split at h
    case h_2 => cases h
    rename_i k ks' h1 h2
    cases h
    obtain ⟨e1, e2⟩ := tkF_mem fs (i + 1) ks' h2
    refine ⟨by simp [e1], fun j g hg => ?_⟩
    cases j with
    | zero => simp at hg; subst hg; exact ⟨hc.2, k, h1⟩
    | succ j => obtain ⟨q1, q2⟩ := e2 j g (by simpa using hg); exact ⟨by omega, q2⟩

theorem forIn_ok {α : Type} {P : Program} {w : World} : ∀ (l : List α) (f : α → PUnit → Sem (ForInStep PUnit)), (∀ x ∈ l, (f x PUnit.unit).run P w = .ok (.yield PUnit.unit) w) → (forIn l PUnit.unit f).run P w = .ok PUnit.unit w
  | [], f, h => by simp
  | x :: l, f, h => by
    rw [List.forIn_cons]
    simp only [Sem.run_bind, h x (by simp), Result.andThen_ok]
    exact forIn_ok l f (fun y hy => h y (by simp [hy]))

theorem run_checkKeyS {P : Program} {w : World} {t : TypeId} {ks : List TK} (hk : tkS P t = some ks) {vs : List Value} (hl : vs.length = ks.length) (em : Bool) (n : Nat) (hk1 : ∀ t v k, tk1 P t = some k → (Instr.checkKey em n t v).run P w = .ok () w) : (Instr.checkKey em (n + 1) t (.agg vs.toArray)).run P w = .ok () w := by
  obtain ⟨h1, _, _, h4⟩ := tkS_eq hk
  obtain ⟨q1, q2⟩ := tkF_mem _ 0 ks h4
  simp only [Instr.checkKey, Sem.run_bind, run_underlying h1, Result.andThen_ok]
  rw [← Array.forIn_toList]
  rw [forIn_ok]
  · rfl
  · intro f hf
    obtain ⟨j, hj⟩ := List.getElem?_of_mem hf
    obtain ⟨e1, k, e2⟩ := q2 j f hj
    have hlt : f.offset < vs.toArray.size := by have := (List.getElem?_eq_some_iff.1 hj).1; simp; omega
    have hp := part_plain (P := P) (w := w) e2 (cs := vs.toArray) (i := f.offset) (v := vs.toArray[f.offset]) (by simp [hlt])
    by_cases hn : f.name = "_"
    · simp only [hn, ne_eq, not_true_eq_false, if_false, Sem.run_pure]
    · simp only [hn, ne_eq, not_false_eq_true, if_true, Sem.run_bind, hp, Result.andThen_ok, hk1 _ _ _ e2, Sem.run_pure]

theorem run_checkKey {P : Program} {E : Env} {w : World} {t : TypeId} {k : MK} (hk : mkk P t = some k) {key : AV} {v : Value} (hx : Rel E w key v) (hfit : kfit k key = true) (em : Bool) : (Instr.checkKey em 10000 t v).run P w = .ok () w := by
  rcases mkk_cases hk with ⟨k', rfl, hk'⟩ | ⟨ks, rfl, hk'⟩
  · exact run_checkKey1 hk' em 9999 v
  · cases key <;> first | (cases hfit; done) | skip
    have hfit : ks.length == _ := hfit
    cases hx with
    | agg cs vs hl _ => exact run_checkKeyS hk' (by have := hfit; simp at this; omega) em 9999 (fun t v k h => run_checkKey1 h em 9998 v)

end Go.Abs
