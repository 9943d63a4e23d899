/- Operations on maps; copy and clear of rows. -/
import Derived.Test.YtcbkggfipdldaaaXAbsB8
set_option linter.unusedVariables false
set_option linter.unusedSimpArgs false
namespace Go.Abs
open Go.RowKit

theorem run_lift {P : Program} {w w' : World} {s : Sem Value} {v : Value} (h : s.run P w = .ok v w') : (do pure (Next.value (← s)) : Sem Next).run P w = .ok (.value v) w' := by
  simp only [Sem.run_bind, h, Result.andThen_ok]; rfl
theorem run_liftU {P : Program} {w w' : World} {s : Sem Unit} (h : s.run P w = .ok () w') : (do s; pure Next.skip : Sem Next).run P w = .ok .skip w' := by
  simp only [Sem.run_bind, h, Result.andThen_ok]; rfl

def tmap (P : Program) (t : TypeId) : Option (TypeId × TypeId) := match P.underlying t with
  | some (.map k e) => some (k, e)
  | _ => none
theorem tmap_eq {P : Program} {t k e : TypeId} (h : tmap P t = some (k, e)) : P.underlying t = some (.map k e) := by
  unfold tmap at h; split at h
  · cases h; assumption
  · cases h

theorem run_getObj' {P : Program} {w : World} {k : Nat} {o : Obj} (h : w.heap[k]? = some o) (hc : isCells o = false) : (getObj k).run P w = .ok o w := by cases o <;> first | (cases hc; done) | simp [getObj, Sem.run, h]
theorem run_setObj' {P : Program} {w : World} {k : Nat} {o o' : Obj} (h : w.heap[k]? = some o) (hc : isCells o = false) : (setObj k o').run P w = .ok () (w.putObj k o') := by cases o <;> first | (cases hc; done) | simp [setObj, Sem.run, h, World.putObj]

theorem Fresh.sp {E E' : Env} {nx : Nat} (h : Fresh E nx) {k : Nat} (he : E' = { E with sp := fun b => if b = nx then some k else E.sp b }) : Fresh E' (nx + 1) := by
  intro b hb
  subst he
  obtain ⟨h1, h2, h3⟩ := h b (by omega)
  exact ⟨h1, by show (if b = nx then _ else _) = none; rw [if_neg (by omega)]; exact h2, h3⟩

theorem aspec_makeMap {P : Program} {t : TypeId} {r : Option Operand} {T : Tm} {H : Hp} {nx : Nat} {K : AV → Hp → Nat → Prop} (ht : r = none ∨ ∃ x n k p, r = some x ∧ ev T x = .int k n ∧ tmap P t = some p)
    (h : K (.mp nx) (hupd H nx [.omap [] []]) (nx + 1)) : aspec P (.makeMap t r) T H nx K := by
  refine aspec_of_run (by intro c; simp) ?_
  rintro E w a ⟨dst, op, type, pos, after, guard⟩ ho hE hh hf htm
  simp only at ho
  subst ho
  obtain ⟨E', hE', he, hEo, hh', hs, hnew⟩ := sp_new hE hh (hf nx (Nat.le_refl _)) (.map #[] 0) rfl (by intro ds; simp)
  have hspm := hEo.spm nx _ hs
  refine ⟨.value (.map (some w.heap.size)), .map (some w.heap.size), w.alloc (.map #[] 0), E', .mp nx, _, nx + 1, ?_, .inl rfl, he, hEo, hh'.addSp (x := .omap [] []) (Nat.lt_succ_self _) hspm hs ⟨#[], 0, hnew, ⟨rfl, rfl, by simp, by simp, by simp, rfl⟩⟩, hf.sp hE', .mp _ _ hs, h⟩
  refine run_lift ?_
  rcases ht with rfl | ⟨x, n, k, p, rfl, hx, hp⟩
  · simp only [Option.map_none, Instr.makeMap, Sem.run_bind, run_newObj_alloc, Result.andThen_ok]
    rfl
  · have hr := ev_rel (E := E) (w := w) (a := a) htm x
    rw [hx] at hr
    generalize hvx : a.eval x = vx at hr
    cases hr
    have hu := tmap_eq (P := P) (t := t) (k := p.1) (e := p.2) hp
    simp only [Option.map_some, hvx, Instr.makeMap, Sem.run_bind, run_underlying hu, asInt, Sem.run_pure, run_newObj_alloc, Result.andThen_ok]
    rfl

/-- where a map lies -/
theorem map_at {E : Env} {H : Hp} {nx : Nat} {w : World} (hh : HeapOk E H nx w) {b k : Nat} {ks vs : List AV} (hb : H b = some [.omap ks vs]) (hs : E.sp b = some k) : ∃ es clock, w.heap[k]? = some (.map es clock) ∧ MapOk E w ks vs es clock := by
  obtain ⟨k', h1, es, clock, h2, h3⟩ := hh.spec b _ hb rfl
  rw [hs] at h1; cases h1
  exact ⟨es, clock, h2, h3⟩

/-- a map's block is written -/
theorem map_set {E : Env} {H : Hp} {nx : Nat} {w : World} (hE : EnvOk E w) (hh : HeapOk E H nx w) {b k : Nat} {ks vs ks' vs' : List AV} {es es' : Array MapEntry} {clock clock' : Nat} (hb : H b = some [.omap ks vs]) (hs : E.sp b = some k) (hw : w.heap[k]? = some (.map es clock))
    (hm : MapOk E w ks' vs' es' clock') : Ext E w E (w.putObj k (.map es' clock')) ∧ EnvOk E (w.putObj k (.map es' clock')) ∧ HeapOk E (hupd H b [.omap ks' vs']) nx (w.putObj k (.map es' clock')) := by
  have hlp : ∀ r T, E.lp b = some (r, T) → False := by
    intro r T h
    obtain ⟨k', st, p, h1, h2, _⟩ := hE.lp b r T h
    rw [hs] at h1; cases h1
    rw [hw] at h2; cases h2
  obtain ⟨q1, q2, q3⟩ := sp_set hE (hh.del b) hs hw (o' := .map es' clock') rfl rfl (by intro ds; simp) (by intro ds; simp) (fun r T h => (hlp r T h).elim) (fun x hx => by rw [hdel_self] at hx; cases hx)
  refine ⟨q1, q2, ?_⟩
  have hH : hupd (hdel H b) b [.omap ks' vs'] = hupd H b [.omap ks' vs'] := by
    funext y; unfold hupd hdel; split <;> rfl
  rw [← hH]
  exact q3.addSp (hh.dom _ _ hb) (q2.spm b k hs) hs ⟨es', clock', World.putObj_heap_same (Array.getElem?_eq_some_iff.1 hw).1, hm.ext q1⟩

def msetK (key : AV) (r : Option Nat) (ks : List AV) : List AV := match r with | some _ => ks | none => ks ++ [key]
def msetV (v : AV) (r : Option Nat) (vs : List AV) : List AV := match r with | some i => vs.set i v | none => vs ++ [v]

theorem bytes_inj {a b : ByteArray} (h : a.toList = b.toList) : a = b := by
  rw [ByteArray.toList_eq, ByteArray.toList_eq] at h
  obtain ⟨⟨x⟩⟩ := a
  obtain ⟨⟨y⟩⟩ := b
  simp at h; rw [h]

theorem same1_eq {k : TK} {x y : AV} (h : same1 k x y = some true) : x = y := by
  unfold same1 at h
  split at h
  · split at h
    · subst_vars; simp at h; rw [h]
    · cases h
  · simp at h
    rw [bytes_inj h]
  · simp at h; rw [h]
  · cases h
theorem sameL_eq : ∀ {ks : List TK} {xs ys : List AV}, sameL ks xs ys = some true → xs = ys
  | [], [], [], _ => rfl
  | k :: ks, x :: xs, y :: ys, h => by
    simp only [sameL] at h
    split at h
    · rename_i hs; rw [same1_eq hs, sameL_eq h]
    · cases h
    · cases h
  | [], _ :: _, _, h => by cases h
  | [], [], _ :: _, h => by cases h
  | _ :: _, [], _, h => by cases h
  | _ :: _, _ :: _, [], h => by cases h
theorem ksame_eq {k : MK} {x y : AV} (h : ksame k x y = some true) : x = y := by
  cases k with
  | one k => exact same1_eq h
  | st ks =>
    cases x <;> first | (cases h; done) | skip
    cases y <;> first | (cases h; done) | skip
    rw [sameL_eq h]

theorem mfind_some {k : MK} {key : AV} : ∀ {ks : List AV} {i : Nat}, mfind k key ks = some (some i) → ∃ x, ks[i]? = some x ∧ ksame k key x = some true
  | [], i, h => by cases h
  | x :: l, i, h => by
    simp only [mfind] at h
    split at h
    · rename_i hs; cases h; exact ⟨x, rfl, hs⟩
    · cases hm : mfind k key l with
      | none => rw [hm] at h; cases h
      | some r =>
        rw [hm] at h
        cases r with
        | none => cases h
        | some j =>
          cases h
          obtain ⟨y, h1, h2⟩ := mfind_some hm
          exact ⟨y, by simpa using h1, h2⟩
    · cases h

/-- values of a plain key are the same bits -/
theorem same1_bits {E : Env} {w : World} {k : TK} {x y : AV} {vx vy : Value} (hx : Rel E w x vx) (hy : Rel E w y vy) (h : same1 k x y = some true) (n : Nat) : Instr.sameBits n vy vx = true := by
  unfold same1 at h
  split at h
  · cases hx; cases hy
    split at h
    · subst_vars; simp at h; subst h; cases n <;> simp [Instr.sameBits]
    · cases h
  · cases hx; cases hy
    simp at h
    rw [bytes_inj h]
    cases n <;> simp [Instr.sameBits, beq_toListBytes]
  · cases hx; cases hy
    simp at h; subst h; cases n <;> simp [Instr.sameBits]
  · cases h

theorem sameL_bits {E : Env} {w : World} {n : Nat} : ∀ {ks : List TK} {xs ys : List AV} {vx vy : List Value}, RelL E w xs vx → RelL E w ys vy → sameL ks xs ys = some true → vx.length = vy.length ∧ ((vy.zip vx).all fun (x, y) => Instr.sameBits n x y) = true
  | [], [], [], vx, vy, hx, hy, h => by
    have h1 : vx = [] := List.length_eq_zero_iff.1 hx.1
    have h2 : vy = [] := List.length_eq_zero_iff.1 hy.1
    subst h1 h2; exact ⟨rfl, rfl⟩
  | k :: ks, x :: xs, y :: ys, vx, vy, hx, hy, h => by
    cases vx with
    | nil => have := hx.1; simp at this
    | cons v1 vx =>
    cases vy with
    | nil => have := hy.1; simp at this
    | cons v2 vy =>
    simp only [sameL] at h
    split at h
    · rename_i hs
      have r1 : RelL E w xs vx := ⟨by have := hx.1; simpa using this, fun i a b ha hb => hx.2 (i + 1) a b (by simpa using ha) (by simpa using hb)⟩
      have r2 : RelL E w ys vy := ⟨by have := hy.1; simpa using this, fun i a b ha hb => hy.2 (i + 1) a b (by simpa using ha) (by simpa using hb)⟩
      obtain ⟨e1, e2⟩ := sameL_bits (n := n) r1 r2 h
      refine ⟨by simp [e1], ?_⟩
      simp only [List.zip_cons_cons, List.all_cons, Bool.and_eq_true]
      exact ⟨same1_bits (hx.2 0 x v1 rfl rfl) (hy.2 0 y v2 rfl rfl) hs n, e2⟩
    · cases h
    · cases h
  | [], _ :: _, _, _, _, _, _, h => by cases h
  | [], [], _ :: _, _, _, _, _, h => by cases h
  | _ :: _, [], _, _, _, _, _, h => by cases h
  | _ :: _, _ :: _, [], _, _, _, _, h => by cases h

theorem ksame_bits {E : Env} {w : World} {k : MK} {x y : AV} {vx vy : Value} (hx : Rel E w x vx) (hy : Rel E w y vy) (h : ksame k x y = some true) : Instr.sameBits 10000 vy vx = true := by
  cases k with
  | one k => exact same1_bits hx hy h _
  | st ks =>
    cases x <;> first | (cases h; done) | skip
    cases y <;> first | (cases h; done) | skip
    cases hx with
    | agg _ v1 l1 r1 =>
    cases hy with
    | agg _ v2 l2 r2 =>
    obtain ⟨e1, e2⟩ := sameL_bits (n := 9999) ⟨l1, r1⟩ ⟨l2, r2⟩ h
    show Instr.sameBits (9999 + 1) _ _ = true
    simp only [Instr.sameBits, Bool.and_eq_true]
    exact ⟨by simp [e1], e2⟩

theorem aspec_mapUpdate {P : Program} {t kt et : TypeId} {m k x : Operand} {T : Tm} {H : Hp} {nx b : Nat} {K : AV → Hp → Nat → Prop} {mk : MK} {ks vs : List AV} {r : Option Nat} (ht : tmap P t = some (kt, et)) (hk : mkk P kt = some mk)
    (hm : ev T m = .mp b) (hb : H b = some [.omap ks vs]) (hfit : kfit mk (ev T k) = true) (hr : mfind mk (ev T k) ks = some r)
    (h : K (.tup []) (hupd H b [.omap (msetK (ev T k) r ks) (msetV (ev T x) r vs)]) nx) : aspec P (.mapUpdate t m k x) T H nx K := by
  refine aspec_of_run (by intro c; simp) ?_
  rintro E w a ⟨dst, op, type, pos, after, guard⟩ ho hE hh hf htm
  simp only at ho
  subst ho
  have hmr := ev_rel (E := E) (w := w) (a := a) htm m
  have hkr := ev_rel (E := E) (w := w) (a := a) htm k
  have hxr := ev_rel (E := E) (w := w) (a := a) htm x
  rw [hm] at hmr
  generalize hvm : a.eval m = vm at hmr
  cases hmr with
  | mp _ kb hs =>
  obtain ⟨es, clock, hw, hok⟩ := map_at hh hb hs
  have hck := run_checkKey (P := P) (w := w) hk hkr hfit false
  have hfk := findKey_sound (P := P) (es := es.toList) (ks := ks) hk hkr (by simpa using hok.len) (fun j y e h1 h2 => hok.key j y e h1 (by simpa using h2)) hr
  have hu := tmap_eq ht
  have key : ∃ es' clock', (Instr.mapUpdate t (.map (some kb)) (a.eval k) (a.eval x)).run P w = .ok () (w.putObj kb (.map es' clock')) ∧ MapOk E w (msetK (ev T k) r ks) (msetV (ev T x) r vs) es' clock' := by
    unfold Instr.mapUpdate
    simp only [Sem.run_bind, run_underlying hu, Result.andThen_ok, run_getObj' hw rfl, hck, hfk]
    cases r with
    | none =>
      simp only [mres, Option.map_none, run_setObj' hw rfl]
      refine ⟨_, _, rfl, ?_⟩
      have hl := hok.len
      have hl' := hok.len'
      refine ⟨by simp [msetK, hl], by simp [msetV, msetK, hl'], fun i y e h1 h2 => ?_, fun i y e h1 h2 => ?_, fun i e h1 => ?_, by simp [hok.clk]⟩
      · simp only [msetK] at h1
        rw [Array.getElem?_push] at h2
        split at h2
        · rename_i he
          cases h2
          rw [he, hl, List.getElem?_append_right (Nat.le_refl _)] at h1
          simp at h1; subst h1; exact hkr
        · rename_i hne
          have hlt : i < es.size := (Array.getElem?_eq_some_iff.1 h2).1
          rw [List.getElem?_append_left (by omega)] at h1
          exact hok.key i y e h1 h2
      · simp only [msetV] at h1
        rw [Array.getElem?_push] at h2
        split at h2
        · rename_i he
          cases h2
          rw [he, hl, List.getElem?_append_right (by omega)] at h1
          simp [hl'] at h1; subst h1; exact hxr
        · rename_i hne
          have hlt : i < es.size := (Array.getElem?_eq_some_iff.1 h2).1
          rw [List.getElem?_append_left (by omega)] at h1
          exact hok.val i y e h1 h2
      · rw [Array.getElem?_push] at h1
        split at h1
        · rename_i he; cases h1; rw [he]; exact hok.clk
        · exact hok.born i e h1
    | some i =>
      obtain ⟨y, hy, hsame⟩ := mfind_some hr
      have hlt : i < es.size := by have := (List.getElem?_eq_some_iff.1 hy).1; have := hok.len; omega
      have hbits := ksame_bits hkr (hok.key i y es[i] hy (by simp [hlt])) hsame
      have hkeep : (Instr.keyThatStays (((es[i]?).map (·.key)).getD (a.eval k)) (a.eval k)).run P w = .ok (a.eval k) w := by
        unfold Instr.keyThatStays
        simp only [hlt, Array.getElem?_eq_getElem, Option.map_some, Option.getD_some]
        rw [if_pos hbits]; rfl
      simp only [mres, Option.map_some, Nat.zero_add, Sem.run_bind, hkeep, Result.andThen_ok, run_setObj' hw rfl]
      refine ⟨_, _, rfl, ?_⟩
      have hmod : ∀ j e, (es.modify i fun e => { e with key := a.eval k, val := a.eval x })[j]? = some e → ∃ e0, es[j]? = some e0 ∧ ((i = j ∧ e = { e0 with key := a.eval k, val := a.eval x }) ∨ (i ≠ j ∧ e = e0)) := by
        intro j e he
        rw [Array.getElem?_modify] at he
        split at he
        · rename_i hij
          cases h0 : es[j]? with
          | none => rw [h0] at he; cases he
          | some e0 => rw [h0] at he; cases he; exact ⟨e0, rfl, .inl ⟨hij, rfl⟩⟩
        · rename_i hij; exact ⟨e, he, .inr ⟨hij, rfl⟩⟩
      refine ⟨by simp [msetK, hok.len], by simp [msetV, msetK, hok.len'], fun j z e h1 h2 => ?_, fun j z e h1 h2 => ?_, fun j e h1 => ?_, by simp [hok.clk]⟩
      · obtain ⟨e0, k1, (⟨rfl, rfl⟩ | ⟨hne, rfl⟩)⟩ := hmod j e h2
        · simp only [msetK] at h1
          rw [hy] at h1; cases h1
          rw [← ksame_eq hsame]; exact hkr
        · exact hok.key j z e h1 k1
      · obtain ⟨e0, k1, (⟨rfl, rfl⟩ | ⟨hne, rfl⟩)⟩ := hmod j e h2
        · simp only [msetV] at h1
          have : i < vs.length := by have := hok.len'; have := hok.len; omega
          rw [List.getElem?_set_self this] at h1
          cases h1; exact hxr
        · simp only [msetV] at h1
          rw [List.getElem?_set_ne hne] at h1
          exact hok.val j z e h1 k1
      · obtain ⟨e0, k1, (⟨rfl, rfl⟩ | ⟨hne, rfl⟩)⟩ := hmod j e h1
        · exact hok.born i e0 k1
        · exact hok.born j e k1
  obtain ⟨es', clock', hrun, hok'⟩ := key
  obtain ⟨q1, q2, q3⟩ := map_set hE hh hb hs hw hok'
  refine ⟨.skip, Go.undef, _, E, .tup [], _, nx, ?_, .inr ⟨rfl, rfl⟩, q1, q2, q3, hf, undef_rel _ _, h⟩
  refine run_liftU ?_
  show (Instr.mapUpdate t (a.eval m) (a.eval k) (a.eval x)).run P w = _
  rw [hvm]; exact hrun


def isNilm : AV → Bool
  | .nilm => true
  | _ => false

def mget (z : AV) (ok : Bool) (r : Option Nat) (vs : List AV) : AV := match r with
  | some i => if ok = true then .tup [vs.getD i .undef, .bool true] else vs.getD i .undef
  | none => if ok = true then .tup [z, .bool false] else z

theorem rel_tup2 {E : Env} {w : World} {x y : AV} {u v : Value} (h1 : Rel E w x u) (h2 : Rel E w y v) : Rel E w (.tup [x, y]) (.tuple #[u, v]) := by
  refine Rel.tup [x, y] [u, v] rfl (fun i a b ha hb => ?_)
  match i with
  | 0 => cases ha; cases hb; exact h1
  | 1 => cases ha; cases hb; exact h2
  | i + 2 => cases ha
theorem rel_tup3 {E : Env} {w : World} {x y z : AV} {u v t : Value} (h1 : Rel E w x u) (h2 : Rel E w y v) (h3 : Rel E w z t) : Rel E w (.tup [x, y, z]) (.tuple #[u, v, t]) := by
  refine Rel.tup [x, y, z] [u, v, t] rfl (fun i a b ha hb => ?_)
  match i with
  | 0 => cases ha; cases hb; exact h1
  | 1 => cases ha; cases hb; exact h2
  | 2 => cases ha; cases hb; exact h3
  | i + 3 => cases ha
theorem rel_tup1 {E : Env} {w : World} {x : AV} {u : Value} (h1 : Rel E w x u) : Rel E w (.tup [x]) (.tuple #[u]) := by
  refine Rel.tup [x] [u] rfl (fun i a b ha hb => ?_)
  match i with
  | 0 => cases ha; cases hb; exact h1
  | i + 1 => cases ha

theorem aspec_lookup {P : Program} {t kt et : TypeId} {m k : Operand} {ok : Bool} {T : Tm} {H : Hp} {nx b : Nat} {K : AV → Hp → Nat → Prop} {mk : MK} {ks vs : List AV} {r : Option Nat} {z : AV} (ht : tmap P t = some (kt, et)) (hk : mkk P kt = some mk) (hz : azero P et = some z)
    (hm : ev T m = .mp b) (hb : H b = some [.omap ks vs]) (hfit : kfit mk (ev T k) = true) (hr : mfind mk (ev T k) ks = some r)
    (h : K (mget z ok r vs) H nx) : aspec P (.lookup t m k ok) T H nx K := by
  refine aspec_of_run (by intro c; simp) ?_
  rintro E w a ⟨dst, op, type, pos, after, guard⟩ ho hE hh hf htm
  simp only at ho
  subst ho
  have hmr := ev_rel (E := E) (w := w) (a := a) htm m
  have hkr := ev_rel (E := E) (w := w) (a := a) htm k
  rw [hm] at hmr
  generalize hvm : a.eval m = vm at hmr
  cases hmr with
  | mp _ kb hs =>
  obtain ⟨es, clock, hw, hok⟩ := map_at hh hb hs
  have hck := run_checkKey (P := P) (w := w) hk hkr hfit es.isEmpty
  have hfk := findKey_sound (P := P) (es := es.toList) (ks := ks) hk hkr (by simpa using hok.len) (fun j y e h1 h2 => hok.key j y e h1 (by simpa using h2)) hr
  have hu := tmap_eq ht
  obtain ⟨vz, hvz, hrz⟩ := azero_sound hz
  have key : ∃ v, (Instr.lookup t (.map (some kb)) (a.eval k) ok).run P w = .ok v w ∧ Rel E w (mget z ok r vs) v := by
    unfold Instr.lookup
    simp only [Sem.run_bind, run_underlying hu, Result.andThen_ok, run_getObj' hw rfl, Sem.run_pure, hck, hfk]
    cases r with
    | none =>
      simp only [mres, Option.map_none, Sem.run_bind, hvz, Result.andThen_ok, Sem.run_pure]
      refine ⟨_, rfl, ?_⟩
      unfold mget
      cases ok with
      | true => exact rel_tup2 (hrz E w) (.bool _)
      | false => exact hrz E w
    | some i =>
      obtain ⟨y, hy, hsame⟩ := mfind_some hr
      have hlt : i < es.size := by have := (List.getElem?_eq_some_iff.1 hy).1; have := hok.len; omega
      have hlv : i < vs.length := by have := hok.len'; have := hok.len; omega
      simp only [mres, Option.map_some, Sem.run_pure, Result.andThen_ok]
      refine ⟨_, rfl, ?_⟩
      have e1 : es.toList.getD i default = es[i] := by simp [List.getD, hlt]
      have e2 : vs.getD i .undef = vs[i] := by simp [List.getD, hlv]
      have hrel := hok.val i vs[i] es[i] (by simp [hlv]) (by simp [hlt])
      rw [e1]
      cases ok with
      | true =>
        show Rel E w (.tup [vs.getD i .undef, .bool true]) _
        rw [e2]; exact rel_tup2 hrel (.bool _)
      | false =>
        show Rel E w (vs.getD i .undef) _
        rw [e2]; exact hrel
  obtain ⟨v, hrun, hrel⟩ := key
  refine ⟨.value v, v, w, E, _, H, nx, ?_, .inl rfl, Ext.refl _ _, hE, hh, hf, hrel, h⟩
  refine run_lift ?_
  show (Instr.lookup t (a.eval m) (a.eval k) ok).run P w = _
  rw [hvm]; exact hrun

theorem aspec_mlen {P : Program} {t : TypeId} {m : Operand} {T : Tm} {H : Hp} {nx b : Nat} {K : AV → Hp → Nat → Prop} {p : TypeId × TypeId} {ks vs : List AV} (ht : tmap P t = some p) (hm : ev T m = .mp b) (hb : H b = some [.omap ks vs])
    (h : K (.int .i64 ks.length) H nx) : aspec P (.call { callee := .builtin .len, args := #[m], argTypes := #[t] }) T H nx K := by
  refine aspec_of_run (by intro c; simp) ?_
  rintro E w a ⟨dst, op, type, pos, after, guard⟩ ho hE hh hf htm
  simp only at ho
  subst ho
  have hmr := ev_rel (E := E) (w := w) (a := a) htm m
  rw [hm] at hmr
  generalize hvm : a.eval m = vm at hmr
  cases hmr with
  | mp _ kb hs =>
  obtain ⟨es, clock, hw, hok⟩ := map_at hh hb hs
  have hu := tmap_eq (P := P) (t := t) (k := p.1) (e := p.2) ht
  have hrun : (Builtin.len_ #[t] type #[.map (some kb)]).run P w = .ok (goInt es.size) w := by
    unfold Builtin.len_
    simp [run_underlying hu, run_getObj' hw rfl]
  refine ⟨.value (goInt es.size), goInt es.size, w, E, _, H, nx, ?_, .inl rfl, Ext.refl _ _, hE, hh, hf, ?_, h⟩
  · simp only [execOp, resolve, invoke, builtin, Sem.run_bind, Sem.run_pure, Result.andThen_ok]
    simp [hvm, hrun]
  · rw [hok.len]; exact .int _ _

theorem aspec_mrange {P : Program} {t : TypeId} {m : Operand} {T : Tm} {H : Hp} {nx b : Nat} {K : AV → Hp → Nat → Prop} {p : TypeId × TypeId} {ks vs : List AV} (ht : tmap P t = some p) (hm : ev T m = .mp b) (hb : H b = some [.omap ks vs])
    (h : K (.itr nx) (hupd H nx [.oiter b ks.length []]) (nx + 1)) : aspec P (.range t m) T H nx K := by
  refine aspec_of_run (by intro c; simp) ?_
  rintro E w a ⟨dst, op, type, pos, after, guard⟩ ho hE hh hf htm
  simp only at ho
  subst ho
  have hmr := ev_rel (E := E) (w := w) (a := a) htm m
  rw [hm] at hmr
  generalize hvm : a.eval m = vm at hmr
  cases hmr with
  | mp _ kb hs =>
  obtain ⟨es, clock, hw, hok⟩ := map_at hh hb hs
  have hu := tmap_eq (P := P) (t := t) (k := p.1) (e := p.2) ht
  obtain ⟨E', hE', he, hEo, hh', hs', hnew⟩ := sp_new hE hh (hf nx (Nat.le_refl _)) (.mapIter (some kb) clock #[] clock) rfl (by intro ds; simp)
  have hcl : clock = ks.length := by rw [hok.clk, hok.len]
  refine ⟨.value (.pointer (some ⟨w.heap.size, 0, none⟩)), .pointer (some ⟨w.heap.size, 0, none⟩), w.alloc (.mapIter (some kb) clock #[] clock), E', .itr nx, _, nx + 1, ?_, .inl rfl, he, hEo,
    hh'.addSp (x := .oiter b ks.length []) (Nat.lt_succ_self _) (hEo.spm nx _ hs') hs' ⟨kb, clock, by rw [hnew, hcl], he.sp _ _ hs, fun h => absurd rfl h⟩, hf.sp hE', .itr _ _ hs', h⟩
  refine run_lift ?_
  show (Instr.range t (a.eval m)).run P w = _
  rw [hvm]
  unfold Instr.range
  simp only [Sem.run_bind, run_underlying hu, Result.andThen_ok, run_getObj' hw rfl, Sem.run_pure, run_newObj_alloc]


theorem iter_at {E : Env} {H : Hp} {nx : Nat} {w : World} (hh : HeapOk E H nx w) {b k m n0 : Nat} {seen : List Nat} (hb : H b = some [.oiter m n0 seen]) (hs : E.sp b = some k) :
    ∃ km last, w.heap[k]? = some (.mapIter (some km) n0 seen.toArray last) ∧ E.sp m = some km ∧ (seen ≠ [] → 0 < last) := by
  obtain ⟨k', h1, h2⟩ := hh.spec b _ hb rfl
  rw [hs] at h1; cases h1
  exact h2

theorem filter_mem_get {es : Array MapEntry} {p : MapEntry → Bool} {e : MapEntry} (h : e ∈ es.filter p) : (∃ i : Nat, es[i]? = some e) ∧ p e = true := by
  rw [Array.mem_filter] at h
  obtain ⟨i, hi, rfl⟩ := Array.mem_iff_getElem.1 h.1
  exact ⟨⟨i, by simp [hi]⟩, h.2⟩

theorem run_choose_next {P : Program} {w : World} {n : Nat} (hn : 0 < n) : ∃ c w1, (choose (.mapNext n)).run P w = .ok c w1 ∧ c < n ∧ (w1 = w ∨ w1 = w.drew) := by
  rw [run_choose_drew]
  by_cases h : (Question.mapNext n).forced = true
  · rw [if_pos h]; exact ⟨0, w, rfl, hn, .inl rfl⟩
  · rw [if_neg h]; exact ⟨_, w.drew, rfl, Nat.mod_lt _ hn, .inr rfl⟩

def nextOld (es : Array MapEntry) (seen : List Nat) (n0 : Nat) : Array MapEntry := (es.filter fun e => !seen.toArray.contains e.born).filter (·.born < n0)
def nextNew (es : Array MapEntry) (seen : List Nat) (n0 : Nat) : Array MapEntry := (es.filter fun e => !seen.toArray.contains e.born).filter (·.born ≥ n0)

theorem run_next {P : Program} {w : World} {k km n0 last clock : Nat} {seen : List Nat} {es : Array MapEntry} {ty : TypeId} (hw : w.heap[k]? = some (.mapIter (some km) n0 seen.toArray last)) (hwm : w.heap[km]? = some (.map es clock))
    (hg : (!seen.toArray.isEmpty && !es.isEmpty && es.all (·.born ≥ last)) = false) :
    ∃ w1, (w1 = w ∨ w1 = w.drew) ∧
      ((nextOld es seen n0).isEmpty = true ∧ (Instr.next (.pointer (some ⟨k, 0, none⟩)) false ty).run P w = .ok (.tuple #[.bool false]) w1 ∨
       ∃ (e : MapEntry) (i : Nat), es[i]? = some e ∧ seen.toArray.contains e.born = false ∧ (Instr.next (.pointer (some ⟨k, 0, none⟩)) false ty).run P w = .ok (.tuple #[.bool true, e.key, e.val]) (w1.putObj k (.mapIter (some km) n0 (seen.toArray.push e.born) clock))) := by
  let cand : Array (Option MapEntry) := (if (nextOld es seen n0).isEmpty then #[none] else #[]) ++ (nextOld es seen n0 ++ nextNew es seen n0).map some
  have hpos : 0 < cand.size := by
    show 0 < ((if (nextOld es seen n0).isEmpty then #[none] else #[]) ++ (nextOld es seen n0 ++ nextNew es seen n0).map some).size
    split
    · simp; omega
    · rename_i hne
      have : (nextOld es seen n0).size ≠ 0 := by intro h; exact hne (by simp [Array.isEmpty, h])
      simp; omega
  obtain ⟨c, w1, hc, hlt, hw1⟩ := run_choose_next (P := P) (w := w) hpos
  refine ⟨w1, hw1, ?_⟩
  have hh1 : w1.heap = w.heap := by rcases hw1 with rfl | rfl <;> rfl
  have hget : cand[c]? = some cand[c] := by simp [hlt]
  have hrun : (Instr.next (.pointer (some ⟨k, 0, none⟩)) false ty).run P w = (match cand[c] with
      | some e => (do setObj k (.mapIter (some km) n0 (seen.toArray.push e.born) clock); pure (.tuple #[.bool true, e.key, e.val]) : Sem Value).run P w1
      | none => .ok (.tuple #[.bool false]) w1) := by
    unfold Instr.next
    simp only [Sem.run_bind, run_getObj' hw rfl, run_getObj' hwm rfl, Result.andThen_ok, hg, Bool.false_eq_true, if_false]
    have hc' : (choose (.mapNext ((if (Array.filter (fun (x : MapEntry) => decide (x.born < n0)) (Array.filter (fun (e : MapEntry) => !seen.toArray.contains e.born) es)).isEmpty then #[none] else #[]) ++ Array.map some (Array.filter (fun (x : MapEntry) => decide (x.born < n0)) (Array.filter (fun (e : MapEntry) => !seen.toArray.contains e.born) es) ++ Array.filter (fun (x : MapEntry) => decide (x.born ≥ n0)) (Array.filter (fun (e : MapEntry) => !seen.toArray.contains e.born) es))).size)).run P w = .ok c w1 := hc
    simp only [hc', Result.andThen_ok]
    have hget' : ((if (Array.filter (fun (x : MapEntry) => decide (x.born < n0)) (Array.filter (fun (e : MapEntry) => !seen.toArray.contains e.born) es)).isEmpty then #[none] else #[]) ++ Array.map some (Array.filter (fun (x : MapEntry) => decide (x.born < n0)) (Array.filter (fun (e : MapEntry) => !seen.toArray.contains e.born) es) ++ Array.filter (fun (x : MapEntry) => decide (x.born ≥ n0)) (Array.filter (fun (e : MapEntry) => !seen.toArray.contains e.born) es)))[c]? = some cand[c] := hget
    rw [hget']
    cases cand[c] with
    | none => rfl
    | some e => simp only [Sem.run_bind]
  have hmem : cand[c] ∈ cand := Array.getElem_mem hlt
  have hmem' : cand[c] ∈ (if (nextOld es seen n0).isEmpty then #[none] else #[]) ++ (nextOld es seen n0 ++ nextNew es seen n0).map some := hmem
  generalize cand[c] = x at hrun hmem'
  rw [Array.mem_append] at hmem'
  cases x with
  | none =>
    left
    refine ⟨?_, hrun⟩
    rcases hmem' with h | h
    · split at h
      · assumption
      · simp at h
    · simp at h
  | some e =>
    right
    have he : e ∈ nextOld es seen n0 ∨ e ∈ nextNew es seen n0 := by
      rcases hmem' with h | h
      · split at h <;> simp at h
      · simpa using h
    have hleft : e ∈ es.filter fun e => !seen.toArray.contains e.born := by
      rcases he with h | h
      · exact (Array.mem_filter.1 h).1
      · exact (Array.mem_filter.1 h).1
    obtain ⟨⟨i, hi⟩, hs⟩ := filter_mem_get hleft
    refine ⟨e, i, hi, by simpa using hs, ?_⟩
    rw [hrun]
    have hw' : w1.heap[k]? = some (.mapIter (some km) n0 seen.toArray last) := by rw [hh1]; exact hw
    simp only [Sem.run_bind, run_setObj' hw' rfl, Result.andThen_ok]
    rfl

theorem aspec_mnext {P : Program} {it : Operand} {T : Tm} {H : Hp} {nx b m n0 : Nat} {K : AV → Hp → Nat → Prop} {ks vs : List AV} {seen : List Nat} (hi : ev T it = .itr b) (hb : H b = some [.oiter m n0 seen]) (hm : H m = some [.omap ks vs])
    (h1 : ∀ i, i < ks.length → i ∉ seen → K (.tup [.bool true, ks.getD i .undef, vs.getD i .undef]) (hupd H b [.oiter m n0 (seen ++ [i])]) nx)
    (h2 : (∀ i, i < n0 → i < ks.length → i ∈ seen) → K (.tup [.bool false]) H nx) : aspec P (.next it false) T H nx K := by
  refine aspec_of_run (by intro c; simp) ?_
  rintro E w a ⟨dst, op, type, pos, after, guard⟩ ho hE hh hf htm
  simp only at ho
  subst ho
  have hir := ev_rel (E := E) (w := w) (a := a) htm it
  rw [hi] at hir
  generalize hvi : a.eval it = vi at hir
  cases hir with
  | itr _ k hs =>
  obtain ⟨km, last, hw, hsm, hlast⟩ := iter_at hh hb hs
  obtain ⟨es, clock, hwm, hok⟩ := map_at hh hm hsm
  have hl := hok.len
  have hl' := hok.len'
  have hguard : (!seen.toArray.isEmpty && !es.isEmpty && es.all (·.born ≥ last)) = false := by
    by_cases hse : seen = []
    · subst hse; rfl
    · have hpos := hlast hse
      by_cases hz : es.size = 0
      · have : es = #[] := Array.eq_empty_of_size_eq_zero hz
        subst this; simp
      · have h0 := hok.born 0 es[0] (by simp)
        have : es.all (·.born ≥ last) = false := by
          rw [Array.all_eq_false]
          exact ⟨0, by omega, by simp; omega⟩
        rw [this]; simp
  obtain ⟨w1, hw1, hrun⟩ := run_next (P := P) (ty := type) hw hwm hguard
  have hE1 : Ext E w E w1 ∧ EnvOk E w1 ∧ HeapOk E H nx w1 ∧ w1.heap = w.heap := by
    rcases hw1 with rfl | rfl
    · exact ⟨Ext.refl _ _, hE, hh, rfl⟩
    · exact ⟨Ext.same rfl, hE.drew, hh.same rfl, rfl⟩
  obtain ⟨k1, k2, k3, k4⟩ := hE1
  have hexec : ∀ v w', (Instr.next (.pointer (some ⟨k, 0, none⟩)) false type).run P w = .ok v w' → (execOp a.eval ⟨dst, .next it false, type, pos, after, guard⟩).run P w = .ok (.value v) w' := by
    intro v w' h
    refine run_lift ?_
    show (Instr.next (a.eval it) false type).run P w = _
    rw [hvi]; exact h
  rcases hrun with ⟨hold, hrun⟩ | ⟨e, i, hei, hns, hrun⟩
  · refine ⟨.value (.tuple #[.bool false]), .tuple #[.bool false], w1, E, .tup [.bool false], H, nx, hexec _ _ hrun, .inl rfl, k1, k2, k3, hf, rel_tup1 (.bool _), h2 (fun i h0 hi => ?_)⟩
    have hlt : i < es.size := by omega
    rcases Decidable.em (i ∈ seen) with h | h
    · exact h
    · exfalso
      have hb0 := hok.born i es[i] (by simp [hlt])
      have hmem : es[i] ∈ nextOld es seen n0 := by
        unfold nextOld
        rw [Array.mem_filter]
        refine ⟨Array.mem_filter.2 ⟨Array.getElem_mem hlt, ?_⟩, by rw [hb0]; simpa using h0⟩
        rw [hb0]; simpa using h
      have : (nextOld es seen n0).size = 0 := by simpa [Array.isEmpty] using hold
      rw [Array.eq_empty_of_size_eq_zero this] at hmem
      simp at hmem
  · have hlt : i < es.size := (Array.getElem?_eq_some_iff.1 hei).1
    have hb0 := hok.born i e hei
    have hni : i ∉ seen := by
      rw [hb0] at hns; simpa using hns
    have hw1k : w1.heap[k]? = some (.mapIter (some km) n0 seen.toArray last) := by rw [k4]; exact hw
    have hlp : ∀ r T, E.lp b = some (r, T) → False := by
      intro r T h
      obtain ⟨k', st, p, h1, h2, _⟩ := hE.lp b r T h
      rw [hs] at h1; cases h1
      rw [hw] at h2; cases h2
    obtain ⟨q1, q2, q3⟩ := sp_set k2 (k3.del b) hs hw1k (o' := .mapIter (some km) n0 (seen.toArray.push e.born) clock) rfl rfl (by intro ds; simp) (by intro ds; simp) (fun r T h => (hlp r T h).elim) (fun x hx => by rw [hdel_self] at hx; cases hx)
    have hH : hupd (hdel H b) b [.oiter m n0 (seen ++ [i])] = hupd H b [.oiter m n0 (seen ++ [i])] := by
      funext y; unfold hupd hdel; split <;> rfl
    have q4 := q3.addSp (x := .oiter m n0 (seen ++ [i])) (hh.dom _ _ hb) (q2.spm b k hs) hs ⟨km, clock, by
      rw [World.putObj_heap_same (Array.getElem?_eq_some_iff.1 hw1k).1, hb0]; simp, hsm, fun _ => by rw [hok.clk]; omega⟩
    rw [hH] at q4
    have hkr := hok.key i (ks.getD i .undef) e (by simp [List.getD, show i < ks.length by omega]) hei
    have hvr := hok.val i (vs.getD i .undef) e (by simp [List.getD, show i < vs.length by omega]) hei
    exact ⟨.value (.tuple #[.bool true, e.key, e.val]), .tuple #[.bool true, e.key, e.val], _, E, .tup [.bool true, ks.getD i .undef, vs.getD i .undef], _, nx, hexec _ _ hrun, .inl rfl, k1.trans q1, q2, q4, hf,
      rel_tup3 (.bool _) (hkr.ext (k1.trans q1)) (hvr.ext (k1.trans q1)), h1 i (by omega) hni⟩


/-! ### copy and clear -/
def trunc (n : Nat) : AV → AV
  | .sl sz l => .sl sz (l.take n)
  | .msl b m sz off _ => .msl b m sz off n
  | x => x
def alenN : AV → Option Nat
  | .sl _ l => some l.length
  | .msl _ _ _ _ len => some len
  | .esl => some 0
  | _ => none

theorem trunc_sound {P : Program} {E : Env} {H : Hp} {nx : Nat} {w : World} (hh : HeapOk E H nx w) {x : AV} {v : Value} (hx : Rel E w x v) {n k sz j : Nat} {new : List AV} (hk : alenN x = some k) (hn : n ≤ k) (hn0 : 0 < n) (h : asrc sz H (trunc n x) = some (j, new)) :
    (Builtin.lenOf v).run P w = .ok k w ∧ new.length = n * sz ∧ ∃ vals : List Value, (Builtin.firstCells sz n v).run P w = .ok vals.toArray w ∧ vals.length = new.length ∧ ∀ (i : Nat) (a : AV) (y : Value), new[i]? = some a → vals[i]? = some y → Rel E w a y := by
  cases hx with
  | sl szz elems blk o cap vals him hlen hsz hcell hr =>
    cases hk
    have htl : (elems.take n).length = n := by simp; omega
    have hx' : Rel E w (.sl szz (elems.take n)) (.slice (some ⟨blk, o, none⟩) (elems.take n).length cap) :=
      Rel.sl szz (elems.take n) blk o cap vals him (by omega) (fun y hy => hsz y (List.mem_of_mem_take hy)) (fun i hi => hcell i (Nat.lt_of_lt_of_le hi (Nat.mul_le_mul_right _ (by omega)))) (fun i j y c hy hc => by
        rw [List.getElem?_take] at hy
        split at hy
        · exact hr i j y c hy hc
        · cases hy)
    obtain ⟨h1, h2, vs, h3, h4, h5⟩ := asrc_sound (P := P) hh hx' h
    have hj : j = n := by
      have := h1
      simp only [Builtin.lenOf, Sem.run_pure] at this
      injection this with e; omega
    subst hj
    exact ⟨rfl, h2, vs, h3, h4, h5⟩
  | msl b m szz off len blk bsz cap hm hl hc hnn =>
    cases hk
    have hx' : Rel E w (.msl b m szz off n) (.slice (some ⟨blk, off, none⟩) n cap) := .msl _ _ _ _ _ _ _ _ hm (by omega) hc hnn
    obtain ⟨h1, h2, vs, h3, h4, h5⟩ := asrc_sound (P := P) hh hx' h
    have hj : j = n := by
      have := h1
      simp only [Builtin.lenOf, Sem.run_pure] at this
      injection this with e; exact e.symm
    subst hj
    exact ⟨rfl, h2, vs, h3, h4, h5⟩
  | slnil => cases hk; simp at hn; omega
  | slempty => cases hk; simp at hn; omega
  | msl0 => cases hk; omega
  | eslnil => cases hk; omega
  | esl => cases hk; omega
  | _ => cases hk

theorem lenOf_sound {P : Program} {E : Env} {w : World} {x : AV} {v : Value} (hx : Rel E w x v) {k : Nat} (hk : alenN x = some k) : (Builtin.lenOf v).run P w = .ok k w ∧ ∃ a c, v = .slice a k c := by
  cases hx with
  | sl => cases hk; exact ⟨rfl, _, _, rfl⟩
  | msl => cases hk; exact ⟨rfl, _, _, rfl⟩
  | slnil => cases hk; exact ⟨rfl, _, _, rfl⟩
  | slempty => cases hk; exact ⟨rfl, _, _, rfl⟩
  | msl0 _ _ _ h => cases hk; rcases h with rfl | ⟨_, _, rfl⟩ <;> exact ⟨rfl, _, _, rfl⟩
  | eslnil => cases hk; exact ⟨rfl, _, _, rfl⟩
  | esl => cases hk; exact ⟨rfl, _, _, rfl⟩
  | _ => cases hk

theorem firstCells_zero {P : Program} {w : World} {sz k c : Nat} {a : Option Addr} : (Builtin.firstCells sz 0 (.slice a k c)).run P w = .ok #[] w := by
  cases a <;> simp [Builtin.firstCells, loadCells, loadCellsFrom]

def acopy (sz : Nat) (d s : AV) (H : Hp) : Option (Nat × Hp) :=
  match alenN d, alenN s with
  | some ld, some ls =>
    if min ls ld = 0 then some (0, H) else
    match d with
    | .msl b n sz' off _ => match H b, asrc sz H (trunc (min ls ld) s) with
      | some cs, some (_, new) => if cs.length = n ∧ sz' = sz ∧ off + min ls ld * sz ≤ n ∧ new.all AV.one = true then some (min ls ld, hupd H b (lput cs off new)) else none
      | _, _ => none
    | _ => none
  | _, _ => none

theorem aspec_copy {P : Program} {tD tS e : TypeId} {d s : Operand} {T : Tm} {H : Hp} {nx : Nat} {K : AV → Hp → Nat → Prop} {n : Nat} {H' : Hp} (ht : telem P tD = some e) (hte : tok P e = true)
    (h : acopy (P.cellsOf e) (ev T d) (ev T s) H = some (n, H')) (hk : K (.int .i64 n) H' nx) : aspec P (.call { callee := .builtin .copy, args := #[d, s], argTypes := #[tD, tS] }) T H nx K := by
  refine aspec_of_run (by intro c; simp) ?_
  rintro E w a ⟨dst, op, type, pos, after, guard⟩ ho hE hh hf htm
  simp only at ho
  subst ho
  have hdr := ev_rel (E := E) (w := w) (a := a) htm d
  have hsr := ev_rel (E := E) (w := w) (a := a) htm s
  have hu := telem_eq ht
  have hexec : ∀ v w', (Builtin.copy_ #[tD, tS] type #[a.eval d, a.eval s]).run P w = .ok v w' → (execOp a.eval ⟨dst, .call { callee := .builtin .copy, args := #[d, s], argTypes := #[tD, tS] }, type, pos, after, guard⟩).run P w = .ok (.value v) w' := by
    intro v w' h
    simp only [execOp, resolve, invoke, builtin, Sem.run_bind, Sem.run_pure, Result.andThen_ok]
    simp [h]
  unfold acopy at h
  split at h
  case h_2 => cases h
  rename_i ld ls hld hls
  obtain ⟨_, ad, cd, hvd⟩ := lenOf_sound (P := P) hdr hld
  obtain ⟨hls', as, cs', hvs⟩ := lenOf_sound (P := P) hsr hls
  split at h
  case isTrue h0 =>
    cases h
    have hrun : (Builtin.copy_ #[tD, tS] type #[a.eval d, a.eval s]).run P w = .ok (goInt 0) w := by
      have h0' : Nat.min ls ld = 0 := h0
      unfold Builtin.copy_
      simp only [List.getElem?_toArray, List.getElem?_cons_zero, List.getElem?_cons_succ, Sem.run_bind, run_underlying hu, Result.andThen_ok, hvd]
      simp only [hls', Result.andThen_ok, h0', run_sizeOf' hte]
      rw [hvs]
      simp only [firstCells_zero, Result.andThen_ok]
      cases ad <;> simp [storeCells]
    exact ⟨.value (goInt 0), goInt 0, w, E, _, H, nx, hexec _ _ hrun, .inl rfl, Ext.refl _ _, hE, hh, hf, .int _ _, hk⟩
  case isFalse h0 =>
    split at h
    case h_2 => cases h
    rename_i b n' sz' off len hd
    split at h
    case h_2 => cases h
    rename_i cs j new hb hsrc
    split at h
    case isFalse => cases h
    case isTrue hc =>
    obtain ⟨rfl, rfl, hfit, hone⟩ := hc
    cases h
    have hlen : len = ld := by rw [hd] at hld; cases hld; rfl
    subst hlen
    obtain ⟨_, hnl, vals, h3, h4, h5⟩ := trunc_sound (P := P) hh hsr hls (Nat.min_le_left _ _) (by omega) hsrc
    have hones : ∀ y ∈ vals, y.oneCell' = true := by
      intro y hy
      obtain ⟨i, hi⟩ := List.getElem?_of_mem hy
      have hlt : i < new.length := by have := (List.getElem?_eq_some_iff.1 hi).1; omega
      exact (h5 i new[i] y (by simp [hlt]) hi).one (List.all_eq_true.1 hone _ (List.getElem_mem hlt))
    rw [hd] at hdr
    generalize hnn : cs.length = nn at hdr
    generalize hvd' : a.eval d = vd at hdr
    cases hdr with
    | msl0 => omega
    | msl _ _ _ _ _ blk bsz cap hm hl hcp hcn =>
    subst hnn
    obtain ⟨w', E', g1, g2, g3, g4, g5, g6, g7⟩ := write_sound (P := P) hE hh (off := off) hb hm (new := new) (nv := vals) (by rw [hnl]; exact hfit) h4 h5 hones
    have hrun : (Builtin.copy_ #[tD, tS] type #[a.eval d, a.eval s]).run P w = .ok (goInt ((min ls len : Nat) : Int)) w' := by
      have e : Nat.min ls len = min ls len := rfl
      unfold Builtin.copy_
      simp only [List.getElem?_toArray, List.getElem?_cons_zero, List.getElem?_cons_succ, Sem.run_bind, run_underlying hu, Result.andThen_ok, hvd', hls', e, run_sizeOf' hte, h3, g1, Sem.run_pure]
    exact ⟨.value (goInt ((min ls len : Nat) : Int)), goInt ((min ls len : Nat) : Int), w', E', .int .i64 ((min ls len : Nat) : Int), _, nx, hexec _ _ hrun, .inl rfl, g2, g3, g4, hf.of (Nat.le_refl _) (fun b' n hb' => g5 b' n (by have := hh.dom _ _ hb; omega)) g6 g7, .int _ _, hk⟩


def aclear (sz : Nat) (z x : AV) (H : Hp) : Option Hp := match x with
  | .msl b n sz' off len => if len = 0 then some H else match H b with
    | some cs => if cs.length = n ∧ sz' = sz ∧ z.flat = true ∧ z.cells.length = sz ∧ off + len * sz ≤ n then some (hupd H b (lput cs off (zcells z len))) else none
    | none => none
  | _ => none

theorem aspec_clear {P : Program} {tX e : TypeId} {x : Operand} {T : Tm} {H : Hp} {nx : Nat} {K : AV → Hp → Nat → Prop} {z : AV} {H' : Hp} (ht : telem P tX = some e) (hz : azero P e = some z)
    (h : aclear (P.cellsOf e) z (ev T x) H = some H') (hpos : 0 < P.cellsOf e) (hk : K (.tup []) H' nx) : aspec P (.call { callee := .builtin .clear, args := #[x], argTypes := #[tX] }) T H nx K := by
  refine aspec_of_run (by intro c; simp) ?_
  rintro E w a ⟨dst, op, type, pos, after, guard⟩ ho hE hh hf htm
  simp only at ho
  subst ho
  have hxr := ev_rel (E := E) (w := w) (a := a) htm x
  have hu := telem_eq ht
  have hexec : ∀ v w', (Builtin.clear_ #[tX] type #[a.eval x]).run P w = .ok v w' → (execOp a.eval ⟨dst, .call { callee := .builtin .clear, args := #[x], argTypes := #[tX] }, type, pos, after, guard⟩).run P w = .ok (.value v) w' := by
    intro v w' h
    simp only [execOp, resolve, invoke, builtin, Sem.run_bind, Sem.run_pure, Result.andThen_ok]
    simp [h]
  unfold aclear at h
  split at h
  case h_2 => cases h
  rename_i b n sz' off len hx
  rw [hx] at hxr
  split at h
  case isTrue h0 =>
    cases h
    subst h0
    have hrun : (Builtin.clear_ #[tX] type #[a.eval x]).run P w = .ok (.tuple #[]) w := by
      generalize a.eval x = vx at hxr
      unfold Builtin.clear_
      simp only [List.getElem?_toArray, List.getElem?_cons_zero, Sem.run_bind, run_underlying hu, Result.andThen_ok]
      cases hxr with
      | msl => rfl
      | msl0 _ _ _ hv => rcases hv with rfl | ⟨_, _, rfl⟩ <;> rfl
    exact ⟨.value (.tuple #[]), .tuple #[], w, E, .tup [], H, nx, hexec _ _ hrun, .inl rfl, Ext.refl _ _, hE, hh, hf, undef_rel _ _, hk⟩
  case isFalse h0 =>
    split at h
    case h_2 => cases h
    rename_i cs hb
    split at h
    case isFalse => cases h
    case isTrue hc =>
    obtain ⟨rfl, rfl, hfl, hzl, hfit⟩ := hc
    cases h
    generalize hnn : cs.length = nn at hxr
    generalize hvx : a.eval x = vx at hxr
    cases hxr with
    | msl0 => omega
    | msl _ _ _ _ _ blk bsz cap hm hl hcp hcn =>
    subst hnn
    obtain ⟨vz, hvz, hrz⟩ := azero_sound hz
    obtain ⟨k1, k2, k3⟩ := (hrz E w).cells hfl
    have hvs : vz.cells.size = P.cellsOf e := by have : vz.cells.toList.length = vz.cells.size := by simp
                                                 omega
    have hzc : (zcells z len).length = len * P.cellsOf e := by simp [zcells, hzl]
    have hzz : (Builtin.zeroCells vz.cells len).size = len * P.cellsOf e := by simp [Builtin.zeroCells, hvs]
    have hget : ∀ j (y : Value), (Builtin.zeroCells vz.cells len)[j]? = some y → j < len * P.cellsOf e ∧ vz.cells[j % P.cellsOf e]? = some y := by
      intro j y hy
      have hj : j < len * P.cellsOf e := by rw [← hzz]; exact (Array.getElem?_eq_some_iff.1 hy).1
      refine ⟨hj, ?_⟩
      have hlt : j % P.cellsOf e < vz.cells.size := by rw [hvs]; exact Nat.mod_lt _ hpos
      unfold Builtin.zeroCells at hy
      rw [hvs, Array.getElem?_map, Array.getElem?_range, if_pos hj] at hy
      simp only [Option.map_some] at hy
      rw [getElem!_pos vz.cells _ hlt] at hy
      rw [← hy]; simp [hlt]
    obtain ⟨w', E', g1, g2, g3, g4, g5, g6, g7⟩ := write_sound (P := P) hE hh (off := off) hb hm (new := zcells z len) (nv := (Builtin.zeroCells vz.cells len).toList) (by rw [hzc]; exact hfit) (by simp [hzz, hzc]) (fun j p y hp hy => by
      obtain ⟨hj, hvj⟩ := hget j y (by simpa using hy)
      unfold zcells at hp
      rw [flatten_replicate_get _ _ (by rw [hzl]; exact hj), hzl] at hp
      exact k2 _ _ _ hp (by simpa using hvj)) (fun y hy => by
      obtain ⟨j, hj⟩ := List.getElem?_of_mem hy
      obtain ⟨_, hvj⟩ := hget j y (by simpa using hj)
      exact k3 y (by simpa using Array.mem_of_getElem? hvj))
    have hrun : (Builtin.clear_ #[tX] type #[a.eval x]).run P w = .ok (.tuple #[]) w' := by
      cases len with
      | zero => exact absurd rfl h0
      | succ len =>
      unfold Builtin.clear_
      simp only [List.getElem?_toArray, List.getElem?_cons_zero, Sem.run_bind, run_underlying hu, Result.andThen_ok, hvx, hvz, g1, Sem.run_pure]
    exact ⟨.value (.tuple #[]), .tuple #[], w', E', .tup [], _, nx, hexec _ _ hrun, .inl rfl, g2, g3, g4, hf.of (Nat.le_refl _) (fun b' n hb' => g5 b' n (by have := hh.dom _ _ hb; omega)) g6 g7, undef_rel _ _, hk⟩


theorem aspec_insert {P : Program} {t : TypeId} {m k x : Operand} {T : Tm} {H : Hp} {nx : Nat} {K : AV → Hp → Nat → Prop} (h : aspec P (.mapUpdate t m k x) T H nx K) : aspec P (.insert t m k x) T H nx K := by
  refine ⟨by intro c; simp, ?_⟩
  rintro rr E w a ⟨dst, op, type, pos, after, guard⟩ next Q ho hE hh hf htm hn
  simp only at ho
  subst ho
  have := h.2 rr E w a ⟨dst, .mapUpdate t m k x, type, pos, after, guard⟩ next Q rfl hE hh hf htm hn
  have e : execOp a.eval ⟨dst, .insert t m k x, type, pos, after, guard⟩ = execOp a.eval ⟨dst, .mapUpdate t m k x, type, pos, after, guard⟩ := rfl
  rw [e]
  exact this


/-! ### a row compared with nil -/
theorem slice_some {E : Env} {w : World} {x : AV} {v : Value} (hx : Rel E w x v) {k : Nat} (hk : alenN x = some k) : ∃ a c, v = .slice a k c ∧ (0 < k → ∃ b, a = some b) := by
  cases hx with
  | sl => cases hk; exact ⟨_, _, rfl, fun _ => ⟨_, rfl⟩⟩
  | msl => cases hk; exact ⟨_, _, rfl, fun _ => ⟨_, rfl⟩⟩
  | slnil => cases hk; exact ⟨_, _, rfl, fun h => by simp at h⟩
  | slempty => cases hk; exact ⟨_, _, rfl, fun h => by simp at h⟩
  | msl0 _ _ _ h => cases hk; rcases h with rfl | ⟨_, _, rfl⟩ <;> exact ⟨_, _, rfl, fun h => by omega⟩
  | eslnil => cases hk; exact ⟨_, _, rfl, fun h => by omega⟩
  | esl => cases hk; exact ⟨_, _, rfl, fun h => by omega⟩
  | _ => cases hk

def snilRes (neg : Bool) (k : Nat) (K : AV → Prop) : Prop := (0 < k → K (.bool neg)) ∧ (k = 0 → K (.bool true) ∧ K (.bool false))

theorem aspec_snil {P : Program} {t e ty : TypeId} {x : Operand} {neg : Bool} {T : Tm} {H : Hp} {nx : Nat} {K : AV → Hp → Nat → Prop} {k : Nat} (ht : telem P t = some e) (hk : alenN (ev T x) = some k)
    (h : snilRes neg k fun r => K r H nx) : aspec P (.binOp (if neg = true then .neq else .eql) t x (.const (.slice none 0 0)) ty) T H nx K := by
  refine aspec_of_run (by intro c; simp) ?_
  rintro E w a ⟨dst, op, type, pos, after, guard⟩ ho hE hh hf htm
  simp only at ho
  subst ho
  have hxr := ev_rel (E := E) (w := w) (a := a) htm x
  obtain ⟨ad, c, hv, hsome⟩ := slice_some hxr hk
  have hu := telem_eq ht
  have he0 : ∀ d, (Op.equalIn (d + 1) t (.slice ad k c) (.slice none 0 0)).run P w = .ok ad.isNone w := by
    intro d
    simp only [Op.equalIn, Sem.run_bind, run_underlying hu, Result.andThen_ok]
    cases ad <;> rfl
  have he := he0 9999
  have hrun : ∀ op, op = (if neg = true then BinOp.neq else BinOp.eql) → (do eqGuard op t x (.const (.slice none 0 0)) (.slice ad k c) (.slice none 0 0); binOp op t (.slice ad k c) (.slice none 0 0) : Sem Value).run P w = .ok (.bool (if neg = true then !ad.isNone else ad.isNone)) w := by
    intro op hop
    subst hop
    rw [Sem.run_bind, run_eqGuard (by simp) (by simp)]
    simp only [Result.andThen_ok]
    cases neg with
    | true => simp only [if_true, binOp, Op.equal, Op.maxDepth, Sem.run_bind, he, Result.andThen_ok]; rfl
    | false => simp only [Bool.false_eq_true, if_false, binOp, Op.equal, Op.maxDepth, Sem.run_bind, he, Result.andThen_ok]; rfl
  have hexec : (execOp a.eval ⟨dst, .binOp (if neg = true then .neq else .eql) t x (.const (.slice none 0 0)) ty, type, pos, after, guard⟩).run P w = .ok (.value (.bool (if neg = true then !ad.isNone else ad.isNone))) w := by
    refine run_lift ?_
    show (do eqGuard _ t x (.const (.slice none 0 0)) (a.eval x) (.slice none 0 0); binOp _ t (a.eval x) (.slice none 0 0) : Sem Value).run P w = _
    rw [hv]
    exact hrun _ rfl
  refine ⟨_, .bool (if neg = true then !ad.isNone else ad.isNone), w, E, .bool (if neg = true then !ad.isNone else ad.isNone), H, nx, hexec, .inl rfl, Ext.refl _ _, hE, hh, hf, .bool _, ?_⟩
  by_cases hk0 : k = 0
  · obtain ⟨h1, h2⟩ := h.2 hk0
    cases neg <;> cases ad <;> first | exact h1 | exact h2
  · obtain ⟨b, rfl⟩ := hsome (by omega)
    have := h.1 (by omega)
    cases neg <;> exact this

end Go.Abs
