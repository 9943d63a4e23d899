/- The operations that only read: their abstract value, and that it is right. -/
import Derived.Test.YtcbkggfipdldaaaXAbsA2
import Derived.Laws.StructEq
import Derived.Laws.Pointers
namespace Go.Abs
open Go.RowKit

def ofV1 : Value → AV
  | .bool b => .bool b
  | .int k n => .int k n
  | .string s => .str s
  | .pointer none => .nilp
  | .slice none 0 0 => .esl
  | .nilFunc => .nilf
  | _ => .undef
def ofV : Value → AV
  | .agg cs => .agg (cs.toList.map ofV1)
  | .tuple cs => .tup (cs.toList.map ofV1)
  | v => ofV1 v

theorem ofV1_rel (E : Env) (w : World) (v : Value) : Rel E w (ofV1 v) v := by
  unfold ofV1
  split <;> constructor

theorem ofV_rel (E : Env) (w : World) (v : Value) : Rel E w (ofV v) v := by
  unfold ofV
  split
  · rename_i cs
    have := Rel.agg (E := E) (w := w) (cs.toList.map ofV1) cs.toList (by simp) (fun i x y hx hy => by
      rw [List.getElem?_map, hy] at hx; cases hx; exact ofV1_rel E w y)
    simpa using this
  · rename_i cs
    have := Rel.tup (E := E) (w := w) (cs.toList.map ofV1) cs.toList (by simp) (fun i x y hx hy => by
      rw [List.getElem?_map, hy] at hx; cases hx; exact ofV1_rel E w y)
    simpa using this
  · exact ofV1_rel E w _

def ev (T : Nat → AV) : Operand → AV
  | .tmp t => T t
  | .const v => ofV v
  | .global _ => .undef
  | .func f => .func f []

theorem ev_rel {E : Env} {w : World} {T : Nat → AV} {a : Act} (h : ∀ t, Rel E w (T t) (a.tmps.getD t Go.undef)) (x : Operand) : Rel E w (ev T x) (a.eval x) := by
  cases x with
  | tmp t => exact h t
  | const v => exact ofV_rel E w v
  | global g => exact .undef _
  | func f => exact Rel.func f [] [] rfl (by simp)

/-! ### integers, bools, strings -/
def aarith (op : BinOp) (k : IntKind) (a b : Int) : Option AV :=
  match op with
  | .add => some (.int k (k.wrap (a + b)))
  | .sub => some (.int k (k.wrap (a - b)))
  | .mul => some (.int k (k.wrap (a * b)))
  | .quo => if b = 0 then none else some (.int k (k.wrap (a.tdiv b)))
  | .rem => if b = 0 then none else some (.int k (a.tmod b))
  | .and => some (.int k (k.wrap (BitVec.ofInt k.bits a &&& BitVec.ofInt k.bits b).toNat))
  | .or => some (.int k (k.wrap (BitVec.ofInt k.bits a ||| BitVec.ofInt k.bits b).toNat))
  | .xor => some (.int k (k.wrap (BitVec.ofInt k.bits a ^^^ BitVec.ofInt k.bits b).toNat))
  | .andNot => some (.int k (k.wrap (BitVec.ofInt k.bits a &&& ~~~BitVec.ofInt k.bits b).toNat))
  | .eql => some (.bool (a == b))
  | .neq => some (.bool (a != b))
  | .lss => some (.bool (a < b))
  | .leq => some (.bool (a ≤ b))
  | .gtr => some (.bool (a > b))
  | .geq => some (.bool (a ≥ b))
  | _ => none

def ashift (op : BinOp) (k : IntKind) (a b : Int) : Option AV :=
  if b < 0 then none else
  match op with
  | .shl => some (.int k (k.wrap (a * 2 ^ (min b.toNat k.bits))))
  | .shr => some (.int k (a.fdiv (2 ^ (min b.toNat k.bits))))
  | _ => none

def astrop (op : BinOp) (x y : ByteArray) : Option AV :=
  match op with
  | .add => if x.size + y.size ≤ 9223372036854775807 then some (.str (x ++ y)) else none
  | .eql => some (.bool (x.toList == y.toList))
  | .neq => some (.bool (!(x.toList == y.toList)))
  | .lss => some (.bool (Op.bytesLess x.toList y.toList))
  | .leq => some (.bool (Op.bytesLess x.toList y.toList || x.toList == y.toList))
  | .gtr => some (.bool (!(Op.bytesLess x.toList y.toList || x.toList == y.toList)))
  | .geq => some (.bool (!(Op.bytesLess x.toList y.toList)))
  | _ => none

/-! ### equality of plain values -/
inductive TK where
  | int | str | bool
  deriving DecidableEq

def tk1 (P : Program) (t : TypeId) : Option TK := match P.underlying t with
  | some (.int _) => some .int
  | some .string => some .str
  | some .bool => some .bool
  | _ => none

/-- a struct's fields are plain, one cell each -/
def tkF (P : Program) : Nat → List Field → Option (List TK)
  | _, [] => some []
  | i, f :: fs => if f.name ≠ "_" ∧ f.offset = i then (match tk1 P f.type, tkF P (i + 1) fs with
    | some k, some ks => some (k :: ks)
    | _, _ => none) else none

def tkS (P : Program) (t : TypeId) : Option (List TK) := match P.underlying t with
  | some (.struct fs) => if P.stoodInHeld t = false ∧ P.eqGuardType P.depth t = false then tkF P 0 fs.toList else none
  | _ => none

def same1 (k : TK) (x y : AV) : Option Bool := match k, x, y with
  | .int, .int j a, .int j' b => if j = j' then some (a == b) else none
  | .str, .str a, .str b => some (a.toList == b.toList)
  | .bool, .bool a, .bool b => some (a == b)
  | _, _, _ => none

def sameL : List TK → List AV → List AV → Option Bool
  | [], [], [] => some true
  | k :: ks, x :: xs, y :: ys => match same1 k x y with
    | some true => sameL ks xs ys
    | some false => some false
    | none => none
  | _, _, _ => none

theorem same1_sound {P : Program} {E : Env} {w : World} {t : TypeId} {k : TK} {x y : AV} {vx vy : Value} {r : Bool} (hk : tk1 P t = some k) (hx : Rel E w x vx) (hy : Rel E w y vy) (h : same1 k x y = some r) (d : Nat) :
    (Op.equalIn (d + 1) t vx vy).run P w = .ok r w := by
  unfold same1 at h
  unfold tk1 at hk
  split at h
  · cases hx; cases hy
    split at h
    · rename_i e; subst e; cases h
      split at hk <;> first | (cases hk; done) | skip
      rename_i hu
      exact run_equalIn_int w d t _ _ _ _ hu
    · cases h
  · cases hx; cases hy; cases h
    split at hk <;> first | (cases hk; done) | skip
    rename_i hu
    exact run_equalIn_string w d t _ _ hu
  · cases hx; cases hy; cases h
    split at hk <;> first | (cases hk; done) | skip
    rename_i hu
    exact run_equalIn_bool' w d t _ _ hu
  · cases h

theorem part_plain {P : Program} {w : World} {t : TypeId} {k : TK} (hk : tk1 P t = some k) {cs : Array Value} {i : Nat} {v : Value} (h : cs[i]? = some v) : (part t cs i).run P w = .ok v w := by
  have ht : tok P t = true ∧ tagg P t = false := by
    unfold tk1 at hk
    unfold tok tagg
    split at hk <;> first | (cases hk; done) | (rename_i hu; simp [hu])
  simp [part, run_isAgg ht.1, ht.2, h]

theorem sameF_sound {P : Program} {E : Env} {w : World} {d : Nat} {vx vy : List Value} : ∀ (fs : List Field) (i : Nat) (ks : List TK) (xs ys : List AV) (r : Bool), tkF P i fs = some ks →
    (∀ (j : Nat) (x : AV), xs[j]? = some x → ∃ v, vx[i + j]? = some v ∧ Rel E w x v) → (∀ (j : Nat) (x : AV), ys[j]? = some x → ∃ v, vy[i + j]? = some v ∧ Rel E w x v) → sameL ks xs ys = some r →
    (Op.eqFields (d + 1) vx.toArray vy.toArray fs).run P w = .ok r w
  | [], i, ks, xs, ys, r, hk, hx, hy, h => by
    cases hk
    cases xs <;> cases ys <;> first | (cases h; done) | skip
    cases h; rfl
  | f :: fs, i, ks, xs, ys, r, hk, hx, hy, h => by
    simp only [tkF] at hk
    split at hk
    case isFalse => cases hk
    case isTrue hc =>
    obtain ⟨hn, ho⟩ := hc
    split at hk
    case h_2 => cases hk
    rename_i k ks' h1 h2
    cases hk
    cases xs with
    | nil => cases h
    | cons x xs =>
    cases ys with
    | nil => cases h
    | cons y ys =>
    obtain ⟨v1, e1, r1⟩ := hx 0 x rfl
    obtain ⟨v2, e2, r2⟩ := hy 0 y rfl
    simp only [sameL] at h
    have p1 := part_plain (P := P) (w := w) h1 (cs := vx.toArray) (i := f.offset) (v := v1) (by rw [ho]; simpa using e1)
    have p2 := part_plain (P := P) (w := w) h1 (cs := vy.toArray) (i := f.offset) (v := v2) (by rw [ho]; simpa using e2)
    have rest : ∀ r', sameL ks' xs ys = some r' → (Op.eqFields (d + 1) vx.toArray vy.toArray fs).run P w = .ok r' w := fun r' h' =>
      sameF_sound fs (i + 1) ks' xs ys r' h2 (fun j x hj => by have := hx (j + 1) x (by simpa using hj); rwa [show i + 1 + j = i + (j + 1) by omega]) (fun j x hj => by have := hy (j + 1) x (by simpa using hj); rwa [show i + 1 + j = i + (j + 1) by omega]) h'
    simp only [Op.eqFields, hn, ne_eq, not_false_eq_true, if_true, Sem.run_bind, p1, p2, Result.andThen_ok]
    split at h
    · rename_i hs
      rw [same1_sound h1 r1 r2 hs d]
      simp only [Result.andThen_ok, Bool.not_true, Bool.false_eq_true, if_false]
      exact rest r h
    · rename_i hs
      cases h
      rw [same1_sound h1 r1 r2 hs d]
      rfl
    · cases h

theorem tkS_eq {P : Program} {t : TypeId} {ks : List TK} (h : tkS P t = some ks) : P.underlying t = some (.struct (P.fieldsOf t)) ∧ P.stoodInHeld t = false ∧ P.eqGuardType P.depth t = false ∧ tkF P 0 (P.fieldsOf t).toList = some ks := by
  unfold tkS at h
  split at h
  · rename_i fs hu
    split at h
    · rename_i hc
      have e : P.fieldsOf t = fs := by simp [Program.fieldsOf, hu]
      rw [e]; exact ⟨hu, hc.1, hc.2, h⟩
    · cases h
  · cases h

theorem sameS_sound {P : Program} {E : Env} {w : World} {t : TypeId} {ks : List TK} {xs ys : List AV} {vx vy : Value} {r : Bool} (hk : tkS P t = some ks) (hx : Rel E w (.agg xs) vx) (hy : Rel E w (.agg ys) vy) (h : sameL ks xs ys = some r) (d : Nat) :
    (Op.equalIn (d + 2) t vx vy).run P w = .ok r w := by
  obtain ⟨h1, h2, _, h4⟩ := tkS_eq hk
  cases hx with
  | agg _ v1 l1 r1 =>
  cases hy with
  | agg _ v2 l2 r2 =>
  rw [run_equalIn_agg w (d + 1) t _ _ h1 h2]
  refine sameF_sound (E := E) _ 0 ks xs ys r h4 (fun j x hj => ?_) (fun j x hj => ?_) h
  · have hlt : j < v1.length := by have := (List.getElem?_eq_some_iff.1 hj).1; omega
    exact ⟨v1[j], by simp [hlt], r1 j x _ hj (by simp [hlt])⟩
  · have hlt : j < v2.length := by have := (List.getElem?_eq_some_iff.1 hj).1; omega
    exact ⟨v2[j], by simp [hlt], r2 j x _ hj (by simp [hlt])⟩

def acmpS (op : BinOp) (ks : List TK) (xs ys : List AV) : Option AV := match op, sameL ks xs ys with
  | .eql, some b => some (.bool b)
  | .neq, some b => some (.bool (!b))
  | _, _ => none

def abin (P : Program) (op : BinOp) (t : TypeId) (x y : AV) : Option AV :=
  match x, y with
  | .agg xs, .agg ys => match tkS P t with | some ks => acmpS op ks xs ys | none => none
  | .int k a, .int k' b => if op = .shl ∨ op = .shr then ashift op k a b else if k = k' then aarith op k a b else none
  | .bool a, .bool b => if tbool P t then (match op with | .eql => some (.bool (a == b)) | .neq => some (.bool (!(a == b))) | _ => none) else none
  | .str a, .str b => astrop op a b
  | .nilf, .nilf => match P.underlying t, op with
    | some (.func ..), .eql => some (.bool true)
    | some (.func ..), .neq => some (.bool false)
    | _, _ => none
  | .func _ _, .nilf => match P.underlying t, op with
    | some (.func ..), .eql => some (.bool false)
    | some (.func ..), .neq => some (.bool true)
    | _, _ => none
  | _, _ => none

theorem run_shift {P : Program} {w : World} {op : BinOp} {k k' : IntKind} {a b : Int} {r : AV} (h : ashift op k a b = some r) :
    ∃ v, (Op.shift op k a k' b).run P w = .ok v w ∧ ∀ E, Rel E w r v := by
  unfold ashift at h
  split at h
  case isTrue => cases h
  case isFalse hb =>
    unfold Op.shift
    simp only [hb, if_false]
    cases op <;> simp at h <;> subst h <;> exact ⟨_, rfl, fun E => .int _ _⟩

theorem run_arith {P : Program} {w : World} {op : BinOp} {k : IntKind} {a b : Int} {t : TypeId} {r : AV} (h : aarith op k a b = some r) :
    ∃ v, (binOp op t (.int k a) (.int k b)).run P w = .ok v w ∧ ∀ E, Rel E w r v := by
  cases op <;> simp only [aarith] at h
  case quo =>
    split at h
    · cases h
    · rename_i hb; cases h
      exact ⟨_, by simp only [binOp, Op.intDiv, ne_eq, not_true_eq_false, if_false, hb]; rfl, fun E => .int _ _⟩
  case rem =>
    split at h
    · cases h
    · rename_i hb; cases h
      exact ⟨_, by simp only [binOp, Op.intDiv, ne_eq, not_true_eq_false, if_false, hb]; rfl, fun E => .int _ _⟩
  case shl => cases h
  case shr => cases h
  all_goals
    cases h
    refine ⟨_, by simp only [binOp, Op.intArith, Op.intBits, Op.intCmp, ne_eq, not_true_eq_false, if_false]; rfl, fun E => ?_⟩
    constructor

theorem run_strop {P : Program} {w : World} {op : BinOp} {x y : ByteArray} {r : AV} (h : astrop op x y = some r) :
    ∃ v, (Op.stringOp op x y).run P w = .ok v w ∧ ∀ E, Rel E w r v := by
  cases op <;> simp only [astrop] at h
  case add =>
    split at h
    case isFalse => cases h
    case isTrue hs =>
      cases h
      refine ⟨_, ?_, fun E => .str _⟩
      unfold Op.stringOp
      simp only
      rw [if_neg]
      · rfl
      · have : IntKind.i64.max = 9223372036854775807 := by decide
        rw [this]; omega
  all_goals first
    | (cases h; done)
    | (cases h
       refine ⟨_, by unfold Op.stringOp; rfl, fun E => ?_⟩
       constructor)

theorem ite_both {β : Type} {c : Prop} [Decidable c] {x y z : β} (hx : x = z) (hy : y = z) : (if c then x else y) = z := by split <;> assumption

theorem run_eqGuard {P : Program} {w : World} {op : BinOp} {t : TypeId} {x y : Operand} {a b : Value}
    (h : ¬ (a = .nilIface ∧ b = .nilIface)) (h2 : ∀ c, a ≠ .agg c) : (eqGuard op t x y a b).run P w = .ok () w := by
  unfold eqGuard
  rw [Sem.run_ite]
  refine ite_both rfl ?_
  cases a <;> cases b <;> first | rfl | (exact absurd ⟨rfl, rfl⟩ h) | (exact absurd rfl (h2 _))

theorem abin_sound {P : Program} {E : Env} {w : World} {op : BinOp} {t : TypeId} {x y : AV} {vx vy : Value} {r : AV} (ox oy : Operand)
    (hx : Rel E w x vx) (hy : Rel E w y vy) (h : abin P op t x y = some r) :
    ∃ v, (do eqGuard op t ox oy vx vy; binOp op t vx vy : Sem Value).run P w = .ok v w ∧ Rel E w r v := by
  unfold abin at h
  split at h
  · rename_i xs ys
    split at h
    case h_2 => cases h
    rename_i ks hks
    have hE := (tkS_eq hks).2.2.1
    unfold acmpS at h
    split at h
    · rename_i b hs
      cases h
      have := sameS_sound hks hx hy hs 9998
      cases hx; cases hy
      rw [Sem.run_bind, run_eqGuard_agg w _ t _ _ _ _ hE]
      simp only [Result.andThen_ok]
      exact ⟨_, by rw [run_eql_struct w, this]; rfl, .bool _⟩
    · rename_i b hs
      cases h
      have := sameS_sound hks hx hy hs 9998
      cases hx; cases hy
      rw [Sem.run_bind, run_eqGuard_agg w _ t _ _ _ _ hE]
      simp only [Result.andThen_ok]
      exact ⟨_, by rw [run_neq_struct w, this]; rfl, .bool _⟩
    · cases h
  · rename_i k a k' b
    cases hx; cases hy
    rw [Sem.run_bind, run_eqGuard (by simp) (by simp)]
    simp only [Result.andThen_ok]
    split at h
    case isTrue hs =>
      obtain ⟨v, hv, hr⟩ := run_shift (P := P) (w := w) (k' := k') h
      refine ⟨v, ?_, hr E⟩
      rcases hs with rfl | rfl <;> exact hv
    case isFalse hs =>
      split at h
      case isFalse => cases h
      case isTrue hk =>
        subst hk
        obtain ⟨v, hv, hr⟩ := run_arith (P := P) (w := w) (t := t) h
        exact ⟨v, hv, hr E⟩
  · rename_i a b
    cases hx; cases hy
    rw [Sem.run_bind, run_eqGuard (by simp) (by simp)]
    simp only [Result.andThen_ok]
    split at h
    case isFalse => cases h
    case isTrue ht =>
      have hu : P.underlying t = some .bool := by
        unfold tbool at ht
        cases hd : P.underlying t with
        | none => simp [hd] at ht
        | some d => cases d <;> simp [hd] at ht; rfl
      cases op <;> simp at h <;> subst h
      · exact ⟨_, run_eql_bool w t a b hu, .bool _⟩
      · exact ⟨_, run_neq_bool w t a b hu, by have := Rel.bool (E := E) (w := w) (!(a == b)); simpa [bne] using this⟩
  · rename_i a b
    cases hx; cases hy
    rw [Sem.run_bind, run_eqGuard (by simp) (by simp)]
    simp only [Result.andThen_ok]
    obtain ⟨v, hv, hr⟩ := run_strop (P := P) (w := w) h
    refine ⟨v, ?_, hr E⟩
    have : binOp op t (.string a) (.string b) = Op.stringOp op a b := by unfold binOp; cases op <;> rfl
    rw [this]; exact hv
  · cases hx; cases hy
    rw [Sem.run_bind, run_eqGuard (by simp) (by simp)]
    simp only [Result.andThen_ok]
    have he : ∀ d ps rs vr, P.underlying t = some (.func ps rs vr) → (Op.equalIn (d + 1) t .nilFunc .nilFunc).run P w = .ok true w := fun d ps rs vr hu => by
      simp [Op.equalIn, run_underlying hu]
    split at h <;> cases h
    · rename_i ps rs vr hu
      exact ⟨.bool true, by simp only [binOp, Op.equal, Op.maxDepth, Sem.run_bind, he 9999 _ _ _ hu, Result.andThen_ok]; rfl, .bool _⟩
    · rename_i ps rs vr hu
      exact ⟨.bool false, by simp only [binOp, Op.equal, Op.maxDepth, Sem.run_bind, he 9999 _ _ _ hu, Result.andThen_ok]; rfl, .bool _⟩
  · rename_i f caps
    cases hy
    cases hx with
    | func f caps cv hl hr =>
    rw [Sem.run_bind, run_eqGuard (by simp) (by simp)]
    simp only [Result.andThen_ok]
    have he : ∀ d ps rs vr, P.underlying t = some (.func ps rs vr) → (Op.equalIn (d + 1) t (.func (.func f) #[] cv.toArray) .nilFunc).run P w = .ok false w := fun d ps rs vr hu => by
      simp [Op.equalIn, run_underlying hu]
    split at h <;> cases h
    · rename_i ps rs vr hu
      exact ⟨.bool false, by simp only [binOp, Op.equal, Op.maxDepth, Sem.run_bind, he 9999 _ _ _ hu, Result.andThen_ok]; rfl, .bool _⟩
    · rename_i ps rs vr hu
      exact ⟨.bool true, by simp only [binOp, Op.equal, Op.maxDepth, Sem.run_bind, he 9999 _ _ _ hu, Result.andThen_ok]; rfl, .bool _⟩
  · cases h

end Go.Abs
