/- The operations that only read, all of them: aval. -/
import Derived.Test.YtcbkggfipdldaaaXAbsA3
namespace Go.Abs
open Go.RowKit

def aun (op : UnOp) (x : AV) : Option AV :=
  match op, x with
  | .neg, .int k n => some (.int k (k.wrap (0 - n)))
  | .xor, .int k n => some (.int k (k.wrap (BitVec.ofInt k.bits (if k.signed then -1 else k.max) ^^^ BitVec.ofInt k.bits n).toNat))
  | .not, .bool b => some (.bool (!b))
  | _, _ => none

theorem aun_sound {P : Program} {E : Env} {w : World} {op : UnOp} {x : AV} {vx : Value} {r : AV} (hx : Rel E w x vx) (h : aun op x = some r) :
    ∃ v, (Op.unary op vx).run P w = .ok v w ∧ Rel E w r v := by
  unfold aun at h
  split at h <;> cases h <;> cases hx
  · exact ⟨_, rfl, .int _ _⟩
  · exact ⟨_, rfl, .int _ _⟩
  · exact ⟨_, rfl, .bool _⟩

/-- integer to integer -/
def aconv (P : Program) (src dst : TypeId) (x : AV) : Option AV :=
  match x with
  | .int _ n => if tok P src then (match tint P dst with | some k => some (.int k (k.wrap n)) | none => none) else none
  | _ => none

theorem aconv_sound {P : Program} {E : Env} {w : World} {src dst : TypeId} {x : AV} {vx : Value} {r : AV} (hx : Rel E w x vx) (h : aconv P src dst x = some r) :
    ∃ v, (convert src dst vx).run P w = .ok v w ∧ Rel E w r v := by
  unfold aconv at h
  split at h
  · rename_i k0 n
    cases hx
    split at h
    case isFalse => cases h
    case isTrue hs =>
      split at h
      · rename_i k hk
        cases h
        unfold tok at hs
        unfold tint at hk
        cases hd : P.underlying src with
        | none => simp [hd] at hs
        | some d =>
          cases hd2 : P.underlying dst with
          | none => simp [hd2] at hk
          | some d2 =>
            cases d2 <;> simp [hd2] at hk
            subst hk
            refine ⟨_, ?_, .int _ _⟩
            simp only [convert, Sem.run_bind, run_underlying hd, run_underlying hd2, Result.andThen_ok]
            cases d <;> rfl
      · cases h
  · cases h

/-- a part of a struct's or an array's cells -/
def apart (P : Program) (t : TypeId) (cs : List AV) (off : Nat) : Option AV :=
  if tok P t then
    if tagg P t then (if off + P.cellsOf t ≤ cs.length then some (.agg ((cs.drop off).take (P.cellsOf t))) else none) else cs[off]?
  else none

theorem apart_sound {P : Program} {E : Env} {w : World} {t : TypeId} {cs : List AV} {vs : List Value} {off : Nat} {r : AV} (hl : vs.length = cs.length)
    (hr : ∀ (i : Nat) (x : AV) (y : Value), cs[i]? = some x → vs[i]? = some y → Rel E w x y) (h : apart P t cs off = some r) :
    ∃ v, (part t vs.toArray off).run P w = .ok v w ∧ Rel E w r v := by
  unfold apart at h
  split at h
  case isFalse => cases h
  case isTrue ht =>
    split at h
    case isTrue ha =>
      split at h
      case isFalse => cases h
      case isTrue hle =>
        cases h
        refine ⟨.agg ((vs.drop off).take (P.cellsOf t)).toArray, ?_, .agg _ _ (by simp; omega) ?_⟩
        · simp only [part, Sem.run_bind, run_isAgg ht, ha, if_true, run_sizeOf' ht, Result.andThen_ok, Sem.run_pure]
          congr 2
          rw [List.extract_toArray]
          congr 1
          rw [List.extract_eq_take_drop]
          congr 1
          omega
        · intro i x y hx hy
          rw [List.getElem?_take] at hx hy
          split at hx
          case isFalse => cases hx
          case isTrue hi =>
            rw [if_pos hi] at hy
            rw [List.getElem?_drop] at hx hy
            exact hr _ _ _ hx hy
    case isFalse ha =>
      have hlt : off < vs.length := by have := (List.getElem?_eq_some_iff.1 h).1; omega
      refine ⟨vs[off], ?_, hr off r _ h (by simp [hlt])⟩
      simp [part, run_isAgg ht, ha, hlt]

def afield (P : Program) (t : TypeId) (x : AV) (f : Nat) : Option AV :=
  match x, P.underlying t with
  | .agg cs, some (.struct fs) => match fs[f]? with
    | some fd => apart P fd.type cs fd.offset
    | none => none
  | _, _ => none

theorem afield_sound {P : Program} {E : Env} {w : World} {t : TypeId} {x : AV} {vx : Value} {f : Nat} {r : AV} (hx : Rel E w x vx) (h : afield P t x f = some r) :
    ∃ v, (Instr.field t vx f).run P w = .ok v w ∧ Rel E w r v := by
  unfold afield at h
  split at h
  · rename_i cs fs hu
    cases hx with
    | agg cs vs hl hr =>
    split at h
    · rename_i fd hf
      obtain ⟨v, hv, hrel⟩ := apart_sound (P := P) hl hr h
      refine ⟨v, ?_, hrel⟩
      simp [Instr.field, run_underlying hu, hf, asAgg, hv]
    · cases h
  · cases h

def aindex (P : Program) (t : TypeId) (x i : AV) : Option AV :=
  match x, i with
  | .agg cs, .int _ n => match tarr P t with
    | some (len, e) => if 0 ≤ n ∧ n < len then apart P e cs (n.toNat * P.cellsOf e) else none
    | none => none
  | .str s, .int _ n => match P.underlying t with
    | some .string => if 0 ≤ n then (match s[n.toNat]? with | some b => some (.int .u8 b.toNat) | none => none) else none
    | _ => none
  | _, _ => none

theorem tarr_eq {P : Program} {t : TypeId} {n : Nat} {e : TypeId} (h : tarr P t = some (n, e)) : P.underlying t = some (.array n e) := by
  unfold tarr at h
  cases hd : P.underlying t with
  | none => simp [hd] at h
  | some d => cases d <;> simp [hd] at h; obtain ⟨rfl, rfl⟩ := h; rfl

theorem telem_eq {P : Program} {t : TypeId} {e : TypeId} (h : telem P t = some e) : P.underlying t = some (.slice e) := by
  unfold telem at h
  cases hd : P.underlying t with
  | none => simp [hd] at h
  | some d => cases d <;> simp [hd] at h; subst h; rfl

theorem apart_tok {P : Program} {t : TypeId} {cs : List AV} {off : Nat} {r : AV} (h : apart P t cs off = some r) : tok P t = true := by
  unfold apart at h
  split at h
  · assumption
  · cases h

theorem aindex_sound {P : Program} {E : Env} {w : World} {t : TypeId} {x i : AV} {vx vi : Value} {r : AV} (hx : Rel E w x vx) (hi : Rel E w i vi) (h : aindex P t x i = some r) :
    ∃ v, (Instr.index t vx vi).run P w = .ok v w ∧ Rel E w r v := by
  unfold aindex at h
  split at h
  · rename_i cs k n
    cases hi
    cases hx with
    | agg cs vs hl hr =>
    split at h
    · rename_i len e he
      split at h
      case isFalse => cases h
      case isTrue hb =>
        obtain ⟨v, hv, hrel⟩ := apart_sound (P := P) hl hr h
        refine ⟨v, ?_, hrel⟩
        simp [Instr.index, asIntOf, run_underlying (tarr_eq he), hb, run_sizeOf' (apart_tok h), hv]
    · cases h
  · rename_i s k n
    cases hi
    cases hx
    split at h
    · rename_i hu
      split at h
      case isFalse => cases h
      case isTrue hb =>
        split at h
        · rename_i b hs
          cases h
          refine ⟨_, ?_, .int _ _⟩
          simp [Instr.index, asIntOf, run_underlying hu, hb, hs]
        · cases h
    · cases h
  · cases h

def aextract (x : AV) (i : Nat) : Option AV :=
  match x with
  | .tup vs => vs[i]?
  | _ => none

theorem aextract_sound {P : Program} {E : Env} {w : World} {x : AV} {vx : Value} {i : Nat} {r : AV} (hx : Rel E w x vx) (h : aextract x i = some r) :
    ∃ v, (Instr.extract vx i).run P w = .ok v w ∧ Rel E w r v := by
  unfold aextract at h
  split at h
  · cases hx with
    | tup cs vs hl hr =>
    have hlt : i < vs.length := by have := (List.getElem?_eq_some_iff.1 h).1; omega
    exact ⟨vs[i], by simp [Instr.extract, hlt], hr i r _ h (by simp [hlt])⟩
  · cases h

def apadd (k : Nat) : AV → Option AV
  | .ptr b n off => some (.ptr b n (off + k))
  | .iptr cells off => some (.iptr cells (off + k))
  | _ => none

theorem apadd_sound {E : Env} {w : World} {p : AV} {v : Value} {k : Nat} {r : AV} (hp : Rel E w p v) (h : apadd k p = some r) :
    ∃ blk o, v = .pointer (some ⟨blk, o, none⟩) ∧ Rel E w r (.pointer (some ⟨blk, o + k, none⟩)) := by
  unfold apadd at h
  split at h
  · cases h
    cases hp with
    | ptr b n off blk sz hm => exact ⟨blk, _, rfl, .ptr _ _ _ _ _ hm⟩
  · cases h
    cases hp with
    | iptr cells off blk o vals hi hc hr => exact ⟨blk, _, rfl, by rw [Nat.add_assoc]; exact .iptr _ _ _ _ _ hi hc hr⟩
  · cases h

def afieldAddr (P : Program) (t : TypeId) (p : AV) (f : Nat) : Option AV :=
  match foff P t f with
  | some k => apadd k p
  | none => none

theorem afieldAddr_sound {P : Program} {E : Env} {w : World} {t : TypeId} {p : AV} {v : Value} {f : Nat} {r : AV} (hp : Rel E w p v) (h : afieldAddr P t p f = some r) :
    ∃ u, (Instr.fieldAt t v f).run P w = .ok u w ∧ Rel E w r u := by
  unfold afieldAddr at h
  split at h
  · rename_i k hk
    obtain ⟨blk, o, rfl, hr⟩ := apadd_sound hp h
    refine ⟨_, ?_, hr⟩
    unfold foff at hk
    cases hd : P.underlying t with
    | none => simp [hd] at hk
    | some d =>
      cases d <;> simp only [hd] at hk <;> try (cases hk)
      rename_i fs
      cases hf : fs[f]? with
      | none => simp [hf] at hk
      | some fd =>
        simp only [hf] at hk
        split at hk
        · cases hk
        · rename_i hz
          cases hk
          simp only [Bool.or_eq_true, decide_eq_true_eq, not_or, Bool.not_eq_true] at hz
          obtain ⟨hz1, hz2⟩ := hz
          cases hi : P.info? fd.type with
          | none => simp [hi] at hz2
          | some i =>
          have hsz : (sizeOf fd.type).run P w = .ok (P.cellsOf fd.type) w := by simp [sizeOf, typeInfo, hi, Program.cellsOf]
          simp only [Instr.fieldAt, Sem.run_bind, run_underlying hd, Result.andThen_ok, hf, Instr.sureAddr, Sem.run_pure, fieldPlace, hsz, hz1, if_false, addr_add]
  · cases h

def aindexAddr (P : Program) (t : TypeId) (x i : AV) : Option AV :=
  match i with
  | .int _ n =>
    match P.underlying t with
    | some (.array len e) => if tok P e ∧ 0 ≤ n ∧ n < len then apadd (n.toNat * P.cellsOf e) x else none
    | some (.slice e) => if tok P e then (match x with
      | .sl sz elems => if sz = P.cellsOf e ∧ 0 ≤ n then (match elems[n.toNat]? with | some y => some (.iptr y.cells 0) | none => none) else none
      | .msl b m sz off len => if sz = P.cellsOf e ∧ 0 ≤ n ∧ n < len then some (.ptr b m (off + n.toNat * sz)) else none
      | _ => none) else none
    | _ => none
  | _ => none

theorem aindexAddr_sound {P : Program} {E : Env} {w : World} {t : TypeId} {x i : AV} {vx vi : Value} {r : AV} (hx : Rel E w x vx) (hi : Rel E w i vi) (h : aindexAddr P t x i = some r) :
    ∃ v, (Instr.indexAt t vx vi).run P w = .ok v w ∧ Rel E w r v := by
  unfold aindexAddr at h
  split at h
  · rename_i k n
    cases hi
    split at h
    · rename_i len e hu
      split at h
      case isFalse => cases h
      case isTrue hc =>
        obtain ⟨he, h0, h1⟩ := hc
        obtain ⟨blk, o, rfl, hr⟩ := apadd_sound hx h
        refine ⟨_, ?_, hr⟩
        simp [Instr.indexAt, asIntOf, run_underlying hu, Instr.sureAddr, h0, h1, run_sizeOf' he, addr_add]
    · rename_i e hu
      split at h
      case isFalse => cases h
      case isTrue he =>
        split at h
        · rename_i sz elems
          split at h
          case isFalse => cases h
          case isTrue hc =>
            obtain ⟨rfl, h0⟩ := hc
            split at h
            · rename_i y hy
              cases h
              have hlt : n.toNat < elems.length := (List.getElem?_eq_some_iff.1 hy).1
              have h1 : n < (elems.length : Int) := by omega
              cases hx with
              | slnil sz => simp at hlt
              | slempty sz => simp at hlt
              | sl sz elems blk o cap vals him hlen hsz hcell hr =>
              have hyl : y.cells.length = P.cellsOf e := hsz y (List.mem_of_getElem? hy)
              refine ⟨.pointer (some ⟨blk, o + n.toNat * P.cellsOf e, none⟩), ?_, ?_⟩
              · simp [Instr.indexAt, asIntOf, run_underlying hu, h0, h1, run_sizeOf' he, addr_add]
              · have := Rel.iptr (E := E) (w := w) y.cells 0 blk (o + n.toNat * P.cellsOf e) (fun j => vals (n.toNat * P.cellsOf e + j)) him (fun j hj => by
                  rw [Nat.add_assoc]
                  refine hcell _ ?_
                  rw [hyl] at hj
                  have : (n.toNat + 1) * P.cellsOf e ≤ elems.length * P.cellsOf e := Nat.mul_le_mul_right _ hlt
                  rw [Nat.add_mul] at this
                  omega) (fun j z hz => hr _ _ _ _ hy hz)
                exact this
            · cases h
        · rename_i b m sz off len
          split at h
          case isFalse => cases h
          case isTrue hc =>
            obtain ⟨rfl, h0, h1⟩ := hc
            cases h
            cases hx with
            | msl _ _ _ _ _ blk bsz cap hm hl hcp hn =>
              refine ⟨_, ?_, .ptr _ _ _ _ _ hm⟩
              simp [Instr.indexAt, asIntOf, run_underlying hu, h0, h1, run_sizeOf' he, addr_add]
            | msl0 b sz v hv => omega
        · cases h
    · cases h
  · cases h

def alen (P : Program) (t : TypeId) (x : AV) : Option AV :=
  match P.underlying t, x with
  | some (.slice _), .sl _ elems => some (.int .i64 elems.length)
  | some (.slice _), .esl => some (.int .i64 0)
  | some (.slice _), .msl _ _ _ _ len => some (.int .i64 len)
  | some .string, .str s => some (.int .i64 s.size)
  | some (.array n _), _ => some (.int .i64 n)
  | _, _ => none

theorem alen_sound {P : Program} {E : Env} {w : World} {t : TypeId} {x : AV} {vx : Value} {r : AV} (ty : TypeId) (hx : Rel E w x vx) (h : alen P t x = some r) :
    ∃ v, (Builtin.len_ #[t] ty #[vx]).run P w = .ok v w ∧ Rel E w r v := by
  unfold alen at h
  split at h <;> cases h
  · rename_i e sz elems hu
    refine ⟨_, ?_, .int _ _⟩
    cases hx <;> simp [Builtin.len_, run_underlying hu, goInt]
  · rename_i e hu
    refine ⟨_, ?_, .int _ _⟩
    cases hx <;> simp [Builtin.len_, run_underlying hu, goInt]
  · rename_i e b n sz off len hu
    refine ⟨_, ?_, .int _ _⟩
    cases hx with
    | msl => simp [Builtin.len_, run_underlying hu, goInt]
    | msl0 b sz v hv => rcases hv with rfl | ⟨_, _, rfl⟩ <;> simp [Builtin.len_, run_underlying hu, goInt]
  · rename_i s hu
    cases hx
    exact ⟨_, by simp [Builtin.len_, run_underlying hu]; rfl, .int _ _⟩
  · rename_i n e hu
    exact ⟨_, by simp [Builtin.len_, run_underlying hu]; rfl, .int _ _⟩

/-- bounds of a slice expression, whole numbers or none -/
def abound (d : Nat) : Option AV → Option Nat
  | none => some d
  | some (.int _ n) => if 0 ≤ n then some n.toNat else none
  | some _ => none

def aslice (P : Program) (t : TypeId) (x : AV) (lo hi mx : Option AV) : Option AV :=
  match P.underlying t with
  | some (.slice e) => if tok P e then
      match x with
      | .sl sz elems =>
        match abound 0 lo, abound elems.length hi, mx with
        | some l, some h, none => if sz = P.cellsOf e ∧ l ≤ h ∧ h ≤ elems.length then some (.sl sz ((elems.take h).drop l)) else none
        | some l, some h, some m => match abound 0 (some m) with
          | some m => if l = 0 ∧ h = 0 ∧ m = 0 then some .esl else none
          | none => none
        | _, _, _ => none
      | .esl => match abound 0 lo, abound 0 hi, mx with
        | some 0, some 0, none => some .esl
        | _, _, _ => none
      | .msl b n sz off len =>
        match abound 0 lo, abound len hi, mx with
        | some l, some h, none => if sz = P.cellsOf e ∧ l ≤ h ∧ h ≤ len ∧ n ≠ 0 then (if l = 0 ∨ l < h then some (.msl b n sz (off + l * sz) (h - l)) else some (.sl sz [])) else none
        | some l, some h, some m => match abound 0 (some m) with
          | some m => if l = 0 ∧ h = 0 ∧ m = 0 then some .esl else none
          | none => none
        | _, _, _ => none
      | _ => none
    else none
  | some .string => match x with
    | .str s => match abound 0 lo, abound s.size hi, mx with
      | some l, some h, none => if l ≤ h ∧ h ≤ s.size then some (.str (s.extract l h)) else none
      | _, _, _ => none
    | _ => none
  | _ => none

theorem run_sliceBound {P : Program} {w : World} {k : IntKind} {n : Int} {y : Nat} {c : BoundsCode} (h0 : 0 ≤ n) (h1 : n.toNat ≤ y) :
    (Instr.sliceBound (.int k n) y c).run P w = .ok n.toNat w := by
  have : 0 ≤ n ∧ n ≤ (y : Int) := by omega
  simp [Instr.sliceBound, asIntOf, this]

/-- low and high alone -/
theorem run_sliceBounds2 {P : Program} {E : Env} {w : World} {lo hi : Option AV} {vlo vhi : Option Value} {isS : Bool} {len cap l h : Nat}
    (hlo : ∀ x, lo = some x → ∃ v, vlo = some v ∧ Rel E w x v) (hlo' : lo = none → vlo = none) (hhi : ∀ x, hi = some x → ∃ v, vhi = some v ∧ Rel E w x v) (hhi' : hi = none → vhi = none)
    (hl : abound 0 lo = some l) (hh : abound len hi = some h) (h1 : l ≤ h) (h2 : h ≤ cap) :
    (Instr.sliceBounds isS len cap vlo vhi none).run P w = .ok (l, h, cap) w := by
  unfold Instr.sliceBounds
  cases hi with
  | none =>
    simp [abound] at hh
    subst hh
    rw [hhi' rfl]
    cases lo with
    | none =>
      simp [abound] at hl
      subst hl
      rw [hlo' rfl]
      simp
    | some x =>
      obtain ⟨v, rfl, hv⟩ := hlo x rfl
      cases x <;> simp [abound] at hl
      cases hv
      obtain ⟨h0, rfl⟩ := hl
      simp [run_sliceBound h0 h1]
  | some y =>
    obtain ⟨u, rfl, hu⟩ := hhi y rfl
    cases y <;> simp [abound] at hh
    cases hu
    obtain ⟨h0', rfl⟩ := hh
    cases lo with
    | none =>
      simp [abound] at hl
      subst hl
      rw [hlo' rfl]
      simp [run_sliceBound h0' h2]
    | some x =>
      obtain ⟨v, rfl, hv⟩ := hlo x rfl
      cases x <;> simp [abound] at hl
      cases hv
      obtain ⟨h0, rfl⟩ := hl
      simp [run_sliceBound h0' h2, run_sliceBound h0 h1]

theorem run_sliceBounds3 {P : Program} {E : Env} {w : World} {lo hi : Option AV} {m : AV} {vlo vhi : Option Value} {vm : Value} {isS : Bool} {len cap d : Nat}
    (hlo : ∀ x, lo = some x → ∃ v, vlo = some v ∧ Rel E w x v) (hlo' : lo = none → vlo = none) (hhi : ∀ x, hi = some x → ∃ v, vhi = some v ∧ Rel E w x v) (hhi' : hi = none → vhi = none)
    (hm : Rel E w m vm) (hl : abound 0 lo = some 0) (hh : abound d hi = some 0) (hhs : hi ≠ none) (hm0 : abound 0 (some m) = some 0) :
    (Instr.sliceBounds isS len cap vlo vhi (some vm)).run P w = .ok (0, 0, 0) w := by
  unfold Instr.sliceBounds
  cases m <;> simp only [abound] at hm0 <;> try (cases hm0)
  rename_i km nm
  split at hm0
  case isFalse => cases hm0
  case isTrue hnm =>
  simp only [Option.some.injEq] at hm0
  cases hm
  cases hi with
  | none => exact absurd rfl hhs
  | some y =>
    obtain ⟨u, rfl, hu⟩ := hhi y rfl
    cases y <;> simp only [abound] at hh <;> try (cases hh)
    rename_i kh nh
    split at hh
    case isFalse => cases hh
    case isTrue hnh =>
    simp only [Option.some.injEq] at hh
    cases hu
    cases lo with
    | none =>
      rw [hlo' rfl]
      simp [run_sliceBound hnm (show nm.toNat ≤ cap by omega), hm0, run_sliceBound hnh (show nh.toNat ≤ 0 by omega), hh]
    | some x =>
      obtain ⟨v, rfl, hv⟩ := hlo x rfl
      cases x <;> simp only [abound] at hl <;> try (cases hl)
      rename_i kl nl
      split at hl
      case isFalse => cases hl
      case isTrue hnl =>
      simp only [Option.some.injEq] at hl
      cases hv
      simp [run_sliceBound hnm (show nm.toNat ≤ cap by omega), hm0, run_sliceBound hnh (show nh.toNat ≤ 0 by omega), hh, run_sliceBound hnl (show nl.toNat ≤ 0 by omega), hl]



theorem slice_run {P : Program} {w : World} {t e : TypeId} {x : Value} {lo hi mx : Option Value} (hu : P.underlying t = some (.slice e)) :
    (Instr.sliceAt t x lo hi mx).run P w = (Instr.slice t x lo hi mx).run P w := by
  simp [Instr.sliceAt, run_underlying hu]

theorem drop_take_get {α : Type} {l : List α} {a h i : Nat} {x : α} (hx : ((l.take h).drop a)[i]? = some x) : l[a + i]? = some x := by
  rw [List.getElem?_drop, List.getElem?_take] at hx
  split at hx
  · exact hx
  · cases hx

theorem aslice_sound {P : Program} {E : Env} {w : World} {t : TypeId} {x : AV} {vx : Value} {lo hi mx : Option AV} {vlo vhi vmx : Option Value} {r : AV} (hx : Rel E w x vx)
    (hlo : ∀ x, lo = some x → ∃ v, vlo = some v ∧ Rel E w x v) (hlo' : lo = none → vlo = none) (hhi : ∀ x, hi = some x → ∃ v, vhi = some v ∧ Rel E w x v) (hhi' : hi = none → vhi = none)
    (hmx : ∀ x, mx = some x → ∃ v, vmx = some v ∧ Rel E w x v) (hmx' : mx = none → vmx = none) (hmh : mx ≠ none → hi ≠ none) (h : aslice P t x lo hi mx = some r) :
    ∃ v, (Instr.sliceAt t vx vlo vhi vmx).run P w = .ok v w ∧ Rel E w r v := by
  unfold aslice at h
  split at h
  · rename_i e hu
    rw [slice_run hu]
    split at h
    case isFalse => cases h
    case isTrue he =>
    split at h
    · rename_i sz elems
      split at h
      · rename_i l hh hl hhh
        split at h
        case isFalse => cases h
        case isTrue hc =>
        obtain ⟨rfl, h1, h2⟩ := hc
        cases h
        rw [hmx' rfl]
        cases hx with
        | slnil sz =>
          simp at h2
          subst h2
          obtain rfl : l = 0 := by omega
          refine ⟨.slice none 0 0, ?_, by simpa using Rel.slnil _⟩
          have := run_sliceBounds2 (P := P) (w := w) (isS := true) (len := 0) (cap := 0) hlo hlo' hhi hhi' hl hhh (Nat.le_refl _) (Nat.le_refl _)
          simp [Instr.slice, run_underlying hu, this, run_sizeOf' he]
        | slempty sz blk o cap =>
          simp at h2
          subst h2
          obtain rfl : l = 0 := by omega
          have := run_sliceBounds2 (P := P) (w := w) (isS := true) (len := 0) (cap := cap) hlo hlo' hhi hhi' hl hhh (Nat.le_refl _) (Nat.zero_le _)
          refine ⟨.slice (some ⟨blk, o, none⟩) 0 cap, ?_, by simpa using Rel.slempty _ blk o cap⟩
          by_cases hc0 : cap = 0
          · subst hc0; simp [Instr.slice, run_underlying hu, this, run_sizeOf' he]
          · simp [Instr.slice, run_underlying hu, this, run_sizeOf' he, hc0, addr_add]
        | sl sz elems blk o cap vals him hlen hsz hcell hr =>
          have := run_sliceBounds2 (P := P) (w := w) (isS := true) (len := elems.length) (cap := cap) hlo hlo' hhi hhi' hl hhh h1 (by omega)
          by_cases hcl : cap = l
          · -- nothing is left
            subst hcl
            obtain rfl : hh = cap := by omega
            refine ⟨.slice (some ⟨blk, o, none⟩) 0 0, ?_, ?_⟩
            · simp [Instr.slice, run_underlying hu, this, run_sizeOf' he]
            · have hnil : List.drop hh (List.take hh elems) = [] := by simp
              rw [hnil]
              have := Rel.sl (E := E) (w := w) (P.cellsOf e) [] blk o 0 vals him (Nat.le_refl _) (by simp) (by simp) (by simp)
              exact this
          · refine ⟨.slice (some ⟨blk, o + l * P.cellsOf e, none⟩) (hh - l) (cap - l), ?_, ?_⟩
            · simp [Instr.slice, run_underlying hu, this, run_sizeOf' he, hcl, addr_add]
            · have hlen' : (List.drop l (List.take hh elems)).length = hh - l := by simp; omega
              have := Rel.sl (E := E) (w := w) (P.cellsOf e) (List.drop l (List.take hh elems)) blk (o + l * P.cellsOf e) (cap - l) (fun i => vals (l * P.cellsOf e + i)) him (by omega)
                (fun x hx => hsz x (List.mem_of_mem_take (List.mem_of_mem_drop hx)))
                (fun i hi => by
                  rw [Nat.add_assoc]
                  refine hcell _ ?_
                  rw [hlen'] at hi
                  have : l * P.cellsOf e + (hh - l) * P.cellsOf e ≤ elems.length * P.cellsOf e := by rw [← Nat.add_mul]; exact Nat.mul_le_mul_right _ (by omega)
                  omega)
                (fun i j x y hx hy => by
                  have := hr (l + i) j x y (drop_take_get hx) hy
                  rw [Nat.add_mul, Nat.add_assoc] at this
                  exact this)
              rw [hlen'] at this
              exact this
      · rename_i l hh m hl hhh
        split at h
        · rename_i m' hm'
          split at h
          case isFalse => cases h
          case isTrue hc =>
          obtain ⟨rfl, rfl, rfl⟩ := hc
          cases h
          obtain ⟨vm, rfl, hvm⟩ := hmx m rfl
          have hhn := hmh (by simp)
          have this := fun len cap => run_sliceBounds3 (P := P) (w := w) (isS := true) (len := len) (cap := cap) (d := elems.length) hlo hlo' hhi hhi' hvm hl hhh hhn hm'
          cases hx with
          | slnil sz =>
            refine ⟨.slice none 0 0, ?_, .eslnil⟩
            simp [Instr.slice, run_underlying hu, this, run_sizeOf' he]
          | slempty sz blk o cap =>
            refine ⟨.slice (some ⟨blk, o, none⟩) 0 0, ?_, .esl _ _⟩
            simp [Instr.slice, run_underlying hu, this, run_sizeOf' he]
          | sl sz elems blk o cap vals him hlen hsz hcell hr =>
            refine ⟨.slice (some ⟨blk, o, none⟩) 0 0, ?_, .esl _ _⟩
            simp [Instr.slice, run_underlying hu, this, run_sizeOf' he]
        · cases h
      · cases h
    · split at h
      · rename_i hl hhh
        cases h
        rw [hmx' rfl]
        cases hx with
        | eslnil =>
          have := run_sliceBounds2 (P := P) (w := w) (isS := true) (len := 0) (cap := 0) hlo hlo' hhi hhi' hl hhh (Nat.le_refl _) (Nat.le_refl _)
          exact ⟨.slice none 0 0, by simp [Instr.slice, run_underlying hu, this, run_sizeOf' he], .eslnil⟩
        | esl blk o =>
          have := run_sliceBounds2 (P := P) (w := w) (isS := true) (len := 0) (cap := 0) hlo hlo' hhi hhi' hl hhh (Nat.le_refl _) (Nat.le_refl _)
          exact ⟨.slice (some ⟨blk, o, none⟩) 0 0, by simp [Instr.slice, run_underlying hu, this, run_sizeOf' he], .esl _ _⟩
      · cases h
    · rename_i b n sz off len
      split at h
      · rename_i l hh hl hhh
        split at h
        case isFalse => cases h
        case isTrue hc =>
        obtain ⟨rfl, h1, h2, h3⟩ := hc
        rw [hmx' rfl]
        cases hx with
        | msl0 => exact absurd rfl h3
        | msl _ _ _ _ _ blk bsz cap hm hlc hcp hn =>
          have := run_sliceBounds2 (P := P) (w := w) (isS := true) (len := len) (cap := cap) hlo hlo' hhi hhi' hl hhh h1 (by omega)
          have hrun : (Instr.slice t (.slice (some ⟨blk, off, none⟩) len cap) vlo vhi none).run P w = .ok (.slice (some (if cap = l then ⟨blk, off, none⟩ else ⟨blk, off + l * P.cellsOf e, none⟩)) (hh - l) (cap - l)) w := by
            simp [Instr.slice, run_underlying hu, this, run_sizeOf' he, addr_add]
            split <;> rfl
          have hmul : l * P.cellsOf e + (cap - l) * P.cellsOf e = cap * P.cellsOf e := by rw [← Nat.add_mul]; congr 1; omega
          split at h
          · rename_i hll
            cases h
            refine ⟨_, hrun, ?_⟩
            have hadd : (if cap = l then (⟨blk, off, none⟩ : Addr) else ⟨blk, off + l * P.cellsOf e, none⟩) = ⟨blk, off + l * P.cellsOf e, none⟩ := by
              split
              · rcases hll with rfl | hll
                · simp
                · omega
              · rfl
            rw [hadd]
            exact .msl _ _ _ _ _ blk bsz _ hm (by omega) (by omega) (by omega)
          · rename_i hll
            cases h
            refine ⟨_, hrun, ?_⟩
            have : hh - l = 0 := by omega
            rw [this]
            split
            · exact .slempty _ _ _ _
            · exact .slempty _ _ _ _
      · rename_i l hh m hl hhh
        split at h
        · rename_i m' hm'
          split at h
          case isFalse => cases h
          case isTrue hc =>
          obtain ⟨rfl, rfl, rfl⟩ := hc
          cases h
          obtain ⟨vm, rfl, hvm⟩ := hmx m rfl
          have hhn := hmh (by simp)
          have this := fun len' cap => run_sliceBounds3 (P := P) (w := w) (isS := true) (len := len') (cap := cap) (d := len) hlo hlo' hhi hhi' hvm hl hhh hhn hm'
          cases hx with
          | msl0 b sz v hv =>
            rcases hv with rfl | ⟨blk, o, rfl⟩
            · exact ⟨.slice none 0 0, by simp [Instr.slice, run_underlying hu, this, run_sizeOf' he], .eslnil⟩
            · exact ⟨.slice (some ⟨blk, o, none⟩) 0 0, by simp [Instr.slice, run_underlying hu, this, run_sizeOf' he], .esl _ _⟩
          | msl _ _ _ _ _ blk bsz cap hm hlc hcp hn =>
            refine ⟨.slice (some ⟨blk, off, none⟩) 0 0, ?_, .esl _ _⟩
            simp [Instr.slice, run_underlying hu, this, run_sizeOf' he]
        · cases h
      · cases h
    · cases h
  · rename_i hu
    split at h
    · rename_i s
      cases hx
      split at h
      · rename_i l hh hl hhh
        split at h
        case isFalse => cases h
        case isTrue hc =>
        cases h
        rw [hmx' rfl]
        have := run_sliceBounds2 (P := P) (w := w) (isS := false) (len := s.size) (cap := s.size) hlo hlo' hhi hhi' hl hhh hc.1 hc.2
        refine ⟨.string (s.extract l hh), ?_, .str _⟩
        simp [Instr.sliceAt, Instr.slice, run_underlying hu, this]
      · cases h
    · cases h
  · cases h

end Go.Abs
