/- Data, and calls of what is proved. -/
import Derived.Test.YtcbkggfipdldaaaXAbsC4
set_option linter.unusedVariables false
namespace Go.Abs
open Go.RowKit

/-- a value that is data: it is what it is, wherever boxes lie -/
def Dat (x : AV) : Prop := ∀ H, Snap H x x

theorem Dat.int {k : IntKind} {n : Int} : Dat (.int k n) := fun _ => .int _ _
theorem Dat.bool {b : Bool} : Dat (.bool b) := fun _ => .bool _
theorem Dat.str {s : ByteArray} : Dat (.str s) := fun _ => .str _
theorem Dat.esl : Dat .esl := fun _ => .esl
theorem Dat.nilp : Dat .nilp := fun _ => .nilp
theorem Dat.nilf : Dat .nilf := fun _ => .nilf
theorem Dat.sl {sz : Nat} {l : List AV} (h : ∀ x ∈ l, ∀ c ∈ x.cells, Dat c) : Dat (.sl sz l) := fun H =>
  .sl sz l l rfl (fun i x y hx hy => by rw [hx] at hy; cases hy; rfl) (fun i j x y a b hx hy ha hb => by
    rw [hx] at hy; cases hy; rw [ha] at hb; cases hb
    exact h x (List.mem_of_getElem? hx) a (List.mem_of_getElem? ha) H)
theorem Dat.agg {l : List AV} (h : ∀ x ∈ l, Dat x) : Dat (.agg l) := fun H =>
  .agg l l rfl (fun i a c ha hc => by rw [ha] at hc; cases hc; exact h a (List.mem_of_getElem? ha) H)
theorem Dat.tup {l : List AV} (h : ∀ x ∈ l, Dat x) : Dat (.tup l) := fun H =>
  .tup l l rfl (fun i a c ha hc => by rw [ha] at hc; cases hc; exact h a (List.mem_of_getElem? ha) H)
theorem Dat.func {f : FuncId} {l : List AV} (h : ∀ x ∈ l, Dat x) : Dat (.func f l) := fun H =>
  .func f l l rfl (fun i a c ha hc => by rw [ha] at hc; cases hc; exact h a (List.mem_of_getElem? ha) H)

def encV (l : List Int) : AV := .sl 1 (l.map (AV.int .i64))
def encVV (l : List (List Int)) : AV := .sl 1 (l.map encV)

theorem encV_dat (l : List Int) : Dat (encV l) := Dat.sl (fun x hx c hc => by
  obtain ⟨n, _, rfl⟩ := List.mem_map.1 hx
  simp only [AV.cells, List.mem_singleton] at hc; subst hc; exact .int)
theorem encVV_dat (l : List (List Int)) : Dat (encVV l) := Dat.sl (fun x hx c hc => by
  obtain ⟨n, _, rfl⟩ := List.mem_map.1 hx
  simp only [encV, AV.cells, List.mem_singleton] at hc; subst hc; exact encV_dat n)
theorem cells_encV {l : List Int} : (encV l).cells = [encV l] := rfl
theorem cells_encVV {l : List (List Int)} : (encVV l).cells = [encVV l] := rfl

theorem snapL_nil {H : Hp} : SnapL H [] [] := SnapL.nil
theorem snapL_dat {H : Hp} {x : AV} {xs ys : List AV} (h : Dat x) (hs : SnapL H xs ys) : SnapL H (x :: xs) (x :: ys) := SnapL.cons (h H) hs

variable {P : Program} {T : Tm} {H : Hp} {nx : Nat}

theorem o_callP {dm : DM} {K : SP} {l : List Op2} {d : Option Nat} {f : Opd} {args : List Opd} {g : FuncId} {caps xs ys : List AV} {r : AV} (hf : ov T f = .func g caps) (ha : args.map (ov T) ++ caps = xs)
    (hp : Pure P g ys r) (hs : SnapArgs H xs ys r) (k : aops2 P dm l (updo T d r) H nx K) : aops2 P dm (⟨d, none, .call f args⟩ :: l) T H nx K := by
  subst ha
  cases hd : dm.isText with
  | false => exact o_pcall hd hf (PCall.of_pure hp hs k)
  | true =>
    cases dm with
    | text => exact o_call hf (Fn.of_pure hp hs k)
    | draw => cases hd
    | fresh m => cases hd

/-- a call that borrows its arguments -/
theorem o_callF {dm : DM} {K : SP} {l : List Op2} {d : Option Nat} {f : Opd} {args : List Opd} {g : FuncId} {caps xs ys : List AV} {r : AV} (hf : ov T f = .func g caps) (ha : args.map (ov T) ++ caps = xs)
    (hp : PureF P g ys r) (hs : SnapL H xs ys) (k : aops2 P dm l (updo T d r) H nx K) : aops2 P dm (⟨d, none, .call f args⟩ :: l) T H nx K := by
  subst ha
  have hc := hp.callOk hs
  cases hd : dm.isText with
  | false => exact o_pcall hd hf (PCall.of_callOk hc k)
  | true =>
    cases dm with
    | text => exact o_call hf (Fn.of_callOk hc k)
    | draw => cases hd
    | fresh m => cases hd

/-- a call whose arguments are data -/
theorem o_callD {dm : DM} {K : SP} {l : List Op2} {d : Option Nat} {f : Opd} {args : List Opd} {g : FuncId} {caps xs : List AV} {r : AV} (hf : ov T f = .func g caps) (ha : args.map (ov T) ++ caps = xs)
    (hp : Pure P g xs r) (hs : SnapArgs H xs xs r) (k : aops2 P dm l (updo T d r) H nx K) : aops2 P dm (⟨d, none, .call f args⟩ :: l) T H nx K := o_callP hf ha hp hs k

theorem snap_data {xs ys : List AV} {r : AV} {H : Hp} (h : SnapL noBoxes xs ys) : SnapArgs H xs ys r := .inl h
theorem snap_plain {xs ys : List AV} {r : AV} {H : Hp} (h : SnapL H xs ys) (hr : r.sca = true) : SnapArgs H xs ys r := .inr ⟨h, hr⟩

/-! ### rows that are data -/
theorem aixS_map {α : Type} [Inhabited α] {f : α → AV} {l : List α} {sz : Nat} {k : IntKind} {n : Int} : aixS sz (.sl sz (l.map f)) (.int k n) = if 0 ≤ n ∧ n < l.length then some (.iptr (f (l.getD n.toNat default)).cells 0) else none := by
  simp only [aixS, true_and, List.length_map]
  split
  · rename_i h
    rw [getD_map_lt default (by omega)]
  · rfl
theorem alenS_map {α : Type} {f : α → AV} {l : List α} {sz : Nat} : alenS (.sl sz (l.map f)) = some (.int .i64 l.length) := by simp [alenS]
theorem aixS_encV {l : List Int} {k : IntKind} {n : Int} : aixS 1 (encV l) (.int k n) = if 0 ≤ n ∧ n < l.length then some (.iptr [.int .i64 (l.getD n.toNat default)] 0) else none := aixS_map
theorem aixS_encVV {l : List (List Int)} {k : IntKind} {n : Int} : aixS 1 (encVV l) (.int k n) = if 0 ≤ n ∧ n < l.length then some (.iptr [encV (l.getD n.toNat default)] 0) else none := aixS_map
theorem alenS_encV {l : List Int} : alenS (encV l) = some (.int .i64 l.length) := alenS_map
theorem alenS_encVV {l : List (List Int)} : alenS (encVV l) = some (.int .i64 l.length) := alenS_map
theorem alenS_msl {b n sz off len : Nat} : alenS (.msl b n sz off len) = some (.int .i64 len) := rfl
theorem alenS_esl : alenS .esl = some (.int .i64 0) := rfl

end Go.Abs
