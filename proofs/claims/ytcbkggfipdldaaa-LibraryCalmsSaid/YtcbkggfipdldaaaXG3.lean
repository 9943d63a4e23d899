/- Texts of this claim, one after the other: AbsC1, AbsC2, AbsC3, AbsC4, AbsC5, AbsC6, AbsC7, AbsC8, AbsC9, AbsD1, AbsD2. -/
import Derived.Test.YtcbkggfipdldaaaXG2
import Derived.IntWalk

/- Code without types: what is asked of the program's tables is asked once. -/
set_option linter.unusedVariables false
namespace Go.Abs
open Go.RowKit

inductive Opd where
  | t (n : Nat)
  | c (v : AV)
  deriving Inhabited

def Opd.of : Operand → Opd
  | .tmp n => .t n
  | x => .c (ev (fun _ => .undef) x)

def ov (T : Tm) : Opd → AV
  | .t n => T n
  | .c v => v

theorem ov_of {T : Tm} {x : Operand} : ov T (.of x) = ev T x := by cases x <;> rfl
theorem ov_of_map {T : Tm} {l : List Operand} : (l.map Opd.of).map (ov T) = l.map (ev T) := by simp [ov_of]
theorem ov_of_opt {T : Tm} {x : Option Operand} : (x.map Opd.of).map (ov T) = x.map (ev T) := by cases x <;> simp [ov_of]

inductive Ins where
  | dead
  | mov (x : Opd)
  | pick (c a b : Opd)
  | ld1 (a : Opd)
  | ldn (k : Nat) (a : Opd)
  | nilck (x : Opd)
  | bin (op : BinOp) (tb tf : Bool) (x y : Opd)
  | binS (op : BinOp) (ks : List TK) (x y : Opd)
  | un (op : UnOp) (x : Opd)
  | conv (k : IntKind) (x : Opd)
  | mkfn (f : FuncId) (caps : List Opd)
  | sls (sz : Nat) (x : Opd) (lo hi mx : Option Opd)
  | slstr (x : Opd) (lo hi : Option Opd)
  | fa (k : Nat) (p : Opd)
  | part1 (off : Nat) (x : Opd)
  | partn (off k : Nat) (x : Opd)
  | ixaA (len sz : Nat) (x i : Opd)
  | ixaS (sz : Nat) (x i : Opd)
  | ixA1 (len sz : Nat) (x i : Opd)
  | ixAn (len sz : Nat) (x i : Opd)
  | ixStr (x i : Opd)
  | ext (x : Opd) (i : Nat)
  | bld (z : List AV) (parts : List (Nat × Nat × Opd))
  | lenS (x : Opd)
  | lenStr (x : Opd)
  | lenC (n : Nat)
  | mx (x : Opd) (l : List Opd)
  | mn (x : Opd) (l : List Opd)
  | alloc (z : AV)
  | box (x : Opd)
  | bldS (sz len : Nat) (z : List AV) (parts : List (Nat × Nat × Opd))
  | mks (sz bytes : Nat) (z : List AV) (l c : Opd)
  | st (k : Nat) (p x : Opd)
  | app (sz bytes : Nat) (s x : Opd)
  | call (f : Opd) (args : List Opd)
  | mkm (h : Option Opd)
  | mput (k : MK) (m key x : Opd)
  | mget (k : MK) (z : AV) (ok : Bool) (m key : Opd)
  | mlen (m : Opd)
  | mrng (m : Opd)
  | mnxt (it : Opd)
  | cpy (sz : Nat) (d s : Opd)
  | clr (sz : Nat) (z : AV) (x : Opd)
  | snil (neg : Bool) (x : Opd)

def tfunc (P : Program) (t : TypeId) : Bool := match P.underlying t with | some (.func ..) => true | _ => false

def abin2 (op : BinOp) (tb tf : Bool) (x y : AV) : Option AV :=
  match x, y with
  | .int k a, .int k' b => if op = .shl ∨ op = .shr then ashift op k a b else if k = k' then aarith op k a b else none
  | .bool a, .bool b => if tb = true then (match op with | .eql => some (.bool (a == b)) | .neq => some (.bool (!(a == b))) | _ => none) else none
  | .str a, .str b => astrop op a b
  | .nilf, .nilf => if tf = true then (match op with | .eql => some (.bool true) | .neq => some (.bool false) | _ => none) else none
  | .func _ _, .nilf => if tf = true then (match op with | .eql => some (.bool false) | .neq => some (.bool true) | _ => none) else none
  | _, _ => none

theorem abin2_eq {P : Program} {op : BinOp} {t : TypeId} {x y : AV} {r : AV} (h : abin2 op (tbool P t) (tfunc P t) x y = some r) : abin P op t x y = some r := by
  unfold abin2 at h
  unfold abin
  split at h
  · exact h
  · exact h
  · exact h
  · split at h
    · rename_i hf
      unfold tfunc at hf
      split at hf
      · rename_i hu; simp only [hu]
        split at h <;> simp_all
      · cases hf
    · cases h
  · split at h
    · rename_i hf
      unfold tfunc at hf
      split at hf
      · rename_i hu; simp only [hu]
        split at h <;> simp_all
      · cases hf
    · cases h
  · cases h

def aixS (sz : Nat) (x i : AV) : Option AV := match i with
  | .int _ n => match x with
    | .sl s elems => if s = sz ∧ 0 ≤ n ∧ n < elems.length then some (.iptr (elems.getD n.toNat .undef).cells 0) else none
    | .msl b m s off len => if s = sz ∧ 0 ≤ n ∧ n < len then some (.ptr b m (off + n.toNat * s)) else none
    | _ => none
  | _ => none

def asls (sz : Nat) (x : AV) (lo hi mx : Option AV) : Option AV := match x with
  | .sl s elems =>
    match abound 0 lo, abound elems.length hi, mx with
    | some l, some h, none => if s = sz ∧ l ≤ h ∧ h ≤ elems.length then some (.sl s ((elems.take h).drop l)) else none
    | some l, some h, some m => match abound 0 (some m) with
      | some m => if l = 0 ∧ h = 0 ∧ m = 0 then some .esl else none
      | none => none
    | _, _, _ => none
  | .esl => match abound 0 lo, abound 0 hi, mx with
    | some 0, some 0, none => some .esl
    | _, _, _ => none
  | .msl b n s off len =>
    match abound 0 lo, abound len hi, mx with
    | some l, some h, none => if s = sz ∧ l ≤ h ∧ h ≤ len ∧ n ≠ 0 then (if l = 0 ∨ l < h then some (.msl b n s (off + l * s) (h - l)) else some (.sl s [])) else none
    | some l, some h, some m => match abound 0 (some m) with
      | some m => if l = 0 ∧ h = 0 ∧ m = 0 then some .esl else none
      | none => none
    | _, _, _ => none
  | _ => none

def aslstr (x : AV) (lo hi : Option AV) : Option AV := match x with
  | .str s => match abound 0 lo, abound s.size hi with
    | some l, some h => if l ≤ h ∧ h ≤ s.size then some (.str (s.extract l h)) else none
    | _, _ => none
  | _ => none

def afill2 (cells : List AV) : List (Nat × Nat × AV) → Option (List AV)
  | [] => some cells
  | (off, size, x) :: rest => if x.flat = true ∧ x.cells.length = size ∧ off + size ≤ cells.length then afill2 (lput cells off x.cells) rest else none

def acells (x : AV) (f : List AV → Option AV) : Option AV := match x with | .agg cs => f cs | _ => none
def aint (x : AV) (f : Int → Option AV) : Option AV := match x with | .int _ n => f n | _ => none

def alenS (x : AV) : Option AV := match x with
  | .sl _ elems => some (.int .i64 elems.length)
  | .esl => some (.int .i64 0)
  | .msl _ _ _ _ len => some (.int .i64 len)
  | _ => none

def ival (T : Tm) (H : Hp) : Ins → Option AV
  | .mov x => some (ov T x)
  | .pick c a b => match ov T c with | .bool t => some (if t = true then ov T a else ov T b) | _ => none
  | .ld1 a => rd1 H (ov T a)
  | .ldn k a => (rd H k (ov T a)).map .agg
  | .nilck x => match ov T x with | .ptr b n o => some (.ptr b n o) | .iptr c o => some (.iptr c o) | .func f c => some (.func f c) | _ => none
  | .bin op tb tf x y => abin2 op tb tf (ov T x) (ov T y)
  | .binS op ks x y => acells (ov T x) fun xs => acells (ov T y) fun ys => acmpS op ks xs ys
  | .un op x => aun op (ov T x)
  | .conv k x => aint (ov T x) fun n => some (.int k (k.wrap n))
  | .mkfn f caps => some (.func f (caps.map (ov T)))
  | .sls sz x lo hi mx => asls sz (ov T x) (lo.map (ov T)) (hi.map (ov T)) (mx.map (ov T))
  | .slstr x lo hi => aslstr (ov T x) (lo.map (ov T)) (hi.map (ov T))
  | .fa k p => apadd k (ov T p)
  | .part1 off x => acells (ov T x) fun cs => cs[off]?
  | .partn off k x => acells (ov T x) fun cs => if off + k ≤ cs.length then some (.agg ((cs.drop off).take k)) else none
  | .ixaA len sz x i => aint (ov T i) fun n => if 0 ≤ n ∧ n < len then apadd (n.toNat * sz) (ov T x) else none
  | .ixaS sz x i => aixS sz (ov T x) (ov T i)
  | .ixA1 len sz x i => acells (ov T x) fun cs => aint (ov T i) fun n => if 0 ≤ n ∧ n < len then cs[n.toNat * sz]? else none
  | .ixAn len sz x i => acells (ov T x) fun cs => aint (ov T i) fun n => if 0 ≤ n ∧ n < len then (if n.toNat * sz + sz ≤ cs.length then some (.agg ((cs.drop (n.toNat * sz)).take sz)) else none) else none
  | .ixStr x i => match ov T x with
    | .str s => aint (ov T i) fun n => if 0 ≤ n ∧ n < s.size then some (.int .u8 (s[n.toNat]?.getD 0).toNat) else none
    | _ => none
  | .ext x i => aextract (ov T x) i
  | .bld z parts => (afill2 z (parts.map fun p => (p.1, p.2.1, ov T p.2.2))).map .agg
  | .lenS x => alenS (ov T x)
  | .lenStr x => match ov T x with | .str s => some (.int .i64 s.size) | _ => none
  | .lenC n => some (.int .i64 n)
  | .mx x l => afold amax2 (ov T x) (l.map (ov T))
  | .mn x l => afold amin2 (ov T x) (l.map (ov T))
  | _ => none

def aapp (sz bytes : Nat) (s x : AV) (H : Hp) (nx : Nat) : Option (AV × Hp × Nat) :=
  match asrc sz H x with
  | none => none
  | some (k, new) =>
    if new.all AV.one = true then
      match s with
      | .esl => if k * bytes ≤ 140737488355328 ∧ k ≤ 9223372036854775807 then some (.msl nx (k * sz) sz 0 k, hupd H nx new, nx + 1) else none
      | .msl b n s off len => match H b with
        | some cs =>
          if cs.length = n ∧ s = sz then
            if off = 0 ∧ n = len * s ∧ (len + k) * bytes ≤ 140737488355328 ∧ len + k ≤ 9223372036854775807 then some (.msl b ((len + k) * s) s 0 (len + k), hupd H b (cs ++ new), nx)
            else if off + (len + k) * s ≤ n ∧ 0 < n then some (.msl b n s off (len + k), hupd H b (lput cs (off + len * s) new), nx)
            else none
          else none
        | none => none
      | _ => none
    else none

def ieff (T : Tm) (H : Hp) (nx : Nat) : Ins → Option (AV × Hp × Nat)
  | .alloc z => abox z H nx
  | .box x => abox (ov T x) H nx
  | .bldS sz len z parts => if len = 0 then (if parts.isEmpty = true then some (.esl, H, nx) else none) else
      match afill2 (zcells (.agg z) len) (parts.map fun p => (p.1, p.2.1, ov T p.2.2)) with
      | some cells => some (.msl nx cells.length sz 0 len, hupd H nx cells, nx + 1)
      | none => none
  | .mks sz bytes z l c => match ov T l, ov T c with
    | .int _ n, .int _ m => if 0 ≤ n ∧ n ≤ m ∧ m ≤ 9223372036854775807 ∧ bytes * m ≤ 281474976710656 then some (.msl nx (n.toNat * sz) sz 0 n.toNat, hupd H nx (zcells (.agg z) n.toNat), nx + 1) else none
    | _, _ => none
  | .st k p x => match ov T p with
    | .ptr b n off => match H b with
      | some cs => if cs.length = n ∧ (ov T x).flat = true ∧ (ov T x).cells.length = k ∧ off + k ≤ n then some (.tup [], hupd H b (lput cs off (ov T x).cells), nx) else none
      | none => none
    | _ => none
  | .app sz bytes s x => aapp sz bytes (ov T s) (ov T x) H nx
  | _ => none

def bndOk (lo hi mx : Option Operand) : Bool := !(mx.isSome && hi.isNone)

def placesOf (pl : List (Nat × Nat)) : List (Nat × Operand) → Option (List (Nat × Nat × Opd))
  | [] => some []
  | (i, x) :: l => match pl[i]?, placesOf pl l with
    | some (o, s), some r => some ((o, s, .of x) :: r)
    | _, _ => none

def placesOfA (sz : Nat) (l : List (Nat × Operand)) : List (Nat × Nat × Opd) := l.map fun p => (p.1 * sz, sz, .of p.2)

def comp1 (P : Program) : Op → Option Ins
  | .move x => some (.mov (.of x))
  | .assign x => some (.mov (.of x))
  | .pick c a b => some (.pick (.of c) (.of a) (.of b))
  | .load t a => if tok P t then (if tagg P t then (if 0 < P.cellsOf t then some (.ldn (P.cellsOf t) (.of a)) else none) else some (.ld1 (.of a))) else none
  | .nilCheck x => some (.nilck (.of x))
  | .binOp op t x y _ => match telem P t with | some _ => none | none => match tkS P t with | some ks => some (.binS op ks (.of x) (.of y)) | none => some (.bin op (tbool P t) (tfunc P t) (.of x) (.of y))
  | .unOp op _ x => some (.un op (.of x))
  | .convert s d x => if tok P s then (match tint P d with | some k => some (.conv k (.of x)) | none => none) else none
  | .makeFunc (.func f) first captured => if first.size = 0 then some (.mkfn f (captured.toList.map .of)) else none
  | .slice t x lo hi mx => if bndOk lo hi mx then (match P.underlying t with
    | some (.slice e) => if tok P e then some (.sls (P.cellsOf e) (.of x) (lo.map .of) (hi.map .of) (mx.map .of)) else none
    | some .string => match mx with | none => some (.slstr (.of x) (lo.map .of) (hi.map .of)) | some _ => none
    | _ => none) else none
  | .fieldAddr t x f => match foff P t f with | some k => some (.fa k (.of x)) | none => none
  | .field t x f => match P.underlying t with
    | some (.struct fs) => match fs[f]? with
      | some fd => if tok P fd.type then (if tagg P fd.type then some (.partn fd.offset (P.cellsOf fd.type) (.of x)) else some (.part1 fd.offset (.of x))) else none
      | none => none
    | _ => none
  | .indexAddr t x i => match P.underlying t with
    | some (.array len e) => if tok P e then some (.ixaA len (P.cellsOf e) (.of x) (.of i)) else none
    | some (.slice e) => if tok P e then some (.ixaS (P.cellsOf e) (.of x) (.of i)) else none
    | _ => none
  | .index t x i => match P.underlying t with
    | some (.array len e) => if tok P e then (if tagg P e then some (.ixAn len (P.cellsOf e) (.of x) (.of i)) else some (.ixA1 len (P.cellsOf e) (.of x) (.of i))) else none
    | some .string => some (.ixStr (.of x) (.of i))
    | _ => none
  | .extract x i => some (.ext (.of x) i)
  | .build t parts => match azero P t with
    | some z => if z.flat = true then
      match tplaces P t with
      | some pl => match placesOf pl parts.toList with
        | some ps => some (.bld z.cells ps)
        | none => none
      | none => match tarr P t with
        | some (_, e) => if tok P e = true then some (.bld z.cells (placesOfA (P.cellsOf e) parts.toList)) else none
        | none => none
      else none
    | none => none
  | .call { callee := .builtin .len, args := ⟨[x]⟩, argTypes := ⟨[t]⟩ } => match P.underlying t with
    | some (.slice _) => some (.lenS (.of x))
    | some .string => some (.lenStr (.of x))
    | some (.array n _) => some (.lenC n)
    | _ => none
  | .call { callee := .builtin .max, args := ⟨x :: l⟩, argTypes := _ } => some (.mx (.of x) (l.map .of))
  | .call { callee := .builtin .min, args := ⟨x :: l⟩, argTypes := _ } => some (.mn (.of x) (l.map .of))
  | _ => none

def comp2 (P : Program) : Op → Option Ins
  | .alloc e => match azero P e with | some z => some (.alloc z) | none => none
  | .box _ x => some (.box (.of x))
  | .buildSlice t len parts => match telem P t with
    | none => none
    | some e => if tok P e = true ∧ 0 < P.cellsOf e ∧ len * P.cellsOf e ≤ 16777216 then (match azero P e with
      | some z => if z.flat = true ∧ z.cells.length = P.cellsOf e then some (.bldS (P.cellsOf e) len z.cells (placesOfA (P.cellsOf e) parts.toList)) else none
      | none => none) else none
  | .makeSlice t l c => match telem P t with
    | none => none
    | some e => match azero P e with
      | some z => if tok P e = true ∧ z.flat = true ∧ z.cells.length = P.cellsOf e ∧ 0 < P.cellsOf e then some (.mks (P.cellsOf e) (tbytes P e) z.cells (.of l) (.of c)) else none
      | none => none
  | .store t p x => if tok P t = true ∧ 0 < P.cellsOf t then some (.st (P.cellsOf t) (.of p) (.of x)) else none
  | .call { callee := .builtin .append, args := ⟨[s, x]⟩, argTypes := ⟨[tS, tX]⟩ } => match telem P tS with
    | none => none
    | some e => if tok P e = true ∧ tok P tX = true ∧ tint P tX = none ∧ 0 < P.cellsOf e ∧ zok P e = true then some (.app (P.cellsOf e) (tbytes P e) (.of s) (.of x)) else none
  | _ => none

theorem afill2_places {T : Tm} (pl : List (Nat × Nat)) : ∀ (parts : List (Nat × Operand)) (ps : List (Nat × Nat × Opd)) (cells : List AV), placesOf pl parts = some ps →
    afill (fun i => pl[i]?) cells (parts.map fun p => (p.1, ev T p.2)) = afill2 cells (ps.map fun p => (p.1, p.2.1, ov T p.2.2))
  | [], ps, cells, h => by cases h; rfl
  | (i, x) :: l, ps, cells, h => by
    simp only [placesOf] at h
    split at h
    · rename_i o s r h1 h2
      cases h
      simp only [List.map_cons, afill, h1, afill2, ov_of]
      split
      · exact afill2_places pl l r _ h2
      · rfl
    · cases h

theorem afill2_placesA {T : Tm} (sz : Nat) : ∀ (parts : List (Nat × Operand)) (cells : List AV),
    afill (fun i => some (i * sz, sz)) cells (parts.map fun p => (p.1, ev T p.2)) = afill2 cells ((placesOfA sz parts).map fun p => (p.1, p.2.1, ov T p.2.2))
  | [], cells => rfl
  | (i, x) :: l, cells => by
    simp only [List.map_cons, afill, afill2, placesOfA, ov_of]
    split
    · exact afill2_placesA sz l _
    · rfl

theorem zcells_cells (z : AV) (k : Nat) : zcells (.agg z.cells) k = zcells z k := rfl

theorem ival_ok {P : Program} {op : Op} {i : Ins} {T : Tm} {H : Hp} {r : AV} (hc : comp1 P op = some i) (h : ival T H i = some r) : aval P T H op = some r := by
  cases op with
  | move x => cases hc; simp only [ival, ov_of] at h; exact h
  | assign x => cases hc; simp only [ival, ov_of] at h; exact h
  | pick c a b => cases hc; simp only [ival, ov_of] at h; exact h
  | load t a =>
    simp only [comp1] at hc
    simp only [aval, aload]
    split at hc
    · rename_i h1
      rw [if_pos h1]
      split at hc
      · rename_i h2
        rw [if_pos h2]
        split at hc
        · rename_i h3
          rw [if_pos h3]
          cases hc; simp only [ival, ov_of] at h; exact h
        · cases hc
      · rename_i h2
        rw [if_neg h2]
        cases hc; simp only [ival, ov_of] at h; exact h
    · cases hc
  | nilCheck x => cases hc; simp only [ival, ov_of] at h; exact h
  | binOp op t x y _ =>
    simp only [comp1] at hc
    split at hc
    · cases hc
    split at hc
    · rename_i ks hks
      cases hc
      simp only [ival, ov_of] at h
      simp only [aval]
      unfold acells at h
      split at h
      · rename_i cs hx
        split at h
        · rename_i cs' hy
          rw [hx, hy]
          simp only [abin, hks]; exact h
        · cases h
      · cases h
    · cases hc; simp only [ival, ov_of] at h; exact abin2_eq h
  | unOp op _ x => cases hc; simp only [ival, ov_of] at h; exact h
  | convert s d x =>
    simp only [comp1] at hc
    split at hc
    · rename_i h1
      split at hc
      · rename_i k hk
        cases hc
        simp only [ival, ov_of] at h
        simp only [aval, aconv]
        unfold aint at h
        split at h
        · rename_i hx; simp only [hx, h1, hk, if_true]; exact h
        · cases h
      · cases hc
    · cases hc
  | makeFunc fn first captured =>
    cases fn with
    | func f =>
      simp only [comp1] at hc
      split at hc
      · rename_i h1
        cases hc
        simp only [ival, ov_of_map] at h
        simp only [aval, if_pos h1]; exact h
      · cases hc
    | _ => cases hc
  | slice t x lo hi mx =>
    simp only [comp1] at hc
    split at hc
    · rename_i hb
      have hb' : ¬ (mx.isSome = true ∧ hi.isNone = true) := by
        rintro ⟨h1, h2⟩
        simp [bndOk, h1, h2] at hb
      split at hc
      · rename_i e hu
        split at hc
        · rename_i h1
          cases hc
          simp only [ival, ov_of, ov_of_opt] at h
          simp only [aval, if_neg hb', aslice, hu, h1, if_true]
          exact h
        · cases hc
      · rename_i hu
        split at hc
        · cases hc
          simp only [ival, ov_of, ov_of_opt] at h
          simp only [aval, if_neg hb', aslice, hu]
          unfold aslstr at h
          split at h
          · rename_i s hs
            rw [hs]
            simp only [Option.map_none]
            split at h
            · rename_i l h' e1 e2
              simp only [e1, e2]; exact h
            · cases h
          · cases h
        · cases hc
      · cases hc
    · cases hc
  | fieldAddr t x f =>
    simp only [comp1] at hc
    split at hc
    · rename_i k hk
      cases hc
      simp only [ival, ov_of] at h
      simp only [aval, afieldAddr, hk]; exact h
    · cases hc
  | field t x f =>
    simp only [comp1] at hc
    split at hc
    · rename_i fs hu
      split at hc
      · rename_i fd hfd
        split at hc
        · rename_i h1
          split at hc
          · rename_i h2
            cases hc
            simp only [ival, ov_of] at h
            unfold acells at h
            split at h
            · rename_i cs hx
              simp only [aval, afield, hx, hu, hfd, apart, h1, h2, if_true]; exact h
            · cases h
          · rename_i h2
            cases hc
            simp only [ival, ov_of] at h
            unfold acells at h
            split at h
            · rename_i cs hx
              simp only [aval, afield, hx, hu, hfd, apart, h1, h2, if_true]; exact h
            · cases h
        · cases hc
      · cases hc
    · cases hc
  | indexAddr t x i =>
    simp only [comp1] at hc
    split at hc
    · rename_i len e hu
      split at hc
      · rename_i h1
        cases hc
        simp only [ival, ov_of] at h
        unfold aint at h
        split at h
        · rename_i n hn
          simp only [aval, aindexAddr, hn, hu, h1, true_and]
          exact h
        · cases h
      · cases hc
    · rename_i e hu
      split at hc
      · rename_i h1
        cases hc
        simp only [ival, ov_of] at h
        unfold aixS at h
        split at h
        · rename_i n hn
          simp only [aval, aindexAddr, hn, hu, h1, if_true]
          split at h
          · rename_i s elems hx
            simp only [hx]
            split at h
            · rename_i hb
              obtain ⟨b1, b2, b3⟩ := hb
              rw [if_pos ⟨b1, b2⟩]
              have hlt : n.toNat < elems.length := by omega
              rw [List.getElem?_eq_getElem hlt]
              simp only [List.getD, List.getElem?_eq_getElem hlt, Option.getD_some] at h
              exact h
            · cases h
          · rename_i hx
            simp only [hx]; exact h
          · cases h
        · cases h
      · cases hc
    · cases hc
  | index t x i =>
    simp only [comp1] at hc
    split at hc
    · rename_i len e hu
      have hta : tarr P t = some (len, e) := by simp [tarr, hu]
      split at hc
      · rename_i h1
        split at hc
        · rename_i h2
          cases hc
          simp only [ival, ov_of] at h
          unfold acells at h
          split at h
          · rename_i cs hx
            unfold aint at h
            split at h
            · rename_i n hn
              simp only [aval, aindex, hx, hn, hta, apart, h1, h2, if_true]; exact h
            · cases h
          · cases h
        · rename_i h2
          cases hc
          simp only [ival, ov_of] at h
          unfold acells at h
          split at h
          · rename_i cs hx
            unfold aint at h
            split at h
            · rename_i n hn
              simp only [aval, aindex, hx, hn, hta, apart, h1, h2, if_true]; exact h
            · cases h
          · cases h
      · cases hc
    · rename_i hu
      cases hc
      simp only [ival, ov_of] at h
      split at h
      · rename_i s hs
        unfold aint at h
        split at h
        · rename_i n hn
          simp only [aval, aindex, hs, hn, hu]
          simp only at h
          split at h
          · rename_i hb
            rw [if_pos hb.1]
            have hlt : n.toNat < s.size := by omega
            have e : s[n.toNat]? = some s[n.toNat] := by simp [hlt]
            rw [e] at h ⊢
            exact h
          · cases h
        · cases h
      · cases h
    · cases hc
  | extract x i => cases hc; simp only [ival, ov_of] at h; exact h
  | build t parts =>
    simp only [comp1] at hc
    split at hc
    · rename_i z hz
      split at hc
      · rename_i hf
        split at hc
        · rename_i pl hpl
          split at hc
          · rename_i ps hps
            cases hc
            simp only [ival] at h
            rw [← afill2_places pl _ _ _ hps] at h
            simp only [aval, abuild, hz, hpl, if_pos hf]; exact h
          · cases hc
        · rename_i hpl
          split at hc
          · rename_i k e hta
            split at hc
            · rename_i h1
              cases hc
              simp only [ival] at h
              rw [← afill2_placesA] at h
              simp only [aval, abuild, hz, hpl, if_pos hf, hta, if_pos h1]; exact h
            · cases hc
          · cases hc
      · cases hc
    · cases hc
  | call c =>
    obtain ⟨callee, args, argTypes⟩ := c
    cases callee with
    | builtin b =>
      obtain ⟨args⟩ := args
      obtain ⟨argTypes⟩ := argTypes
      cases b with
      | len =>
        rcases args with _ | ⟨x, _ | ⟨y, l⟩⟩
        · cases hc
        · rcases argTypes with _ | ⟨t, _ | ⟨u, l⟩⟩
          · cases hc
          · simp only [comp1] at hc
            split at hc
            · rename_i e hu
              cases hc
              simp only [ival, ov_of] at h
              unfold alenS at h
              simp only [aval, alen, hu]
              split at h <;> rename_i hx <;> first | (simp only [hx]; exact h) | cases h
            · rename_i hu
              cases hc
              simp only [ival, ov_of] at h
              simp only [aval, alen, hu]
              split at h <;> rename_i hx <;> first | (simp only [hx]; exact h) | cases h
            · rename_i n e hu
              cases hc
              simp only [ival] at h
              simp only [aval, alen, hu]
              exact h
            · cases hc
          · cases hc
        · cases hc
      | max =>
        rcases args with _ | ⟨x, l⟩
        · cases hc
        · cases hc
          simp only [ival, ov_of, ov_of_map] at h; exact h
      | min =>
        rcases args with _ | ⟨x, l⟩
        · cases hc
        · cases hc
          simp only [ival, ov_of, ov_of_map] at h; exact h
      | _ => cases hc
    | _ => cases hc
  | _ => cases hc

theorem ieff_ok {P : Program} {op : Op} {i : Ins} {T : Tm} {H : Hp} {nx : Nat} {r : AV × Hp × Nat} (hc : comp2 P op = some i) (h : ieff T H nx i = some r) : aeff P T H nx op = some r := by
  cases op with
  | alloc e =>
    simp only [comp2] at hc
    split at hc
    · rename_i z hz
      cases hc
      simp only [aeff, aalloc, hz]; exact h
    · cases hc
  | box _ x => cases hc; simp only [ieff, ov_of] at h; exact h
  | buildSlice t len parts =>
    simp only [comp2] at hc
    split at hc
    · cases hc
    · rename_i e he
      split at hc
      · rename_i h1
        split at hc
        · rename_i z hz
          split at hc
          · rename_i h2
            cases hc
            simp only [ieff] at h
            simp only [aeff, abuildS, he, if_pos h1]
            split at h
            · rename_i hl
              rw [if_pos hl]
              split at h
              · rename_i hp
                have : parts.toList = [] := by
                  unfold placesOfA at hp
                  simpa using hp
                rw [this]; exact h
              · cases h
            · rename_i hl
              rw [if_neg hl]
              simp only [hz, if_pos h2]
              rw [zcells_cells, ← afill2_placesA] at h
              exact h
          · cases hc
        · cases hc
      · cases hc
  | makeSlice t l c =>
    simp only [comp2] at hc
    split at hc
    · cases hc
    · rename_i e he
      split at hc
      · rename_i z hz
        split at hc
        · rename_i h1
          cases hc
          simp only [ieff, ov_of] at h
          split at h
          · rename_i k n k' m hl hm
            split at h
            · rename_i hb
              simp only [aeff, amake, he, hl, hm, hz]
              rw [if_pos ⟨h1.1, h1.2.1, h1.2.2.1, h1.2.2.2, hb.1, hb.2.1, hb.2.2.1, hb.2.2.2⟩]
              rw [zcells_cells] at h
              exact h
            · cases h
          · cases h
        · cases hc
      · cases hc
  | store t p x =>
    simp only [comp2] at hc
    split at hc
    · rename_i h1
      cases hc
      simp only [ieff, ov_of] at h
      split at h
      · rename_i b n off hp
        split at h
        · rename_i cs hb
          split at h
          · rename_i h2
            simp only [aeff, astore, hp, hb]
            rw [if_pos ⟨h2.1, h1.1, h2.2.1, h2.2.2.1, h2.2.2.2, h1.2⟩]
            exact h
          · cases h
        · cases h
      · cases h
    · cases hc
  | call c =>
    obtain ⟨callee, args, argTypes⟩ := c
    cases callee with
    | builtin b =>
      obtain ⟨args⟩ := args
      obtain ⟨argTypes⟩ := argTypes
      cases b with
      | append =>
        rcases args with _ | ⟨x, _ | ⟨y, _ | ⟨z, l⟩⟩⟩
        · cases hc
        · cases hc
        · rcases argTypes with _ | ⟨t, _ | ⟨u, _ | ⟨v, l⟩⟩⟩
          · cases hc
          · cases hc
          · simp only [comp2] at hc
            split at hc
            · cases hc
            · rename_i e he
              split at hc
              · rename_i h1
                cases hc
                simp only [ieff, ov_of] at h
                simp only [aeff, aappend, he, if_pos h1]
                exact h
              · cases hc
          · cases hc
        · cases hc
      | _ => cases hc
    | _ => cases hc
  | _ => cases hc


def isp (i : Ins) (T : Tm) (H : Hp) (nx : Nat) (K : AV → Hp → Nat → Prop) : Prop := match i with
  | .mkm h => (h = none ∨ ∃ x k n, h = some x ∧ ov T x = .int k n) ∧ K (.mp nx) (hupd H nx [.omap [] []]) (nx + 1)
  | .mput k m key x => ∃ b ks vs r, ov T m = .mp b ∧ H b = some [.omap ks vs] ∧ kfit k (ov T key) = true ∧ mfind k (ov T key) ks = some r ∧ K (.tup []) (hupd H b [.omap (msetK (ov T key) r ks) (msetV (ov T x) r vs)]) nx
  | .mget k z ok m key => ∃ b ks vs r, ov T m = .mp b ∧ H b = some [.omap ks vs] ∧ kfit k (ov T key) = true ∧ mfind k (ov T key) ks = some r ∧ K (Go.Abs.mget z ok r vs) H nx
  | .mlen m => ∃ b ks vs, ov T m = .mp b ∧ H b = some [.omap ks vs] ∧ K (.int .i64 ks.length) H nx
  | .mrng m => ∃ b ks vs, ov T m = .mp b ∧ H b = some [.omap ks vs] ∧ K (.itr nx) (hupd H nx [.oiter b ks.length []]) (nx + 1)
  | .mnxt it => ∃ b m n0 seen ks vs, ov T it = .itr b ∧ H b = some [.oiter m n0 seen] ∧ H m = some [.omap ks vs] ∧
      (∀ i, i < ks.length → i ∉ seen → K (.tup [.bool true, ks.getD i .undef, vs.getD i .undef]) (hupd H b [.oiter m n0 (seen ++ [i])]) nx) ∧
      ((∀ i, i < n0 → i < ks.length → i ∈ seen) → K (.tup [.bool false]) H nx)
  | .cpy sz d s => ∃ n H', acopy sz (ov T d) (ov T s) H = some (n, H') ∧ K (.int .i64 n) H' nx
  | .clr sz z x => ∃ H', aclear sz z (ov T x) H = some H' ∧ K (.tup []) H' nx
  | .snil neg x => ∃ k, alenN (ov T x) = some k ∧ snilRes neg k fun r => K r H nx
  | _ => False

def comp3 (P : Program) : Op → Option Ins
  | .makeMap t r => match tmap P t with | some _ => some (.mkm (r.map .of)) | none => none
  | .mapUpdate t m k x => match tmap P t with
    | some (kt, _) => (mkk P kt).map fun mk => .mput mk (.of m) (.of k) (.of x)
    | none => none
  | .insert t m k x => match tmap P t with
    | some (kt, _) => (mkk P kt).map fun mk => .mput mk (.of m) (.of k) (.of x)
    | none => none
  | .lookup t m k ok => match tmap P t with
    | some (kt, et) => match mkk P kt, azero P et with
      | some mk, some z => some (.mget mk z ok (.of m) (.of k))
      | _, _ => none
    | none => none
  | .range t m => match tmap P t with | some _ => some (.mrng (.of m)) | none => none
  | .next it false => some (.mnxt (.of it))
  | .call { callee := .builtin .len, args := ⟨[x]⟩, argTypes := ⟨[t]⟩ } => match tmap P t with | some _ => some (.mlen (.of x)) | none => none
  | .binOp .eql t x (.const (.slice none 0 0)) _ => match telem P t with | some _ => some (.snil false (.of x)) | none => none
  | .binOp .neq t x (.const (.slice none 0 0)) _ => match telem P t with | some _ => some (.snil true (.of x)) | none => none
  | .call { callee := .builtin .copy, args := ⟨[d, s]⟩, argTypes := ⟨[tD, _]⟩ } => match telem P tD with
    | some e => if tok P e = true then some (.cpy (P.cellsOf e) (.of d) (.of s)) else none
    | none => none
  | .call { callee := .builtin .clear, args := ⟨[x]⟩, argTypes := ⟨[t]⟩ } => match telem P t with
    | some e => match azero P e with
      | some z => if 0 < P.cellsOf e then some (.clr (P.cellsOf e) z (.of x)) else none
      | none => none
    | none => none
  | _ => none

theorem isp_ok {P : Program} {op : Op} {i : Ins} {T : Tm} {H : Hp} {nx : Nat} {K : AV → Hp → Nat → Prop} (hc : comp3 P op = some i) (h : isp i T H nx K) : aspec P op T H nx K := by
  have put : ∀ t m k x, comp3 P (.mapUpdate t m k x) = some i → isp i T H nx K → aspec P (.mapUpdate t m k x) T H nx K := by
    intro t m k x hc h
    simp only [comp3] at hc
    split at hc
    · rename_i kt et ht
      cases hk : mkk P kt with
      | none => rw [hk] at hc; cases hc
      | some mk =>
        rw [hk] at hc; cases hc
        obtain ⟨b, ks, vs, r, h1, h2, h3, h4, h5⟩ := h
        simp only [ov_of] at h1 h3 h4 h5
        exact aspec_mapUpdate ht hk h1 h2 h3 h4 h5
    · cases hc
  unfold comp3 at hc
  split at hc
  · rename_i t r
    split at hc
    · rename_i p ht
      cases hc
      obtain ⟨h1, h2⟩ := h
      refine aspec_makeMap ?_ h2
      rcases h1 with h1 | ⟨x, k, n, h1, h3⟩
      · cases r with
        | none => exact .inl rfl
        | some r => cases h1
      · cases r with
        | none => cases h1
        | some r => cases h1; rw [ov_of] at h3; exact .inr ⟨r, n, k, p, rfl, h3, ht⟩
    · cases hc
  · rename_i t m k x
    exact put t m k x hc h
  · rename_i t m k x
    exact aspec_insert (put t m k x hc h)
  · rename_i t m k ok
    split at hc
    · rename_i kt et ht
      split at hc
      · rename_i mk z hk hz
        cases hc
        obtain ⟨b, ks, vs, r, h1, h2, h3, h4, h5⟩ := h
        simp only [ov_of] at h1 h3 h4
        exact aspec_lookup ht hk hz h1 h2 h3 h4 h5
      · cases hc
    · cases hc
  · rename_i t m
    split at hc
    · rename_i p ht
      cases hc
      obtain ⟨b, ks, vs, h1, h2, h3⟩ := h
      rw [ov_of] at h1
      exact aspec_mrange ht h1 h2 h3
    · cases hc
  · cases hc
    obtain ⟨b, m, n0, seen, ks, vs, h1, h2, h3, h4, h5⟩ := h
    rw [ov_of] at h1
    exact aspec_mnext h1 h2 h3 h4 h5
  · rename_i x t
    split at hc
    · rename_i p ht
      cases hc
      obtain ⟨b, ks, vs, h1, h2, h3⟩ := h
      rw [ov_of] at h1
      exact aspec_mlen ht h1 h2 h3
    · cases hc
  · rename_i t x ty
    split at hc
    · rename_i e ht
      cases hc
      obtain ⟨k, h1, h2⟩ := h
      rw [ov_of] at h1
      exact aspec_snil (neg := false) ht h1 h2
    · cases hc
  · rename_i t x ty
    split at hc
    · rename_i e ht
      cases hc
      obtain ⟨k, h1, h2⟩ := h
      rw [ov_of] at h1
      exact aspec_snil (neg := true) ht h1 h2
    · cases hc
  · rename_i d s tD tS
    split at hc
    · rename_i e ht
      split at hc
      · rename_i hte
        cases hc
        obtain ⟨n, H', h1, h2⟩ := h
        simp only [ov_of] at h1
        exact aspec_copy ht hte h1 h2
      · cases hc
    · cases hc
  · rename_i x t
    split at hc
    · rename_i e ht
      split at hc
      · rename_i z hz
        split at hc
        · rename_i hpos
          cases hc
          obtain ⟨H', h1, h2⟩ := h
          simp only [ov_of] at h1
          exact aspec_clear ht hz h1 hpos h2
        · cases hc
      · cases hc
    · cases hc
  · cases hc

end Go.Abs

/- Code without types: the conditions. -/
set_option linter.unusedVariables false
namespace Go.Abs
open Go.RowKit

structure Op2 where
  d : Option Nat
  g : Option (Nat × Bool)
  i : Ins

inductive C2 where
  | skip
  | ops (m : Nat) (l : List Op2)
  | mix (m : Nat) (l : List Op2) (C pd : List Nat)
  | seq (a b : C2)
  | cond (c : Opd) (a b : C2)
  | block (id : Nat) (b : C2)
  | loop (b : C2)
  | exit (id : Nat)
  | ret
  | rangeF (g : Opd) (ps : List Nat) (a b : C2)

inductive IC where
  | val | eff | call | sp
  deriving DecidableEq

def ic : Ins → IC
  | .alloc _ | .box _ | .bldS .. | .mks .. | .st .. | .app .. => .eff
  | .call .. => .call
  | .mkm .. | .mput .. | .mget .. | .mlen _ | .mrng _ | .mnxt _ | .cpy .. | .clr .. | .snil .. => .sp
  | _ => .val

def oldP (m : Nat) (p : AV) : Bool := match p with | .ptr b _ _ => b < m | _ => true
def newP (m : Nat) (p : AV) : Bool := match p with | .ptr b _ _ => m ≤ b | _ => true

def dm2 (dm : DM) (T : Tm) (i : Ins) : Bool := match dm with
  | .fresh m => match i with
    | .ld1 a => oldP m (ov T a)
    | .ldn _ a => oldP m (ov T a)
    | .st _ p _ => newP m (ov T p)
    | .app .. => false
    | _ => true
  | _ => true

def ains (P : Program) (dm : DM) (i : Ins) (T : Tm) (H : Hp) (nx : Nat) (K : AV → Hp → Nat → Prop) : Prop :=
  match ic i with
  | .val => bbind (dm2 dm T i) (obind (ival T H i) fun r => K r H nx)
  | .eff => bbind (dm2 dm T i) (obind (ieff T H nx i) fun x => K x.1 x.2.1 x.2.2)
  | .call => match i with
    | .call f args => (obind (isFn (ov T f)) fun y => match dm.isText with
      | false => PCall P y.1 (args.map (ov T) ++ y.2) H fun r => K r H nx
      | true => Fn P y.1 (args.map (ov T) ++ y.2) H nx K) ∨ (dm.isText = true ∧ ∃ b, ov T f = .yld b ∧ Yl P b (args.map (ov T)) H nx K)
    | _ => False
  | .sp => dm.isText = true ∧ isp i T H nx K

def g2 (T : Tm) : Option (Nat × Bool) → Option Bool
  | none => some true
  | some (t, want) => match T t with
    | .bool b => some (b == want)
    | .tup [] => some false
    | _ => none

def aops2 (P : Program) (dm : DM) : List Op2 → Tm → Hp → Nat → SP → Prop
  | [], T, H, nx, K => K T H nx
  | o :: l, T, H, nx, K => gbind (g2 T o.g) (ains P dm o.i T H nx fun r H nx => aops2 P dm l (updo T o.d r) H nx K) (aops2 P dm l (updo T o.d (.tup [])) H nx K)

def awp2 (P : Program) : C2 → Tm → Hp → Nat → CP → Prop
  | .skip, T, H, nx, K => K .normal T H nx
  | .ops m l, T₀, H₀, nx₀, K => ∃ T H nx Hf, Gh T₀ H₀ nx₀ T H nx Hf ∧ aops2 P (match m with | 0 => .text | 1 => .draw | _ => .fresh nx) l T H nx (K .normal)
  | .mix m l C pd, T₀, H₀, nx₀, K => (m ≠ 9 ∧ ∃ T H nx Hf, Gh T₀ H₀ nx₀ T H nx Hf ∧ aops2 P (match m with | 1 => .draw | _ => .fresh nx) l T H nx (K .normal)) ∨
      ∃ T H nx Hf, Gh T₀ H₀ nx₀ T H nx Hf ∧ (∀ t ∈ pd, T t = .undef) ∧ aops2 P .text (C.map fun k => l.getD k ⟨none, none, .dead⟩) T H nx (K .normal)
  | .seq x y, T, H, nx, K => awp2 P x T H nx fun e T H nx => athen e (awp2 P y T H nx K) (K e T H nx)
  | .cond c x y, T, H, nx, K => acond (ov T c) (awp2 P x T H nx K) (awp2 P y T H nx K)
  | .block id b, T, H, nx, K => awp2 P b T H nx fun e T H nx => K (ablock id e) T H nx
  | .loop b, T, H, nx, K => aloop (awp2 P b) T H nx K
  | .exit id, T, H, nx, K => K (.exit id) T H nx
  | .ret, T, H, nx, K => K .ret T H nx
  | .rangeF g ps a b, T, H, nx, K => ∃ f caps, ov T g = .func f caps ∧ ∀ (c0 : AV) (cj : AEx → AV),
      (∀ (args : List AV) (H' : Hp) (nx' : Nat) (K' : AV → Hp → Nat → Prop), H' nx = some [c0] → args.length = ps.length →
        awp2 P a (updl T ps args) H' nx' (fun e T2 H2 nx2 => athen e (H2 nx = some [c0] ∧ awp2 P b T2 (hdel H2 nx) nx2 fun e T3 H3 nx3 => athen e (K' (.bool true) (hupd H3 nx [c0]) nx3) (K' (.bool false) (hupd H3 nx [cj e]) nx3)) False) →
        Yl P nx args H' nx' K') →
      Fn P f (.yld nx :: caps) (hupd H nx [c0]) (nx + 1) fun _ H' nx' => (H' nx = some [c0] ∧ K .normal T (hdel H' nx) nx') ∨ ∃ e, e ≠ .normal ∧ H' nx = some [cj e] ∧ K e T (hdel H' nx) nx'

def opIC : Op → Option IC
  | .call { callee := .value _, .. } => some .call
  | op => match opk op with
    | .pure | .touch => some .val
    | .alloc | .write => some .eff
    | .other => none

def compI (P : Program) (op : Op) : Option Ins := match opIC op with
  | some .call => match callOf op with
    | some (f, args) => some (.call (.of f) (args.toList.map .of))
    | none => none
  | some .val => match comp1 P op with
    | some i => if ic i = .val then some i else none
    | none => none
  | some .eff => match comp2 P op with
    | some i => if ic i = .eff then some i else none
    | none => none
  | _ => none

/-- what is not covered must not be reached -/
def compD (P : Program) (op : Op) : Ins := match compI P op with
  | some i => i
  | none => match comp3 P op with
    | some i => if ic i = .sp then i else .dead
    | none => .dead

def compG (dsts : List (Option Nat)) : Option (Nat × Bool) → Option (Option (Nat × Bool))
  | none => some none
  | some (j, want) => match dsts[j]? with
    | some (some d) => some (some (d, want))
    | _ => none

def compO (P : Program) (N : Nat) (dsts : List (Option Nat)) (o : Oper) : Option Op2 :=
  if dok N o.dst then (match compG dsts o.guard with
    | some g => some ⟨o.dst, g, compD P o.op⟩
    | none => none) else none

def compL (P : Program) (N : Nat) (dsts : List (Option Nat)) : List Oper → Option (List Op2)
  | [] => some []
  | o :: l => match compO P N dsts o, compL P N dsts l with
    | some o, some l => some (o :: l)
    | _, _ => none

/-! regions with effects -/
def otherB (ops : List Oper) : Bool := ops.any fun o => opk o.op == .other
def mixC (ops : List Oper) : List Nat :=
  let m := Region.before ops.toArray
  let r := List.range ops.length
  let C := (r.filter fun i => opk (ops.getD i default).op != .pure).foldl (fun acc s => acc ++ r.filter fun i => (i == s || mbit m s i) && !acc.contains i) []
  C ++ r.filter fun i => !C.contains i
def mixPd (ops : List Oper) (C : List Nat) : List Nat :=
  let m := Region.before ops.toArray
  (List.range C.length).filterMap fun q =>
    let j := C.getD q 0
    match (ops.getD j default).dst with
    | some d => if isMov (ops.getD j default).op && (C.take q).any (fun i => opk (ops.getD i default).op != .pure && !mbit m j i) then some d else none
    | none => none
def mixy (P : Program) (N : Nat) (ops : List Oper) : Bool :=
  (ops.any fun o => opk o.op == .other || (opIC o.op == some .call)) && (ops.all fun o => opk o.op != .pure || (compI P o.op).isSome) && mixOk N ops (mixC ops) (mixPd ops (mixC ops))

def comp (P : Program) (N : Nat) : Code → Option C2
  | .skip => some .skip
  | .label _ => some .skip
  | .region _ ops draw => match compL P N (ops.toList.map (·.dst)) ops.toList with
    | some l => if draw = true then (if mixy P N ops.toList = true then some (.mix (if otherB ops.toList = true then 9 else if drawOk false ops.toList = true then 1 else if drawOk true ops.toList = true then 2 else 9) l (mixC ops.toList) (mixPd ops.toList (mixC ops.toList))) else if drawOk false ops.toList = true then some (.ops 1 l) else if drawOk true ops.toList = true then some (.ops 2 l) else none) else some (.ops 0 l)
    | none => none
  | .seq a b => match comp P N a, comp P N b with
    | some a, some b => some (.seq a b)
    | _, _ => none
  | .cond c a b => match comp P N a, comp P N b with
    | some a, some b => some (.cond (.of c) a b)
    | _, _ => none
  | .block id b => match comp P N b with
    | some b => some (.block id b)
    | none => none
  | .loop b => match comp P N b with
    | some b => some (.loop b)
    | none => none
  | .exit id => some (.exit id)
  | .ret => some .ret
  | .rangeFunc g ps a b => if ps.toList.all (fun t => decide (t < N)) = true then (match comp P N a, comp P N b with
    | some a, some b => some (.rangeF (.of g) ps.toList a b)
    | _, _ => none) else none
  | _ => none

theorem obind_mono {α : Type} {x : Option α} {A B : α → Prop} (hab : ∀ a, A a → B a) (h : obind x A) : obind x B := by
  cases x with
  | none => exact h
  | some a => exact hab a h

theorem dm2_ok {P : Program} {dm : DM} {op : Op} {i : Ins} {T : Tm} (hc : (comp1 P op = some i ∧ opk op ≠ .write) ∨ comp2 P op = some i) (h : dm2 dm T i = true) : dmOk dm T op = true := by
  cases dm with
  | text => rfl
  | draw => rfl
  | fresh m =>
    rcases hc with ⟨hc, hk⟩ | hc
    · cases op with
      | load t a =>
        simp only [comp1] at hc
        split at hc
        · split at hc
          · split at hc
            · cases hc
              simp only [dm2, oldP, ov_of] at h
              simp only [dmOk, frOk]; exact h
            · cases hc
          · cases hc
            simp only [dm2, oldP, ov_of] at h
            simp only [dmOk, frOk]; exact h
        · cases hc
      | store t p x => exact absurd rfl hk
      | _ => simpa [dmOk, frOk] using hk
    · cases op with
      | store t p x =>
        simp only [comp2] at hc
        split at hc
        · cases hc
          simp only [dm2, newP, ov_of] at h
          simp only [dmOk, frOk]; exact h
        · cases hc
      | alloc e => rfl
      | box e x => rfl
      | buildSlice t len parts => rfl
      | makeSlice t l c => rfl
      | call c =>
        obtain ⟨callee, args, argTypes⟩ := c
        cases callee with
        | builtin b =>
          obtain ⟨args⟩ := args
          obtain ⟨argTypes⟩ := argTypes
          cases b with
          | append =>
            rcases args with _ | ⟨x, _ | ⟨y, _ | ⟨z, l⟩⟩⟩
            · cases hc
            · cases hc
            · rcases argTypes with _ | ⟨t, _ | ⟨u, _ | ⟨v, l⟩⟩⟩
              · cases hc
              · cases hc
              · simp only [comp2] at hc
                split at hc
                · cases hc
                · split at hc
                  · cases hc
                    cases h
                  · cases hc
              · cases hc
            · cases hc
          | _ => cases hc
        | _ => cases hc
      | _ => cases hc

theorem ains_ok {P : Program} {dm : DM} {op : Op} {i : Ins} {T : Tm} {H : Hp} {nx : Nat} {K : AV → Hp → Nat → Prop} (hc : compI P op = some i) (h : ains P dm i T H nx K) : aop1 P dm op T H nx K := by
  unfold aop1
  unfold compI at hc
  split at hc
  · rename_i hk
    split at hc
    · rename_i f args hf
      cases hc
      have h : (obind (isFn (ov T (.of f))) fun y => match (generalizing := false) dm.isText with
        | false => PCall P y.1 ((args.toList.map Opd.of).map (ov T) ++ y.2) H fun r => K r H nx
        | true => Fn P y.1 ((args.toList.map Opd.of).map (ov T) ++ y.2) H nx K) ∨ (dm.isText = true ∧ ∃ b, ov T (.of f) = .yld b ∧ Yl P b ((args.toList.map Opd.of).map (ov T)) H nx K) := h
      rw [ov_of, ov_of_map] at h
      obtain ⟨ts, rfl⟩ := callOf_eq hf
      rcases h with h | ⟨h1, b, h2, h3⟩
      · exact .inl h
      · exact .inr ⟨h1, aspec_yield h2 h3⟩
    · cases hc
  · rename_i hk
    split at hc
    · rename_i j hj
      split at hc
      · rename_i hic
        cases hc
        have hoc : opc op = .val ∧ opk op ≠ .write := by
          unfold opIC at hk
          split at hk
          · cases hk
          · rename_i hn
            unfold opc
            split
            · rename_i a b c; exact absurd rfl (hn _ _ _)
            · split at hk <;> rename_i hkk <;> (try rw [hkk]) <;> first | (cases hk; done) | (exact ⟨rfl, by decide⟩)
        unfold ains at h
        rw [hic] at h
        simp only at h
        left
        unfold aop1o
        rw [hoc.1]
        simp only
        refine ⟨dm2_ok (.inl ⟨hj, hoc.2⟩) h.1, ?_⟩
        have h := h.2
        cases hv : ival T H i with
        | none => rw [hv] at h; exact h.elim
        | some r => rw [ival_ok hj hv]; rw [hv] at h; exact h
      · cases hc
    · cases hc
  · rename_i hk
    split at hc
    · rename_i j hj
      split at hc
      · rename_i hic
        cases hc
        have hoc : opc op = .eff := by
          unfold opIC at hk
          split at hk
          · cases hk
          · rename_i hn
            unfold opc
            split
            · rename_i a b c; exact absurd rfl (hn _ _ _)
            · split at hk <;> rename_i hkk <;> (try rw [hkk]) <;> cases hk
        unfold ains at h
        rw [hic] at h
        simp only at h
        left
        unfold aop1o
        rw [hoc]
        simp only
        refine ⟨dm2_ok (.inr hj) h.1, ?_⟩
        have h := h.2
        cases hv : ieff T H nx i with
        | none => rw [hv] at h; exact h.elim
        | some r => rw [ieff_ok hj hv]; rw [hv] at h; exact h
      · cases hc
    · cases hc
  · cases hc

theorem ains_okD {P : Program} {dm : DM} {op : Op} {T : Tm} {H : Hp} {nx : Nat} {K : AV → Hp → Nat → Prop} (h : ains P dm (compD P op) T H nx K) : aop1 P dm op T H nx K := by
  unfold compD at h
  split at h
  · rename_i i hi; exact ains_ok hi h
  · split at h
    · rename_i i hi
      split at h
      · rename_i hic
        unfold ains at h
        rw [hic] at h
        exact .inr ⟨h.1, isp_ok hi h.2⟩
      · exact h.2.elim
    · exact h.2.elim

theorem g2_ok {dsts : List (Option Nat)} {T : Tm} {g : Option (Nat × Bool)} {g' : Option (Nat × Bool)} (h : compG dsts g = some g') : gval T dsts g = g2 T g' := by
  unfold compG at h
  split at h
  · cases h; rfl
  · split at h
    · rename_i d hd
      cases h
      simp only [gval, hd, g2]
      generalize T d = v
      cases v <;> try rfl
    · cases h

theorem aops2_ok {P : Program} {N : Nat} {dm : DM} {dsts : List (Option Nat)} {K : SP} : ∀ (l : List Oper) (l2 : List Op2) {T : Tm} {H : Hp} {nx : Nat}, compL P N dsts l = some l2 → aops2 P dm l2 T H nx K → aops P N dm dsts l T H nx K
  | [], l2, T, H, nx, hc, h => by cases hc; exact h
  | o :: l, l2, T, H, nx, hc, h => by
    simp only [compL] at hc
    split at hc
    · rename_i o2 r2 ho hr
      cases hc
      unfold compO at ho
      split at ho
      · rename_i hd
        split at ho
        · rename_i g hg
          cases ho
          refine ⟨hd, ?_⟩
          rw [g2_ok hg]
          have h : gbind (g2 T g) (ains P dm (compD P o.op) T H nx fun r H nx => aops2 P dm r2 (updo T o.dst r) H nx K) (aops2 P dm r2 (updo T o.dst (.tup [])) H nx K) := h
          cases hgv : g2 T g with
          | none => rw [hgv] at h; exact h.elim
          | some b =>
            rw [hgv] at h
            cases b with
            | true =>
              have h : ains P dm (compD P o.op) T H nx fun r H nx => aops2 P dm r2 (updo T o.dst r) H nx K := h
              exact aop1_mono (ains_okD h) (fun r H nx hh => aops2_ok l r2 hr hh)
            | false => exact aops2_ok l r2 hr h
        · cases ho
      · cases ho
    · cases hc

theorem ains_okM {P : Program} {op : Op} {T : Tm} {H : Hp} {nx : Nat} {K : AV → Hp → Nat → Prop} (hp : opk op ≠ .pure ∨ (compI P op).isSome = true) (h : ains P .text (compD P op) T H nx K) : aop1M P op T H nx K := by
  unfold aop1M
  split
  · rename_i hk
    obtain ⟨i, hi⟩ := Option.isSome_iff_exists.1 (hp.resolve_left (fun h => h hk))
    unfold compD at h
    rw [hi] at h
    have h : ains P .text i T H nx K := h
    unfold compI at hi
    have hic : opIC op = some .val := by
      unfold opIC
      split
      · simp [opk] at hk
      · rw [hk]
    rw [hic] at hi
    simp only at hi
    split at hi
    · rename_i j hj
      split at hi
      · rename_i hc
        cases hi
        unfold ains at h
        rw [hc] at h
        obtain ⟨_, h⟩ := h
        obtain ⟨r, hr, hk⟩ := obind_elim h
        rw [ival_ok hj hr]; exact hk
      · cases hi
    · cases hi
  · exact ains_okD h

theorem compL_get {P : Program} {N : Nat} {dsts : List (Option Nat)} : ∀ {l : List Oper} {l2 : List Op2}, compL P N dsts l = some l2 → ∀ {k : Nat} {o : Oper}, l[k]? = some o → ∃ o2, l2[k]? = some o2 ∧ compO P N dsts o = some o2
  | [], l2, h, k, o, ho => by simp at ho
  | x :: l, l2, h, k, o, ho => by
    simp only [compL] at h
    split at h
    · rename_i o2 r2 h1 h2
      cases h
      cases k with
      | zero => simp at ho; subst ho; exact ⟨o2, rfl, h1⟩
      | succ k =>
        obtain ⟨o3, h3, h4⟩ := compL_get h2 (k := k) (o := o) (by simpa using ho)
        exact ⟨o3, by simpa using h3, h4⟩
    · cases h

theorem aopsM_ok {P : Program} {N : Nat} {ops : List Oper} {l : List Op2} (hl : compL P N (ops.map (·.dst)) ops = some l) (hp : ∀ o ∈ ops, opk o.op ≠ .pure ∨ (compI P o.op).isSome = true) {K : SP} : ∀ (C : List Nat), (∀ k ∈ C, k < ops.length) → ∀ {T : Tm} {H : Hp} {nx : Nat},
    aops2 P .text (C.map fun k => l.getD k ⟨none, none, .dead⟩) T H nx K → aopsM P N (ops.map (·.dst)) (C.map fun k => ops.getD k default) T H nx K
  | [], _, _, _, _, h => h
  | k :: C, hC, T, H, nx, h => by
    have hk := hC k (by simp)
    obtain ⟨o, ho⟩ := exists_get hk
    obtain ⟨o2, ho2, hc⟩ := compL_get hl ho
    have e1 : ops.getD k default = o := getD_of ho
    have e2 : l.getD k ⟨none, none, .dead⟩ = o2 := by simp [List.getD, ho2]
    rw [List.map_cons, e1]
    rw [List.map_cons, e2] at h
    have hpo := hp o (List.mem_of_getElem? ho)
    unfold compO at hc
    split at hc
    · rename_i hd
      split at hc
      · rename_i g hg
        cases hc
        refine ⟨hd, ?_⟩
        rw [g2_ok hg]
        have h : gbind (g2 T g) (ains P .text (compD P o.op) T H nx fun r H nx => aops2 P .text (C.map fun k => l.getD k ⟨none, none, .dead⟩) (updo T o.dst r) H nx K) (aops2 P .text (C.map fun k => l.getD k ⟨none, none, .dead⟩) (updo T o.dst (.tup [])) H nx K) := h
        cases hgv : g2 T g with
        | none => rw [hgv] at h; exact h.elim
        | some b =>
          rw [hgv] at h
          cases b with
          | true =>
            have h : ains P .text (compD P o.op) T H nx fun r H nx => aops2 P .text (C.map fun k => l.getD k ⟨none, none, .dead⟩) (updo T o.dst r) H nx K := h
            exact aop1M_mono (ains_okM hpo h) (fun r H nx hh => aopsM_ok hl hp C (fun q hq => hC q (by simp [hq])) hh)
          | false => exact aopsM_ok hl hp C (fun q hq => hC q (by simp [hq])) h
      · cases hc
    · cases hc

theorem awp2_ok {P : Program} {N : Nat} (hm : P.follows .mixedOrders = true) : ∀ (c : Code) (c2 : C2) {T : Tm} {H : Hp} {nx : Nat} {K : CP}, comp P N c = some c2 → awp2 P c2 T H nx K → awp P N c T H nx K
  | .skip, c2, _, _, _, _, hc, h => by cases hc; exact h
  | .label _, c2, _, _, _, _, hc, h => by cases hc; exact h
  | .exit _, c2, _, _, _, _, hc, h => by cases hc; exact h
  | .ret, c2, _, _, _, _, hc, h => by cases hc; exact h
  | .region _ ops draw, c2, _, _, _, _, hc, h => by
    simp only [comp] at hc
    split at hc
    · rename_i l hl
      cases draw with
      | true =>
        simp only [if_true] at hc
        split at hc
        · rename_i hmx
          cases hc
          unfold mixy at hmx
          simp only [Bool.and_eq_true, List.all_eq_true, Bool.or_eq_true, bne_iff_ne, ne_eq] at hmx
          obtain ⟨⟨_, hp⟩, hok⟩ := hmx
          rcases h with ⟨h9, T, H, nx, Hf, hg, h⟩ | ⟨T, H, nx, Hf, hg, hu, h⟩
          · refine ⟨T, H, nx, Hf, hg, .inl ?_⟩
            split at h9
            · exact absurd rfl h9
            · rename_i ho
              rw [if_neg ho] at h
              split at h9
              · rename_i hd
                rw [if_pos hd] at h ⊢
                exact aops2_ok _ _ hl h
              · rename_i hd
                rw [if_neg hd] at h ⊢
                split at h9
                · rename_i hd2
                  rw [if_pos hd2] at h
                  exact ⟨hd2, aops2_ok _ _ hl h⟩
                · exact absurd rfl h9
          · exact ⟨T, H, nx, Hf, hg, .inr ⟨_, _, hok, hu, aopsM_ok hl hp _ (mixOk_ok hok).lt h⟩⟩
        · split at hc
          · rename_i hd
            cases hc
            obtain ⟨T, H, nx, Hf, hg, h⟩ := h
            refine ⟨T, H, nx, Hf, hg, ?_⟩
            simp only
            rw [if_pos hd]
            exact .inl (aops2_ok _ _ hl h)
          · rename_i hd
            split at hc
            · rename_i hd2
              cases hc
              obtain ⟨T, H, nx, Hf, hg, h⟩ := h
              refine ⟨T, H, nx, Hf, hg, ?_⟩
              simp only
              rw [if_neg hd]
              exact .inl ⟨hd2, aops2_ok _ _ hl h⟩
            · cases hc
      | false =>
        simp only [Bool.false_eq_true, if_false] at hc
        cases hc
        obtain ⟨T, H, nx, Hf, hg, h⟩ := h
        exact ⟨T, H, nx, Hf, hg, aops2_ok _ _ hl h⟩
    · cases hc
  | .seq a b, c2, _, _, _, K, hc, h => by
    simp only [comp] at hc
    split at hc
    · rename_i a2 b2 ha hb
      cases hc
      refine awp_mono a (awp2_ok hm a a2 ha h) (fun e T H nx h => ?_)
      cases e with
      | normal => exact awp2_ok hm b b2 hb h
      | exit i => exact h
      | ret => exact h
    · cases hc
  | .cond c a b, c2, _, _, _, K, hc, h => by
    simp only [comp] at hc
    split at hc
    · rename_i a2 b2 ha hb
      cases hc
      simp only [awp2, ov_of] at h
      simp only [awp]
      unfold acond at h ⊢
      split at h
      · exact ⟨fun hh => awp2_ok hm a a2 ha (h.1 hh), fun hh => awp2_ok hm b b2 hb (h.2 hh)⟩
      · exact h
    · cases hc
  | .block id b, c2, _, _, _, K, hc, h => by
    simp only [comp] at hc
    split at hc
    · rename_i b2 hb
      cases hc
      exact awp2_ok hm b b2 hb h
    · cases hc
  | .loop b, c2, T, H, nx, K, hc, h => by
    simp only [comp] at hc
    split at hc
    · rename_i b2 hb
      cases hc
      obtain ⟨n, h⟩ := h
      refine ⟨n, ?_⟩
      induction n generalizing T H nx with
      | zero => exact h
      | succ n ih =>
        obtain ⟨T', H', nx', Hf, hg, h⟩ := h
        refine ⟨T', H', nx', Hf, hg, awp_mono b (awp2_ok hm b b2 hb h) (fun e T H nx h => ?_)⟩
        cases e with
        | normal => exact ih _ _ _ h
        | exit i => exact h
        | ret => exact h
    · cases hc
  | .rangeFunc g ps a b, c2, T, H, nx, K, hc, h => by
    simp only [comp] at hc
    split at hc
    case isFalse => cases hc
    case isTrue hps =>
    split at hc
    · rename_i a2 b2 ha hb
      cases hc
      obtain ⟨f, caps, h1, h2⟩ := h
      rw [ov_of] at h1
      show RF P N _ T H nx K
      refine RF_of h1 (fun r hr => ?_)
      refine h2 (.oloop r T) (leftBox r T) (fun args H' nx' K' hH hl hw => ?_)
      refine Yl.of_awp hr hm (fun t ht => by simpa using List.all_eq_true.1 hps t ht) hH (by simpa using hl) (awp_mono a (awp2_ok hm a a2 ha hw) (fun e T2 H2 nx2 h => ?_))
      cases e with
      | normal => exact ⟨h.1, awp2_ok hm b b2 hb h.2⟩
      | exit i => exact h
      | ret => exact h
    · cases hc
  | .scope _, _, _, _, _, _, hc, _ => by cases hc
  | .goto _, _, _, _, _, _, hc, _ => by cases hc
  | .refuse _, _, _, _, _, _, hc, _ => by cases hc

/-! ### functions -/
inductive RV where
  | t (n : Nat)
  | c1 (n : Nat)
  | cn (n k : Nat)

structure F2 where
  n : Nat
  res : List RV
  body : C2

def compR (P : Program) : List ResultVar → Option (List RV)
  | [] => some []
  | .tmp t :: l => match compR P l with | some l => some (.t t :: l) | none => none
  | .cell a t :: l => if tok P t = true then (match compR P l with
    | some l => if tagg P t = true then (if 0 < P.cellsOf t then some (.cn a (P.cellsOf t) :: l) else none) else some (.c1 a :: l)
    | none => none) else none

def compF (P : Program) (fn : Func) : Option F2 :=
  match fn.body with
  | some c => if fn.name == "runtime.NumGoroutine" then none else match comp P fn.ntmps c, compR P fn.results.toList with
    | some b, some r => some ⟨fn.ntmps, r, b⟩
    | _, _ => none
  | none => none

def rv (T : Tm) (H : Hp) : RV → Option AV
  | .t n => some (T n)
  | .c1 n => rd1 H (T n)
  | .cn n k => (rd H k (T n)).map .agg

/-- the results -/
def res1 (T : Tm) (H : Hp) (K : AV → Prop) : List RV → Prop
  | [a] => obind (rv T H a) K
  | [a, b] => obind (rv T H a) fun x => obind (rv T H b) fun y => K (.tup [x, y])
  | [a, b, c] => obind (rv T H a) fun x => obind (rv T H b) fun y => obind (rv T H c) fun z => K (.tup [x, y, z])
  | [] => K (.tup [])
  | _ => False

theorem rv_ok {P : Program} {T : Tm} {H : Hp} {r : ResultVar} {l : List ResultVar} {x : RV} {xs : List RV} {v : AV} (h : compR P (r :: l) = some (x :: xs)) (hv : rv T H x = some v) :
    compR P l = some xs ∧ ares P T H (r :: l) = (match ares P T H l with | some ys => some (v :: ys) | none => none) := by
  cases r with
  | tmp t =>
    simp only [compR] at h
    split at h
    · rename_i ys hy
      cases h
      cases hv
      exact ⟨hy, rfl⟩
    · cases h
  | cell a t =>
    simp only [compR] at h
    split at h
    · rename_i h1
      split at h
      · rename_i ys hy
        split at h
        · rename_i h2
          split at h
          · rename_i h3
            cases h
            refine ⟨hy, ?_⟩
            simp only [rv] at hv
            simp only [ares, aload, h1, h2, if_true, if_pos h3, hv]
            cases ares P T H l <;> rfl
          · cases h
        · rename_i h2
          cases h
          refine ⟨hy, ?_⟩
          simp only [rv] at hv
          simp only [ares, aload, h1, h2, if_true, hv]
          cases ares P T H l <;> rfl
      · cases h
    · cases h

theorem compR_nil {P : Program} {l : List ResultVar} (h : compR P l = some []) : l = [] := by
  cases l with
  | nil => rfl
  | cons r l =>
    cases r with
    | tmp t => simp only [compR] at h; split at h <;> cases h
    | cell a t =>
      simp only [compR] at h
      split at h
      · split at h
        · split at h
          · split at h <;> cases h
          · cases h
        · cases h
      · cases h

theorem compR_cons {P : Program} {l : List ResultVar} {x : RV} {xs : List RV} (h : compR P l = some (x :: xs)) : ∃ r l', l = r :: l' := by
  cases l with
  | nil => cases h
  | cons r l => exact ⟨r, l, rfl⟩

theorem res1_ok {P : Program} {T : Tm} {H : Hp} {K : AV → Prop} {l : List ResultVar} {r : List RV} (h : compR P l = some r) (hk : res1 T H K r) : obind (ares1 P T H l) K := by
  have one : ∀ {x : RV} {K' : AV → Prop}, obind (rv T H x) K' → ∃ v, rv T H x = some v ∧ K' v := by
    intro x K' h
    cases hv : rv T H x with
    | none => rw [hv] at h; exact h.elim
    | some v => rw [hv] at h; exact ⟨v, rfl, h⟩
  rcases r with _ | ⟨a, _ | ⟨b, _ | ⟨c, _ | ⟨d, r⟩⟩⟩⟩
  · have := compR_nil h; subst this; exact hk
  · obtain ⟨r1, l1, rfl⟩ := compR_cons h
    obtain ⟨v, hv, hk⟩ := one hk
    obtain ⟨h1, e1⟩ := rv_ok h hv
    have := compR_nil h1; subst this
    simp only [ares1, e1, ares]; exact hk
  · obtain ⟨r1, l1, rfl⟩ := compR_cons h
    obtain ⟨v, hv, hk⟩ := one hk
    obtain ⟨h1, e1⟩ := rv_ok h hv
    obtain ⟨r2, l2, rfl⟩ := compR_cons h1
    obtain ⟨v2, hv2, hk⟩ := one hk
    obtain ⟨h2, e2⟩ := rv_ok h1 hv2
    have := compR_nil h2; subst this
    simp only [ares1, e1, e2, ares]; exact hk
  · obtain ⟨r1, l1, rfl⟩ := compR_cons h
    obtain ⟨v, hv, hk⟩ := one hk
    obtain ⟨h1, e1⟩ := rv_ok h hv
    obtain ⟨r2, l2, rfl⟩ := compR_cons h1
    obtain ⟨v2, hv2, hk⟩ := one hk
    obtain ⟨h2, e2⟩ := rv_ok h1 hv2
    obtain ⟨r3, l3, rfl⟩ := compR_cons h2
    obtain ⟨v3, hv3, hk⟩ := one hk
    obtain ⟨h3, e3⟩ := rv_ok h2 hv3
    have := compR_nil h3; subst this
    simp only [ares1, e1, e2, e3, ares]; exact hk
  · exact hk.elim

/-- function f of P is this code -/
structure Is (P : Program) (f : FuncId) (F : F2) : Prop where
  out : ∃ fn, P.funcs[f]? = some fn ∧ compF P fn = some F

theorem Is.mk' {P : Program} {f : FuncId} {F : F2} {fn : Func} (h1 : P.funcs[f]? = some fn) (h2 : compF P fn = some F) : Is P f F := ⟨fn, h1, h2⟩

theorem Is.cok {P : Program} {f : FuncId} {F : F2} (h : Is P f F) : cok P f = true := by
  obtain ⟨fn, h1, h2⟩ := h.out
  unfold compF at h2
  split at h2
  · rename_i c hc
    split at h2
    · cases h2
    · rename_i hn
      unfold Go.Abs.cok
      simp only [h1, hc, Option.isSome_some, Bool.true_and, Bool.not_eq_true']
      simpa using hn
  · cases h2

theorem Is.bodyOk {P : Program} {f : FuncId} {F : F2} (h : Is P f F) (hm : P.follows .mixedOrders = true) {args : List AV} {H : Hp} {nx : Nat} {K : AV → Hp → Nat → Prop} (hl : args.length ≤ F.n)
    (hb : awp2 P F.body (T0 args) H nx fun e T H nx => bbind e.ends (res1 T H (fun x => K x H nx) F.res)) : ∃ fn, P.funcs[f]? = some fn ∧ BodyOk P fn args H nx K := by
  obtain ⟨fn, h1, h2⟩ := h.out
  refine ⟨fn, h1, ?_⟩
  unfold compF at h2
  split at h2
  · rename_i c hc
    split at h2
    · cases h2
    · split at h2
      · rename_i b r hb' hr
        cases h2
        exact ⟨c, hc, hl, awp_mono c (awp2_ok hm c b hb' hb) (fun e T H nx hh => ⟨hh.1, res1_ok hr hh.2⟩)⟩
      · cases h2
  · cases h2

theorem Pure.of_c2 {P : Program} {f : FuncId} {F : F2} {args : List AV} {r : AV} (hm : P.follows .mixedOrders = true) (hf : Is P f F) (hl : args.length ≤ F.n)
    (hb : awp2 P F.body (T0 args) noBoxes 0 fun e T H nx => bbind e.ends (res1 T H (fun x => Snap H x r) F.res)) : Pure P f args r := by
  obtain ⟨fn, h1, h2⟩ := hf.bodyOk hm (K := fun x H nx => Snap H x r) hl hb
  exact Pure.of_body hm h1 hf.cok h2

theorem Fn.of_c2 {P : Program} {f : FuncId} {F : F2} {args : List AV} {H : Hp} {nx : Nat} {K : AV → Hp → Nat → Prop} (hm : P.follows .mixedOrders = true) (hf : Is P f F) (hl : args.length ≤ F.n)
    (hb : awp2 P F.body (T0 args) H nx fun e T H nx => bbind e.ends (res1 T H (fun x => K x H nx) F.res)) : Fn P f args H nx K := by
  obtain ⟨fn, h1, h2⟩ := hf.bodyOk hm (K := K) hl hb
  exact Fn.of_body hm h1 hf.cok h2

theorem PureF.of_c2 {P : Program} {f : FuncId} {F : F2} {args : List AV} {r : AV} (hm : P.follows .mixedOrders = true) (hf : Is P f F) (hl : args.length ≤ F.n)
    (hb : awp2 P F.body (T0 args) noBoxes 0 fun e T H nx => bbind e.ends (res1 T H (fun x => SnapF H x r) F.res)) : PureF P f args r :=
  PureF.of_fn (Fn.of_c2 hm hf hl hb)

end Go.Abs

/- Walking code without types. -/
set_option linter.unusedVariables false
namespace Go.Abs
open Go.RowKit

theorem isp_mono {i : Ins} {T : Tm} {H : Hp} {nx : Nat} {K K' : AV → Hp → Nat → Prop} (h : isp i T H nx K) (hK : ∀ r H nx, K r H nx → K' r H nx) : isp i T H nx K' := by
  cases i <;> first | exact h | skip
  · exact ⟨h.1, hK _ _ _ h.2⟩
  · obtain ⟨b, ks, vs, r, h1, h2, h3, h4, h5⟩ := h; exact ⟨b, ks, vs, r, h1, h2, h3, h4, hK _ _ _ h5⟩
  · obtain ⟨b, ks, vs, r, h1, h2, h3, h4, h5⟩ := h; exact ⟨b, ks, vs, r, h1, h2, h3, h4, hK _ _ _ h5⟩
  · obtain ⟨b, ks, vs, h1, h2, h3⟩ := h; exact ⟨b, ks, vs, h1, h2, hK _ _ _ h3⟩
  · obtain ⟨b, ks, vs, h1, h2, h3⟩ := h; exact ⟨b, ks, vs, h1, h2, hK _ _ _ h3⟩
  · obtain ⟨b, m, n0, seen, ks, vs, h1, h2, h3, h4, h5⟩ := h; exact ⟨b, m, n0, seen, ks, vs, h1, h2, h3, fun i hi hs => hK _ _ _ (h4 i hi hs), fun h => hK _ _ _ (h5 h)⟩
  · obtain ⟨n, H', h1, h2⟩ := h; exact ⟨n, H', h1, hK _ _ _ h2⟩
  · obtain ⟨H', h1, h2⟩ := h; exact ⟨H', h1, hK _ _ _ h2⟩
  · obtain ⟨k, h1, h2⟩ := h; exact ⟨k, h1, fun h => hK _ _ _ (h2.1 h), fun h => ⟨hK _ _ _ (h2.2 h).1, hK _ _ _ (h2.2 h).2⟩⟩

theorem ains_mono {P : Program} {dm : DM} {i : Ins} {T : Tm} {H : Hp} {nx : Nat} {K K' : AV → Hp → Nat → Prop} (h : ains P dm i T H nx K) (hK : ∀ r H nx, K r H nx → K' r H nx) : ains P dm i T H nx K' := by
  unfold ains at h ⊢
  split at h
  · exact ⟨h.1, obind_mono (fun a => hK _ _ _) h.2⟩
  · exact ⟨h.1, obind_mono (fun a => hK _ _ _) h.2⟩
  · split at h
    · rcases h with h | ⟨h1, b, h2, h3⟩
      · left
        refine obind_mono (fun b => ?_) h
        intro h
        cases hd : dm.isText with
        | false => rw [hd] at h; obtain ⟨r, h1, h3⟩ := h; exact ⟨r, h1, hK _ _ _ h3⟩
        | true => rw [hd] at h; exact Fn.mono h hK
      · exact .inr ⟨h1, b, h2, h3.mono hK⟩
    · exact h
  · exact ⟨h.1, isp_mono h.2 hK⟩

theorem aops2_mono {P : Program} {dm : DM} {K K' : SP} (hK : ∀ T H nx, K T H nx → K' T H nx) : ∀ (l : List Op2) {T : Tm} {H : Hp} {nx : Nat}, aops2 P dm l T H nx K → aops2 P dm l T H nx K'
  | [], _, _, _, h => hK _ _ _ h
  | o :: l, T, H, nx, h => by
    have h : gbind (g2 T o.g) (ains P dm o.i T H nx fun r H nx => aops2 P dm l (updo T o.d r) H nx K) (aops2 P dm l (updo T o.d (.tup [])) H nx K) := h
    show gbind (g2 T o.g) (ains P dm o.i T H nx fun r H nx => aops2 P dm l (updo T o.d r) H nx K') (aops2 P dm l (updo T o.d (.tup [])) H nx K')
    cases hg : g2 T o.g with
    | none => rw [hg] at h; exact h.elim
    | some b =>
      rw [hg] at h
      cases b with
      | true =>
        have h : ains P dm o.i T H nx fun r H nx => aops2 P dm l (updo T o.d r) H nx K := h
        exact ains_mono h (fun _ _ _ hh => aops2_mono hK l hh)
      | false => exact aops2_mono hK l h

theorem awp2_mono {P : Program} : ∀ (c : C2) {T : Tm} {H : Hp} {nx : Nat} {K K' : CP}, awp2 P c T H nx K → (∀ e T H nx, K e T H nx → K' e T H nx) → awp2 P c T H nx K'
  | .skip, _, _, _, _, _, h, hK => hK _ _ _ _ h
  | .exit _, _, _, _, _, _, h, hK => hK _ _ _ _ h
  | .ret, _, _, _, _, _, h, hK => hK _ _ _ _ h
  | .ops m l, _, _, _, _, _, h, hK => let ⟨T, H, nx, Hf, hg, h⟩ := h; ⟨T, H, nx, Hf, hg, aops2_mono (hK .normal) l h⟩
  | .mix m l C pd, _, _, _, _, _, h, hK => h.imp (fun ⟨h9, T, H, nx, Hf, hg, h⟩ => ⟨h9, T, H, nx, Hf, hg, aops2_mono (hK .normal) l h⟩) (fun ⟨T, H, nx, Hf, hg, hu, h⟩ => ⟨T, H, nx, Hf, hg, hu, aops2_mono (hK .normal) _ h⟩)
  | .seq x y, _, _, _, K, K', h, hK => by
    refine awp2_mono x h (fun e T H nx h => ?_)
    cases e with
    | normal => exact awp2_mono y h hK
    | exit i => exact hK _ _ _ _ h
    | ret => exact hK _ _ _ _ h
  | .cond c x y, T, H, nx, K, K', h, hK => by
    simp only [awp2] at h ⊢
    unfold acond at h ⊢
    split at h
    · exact ⟨fun hb => awp2_mono x (h.1 hb) hK, fun hb => awp2_mono y (h.2 hb) hK⟩
    · exact h
  | .block id b, _, _, _, _, _, h, hK => awp2_mono b h (fun e T H nx h => hK _ _ _ _ h)
  | .loop b, T, H, nx, K, K', h, hK => by
    obtain ⟨n, h⟩ := h
    refine ⟨n, ?_⟩
    induction n generalizing T H nx with
    | zero => exact h
    | succ n ih =>
      obtain ⟨T', H', nx', Hf, hw, h⟩ := h
      refine ⟨T', H', nx', Hf, hw, awp2_mono b h (fun e T H nx h => ?_)⟩
      cases e with
      | normal => exact ih _ _ _ h
      | exit i => exact hK _ _ _ _ h
      | ret => exact hK _ _ _ _ h
  | .rangeF g ps a b, T, H, nx, K, K', h, hK => by
    obtain ⟨f, caps, h1, h2⟩ := h
    refine ⟨f, caps, h1, fun c0 cj hy => Fn.mono (h2 c0 cj hy) ?_⟩
    rintro r H' nx' (⟨k1, k2⟩ | ⟨e, k1, k2, k3⟩)
    · exact .inl ⟨k1, hK _ _ _ _ k2⟩
    · exact .inr ⟨e, k1, k2, hK _ _ _ _ k3⟩

/-! ### loops -/
theorem loopG {P : Program} {b : C2} {T : Tm} {H : Hp} {nx : Nat} {K : CP} {X : Type} (TT : X → Tm) (HH : X → Hp) (NX : X → Nat) (φ : X → Prop) (μ : X → Nat)
    (start : ∃ x, φ x ∧ ∃ Hf, Gh T H nx (TT x) (HH x) (NX x) Hf)
    (step : ∀ x, φ x → awp2 P b (TT x) (HH x) (NX x) fun e T H nx => athen e (∃ y, φ y ∧ μ y < μ x ∧ ∃ Hf, Gh T H nx (TT y) (HH y) (NX y) Hf) (K e T H nx)) : aloop (awp2 P b) T H nx K := by
  have key : ∀ n x T H nx, μ x < n → φ x → (∃ Hf, Gh T H nx (TT x) (HH x) (NX x) Hf) → aloopN (awp2 P b) K n T H nx := by
    intro n
    induction n with
    | zero => intro x T H nx h; omega
    | succ n ih =>
      intro x T H nx hn hx ⟨Hf, hg⟩
      refine ⟨_, _, _, Hf, hg, awp2_mono b (step x hx) (fun e T H nx h => ?_)⟩
      cases e with
      | normal =>
        obtain ⟨y, h1, h2, h3⟩ := h
        exact ih y T H nx (by omega) h1 h3
      | exit i => exact h
      | ret => exact h
  obtain ⟨x, hx, hg⟩ := start
  exact ⟨_, key _ x T H nx (Nat.lt_succ_self _) hx hg⟩

def tl : List (Nat × AV) → Tm
  | [], _ => .undef
  | (d, v) :: l, t => if t = d then v else tl l t

def agr (T : Tm) : List (Nat × AV) → Prop
  | [] => True
  | (d, v) :: l => T d = v ∧ agr T l

theorem agr_tl {T : Tm} : ∀ {l : List (Nat × AV)}, agr T l → ∀ t, tl l t = .undef ∨ tl l t = T t
  | [], _, t => .inl rfl
  | (d, v) :: l, h, t => by
    simp only [tl]
    split
    · rename_i e; subst e; exact .inr h.1.symm
    · exact agr_tl h.2 t

theorem Gh.weak {T T' : Tm} {H : Hp} {nx : Nat} (h : ∀ t, T' t = .undef ∨ T' t = T t) : Gh T H nx T' H nx noBoxes :=
  ⟨fun _ _ h => (by cases h), Nat.le_refl _, fun b cs h => .inl ⟨cs, h, rfl, rfl, fun i x x' h1 h2 => .inl (by rw [h1] at h2; cases h2; rfl)⟩, fun t => (h t).imp id .inl⟩

/-- a loop that leaves the boxes -/
theorem loop0 {P : Program} {b : C2} {T : Tm} {H : Hp} {nx : Nat} {K : CP} {X : Type} (L : X → List (Nat × AV)) (φ : X → Prop) (μ : X → Nat) (x0 : X)
    (h0 : φ x0) (hT : agr T (L x0))
    (step : ∀ x, φ x → awp2 P b (tl (L x)) H nx fun e T H' nx' => athen e (∃ y, φ y ∧ μ y < μ x ∧ agr T (L y) ∧ H' = H ∧ nx' = nx) (K e T H' nx')) : aloop (awp2 P b) T H nx K := by
  refine loopG (fun x => tl (L x)) (fun _ => H) (fun _ => nx) φ μ ⟨x0, h0, _, Gh.weak (agr_tl hT)⟩ (fun x hx => awp2_mono b (step x hx) (fun e T H' nx' h => ?_))
  cases e with
  | normal =>
    obtain ⟨y, h1, h2, h3, rfl, rfl⟩ := h
    exact ⟨y, h1, h2, _, Gh.weak (agr_tl h3)⟩
  | exit i => exact h
  | ret => exact h

/-! ### rules for simp -/
@[congr] theorem aloop_congr {b : Tm → Hp → Nat → CP → Prop} {T : Tm} {H : Hp} {nx nx' : Nat} {K : CP} (h : nx = nx') : aloop b T H nx K = aloop b T H nx' K := by rw [h]

@[congr] theorem awp2_congr {P P' : Program} {c : C2} {T : Tm} {H : Hp} {nx : Nat} {K : CP} (h : P = P') : awp2 P c T H nx K = awp2 P' c T H nx K := by rw [h]
@[congr] theorem aops2_congr {P P' : Program} {dm : DM} {l : List Op2} {T : Tm} {H : Hp} {nx : Nat} {K : SP} (h : P = P') : aops2 P dm l T H nx K = aops2 P' dm l T H nx K := by rw [h]
@[congr] theorem ains_congr {P P' : Program} {dm : DM} {i : Ins} {T : Tm} {H : Hp} {nx : Nat} {K : AV → Hp → Nat → Prop} (h : P = P') : ains P dm i T H nx K = ains P' dm i T H nx K := by rw [h]

theorem upd_at {T : Tm} {d t : Nat} {v : AV} : upd T d v t = if t = d then v else T t := rfl
theorem updo_some {T : Tm} {d : Nat} {v : AV} : updo T (some d) v = upd T d v := rfl
theorem updo_none {T : Tm} {v : AV} : updo T none v = T := rfl
theorem T0_zero {x : AV} {l : List AV} : T0 (x :: l) 0 = x := rfl
theorem T0_succ {x : AV} {l : List AV} {n : Nat} : T0 (x :: l) (n + 1) = T0 l n := rfl
theorem T0_nil {n : Nat} : T0 [] n = .undef := rfl
theorem ov_t {T : Tm} {n : Nat} : ov T (.t n) = T n := rfl
theorem ov_c {T : Tm} {v : AV} : ov T (.c v) = v := rfl
theorem tl_cons {d t : Nat} {v : AV} {l : List (Nat × AV)} : tl ((d, v) :: l) t = if t = d then v else tl l t := rfl
theorem tl_nil {t : Nat} : tl [] t = .undef := rfl

theorem obind_ite {α : Type} {c : Prop} [Decidable c] {x : Option α} {K : α → Prop} (hc : c) (h : obind x K) : obind (if c then x else none) K := by
  rw [if_pos hc]; exact h
theorem obind_map {α β : Type} {x : Option α} {f : α → β} {K : β → Prop} : obind (x.map f) K = obind x fun a => K (f a) := by cases x <;> rfl

theorem gbind_split {b : Bool} {A B : Prop} (h1 : b = true → A) (h2 : b = false → B) : gbind (some b) A B := by
  cases b
  · exact h2 rfl
  · exact h1 rfl

/-- comparisons of integers -/
theorem bin_lss {k : IntKind} {a b : Int} {tb tf : Bool} : abin2 .lss tb tf (.int k a) (.int k b) = some (.bool (decide (a < b))) := by simp [abin2, aarith]
theorem bin_leq {k : IntKind} {a b : Int} {tb tf : Bool} : abin2 .leq tb tf (.int k a) (.int k b) = some (.bool (decide (a ≤ b))) := by simp [abin2, aarith]
theorem bin_gtr {k : IntKind} {a b : Int} {tb tf : Bool} : abin2 .gtr tb tf (.int k a) (.int k b) = some (.bool (decide (a > b))) := by simp [abin2, aarith]
theorem bin_geq {k : IntKind} {a b : Int} {tb tf : Bool} : abin2 .geq tb tf (.int k a) (.int k b) = some (.bool (decide (a ≥ b))) := by simp [abin2, aarith]
theorem bin_eql {k : IntKind} {a b : Int} {tb tf : Bool} : abin2 .eql tb tf (.int k a) (.int k b) = some (.bool (decide (a = b))) := by
  simp only [abin2, aarith]; simp; by_cases h : a = b <;> simp [h]
theorem bin_neq {k : IntKind} {a b : Int} {tb tf : Bool} : abin2 .neq tb tf (.int k a) (.int k b) = some (.bool (decide (a ≠ b))) := by
  simp [abin2, aarith, bne]; rfl
theorem bin_add {k : IntKind} {a b : Int} {tb tf : Bool} : abin2 .add tb tf (.int k a) (.int k b) = some (.int k (k.wrap (a + b))) := by simp [abin2, aarith]
theorem bin_sub {k : IntKind} {a b : Int} {tb tf : Bool} : abin2 .sub tb tf (.int k a) (.int k b) = some (.int k (k.wrap (a - b))) := by simp [abin2, aarith]
theorem bin_mul {k : IntKind} {a b : Int} {tb tf : Bool} : abin2 .mul tb tf (.int k a) (.int k b) = some (.int k (k.wrap (a * b))) := by simp [abin2, aarith]

theorem wrap64 {a : Int} (h1 : -9223372036854775808 ≤ a) (h2 : a ≤ 9223372036854775807) : IntKind.wrap .i64 a = a := by
  rw [IntKind.wrap_i64]; omega

end Go.Abs

/- Steps, one at a time. -/
set_option linter.unusedVariables false
namespace Go.Abs
open Go.RowKit

variable {P : Program} {T : Tm} {H : Hp} {nx : Nat}

theorem w_skip {K : CP} (h : K .normal T H nx) : awp2 P .skip T H nx K := h
theorem w_exit {K : CP} {i : Nat} (h : K (.exit i) T H nx) : awp2 P (.exit i) T H nx K := h
theorem w_ret {K : CP} (h : K .ret T H nx) : awp2 P .ret T H nx K := h
theorem w_ops0 {K : CP} {l : List Op2} (h : aops2 P .text l T H nx fun T H nx => K .normal T H nx) : awp2 P (.ops 0 l) T H nx K := ⟨T, H, nx, _, Gh.refl _ _ _, h⟩
/-- a region with calls whose order is drawn: all calls are pure -/
theorem w_mix1 {K : CP} {l : List Op2} {C pd : List Nat} (h : aops2 P .draw l T H nx fun T H nx => K .normal T H nx) : awp2 P (.mix 1 l C pd) T H nx K := .inl ⟨by decide, T, H, nx, _, Gh.refl _ _ _, h⟩
theorem w_mix2 {K : CP} {l : List Op2} {C pd : List Nat} (h : aops2 P (.fresh nx) l T H nx fun T H nx => K .normal T H nx) : awp2 P (.mix 2 l C pd) T H nx K := .inl ⟨by decide, T, H, nx, _, Gh.refl _ _ _, h⟩
/-- .. or it has effects, in an order of their own -/
theorem w_mixT {K : CP} {m : Nat} {l alt : List Op2} {C pd : List Nat} (ha : (C.map fun k => l.getD k ⟨none, none, .dead⟩) = alt) (hu : pd.all (fun t => (T t) matches .undef) = true) (h : aops2 P .text alt T H nx fun T H nx => K .normal T H nx) : awp2 P (.mix m l C pd) T H nx K := by
  subst ha
  refine .inr ⟨T, H, nx, _, Gh.refl _ _ _, fun t ht => ?_, h⟩
  have := List.all_eq_true.1 hu t ht
  revert this
  generalize T t = v
  intro this
  cases v <;> first | rfl | (cases this; done)
theorem w_mix9 {K : CP} {l alt : List Op2} {C pd : List Nat} (ha : (C.map fun k => l.getD k ⟨none, none, .dead⟩) = alt) (hu : pd.all (fun t => (T t) matches .undef) = true) (h : aops2 P .text alt T H nx fun T H nx => K .normal T H nx) : awp2 P (.mix 9 l C pd) T H nx K := w_mixT ha hu h
theorem w_ops1 {K : CP} {l : List Op2} (h : aops2 P .draw l T H nx fun T H nx => K .normal T H nx) : awp2 P (.ops 1 l) T H nx K := ⟨T, H, nx, _, Gh.refl _ _ _, h⟩
theorem w_ops2 {K : CP} {l : List Op2} (h : aops2 P (.fresh nx) l T H nx fun T H nx => K .normal T H nx) : awp2 P (.ops 2 l) T H nx K := ⟨T, H, nx, _, Gh.refl _ _ _, h⟩
theorem w_seq {K : CP} {x y : C2} (h : awp2 P x T H nx fun e T H nx => athen e (awp2 P y T H nx K) (K e T H nx)) : awp2 P (.seq x y) T H nx K := h
theorem w_block {K : CP} {i : Nat} {b : C2} (h : awp2 P b T H nx fun e T H nx => K (ablock i e) T H nx) : awp2 P (.block i b) T H nx K := h
theorem w_cond {K : CP} {c : Opd} {x y : C2} {b : Bool} (hc : ov T c = .bool b) (h1 : b = true → awp2 P x T H nx K) (h2 : b = false → awp2 P y T H nx K) : awp2 P (.cond c x y) T H nx K := by
  simp only [awp2, hc]; exact ⟨h1, h2⟩
theorem w_condT {K : CP} {c : Opd} {x y : C2} (hc : ov T c = .bool true) (h1 : awp2 P x T H nx K) : awp2 P (.cond c x y) T H nx K :=
  w_cond hc (fun _ => h1) (fun h => by cases h)
theorem w_condF {K : CP} {c : Opd} {x y : C2} (hc : ov T c = .bool false) (h2 : awp2 P y T H nx K) : awp2 P (.cond c x y) T H nx K :=
  w_cond hc (fun h => by cases h) (fun _ => h2)
theorem w_condP {K : CP} {c : Opd} {x y : C2} {p : Prop} [Decidable p] (hc : ov T c = .bool (decide p)) (h1 : p → awp2 P x T H nx K) (h2 : ¬ p → awp2 P y T H nx K) : awp2 P (.cond c x y) T H nx K :=
  w_cond hc (fun h => h1 (of_decide_eq_true h)) (fun h => h2 (of_decide_eq_false h))
theorem w_loop {K : CP} {b : C2} (h : aloop (awp2 P b) T H nx K) : awp2 P (.loop b) T H nx K := h

theorem a_n {A B : Prop} (h : A) : athen .normal A B := h
theorem a_x {A B : Prop} {i : Nat} (h : B) : athen (.exit i) A B := h
theorem a_r {A B : Prop} (h : B) : athen .ret A B := h

theorem o_nil {dm : DM} {K : SP} (h : K T H nx) : aops2 P dm [] T H nx K := h
theorem o_val {dm : DM} {K : SP} {l : List Op2} {d : Option Nat} {i : Ins} {r : AV} (hi : ic i = .val) (hd : dm2 dm T i = true) (h : ival T H i = some r) (k : aops2 P dm l (updo T d r) H nx K) : aops2 P dm (⟨d, none, i⟩ :: l) T H nx K := by
  show ains P dm i T H nx fun r H nx => aops2 P dm l (updo T d r) H nx K
  unfold ains; rw [hi]; exact ⟨hd, by rw [h]; exact k⟩
theorem o_eff {dm : DM} {K : SP} {l : List Op2} {d : Option Nat} {i : Ins} {r : AV} {H' : Hp} {nx' : Nat} (hi : ic i = .eff) (hd : dm2 dm T i = true) (h : ieff T H nx i = some (r, H', nx')) (k : aops2 P dm l (updo T d r) H' nx' K) : aops2 P dm (⟨d, none, i⟩ :: l) T H nx K := by
  show ains P dm i T H nx fun r H nx => aops2 P dm l (updo T d r) H nx K
  unfold ains; rw [hi]; exact ⟨hd, by rw [h]; exact k⟩
theorem o_call {K : SP} {l : List Op2} {d : Option Nat} {f : Opd} {args : List Opd} {g : FuncId} {caps : List AV} (hf : ov T f = .func g caps) (k : Fn P g (args.map (ov T) ++ caps) H nx fun r H nx => aops2 P .text l (updo T d r) H nx K) :
    aops2 P .text (⟨d, none, .call f args⟩ :: l) T H nx K := by
  left
  show obind (isFn (ov T f)) _
  rw [hf]; exact k
theorem o_pcall {dm : DM} (hdm : dm.isText = false) {K : SP} {l : List Op2} {d : Option Nat} {f : Opd} {args : List Opd} {g : FuncId} {caps : List AV} (hf : ov T f = .func g caps) (k : PCall P g (args.map (ov T) ++ caps) H fun r => aops2 P dm l (updo T d r) H nx K) :
    aops2 P dm (⟨d, none, .call f args⟩ :: l) T H nx K := by
  left
  show obind (isFn (ov T f)) _
  rw [hf]
  show (match dm.isText with | false => _ | true => _)
  rw [hdm]
  exact k
theorem o_yield {K : SP} {l : List Op2} {d : Option Nat} {f : Opd} {args : List Opd} {b : Nat} {xs : List AV} (hf : ov T f = .yld b) (ha : args.map (ov T) = xs) (k : Yl P b xs H nx fun r H nx => aops2 P .text l (updo T d r) H nx K) :
    aops2 P .text (⟨d, none, .call f args⟩ :: l) T H nx K := by
  right
  exact ⟨rfl, b, hf, by rw [ha]; exact k⟩
/-- special operations -/
theorem o_sp {K : SP} {l : List Op2} {d : Option Nat} {i : Ins} (hi : ic i = .sp) (k : isp i T H nx fun r H nx => aops2 P .text l (updo T d r) H nx K) : aops2 P .text (⟨d, none, i⟩ :: l) T H nx K := by
  show ains P .text i T H nx fun r H nx => aops2 P .text l (updo T d r) H nx K
  unfold ains; rw [hi]; exact ⟨rfl, k⟩
theorem o_mkm {K : SP} {l : List Op2} {d : Option Nat} (k : aops2 P .text l (updo T d (.mp nx)) (hupd H nx [.omap [] []]) (nx + 1) K) : aops2 P .text (⟨d, none, .mkm none⟩ :: l) T H nx K := o_sp rfl ⟨.inl rfl, k⟩
theorem o_mkmh {K : SP} {l : List Op2} {d : Option Nat} {x : Opd} {kk : IntKind} {n : Int} (hx : ov T x = .int kk n) (k : aops2 P .text l (updo T d (.mp nx)) (hupd H nx [.omap [] []]) (nx + 1) K) : aops2 P .text (⟨d, none, .mkm (some x)⟩ :: l) T H nx K := o_sp rfl ⟨.inr ⟨x, kk, n, rfl, hx⟩, k⟩
theorem o_mput {K : SP} {l : List Op2} {d : Option Nat} {kk : MK} {m key x : Opd} {b : Nat} {ks vs : List AV} {kv xv : AV} {r : Option Nat} (hm : ov T m = .mp b) (hb : H b = some [.omap ks vs]) (hk : ov T key = kv) (hx : ov T x = xv) (hfit : kfit kk kv = true) (hr : mfind kk kv ks = some r)
    (k : aops2 P .text l (updo T d (.tup [])) (hupd H b [.omap (msetK kv r ks) (msetV xv r vs)]) nx K) : aops2 P .text (⟨d, none, .mput kk m key x⟩ :: l) T H nx K := by
  subst hk hx
  exact o_sp rfl ⟨b, ks, vs, r, hm, hb, hfit, hr, k⟩
theorem o_mget {K : SP} {l : List Op2} {d : Option Nat} {kk : MK} {z : AV} {ok : Bool} {m key : Opd} {b : Nat} {ks vs : List AV} {kv : AV} {r : Option Nat} (hm : ov T m = .mp b) (hb : H b = some [.omap ks vs]) (hk : ov T key = kv) (hfit : kfit kk kv = true) (hr : mfind kk kv ks = some r)
    (k : aops2 P .text l (updo T d (mget z ok r vs)) H nx K) : aops2 P .text (⟨d, none, .mget kk z ok m key⟩ :: l) T H nx K := by
  subst hk
  exact o_sp rfl ⟨b, ks, vs, r, hm, hb, hfit, hr, k⟩
theorem o_mlen {K : SP} {l : List Op2} {d : Option Nat} {m : Opd} {b : Nat} {ks vs : List AV} (hm : ov T m = .mp b) (hb : H b = some [.omap ks vs]) (k : aops2 P .text l (updo T d (.int .i64 ks.length)) H nx K) : aops2 P .text (⟨d, none, .mlen m⟩ :: l) T H nx K := o_sp rfl ⟨b, ks, vs, hm, hb, k⟩
theorem o_mrng {K : SP} {l : List Op2} {d : Option Nat} {m : Opd} {b : Nat} {ks vs : List AV} (hm : ov T m = .mp b) (hb : H b = some [.omap ks vs]) (k : aops2 P .text l (updo T d (.itr nx)) (hupd H nx [.oiter b ks.length []]) (nx + 1) K) : aops2 P .text (⟨d, none, .mrng m⟩ :: l) T H nx K := o_sp rfl ⟨b, ks, vs, hm, hb, k⟩
theorem o_mnxt {K : SP} {l : List Op2} {d : Option Nat} {it : Opd} {b m n0 : Nat} {seen : List Nat} {ks vs : List AV} (hi : ov T it = .itr b) (hb : H b = some [.oiter m n0 seen]) (hm : H m = some [.omap ks vs])
    (h1 : ∀ i, i < ks.length → i ∉ seen → aops2 P .text l (updo T d (.tup [.bool true, ks.getD i .undef, vs.getD i .undef])) (hupd H b [.oiter m n0 (seen ++ [i])]) nx K)
    (h2 : (∀ i, i < n0 → i < ks.length → i ∈ seen) → aops2 P .text l (updo T d (.tup [.bool false])) H nx K) : aops2 P .text (⟨d, none, .mnxt it⟩ :: l) T H nx K := o_sp rfl ⟨b, m, n0, seen, ks, vs, hi, hb, hm, h1, h2⟩
theorem o_cpy {K : SP} {l : List Op2} {d : Option Nat} {sz n : Nat} {x y : Opd} {H' : Hp} (h : acopy sz (ov T x) (ov T y) H = some (n, H')) (k : aops2 P .text l (updo T d (.int .i64 n)) H' nx K) : aops2 P .text (⟨d, none, .cpy sz x y⟩ :: l) T H nx K := o_sp rfl ⟨n, H', h, k⟩
theorem o_clr {K : SP} {l : List Op2} {d : Option Nat} {sz : Nat} {z : AV} {x : Opd} {H' : Hp} (h : aclear sz z (ov T x) H = some H') (k : aops2 P .text l (updo T d (.tup [])) H' nx K) : aops2 P .text (⟨d, none, .clr sz z x⟩ :: l) T H nx K := o_sp rfl ⟨H', h, k⟩
theorem o_snil {K : SP} {l : List Op2} {d : Option Nat} {neg : Bool} {x : Opd} {k : Nat} (hx : alenN (ov T x) = some k) (h1 : 0 < k → aops2 P .text l (updo T d (.bool neg)) H nx K) (h2 : k = 0 → aops2 P .text l (updo T d (.bool true)) H nx K) (h3 : k = 0 → aops2 P .text l (updo T d (.bool false)) H nx K) : aops2 P .text (⟨d, none, .snil neg x⟩ :: l) T H nx K := o_sp rfl ⟨k, hx, h1, fun h => ⟨h2 h, h3 h⟩⟩
theorem w_rangeF {K : CP} {g : Opd} {ps : List Nat} {a b : C2} {f : FuncId} {caps : List AV} (hg : ov T g = .func f caps)
    (h : ∀ (c0 : AV) (cj : AEx → AV), (∀ (args : List AV) (H' : Hp) (nx' : Nat) (K' : AV → Hp → Nat → Prop), H' nx = some [c0] → args.length = ps.length →
        awp2 P a (updl T ps args) H' nx' (fun e T2 H2 nx2 => athen e (H2 nx = some [c0] ∧ awp2 P b T2 (hdel H2 nx) nx2 fun e T3 H3 nx3 => athen e (K' (.bool true) (hupd H3 nx [c0]) nx3) (K' (.bool false) (hupd H3 nx [cj e]) nx3)) False) →
        Yl P nx args H' nx' K') →
      Fn P f (.yld nx :: caps) (hupd H nx [c0]) (nx + 1) fun _ H' nx' => (H' nx = some [c0] ∧ K .normal T (hdel H' nx) nx') ∨ ∃ e, e ≠ .normal ∧ H' nx = some [cj e] ∧ K e T (hdel H' nx) nx') : awp2 P (.rangeF g ps a b) T H nx K := ⟨f, caps, hg, h⟩
theorem o_gT {dm : DM} {K : SP} {l : List Op2} {d : Option Nat} {i : Ins} {t : Nat} {w : Bool} (h : T t = .bool w) (k : aops2 P dm (⟨d, none, i⟩ :: l) T H nx K) : aops2 P dm (⟨d, some (t, w), i⟩ :: l) T H nx K := by
  show gbind (g2 T (some (t, w))) _ _
  have : g2 T (some (t, w)) = some true := by simp [g2, h]
  rw [this]; exact k
theorem o_gF {dm : DM} {K : SP} {l : List Op2} {d : Option Nat} {i : Ins} {t : Nat} {w : Bool} (h : T t = .bool (!w) ∨ T t = .tup []) (k : aops2 P dm l (updo T d (.tup [])) H nx K) : aops2 P dm (⟨d, some (t, w), i⟩ :: l) T H nx K := by
  show gbind (g2 T (some (t, w))) _ _
  have : g2 T (some (t, w)) = some false := by
    rcases h with h | h
    · cases w <;> simp [g2, h]
    · simp [g2, h]
  rw [this]; exact k
/-- a guard that is not known -/
theorem o_gS {dm : DM} {K : SP} {l : List Op2} {d : Option Nat} {i : Ins} {t : Nat} {w b : Bool} (h : T t = .bool b) (k1 : b = w → aops2 P dm (⟨d, some (t, w), i⟩ :: l) T H nx K) (k2 : b = !w → aops2 P dm (⟨d, some (t, w), i⟩ :: l) T H nx K) : aops2 P dm (⟨d, some (t, w), i⟩ :: l) T H nx K := by
  cases w <;> cases b
  · exact k1 rfl
  · exact k2 rfl
  · exact k2 rfl
  · exact k1 rfl

theorem e_ends {e : AEx} {A : Prop} (he : e.ends = true) (h : A) : bbind e.ends A := ⟨he, h⟩
theorem r_1 {K : AV → Prop} {a : RV} {x : AV} (ha : rv T H a = some x) (h : K x) : res1 T H K [a] := by
  show obind (rv T H a) K
  rw [ha]; exact h
theorem r_2 {K : AV → Prop} {a b : RV} {x y : AV} (ha : rv T H a = some x) (hb : rv T H b = some y) (h : K (.tup [x, y])) : res1 T H K [a, b] := by
  show obind (rv T H a) _
  rw [ha]
  show obind (rv T H b) _
  rw [hb]; exact h
theorem r_3 {K : AV → Prop} {a b c : RV} {x y z : AV} (ha : rv T H a = some x) (hb : rv T H b = some y) (hc : rv T H c = some z) (h : K (.tup [x, y, z])) : res1 T H K [a, b, c] := by
  show obind (rv T H a) _
  rw [ha]
  show obind (rv T H b) _
  rw [hb]
  show obind (rv T H c) _
  rw [hc]; exact h

theorem upd_same {T : Tm} {t : Nat} {v : AV} (h : T t = v) : upd T t v = T := by
  funext x; simp only [upd]; split
  · rename_i e; rw [e, h]
  · rfl
/-- a guard that is a comparison -/
theorem o_gP {dm : DM} {K : SP} {l : List Op2} {d : Option Nat} {i : Ins} {t : Nat} {p : Prop} [Decidable p] (h : T t = .bool (decide p)) (k1 : p → aops2 P dm (⟨d, none, i⟩ :: l) (upd T t (.bool true)) H nx K)
    (k2 : ¬ p → aops2 P dm l (updo (upd T t (.bool false)) d (.tup [])) H nx K) : aops2 P dm (⟨d, some (t, true), i⟩ :: l) T H nx K := by
  by_cases hp : p
  · have := k1 hp
    rw [upd_same (by rw [h]; simp [hp])] at this
    exact o_gT (by rw [h]; simp [hp]) this
  · have := k2 hp
    rw [upd_same (by rw [h]; simp [hp])] at this
    exact o_gF (.inl (by rw [h]; simp [hp])) this
theorem o_gN {dm : DM} {K : SP} {l : List Op2} {d : Option Nat} {i : Ins} {t : Nat} {p : Prop} [Decidable p] (h : T t = .bool (decide p)) (k1 : ¬ p → aops2 P dm (⟨d, none, i⟩ :: l) (upd T t (.bool false)) H nx K)
    (k2 : p → aops2 P dm l (updo (upd T t (.bool true)) d (.tup [])) H nx K) : aops2 P dm (⟨d, some (t, false), i⟩ :: l) T H nx K := by
  by_cases hp : p
  · have := k2 hp
    rw [upd_same (by rw [h]; simp [hp])] at this
    exact o_gF (.inl (by rw [h]; simp [hp])) this
  · have := k1 hp
    rw [upd_same (by rw [h]; simp [hp])] at this
    exact o_gT (by rw [h]; simp [hp]) this

/-- a guard that is not known -/
theorem o_gB {dm : DM} {K : SP} {l : List Op2} {d : Option Nat} {i : Ins} {t : Nat} {w b : Bool} (h : T t = .bool b) (k1 : b = w → aops2 P dm (⟨d, none, i⟩ :: l) (upd T t (.bool w)) H nx K)
    (k2 : b = !w → aops2 P dm l (updo (upd T t (.bool (!w))) d (.tup [])) H nx K) : aops2 P dm (⟨d, some (t, w), i⟩ :: l) T H nx K := by
  by_cases hb : b = w
  · subst hb
    have := k1 rfl
    rw [upd_same h] at this
    exact o_gT h this
  · have hb' : b = !w := by cases b <;> cases w <;> simp_all
    subst hb'
    have := k2 rfl
    rw [upd_same h] at this
    exact o_gF (.inl h) this

/-! ### conditions of instructions -/
theorem getD_map_lt {α : Type} {f : α → AV} {l : List α} {k : Nat} {u : AV} (d : α) (h : k < l.length) : (l.map f).getD k u = f (l.getD k d) := by
  simp [List.getD, h]
theorem s_ite {c : Prop} [Decidable c] {x : Option AV} {r : AV} (hc : c) (h : x = some r) : (if c then x else none) = some r := by rw [if_pos hc]; exact h

theorem cells_int {k : IntKind} {n : Int} : AV.cells (.int k n) = [.int k n] := rfl
theorem cells_bool {n : Bool} : AV.cells (.bool n) = [.bool n] := rfl
theorem cells_str {n : ByteArray} : AV.cells (.str n) = [.str n] := rfl
theorem cells_sl {k : Nat} {n : List AV} : AV.cells (.sl k n) = [.sl k n] := rfl
theorem cells_agg {n : List AV} : AV.cells (.agg n) = n := rfl

end Go.Abs

/- Data, and calls of what is proved. -/
set_option linter.unusedVariables false
namespace Go.Abs
open Go.RowKit

/-- a value that is data: it is what it is, wherever boxes lie -/
def Dat (x : AV) : Prop := ∀ H, Snap H x x

theorem Dat.int {k : IntKind} {n : Int} : Dat (.int k n) := fun _ => .int _ _
theorem Dat.bool {b : Bool} : Dat (.bool b) := fun _ => .bool _
theorem Dat.str {s : ByteArray} : Dat (.str s) := fun _ => .str _
theorem Dat.esl : Dat .esl := fun _ => .esl
theorem Dat.nilp : Dat .nilp := fun _ => .nilp
theorem Dat.nilf : Dat .nilf := fun _ => .nilf
theorem Dat.sl {sz : Nat} {l : List AV} (h : ∀ x ∈ l, ∀ c ∈ x.cells, Dat c) : Dat (.sl sz l) := fun H =>
  .sl sz l l rfl (fun i x y hx hy => by rw [hx] at hy; cases hy; rfl) (fun i j x y a b hx hy ha hb => by
    rw [hx] at hy; cases hy; rw [ha] at hb; cases hb
    exact h x (List.mem_of_getElem? hx) a (List.mem_of_getElem? ha) H)
theorem Dat.agg {l : List AV} (h : ∀ x ∈ l, Dat x) : Dat (.agg l) := fun H =>
  .agg l l rfl (fun i a c ha hc => by rw [ha] at hc; cases hc; exact h a (List.mem_of_getElem? ha) H)
theorem Dat.tup {l : List AV} (h : ∀ x ∈ l, Dat x) : Dat (.tup l) := fun H =>
  .tup l l rfl (fun i a c ha hc => by rw [ha] at hc; cases hc; exact h a (List.mem_of_getElem? ha) H)
theorem Dat.func {f : FuncId} {l : List AV} (h : ∀ x ∈ l, Dat x) : Dat (.func f l) := fun H =>
  .func f l l rfl (fun i a c ha hc => by rw [ha] at hc; cases hc; exact h a (List.mem_of_getElem? ha) H)

def encV (l : List Int) : AV := .sl 1 (l.map (AV.int .i64))
def encVV (l : List (List Int)) : AV := .sl 1 (l.map encV)

theorem encV_dat (l : List Int) : Dat (encV l) := Dat.sl (fun x hx c hc => by
  obtain ⟨n, _, rfl⟩ := List.mem_map.1 hx
  simp only [AV.cells, List.mem_singleton] at hc; subst hc; exact .int)
theorem encVV_dat (l : List (List Int)) : Dat (encVV l) := Dat.sl (fun x hx c hc => by
  obtain ⟨n, _, rfl⟩ := List.mem_map.1 hx
  simp only [encV, AV.cells, List.mem_singleton] at hc; subst hc; exact encV_dat n)
theorem cells_encV {l : List Int} : (encV l).cells = [encV l] := rfl
theorem cells_encVV {l : List (List Int)} : (encVV l).cells = [encVV l] := rfl

theorem snapL_nil {H : Hp} : SnapL H [] [] := SnapL.nil
theorem snapL_dat {H : Hp} {x : AV} {xs ys : List AV} (h : Dat x) (hs : SnapL H xs ys) : SnapL H (x :: xs) (x :: ys) := SnapL.cons (h H) hs

variable {P : Program} {T : Tm} {H : Hp} {nx : Nat}

theorem o_callP {dm : DM} {K : SP} {l : List Op2} {d : Option Nat} {f : Opd} {args : List Opd} {g : FuncId} {caps xs ys : List AV} {r : AV} (hf : ov T f = .func g caps) (ha : args.map (ov T) ++ caps = xs)
    (hp : Pure P g ys r) (hs : SnapArgs H xs ys r) (k : aops2 P dm l (updo T d r) H nx K) : aops2 P dm (⟨d, none, .call f args⟩ :: l) T H nx K := by
  subst ha
  cases hd : dm.isText with
  | false => exact o_pcall hd hf (PCall.of_pure hp hs k)
  | true =>
    cases dm with
    | text => exact o_call hf (Fn.of_pure hp hs k)
    | draw => cases hd
    | fresh m => cases hd

/-- a call that borrows its arguments -/
theorem o_callF {dm : DM} {K : SP} {l : List Op2} {d : Option Nat} {f : Opd} {args : List Opd} {g : FuncId} {caps xs ys : List AV} {r : AV} (hf : ov T f = .func g caps) (ha : args.map (ov T) ++ caps = xs)
    (hp : PureF P g ys r) (hs : SnapL H xs ys) (k : aops2 P dm l (updo T d r) H nx K) : aops2 P dm (⟨d, none, .call f args⟩ :: l) T H nx K := by
  subst ha
  have hc := hp.callOk hs
  cases hd : dm.isText with
  | false => exact o_pcall hd hf (PCall.of_callOk hc k)
  | true =>
    cases dm with
    | text => exact o_call hf (Fn.of_callOk hc k)
    | draw => cases hd
    | fresh m => cases hd

/-- a call whose arguments are data -/
theorem o_callD {dm : DM} {K : SP} {l : List Op2} {d : Option Nat} {f : Opd} {args : List Opd} {g : FuncId} {caps xs : List AV} {r : AV} (hf : ov T f = .func g caps) (ha : args.map (ov T) ++ caps = xs)
    (hp : Pure P g xs r) (hs : SnapArgs H xs xs r) (k : aops2 P dm l (updo T d r) H nx K) : aops2 P dm (⟨d, none, .call f args⟩ :: l) T H nx K := o_callP hf ha hp hs k

theorem snap_data {xs ys : List AV} {r : AV} {H : Hp} (h : SnapL noBoxes xs ys) : SnapArgs H xs ys r := .inl h
theorem snap_plain {xs ys : List AV} {r : AV} {H : Hp} (h : SnapL H xs ys) (hr : r.sca = true) : SnapArgs H xs ys r := .inr ⟨h, hr⟩

/-! ### rows that are data -/
theorem aixS_map {α : Type} [Inhabited α] {f : α → AV} {l : List α} {sz : Nat} {k : IntKind} {n : Int} : aixS sz (.sl sz (l.map f)) (.int k n) = if 0 ≤ n ∧ n < l.length then some (.iptr (f (l.getD n.toNat default)).cells 0) else none := by
  simp only [aixS, true_and, List.length_map]
  split
  · rename_i h
    rw [getD_map_lt default (by omega)]
  · rfl
theorem alenS_map {α : Type} {f : α → AV} {l : List α} {sz : Nat} : alenS (.sl sz (l.map f)) = some (.int .i64 l.length) := by simp [alenS]
theorem aixS_encV {l : List Int} {k : IntKind} {n : Int} : aixS 1 (encV l) (.int k n) = if 0 ≤ n ∧ n < l.length then some (.iptr [.int .i64 (l.getD n.toNat default)] 0) else none := aixS_map
theorem aixS_encVV {l : List (List Int)} {k : IntKind} {n : Int} : aixS 1 (encVV l) (.int k n) = if 0 ≤ n ∧ n < l.length then some (.iptr [encV (l.getD n.toNat default)] 0) else none := aixS_map
theorem alenS_encV {l : List Int} : alenS (encV l) = some (.int .i64 l.length) := alenS_map
theorem alenS_encVV {l : List (List Int)} : alenS (encVV l) = some (.int .i64 l.length) := alenS_map
theorem alenS_msl {b n sz off len : Nat} : alenS (.msl b n sz off len) = some (.int .i64 len) := rfl
theorem alenS_esl : alenS .esl = some (.int .i64 0) := rfl

end Go.Abs

/- Rules for simp, in bundles. -/
set_option linter.unusedVariables false
namespace Go.Abs

theorem some_get_zero {α : Type} {a : α} {l : List α} : (a :: l)[0]? = some a := rfl

/-- temporaries -/
theorem SA : (∀ (T : Tm) (n : Nat), ov T (.t n) = T n) ∧ (∀ (T : Tm) (v : AV), ov T (.c v) = v) ∧ (∀ (T : Tm) (d t : Nat) (v : AV), upd T d v t = if t = d then v else T t) ∧ (∀ (T : Tm) (d : Nat) (v : AV), updo T (some d) v = upd T d v) ∧
    (∀ (T : Tm) (v : AV), updo T none v = T) ∧ (∀ (x : AV) (l : List AV), T0 (x :: l) 0 = x) ∧ (∀ (x : AV) (l : List AV) (n : Nat), T0 (x :: l) (n + 1) = T0 l n) ∧ (∀ n : Nat, T0 [] n = .undef) ∧
    (∀ (d t : Nat) (v : AV) (l : List (Nat × AV)), tl ((d, v) :: l) t = if t = d then v else tl l t) ∧ (∀ t : Nat, tl [] t = .undef) ∧
    (∀ (T : Tm) (t : Nat) (ts : List Nat) (x : AV) (xs : List AV), updl T (t :: ts) (x :: xs) = updl (upd T t x) ts xs) ∧ (∀ (T : Tm) (xs : List AV), updl T [] xs = T) :=
  ⟨fun _ _ => rfl, fun _ _ => rfl, fun _ _ _ _ => rfl, fun _ _ _ => rfl, fun _ _ => rfl, fun _ _ => rfl, fun _ _ _ => rfl, fun _ => rfl, fun _ _ _ _ => rfl, fun _ => rfl, fun _ _ _ _ _ => rfl, fun _ xs => by cases xs <;> rfl⟩

theorem hupd_at {H : Hp} {b x : Nat} {cs : List AV} : hupd H b cs x = if x = b then some cs else H x := rfl
theorem hdel_at {H : Hp} {b x : Nat} : hdel H b x = if x = b then none else H x := rfl
theorem noBoxes_at {x : Nat} : noBoxes x = none := rfl

/-- values -/
theorem rd1_ptr {H : Hp} {b n off : Nat} {cs : List AV} (h : H b = some cs) (hn : cs.length = n) : rd1 H (.ptr b n off) = cs[off]? := by
  simp only [rd1, h, hn, if_true]
theorem rd_ptr {H : Hp} {b n off k : Nat} {cs : List AV} (h : H b = some cs) (hn : cs.length = n) (hk : off + k ≤ n) : rd H k (.ptr b n off) = some ((cs.drop off).take k) := by
  simp only [rd, h, hn, true_and, hk, if_true]

theorem SV : (∀ (T : Tm) (H : Hp) (x : Opd), ival T H (.mov x) = some (ov T x)) ∧
    (∀ (T : Tm) (H : Hp) (c a b : Opd), ival T H (.pick c a b) = match ov T c with | .bool t => some (if t = true then ov T a else ov T b) | _ => none) ∧
    (∀ (T : Tm) (H : Hp) (a : Opd), ival T H (.ld1 a) = rd1 H (ov T a)) ∧ (∀ (T : Tm) (H : Hp) (k : Nat) (a : Opd), ival T H (.ldn k a) = (rd H k (ov T a)).map .agg) ∧
    (∀ (T : Tm) (H : Hp) (op : BinOp) (tb tf : Bool) (x y : Opd), ival T H (.bin op tb tf x y) = abin2 op tb tf (ov T x) (ov T y)) ∧
    (∀ (T : Tm) (H : Hp) (op : UnOp) (x : Opd), ival T H (.un op x) = aun op (ov T x)) ∧
    (∀ (T : Tm) (H : Hp) (f : FuncId) (caps : List Opd), ival T H (.mkfn f caps) = some (.func f (caps.map (ov T)))) ∧
    (∀ (T : Tm) (H : Hp) (k : Nat) (p : Opd), ival T H (.fa k p) = apadd k (ov T p)) ∧
    (∀ (T : Tm) (H : Hp) (sz : Nat) (x i : Opd), ival T H (.ixaS sz x i) = aixS sz (ov T x) (ov T i)) ∧
    (∀ (T : Tm) (H : Hp) (x : Opd) (i : Nat), ival T H (.ext x i) = aextract (ov T x) i) ∧
    (∀ (T : Tm) (H : Hp) (x : Opd), ival T H (.lenS x) = alenS (ov T x)) ∧
    (∀ (T : Tm) (H : Hp) (z : List AV) (parts : List (Nat × Nat × Opd)), ival T H (.bld z parts) = (afill2 z (parts.map fun p => (p.1, p.2.1, ov T p.2.2))).map .agg) ∧
    (∀ (T : Tm) (H : Hp) (x : Opd) (l : List Opd), ival T H (.mx x l) = afold amax2 (ov T x) (l.map (ov T))) ∧
    (∀ (T : Tm) (H : Hp) (x : Opd) (l : List Opd), ival T H (.mn x l) = afold amin2 (ov T x) (l.map (ov T))) ∧
    (∀ (T : Tm) (H : Hp) (k : IntKind) (x : Opd), ival T H (.conv k x) = aint (ov T x) fun n => some (.int k (k.wrap n))) ∧
    (∀ (T : Tm) (H : Hp) (sz : Nat) (x : Opd) (lo hi mx : Option Opd), ival T H (.sls sz x lo hi mx) = asls sz (ov T x) (lo.map (ov T)) (hi.map (ov T)) (mx.map (ov T))) ∧
    (∀ (T : Tm) (H : Hp) (off : Nat) (x : Opd), ival T H (.part1 off x) = acells (ov T x) fun cs => cs[off]?) ∧
    (∀ (T : Tm) (H : Hp) (op : BinOp) (ks : List TK) (x y : Opd), ival T H (.binS op ks x y) = acells (ov T x) fun xs => acells (ov T y) fun ys => acmpS op ks xs ys) :=
  ⟨fun _ _ _ => rfl, fun _ _ _ _ _ => rfl, fun _ _ _ => rfl, fun _ _ _ _ => rfl, fun _ _ _ _ _ _ _ => rfl, fun _ _ _ _ => rfl, fun _ _ _ _ => rfl, fun _ _ _ _ => rfl, fun _ _ _ _ _ => rfl, fun _ _ _ _ => rfl, fun _ _ _ => rfl,
   fun _ _ _ _ => rfl, fun _ _ _ _ => rfl, fun _ _ _ _ => rfl, fun _ _ _ _ => rfl, fun _ _ _ _ _ _ _ => rfl, fun _ _ _ _ => rfl, fun _ _ _ _ _ _ => rfl⟩

theorem pick_bool {b : Bool} {x y : AV} : (match (AV.bool b : AV) with | .bool t => some (if t = true then x else y) | _ => none) = some (if b = true then x else y) := rfl

/-- integers -/
theorem SN : (∀ (k : IntKind) (a b : Int) (tb tf : Bool), abin2 .lss tb tf (.int k a) (.int k b) = some (.bool (decide (a < b)))) ∧ (∀ (k : IntKind) (a b : Int) (tb tf : Bool), abin2 .leq tb tf (.int k a) (.int k b) = some (.bool (decide (a ≤ b)))) ∧
    (∀ (k : IntKind) (a b : Int) (tb tf : Bool), abin2 .gtr tb tf (.int k a) (.int k b) = some (.bool (decide (b < a)))) ∧ (∀ (k : IntKind) (a b : Int) (tb tf : Bool), abin2 .geq tb tf (.int k a) (.int k b) = some (.bool (decide (b ≤ a)))) ∧
    (∀ (k : IntKind) (a b : Int) (tb tf : Bool), abin2 .eql tb tf (.int k a) (.int k b) = some (.bool (decide (a = b)))) ∧ (∀ (k : IntKind) (a b : Int) (tb tf : Bool), abin2 .neq tb tf (.int k a) (.int k b) = some (.bool (decide (a ≠ b)))) ∧
    (∀ (k : IntKind) (a b : Int) (tb tf : Bool), abin2 .add tb tf (.int k a) (.int k b) = some (.int k (k.wrap (a + b)))) ∧ (∀ (k : IntKind) (a b : Int) (tb tf : Bool), abin2 .sub tb tf (.int k a) (.int k b) = some (.int k (k.wrap (a - b)))) ∧
    (∀ (k : IntKind) (a b : Int) (tb tf : Bool), abin2 .mul tb tf (.int k a) (.int k b) = some (.int k (k.wrap (a * b)))) ∧
    (∀ (a b : Bool) (tf : Bool), abin2 .eql true tf (.bool a) (.bool b) = some (.bool (a == b))) ∧ (∀ (a b : Bool) (tf : Bool), abin2 .neq true tf (.bool a) (.bool b) = some (.bool (!(a == b)))) ∧
    (∀ tb : Bool, abin2 .eql tb true .nilf .nilf = some (.bool true)) ∧ (∀ tb : Bool, abin2 .neq tb true .nilf .nilf = some (.bool false)) ∧
    (∀ (tb : Bool) (f : FuncId) (c : List AV), abin2 .eql tb true (.func f c) .nilf = some (.bool false)) ∧ (∀ (tb : Bool) (f : FuncId) (c : List AV), abin2 .neq tb true (.func f c) .nilf = some (.bool true)) ∧
    (∀ b : Bool, aun .not (.bool b) = some (.bool (!b))) ∧
    (∀ (k : IntKind) (a b : Int), amax2 (.int k a) (.int k b) = some (.int k (max a b))) ∧ (∀ (k : IntKind) (a b : Int), amin2 (.int k a) (.int k b) = some (.int k (min a b))) ∧
    (∀ (f : AV → AV → Option AV) (x : AV), afold f x [] = some x) ∧ (∀ (f : AV → AV → Option AV) (x y : AV) (l : List AV), afold f x (y :: l) = match f x y with | some z => afold f z l | none => none) ∧
    (∀ (k : Nat) (b n off : Nat), apadd k (.ptr b n off) = some (.ptr b n (off + k))) ∧ (∀ (k : Nat) (cs : List AV) (off : Nat), apadd k (.iptr cs off) = some (.iptr cs (off + k))) ∧
    (∀ (cs : List AV) (off : Nat), rd1 noBoxes (.iptr cs off) = cs[off]?) :=
  ⟨fun _ _ _ _ _ => bin_lss, fun _ _ _ _ _ => bin_leq, fun _ _ _ _ _ => bin_gtr, fun _ _ _ _ _ => bin_geq, fun _ _ _ _ _ => bin_eql, fun _ _ _ _ _ => bin_neq, fun _ _ _ _ _ => bin_add, fun _ _ _ _ _ => bin_sub, fun _ _ _ _ _ => bin_mul,
   fun _ _ _ => rfl, fun _ _ _ => rfl, fun _ => rfl, fun _ => rfl, fun _ _ _ => rfl, fun _ _ _ => rfl, fun _ => rfl,
   fun k a b => by simp only [amax2, Int.max_def]; split <;> split <;> simp <;> omega, fun k a b => by simp only [amin2, Int.min_def]; split <;> split <;> simp <;> omega, fun _ _ => rfl, fun _ _ _ _ => rfl, fun _ _ _ _ => rfl, fun _ _ _ => rfl, fun _ _ => rfl⟩

theorem rd1_iptr {H : Hp} {cs : List AV} {off : Nat} : rd1 H (.iptr cs off) = cs[off]? := rfl
theorem rd_iptr {H : Hp} {cs : List AV} {off k : Nat} : rd H k (.iptr cs off) = if off + k ≤ cs.length then some ((cs.drop off).take k) else none := rfl
theorem ext_tup {l : List AV} {i : Nat} : aextract (.tup l) i = l[i]? := by cases l <;> rfl

/-- lists of fixed length -/
theorem SL : (∀ (a : AV) (l : List AV), (a :: l)[0]? = some a) ∧ (∀ (a : AV) (l : List AV) (n : Nat), (a :: l)[n + 1]? = l[n]?) ∧ (∀ (l : List AV), l.drop 0 = l) ∧ (∀ (a : AV) (l : List AV) (n : Nat), (a :: l).drop (n + 1) = l.drop n) ∧ (∀ n : Nat, ([] : List AV).drop n = []) ∧
    (∀ (l : List AV), l.take 0 = []) ∧ (∀ (a : AV) (l : List AV) (n : Nat), (a :: l).take (n + 1) = a :: l.take n) ∧ (∀ n : Nat, ([] : List AV).take n = []) ∧ (∀ (l : List AV), [] ++ l = l) ∧ (∀ (l : List AV), l ++ [] = l) ∧ (∀ (a : AV) (l m : List AV), (a :: l) ++ m = a :: (l ++ m)) ∧
    (∀ (cs : List AV) (off : Nat) (new : List AV), lput cs off new = cs.take off ++ new ++ cs.drop (off + new.length)) ∧ (([] : List AV).length = 0) ∧ (∀ (a : AV) (l : List AV), (a :: l).length = l.length + 1) ∧
    (∀ (k : IntKind) (n : Int), (AV.int k n).cells = [.int k n]) ∧ (∀ b : Bool, (AV.bool b).cells = [.bool b]) ∧ (∀ s : ByteArray, (AV.str s).cells = [.str s]) ∧ (∀ (k : Nat) (l : List AV), (AV.sl k l).cells = [.sl k l]) ∧ (∀ l : List AV, (AV.agg l).cells = l) ∧ (AV.esl.cells = [.esl]) ∧ (AV.nilf.cells = [.nilf]) ∧
    (∀ (f : FuncId) (c : List AV), (AV.func f c).cells = [.func f c]) ∧ (∀ (b n off : Nat), (AV.ptr b n off).cells = [.ptr b n off]) ∧ (∀ (c : List AV) (off : Nat), (AV.iptr c off).cells = [.iptr c off]) ∧ (∀ (b n sz off len : Nat), (AV.msl b n sz off len).cells = [.msl b n sz off len]) ∧ (∀ b : Nat, (AV.yld b).cells = [.yld b]) ∧ (∀ b : Nat, (AV.mp b).cells = [.mp b]) ∧ (AV.nilp.cells = [.nilp]) :=
  ⟨fun _ _ => rfl, fun _ _ _ => rfl, fun _ => rfl, fun _ _ _ => rfl, fun n => by cases n <;> rfl, fun _ => rfl, fun _ _ _ => rfl, fun n => by cases n <;> rfl, fun _ => rfl, fun l => List.append_nil l, fun _ _ _ => rfl, fun _ _ _ => rfl, rfl, fun _ _ => rfl,
   fun _ _ => rfl, fun _ => rfl, fun _ => rfl, fun _ _ => rfl, fun _ => rfl, rfl, rfl, fun _ _ => rfl, fun _ _ _ => rfl, fun _ _ => rfl, fun _ _ _ _ _ => rfl, fun _ => rfl, fun _ => rfl, rfl⟩

/-! ### single cells -/
theorem flat_one {x : AV} (h : x.cells = [x]) (h1 : x.one = true) : x.flat = true := by simp [AV.flat, h, h1]
def AV.ones (l : List AV) : Bool := l.all AV.one
theorem flat_cells {x : AV} : x.flat = AV.ones x.cells := rfl
theorem SO : (AV.ones [] = true) ∧ (∀ (a : AV) (l : List AV), AV.ones (a :: l) = (a.one && AV.ones l)) ∧ (∀ (k : IntKind) (n : Int), (AV.int k n).one = true) ∧ (∀ b : Bool, (AV.bool b).one = true) ∧ (∀ s : ByteArray, (AV.str s).one = true) ∧ (∀ (k : Nat) (l : List AV), (AV.sl k l).one = true) ∧ (AV.esl.one = true) ∧ (AV.nilf.one = true) ∧
    (∀ (f : FuncId) (c : List AV), (AV.func f c).one = true) ∧ (∀ (b n off : Nat), (AV.ptr b n off).one = true) ∧ (∀ (c : List AV) (off : Nat), (AV.iptr c off).one = true) ∧ (∀ (b n sz off len : Nat), (AV.msl b n sz off len).one = true) ∧ (∀ b : Nat, (AV.yld b).one = true) ∧ (∀ b : Nat, (AV.mp b).one = true) ∧ (AV.nilp.one = true) ∧ (∀ l : List AV, l.all AV.one = AV.ones l) :=
  ⟨rfl, fun _ _ => by simp [AV.ones], fun _ _ => rfl, fun _ => rfl, fun _ => rfl, fun _ _ => rfl, rfl, rfl, fun _ _ => rfl, fun _ _ _ => rfl, fun _ _ => rfl, fun _ _ _ _ _ => rfl, fun _ => rfl, fun _ => rfl, rfl, fun _ => rfl⟩

/-! ### effects -/
variable {P : Program} {T : Tm} {H : Hp} {nx : Nat}

theorem e_alloc {dm : DM} {K : SP} {l : List Op2} {d : Option Nat} {z : AV} {cs : List AV} (hd : dm2 dm T (.alloc z) = true) (hc : z.cells = cs) (ho : AV.ones cs = true) (k : aops2 P dm l (updo T d (.ptr nx cs.length 0)) (hupd H nx cs) (nx + 1) K) : aops2 P dm (⟨d, none, .alloc z⟩ :: l) T H nx K := by
  subst hc
  refine o_eff rfl hd ?_ k
  simp only [ieff, abox]; rw [if_pos (show z.flat = true from ho)]
theorem e_box {dm : DM} {K : SP} {l : List Op2} {d : Option Nat} {x : Opd} {v : AV} {cs : List AV} (hd : dm2 dm T (.box x) = true) (hx : ov T x = v) (hc : v.cells = cs) (ho : AV.ones cs = true) (k : aops2 P dm l (updo T d (.ptr nx cs.length 0)) (hupd H nx cs) (nx + 1) K) : aops2 P dm (⟨d, none, .box x⟩ :: l) T H nx K := by
  subst hc hx
  refine o_eff rfl hd ?_ k
  simp only [ieff, abox]; rw [if_pos (show (ov T x).flat = true from ho)]
theorem e_st {dm : DM} {K : SP} {l : List Op2} {d : Option Nat} {sz : Nat} {p x : Opd} {b n off : Nat} {v : AV} {cs vs : List AV} (hd : dm2 dm T (.st sz p x) = true) (hp : ov T p = .ptr b n off) (hx : ov T x = v) (hb : H b = some cs) (hc : v.cells = vs) (ho : AV.ones vs = true) (hn : cs.length = n) (hl : vs.length = sz) (hf : off + sz ≤ n)
    (k : aops2 P dm l (updo T d (.tup [])) (hupd H b (lput cs off vs)) nx K) : aops2 P dm (⟨d, none, .st sz p x⟩ :: l) T H nx K := by
  subst hc hx
  refine o_eff rfl hd ?_ k
  simp only [ieff, hp, hb]
  rw [if_pos ⟨hn, ho, hl, hf⟩]
theorem e_mks {dm : DM} {K : SP} {l : List Op2} {d : Option Nat} {sz bytes : Nat} {z : List AV} {x y : Opd} {k1 k2 : IntKind} {n m : Int} (hd : dm2 dm T (.mks sz bytes z x y) = true) (hx : ov T x = .int k1 n) (hy : ov T y = .int k2 m) (h0 : 0 ≤ n) (h1 : n ≤ m) (h2 : m ≤ 9223372036854775807) (h3 : bytes * m ≤ 281474976710656)
    (k : aops2 P dm l (updo T d (.msl nx (n.toNat * sz) sz 0 n.toNat)) (hupd H nx (zcells (.agg z) n.toNat)) (nx + 1) K) : aops2 P dm (⟨d, none, .mks sz bytes z x y⟩ :: l) T H nx K := by
  refine o_eff rfl hd ?_ k
  simp only [ieff, hx, hy]
  rw [if_pos ⟨h0, h1, h2, h3⟩]
/-- a slice literal of known parts -/
theorem e_bld {dm : DM} {K : SP} {l : List Op2} {d : Option Nat} {sz len : Nat} {z : List AV} {parts : List (Nat × Nat × Opd)} {pv : List (Nat × Nat × AV)} {cs : List AV} (hd : dm2 dm T (.bldS sz len z parts) = true) (hl : len ≠ 0) (hp : parts.map (fun p => (p.1, p.2.1, ov T p.2.2)) = pv) (hc : afill2 (zcells (.agg z) len) pv = some cs)
    (k : aops2 P dm l (updo T d (.msl nx cs.length sz 0 len)) (hupd H nx cs) (nx + 1) K) : aops2 P dm (⟨d, none, .bldS sz len z parts⟩ :: l) T H nx K := by
  refine o_eff rfl hd ?_ k
  simp only [ieff, hl, if_false, hp, hc]
theorem e_bld0 {dm : DM} {K : SP} {l : List Op2} {d : Option Nat} {sz : Nat} {z : List AV} (hd : dm2 dm T (.bldS sz 0 z []) = true) (k : aops2 P dm l (updo T d .esl) H nx K) : aops2 P dm (⟨d, none, .bldS sz 0 z []⟩ :: l) T H nx K := by
  refine o_eff rfl hd ?_ k
  simp [ieff]
/-- append to nothing -/
theorem e_app0 {dm : DM} {K : SP} {l : List Op2} {d : Option Nat} {sz bytes n : Nat} {s x : Opd} {v : AV} {new : List AV} (hd : dm2 dm T (.app sz bytes s x) = true) (hs : ov T s = .esl) (hx : ov T x = v) (hsrc : asrc sz H v = some (n, new)) (ho : AV.ones new = true) (h1 : n * bytes ≤ 140737488355328) (h2 : n ≤ 9223372036854775807)
    (k : aops2 P dm l (updo T d (.msl nx (n * sz) sz 0 n)) (hupd H nx new) (nx + 1) K) : aops2 P dm (⟨d, none, .app sz bytes s x⟩ :: l) T H nx K := by
  subst hx
  refine o_eff rfl hd ?_ k
  simp only [ieff, aapp, hs, hsrc]
  rw [if_pos (show new.all AV.one = true from ho), if_pos ⟨h1, h2⟩]
/-- append to a row that fills its box -/
theorem e_app {dm : DM} {K : SP} {l : List Op2} {d : Option Nat} {sz bytes n : Nat} {s x : Opd} {v : AV} {new cs : List AV} {b m len : Nat} (hd : dm2 dm T (.app sz bytes s x) = true) (hs : ov T s = .msl b m sz 0 len) (hb : H b = some cs) (hx : ov T x = v) (hsrc : asrc sz H v = some (n, new)) (ho : AV.ones new = true) (hm : cs.length = m) (hl : m = len * sz)
    (h1 : (len + n) * bytes ≤ 140737488355328) (h2 : len + n ≤ 9223372036854775807)
    (k : aops2 P dm l (updo T d (.msl b ((len + n) * sz) sz 0 (len + n))) (hupd H b (cs ++ new)) nx K) : aops2 P dm (⟨d, none, .app sz bytes s x⟩ :: l) T H nx K := by
  subst hx
  refine o_eff rfl hd ?_ k
  simp only [ieff, aapp, hs, hsrc, hb]
  rw [if_pos (show new.all AV.one = true from ho), if_pos ⟨hm, trivial⟩, if_pos ⟨trivial, hl, h1, h2⟩]

theorem asrc_sl {sz : Nat} {l : List AV} : asrc sz H (.sl sz l) = some (l.length, l.flatMap AV.cells) := by simp [asrc]
theorem asrc_esl {sz : Nat} : asrc sz H .esl = some (0, []) := rfl
theorem asrc_msl {sz b n off len : Nat} {cs : List AV} (h : H b = some cs) (hn : cs.length = n) (hf : off + len * sz ≤ n) : asrc sz H (.msl b n sz off len) = some (len, (cs.drop off).take (len * sz)) := by
  simp only [asrc]
  split
  · rename_i h0; subst h0; simp
  · simp only [h, hn, true_and, hf, if_true]

theorem SR : (∀ (H : Hp) (b n off : Nat), rd1 H (.ptr b n off) = match H b with | some cs => if cs.length = n then cs[off]? else none | none => none) ∧
    (∀ (H : Hp) (k b n off : Nat), rd H k (.ptr b n off) = match H b with | some cs => if cs.length = n ∧ off + k ≤ n then some ((cs.drop off).take k) else none | none => none) ∧
    (∀ (H : Hp) (cs : List AV) (off : Nat), rd1 H (.iptr cs off) = cs[off]?) ∧ (∀ (H : Hp) (cs : List AV) (off k : Nat), rd H k (.iptr cs off) = if off + k ≤ cs.length then some ((cs.drop off).take k) else none) ∧
    (∀ (l : List AV) (i : Nat), aextract (.tup l) i = l[i]?) ∧ (∀ (l : List AV) (f : List AV → Option AV), acells (.agg l) f = f l) ∧ (∀ (k : IntKind) (n : Int) (f : Int → Option AV), aint (.int k n) f = f n) ∧
    (∀ (cs : List AV), afill2 cs [] = some cs) ∧
    (∀ (cs : List AV) (off sz : Nat) (x : AV) (r : List (Nat × Nat × AV)), afill2 cs ((off, sz, x) :: r) = if AV.ones x.cells = true ∧ x.cells.length = sz ∧ off + sz ≤ cs.length then afill2 (lput cs off x.cells) r else none) ∧
    (∀ (b n sz off len : Nat), alenS (.msl b n sz off len) = some (.int .i64 len)) ∧ (alenS .esl = some (.int .i64 0)) ∧ (∀ (sz : Nat) (l : List AV), alenS (.sl sz l) = some (.int .i64 l.length)) ∧
    (∀ (z : AV), zcells z 0 = []) ∧ (∀ (z : AV) (n : Nat), zcells z (n + 1) = z.cells ++ zcells z n) :=
  ⟨fun _ _ _ _ => rfl, fun _ _ _ _ _ => rfl, fun _ _ _ => rfl, fun _ _ _ _ => rfl, fun l i => by cases l <;> rfl, fun _ _ => rfl, fun _ _ _ => rfl, fun _ => rfl, fun _ _ _ _ _ => rfl, fun _ _ _ _ _ => rfl, rfl, fun _ _ => rfl, fun _ => rfl, fun z n => by simp [zcells, List.replicate_succ]⟩

end Go.Abs

/- Loops with boxes; maps of plain keys; closing steps. -/
set_option linter.unusedVariables false
namespace Go.Abs

theorem snap_bool {H : Hp} {a b : Bool} (h : a = b) : Snap H (.bool a) (.bool b) := by subst h; exact .bool _
theorem snap_int {H : Hp} {k : IntKind} {a b : Int} (h : a = b) : Snap H (.int k a) (.int k b) := by subst h; exact .int _ _
theorem snap_tup {H : Hp} {l m : List AV} (h : SnapL H l m) : Snap H (.tup l) (.tup m) := .tup l m h.1 h.2
theorem snap_agg {H : Hp} {l m : List AV} (h : SnapL H l m) : Snap H (.agg l) (.agg m) := .agg l m h.1 h.2
theorem snapL_cons {H : Hp} {x y : AV} {xs ys : List AV} (h : Snap H x y) (hs : SnapL H xs ys) : SnapL H (x :: xs) (y :: ys) := SnapL.cons h hs
theorem Dat.snap {H : Hp} {x : AV} (h : Dat x) : Snap H x x := h H

/-- a loop -/
theorem loopI {P : Program} {b : C2} {T : Tm} {H : Hp} {nx : Nat} {K : CP} {X : Type} (L : X → List (Nat × AV)) (I : X → Hp → Nat → Prop) (μ : X → Nat) (x0 : X) (h0 : I x0 H nx) (hT : agr T (L x0))
    (step : ∀ x H nx, I x H nx → awp2 P b (tl (L x)) H nx fun e T H' nx' => athen e (∃ y, μ y < μ x ∧ I y H' nx' ∧ agr T (L y)) (K e T H' nx')) : aloop (awp2 P b) T H nx K := by
  refine loopG (X := X × Hp × Nat) (fun x => tl (L x.1)) (fun x => x.2.1) (fun x => x.2.2) (fun x => I x.1 x.2.1 x.2.2) (fun x => μ x.1) ⟨(x0, H, nx), h0, _, Gh.weak (agr_tl hT)⟩ (fun x hx => awp2_mono b (step x.1 x.2.1 x.2.2 hx) (fun e T H' nx' h => ?_))
  cases e with
  | normal =>
    obtain ⟨y, h1, h2, h3⟩ := h
    exact ⟨(y, H', nx'), h2, h1, _, Gh.weak (agr_tl h3)⟩
  | exit i => exact h
  | ret => exact h

/-! ### boxes that become data -/
def CellsTo (Hf : Hp) (cs cs' : List AV) : Prop := cs'.length = cs.length ∧ ∀ (i : Nat) (x x' : AV), cs[i]? = some x → cs'[i]? = some x' → x' = x ∨ Snap Hf x x'

theorem CellsTo.refl (Hf : Hp) (cs : List AV) : CellsTo Hf cs cs := ⟨rfl, fun i x x' h1 h2 => .inl (by rw [h1] at h2; cases h2; rfl)⟩
theorem CellsTo.snoc {Hf : Hp} {cs : List AV} {x x' : AV} (h : Snap Hf x x') : CellsTo Hf (cs ++ [x]) (cs ++ [x']) := by
  refine ⟨by simp, fun i y y' h1 h2 => ?_⟩
  by_cases hi : i < cs.length
  · rw [List.getElem?_append_left hi] at h1 h2; rw [h1] at h2; cases h2; exact .inl rfl
  · rw [List.getElem?_append_right (by omega)] at h1 h2
    cases hj : i - cs.length with
    | zero => rw [hj] at h1 h2; simp at h1 h2; subst h1 h2; exact .inr h
    | succ j => rw [hj] at h1; simp at h1

/-- H' is H without the boxes of Hf, whose readers have become data -/
structure Fz (Hf H H' : Hp) : Prop where
  sub : ∀ b cs, Hf b = some cs → H b = some cs
  to : ∀ b cs', H' b = some cs' → ∃ cs, H b = some cs ∧ Hf b = none ∧ CellsTo Hf cs cs'

def agrF (Hf : Hp) (T : Tm) : List (Nat × AV) → Prop
  | [] => True
  | (d, v) :: l => (T d = v ∨ Snap Hf (T d) v) ∧ agrF Hf T l

theorem agrF_tl {Hf : Hp} {T : Tm} : ∀ {l : List (Nat × AV)}, agrF Hf T l → ∀ t, tl l t = .undef ∨ tl l t = T t ∨ Snap Hf (T t) (tl l t)
  | [], _, t => .inl rfl
  | (d, v) :: l, h, t => by
    simp only [tl]
    split
    · rename_i e; subst e
      rcases h.1 with h1 | h1
      · exact .inr (.inl h1.symm)
      · exact .inr (.inr h1)
    · exact agrF_tl h.2 t

theorem Fz.gh {Hf H H' : Hp} {T : Tm} {l : List (Nat × AV)} {nx : Nat} (h : Fz Hf H H') (ha : agrF Hf T l) : Gh T H nx (tl l) H' nx Hf :=
  ⟨h.sub, Nat.le_refl _, fun b cs' hb => by
    obtain ⟨cs, h1, h2, h3, h4⟩ := h.to b cs' hb
    exact .inl ⟨cs, h1, h2, h3, fun i x x' hx hx' => (h4 i x x' hx hx').imp id .inl⟩, fun t => by
    rcases agrF_tl ha t with h1 | h1 | h1
    · exact .inl h1
    · exact .inr (.inl h1)
    · exact .inr (.inr (.inl h1))⟩

/-- one box -/
def only (b : Nat) (cs : List AV) : Hp := fun x => if x = b then some cs else none
theorem only_at {b : Nat} {cs : List AV} : only b cs b = some cs := by simp [only]

/-- boxes become data in front of a region -/
theorem w_ops0F {P : Program} {T : Tm} {H : Hp} {nx : Nat} {K : CP} {l : List Op2} (Hf H' : Hp) (L : List (Nat × AV)) (hf : Fz Hf H H') (ha : agrF Hf T L) (h : aops2 P .text l (tl L) H' nx fun T H nx => K .normal T H nx) : awp2 P (.ops 0 l) T H nx K := ⟨_, H', nx, Hf, hf.gh ha, h⟩
theorem w_ops1F {P : Program} {T : Tm} {H : Hp} {nx : Nat} {K : CP} {l : List Op2} (Hf H' : Hp) (L : List (Nat × AV)) (hf : Fz Hf H H') (ha : agrF Hf T L) (h : aops2 P .draw l (tl L) H' nx fun T H nx => K .normal T H nx) : awp2 P (.ops 1 l) T H nx K := ⟨_, H', nx, Hf, hf.gh ha, h⟩
/-- one box becomes data -/
theorem Fz.one {H : Hp} {b : Nat} {cs : List AV} (hb : H b = some cs) : Fz (only b cs) H (hdel H b) :=
  ⟨fun x c h => by unfold only at h; split at h <;> cases h; subst_vars; exact hb, fun x c h => by
    have := hdel_some h
    exact ⟨c, this.2, by simp [only, this.1], CellsTo.refl _ _⟩⟩
/-- all boxes become data -/
theorem Fz.all {H : Hp} : Fz H H noBoxes := ⟨fun _ _ h => h, fun _ _ h => (by cases h)⟩

theorem agrF_of {T : Tm} {Hf : Hp} : ∀ {l : List (Nat × AV)}, agr T l → agrF Hf T l
  | [], _ => trivial
  | (_, _) :: _, h => ⟨.inl h.1, agrF_of h.2⟩

/-- a loop at whose rounds' ends boxes become data -/
theorem loopF {P : Program} {b : C2} {T : Tm} {H : Hp} {nx : Nat} {K : CP} {X : Type} (L : X → List (Nat × AV)) (I : X → Hp → Nat → Prop) (μ : X → Nat) (x0 : X) (h0 : ∃ Hf H', Fz Hf H H' ∧ I x0 H' nx ∧ agrF Hf T (L x0))
    (step : ∀ x H nx, I x H nx → awp2 P b (tl (L x)) H nx fun e T H' nx' => athen e (∃ y, μ y < μ x ∧ ∃ Hf H'', Fz Hf H' H'' ∧ I y H'' nx' ∧ agrF Hf T (L y)) (K e T H' nx')) : aloop (awp2 P b) T H nx K := by
  obtain ⟨Hf, H0, hf, hI, ha⟩ := h0
  refine loopG (X := X × Hp × Nat) (fun x => tl (L x.1)) (fun x => x.2.1) (fun x => x.2.2) (fun x => I x.1 x.2.1 x.2.2) (fun x => μ x.1) ⟨(x0, H0, nx), hI, _, hf.gh ha⟩ (fun x hx => awp2_mono b (step x.1 x.2.1 x.2.2 hx) (fun e T H' nx' h => ?_))
  cases e with
  | normal =>
    obtain ⟨y, h1, Hf, H'', h2, h3, h4⟩ := h
    exact ⟨(y, H'', nx'), h3, h1, _, h2.gh h4⟩
  | exit i => exact h
  | ret => exact h

theorem Fz.none {H : Hp} : Fz noBoxes H H := ⟨fun _ _ h => (by cases h), fun b cs h => ⟨cs, h, rfl, CellsTo.refl _ _⟩⟩


/-! ### plain keys -/
theorem mfind_map {α : Type} [DecidableEq α] (k : MK) (enc : α → AV) (h : ∀ a b, ksame k (enc a) (enc b) = some (decide (a = b))) (v : α) : ∀ ks : List α, mfind k (enc v) (ks.map enc) = some (if v ∈ ks then some (ks.idxOf v) else none)
  | [] => rfl
  | x :: l => by
    simp only [List.map_cons, mfind, h]
    by_cases e : v = x
    · subst e; simp
    · have e' : x ≠ v := fun h => e h.symm
      simp only [e, decide_false, mfind_map k enc h v l, Option.map_some, List.mem_cons, false_or]
      by_cases hm : v ∈ l
      · simp only [hm, if_true, Option.map_some]
        simp [List.idxOf_cons, beq_eq_false_iff_ne.2 e']
      · simp [hm]

theorem ksame_int (k : IntKind) (a b : Int) : ksame (.one .int) (.int k a) (.int k b) = some (decide (a = b)) := by
  simp only [ksame, same1, if_true]
  congr 1
theorem ksame_str (a b : ByteArray) : ksame (.one .str) (.str a) (.str b) = some (decide (a = b)) := by
  simp only [ksame, same1]
  congr 1
  by_cases h : a = b
  · subst h; simp
  · have : a.toList ≠ b.toList := fun e => h (bytes_inj e)
    simp [h, this]

theorem mfind_int (v : Int) (ks : List Int) : mfind (.one .int) (.int .i64 v) (ks.map (AV.int .i64)) = some (if v ∈ ks then some (ks.idxOf v) else none) := mfind_map _ (AV.int .i64) (ksame_int .i64) v ks

/-! ### rows of rows -/
theorem getD_take {α : Type} {l : List α} {n k : Nat} {d : α} (h : k < n) : (l.take n).getD k d = l.getD k d := by
  simp only [List.getD, List.getElem?_take, if_pos h]
theorem take_succ' {α : Type} [Inhabited α] {l : List α} {k : Nat} (h : k < l.length) : l.take (k + 1) = l.take k ++ [l.getD k default] := by
  rw [List.take_add_one]; simp [List.getD, h]
theorem drop_cons {α : Type} [Inhabited α] {l : List α} {k : Nat} (h : k < l.length) : l.drop k = l.getD k default :: l.drop (k + 1) := by
  rw [List.drop_eq_getElem_cons h]; simp [List.getD, h]

theorem omap_eq {a a' b : List AV} (h : a = a') : some [AV.omap a b] = some [AV.omap a' b] := by rw [h]
theorem hupd_self' {H : Hp} {b : Nat} {cs : List AV} : hupd H b cs b = some cs := if_pos rfl

theorem snap_func {H : Hp} {f : FuncId} {l m : List AV} (h : SnapL H l m) : Snap H (.func f l) (.func f m) := .func f l m h.1 h.2
theorem snap_ptr {H : Hp} {b n off : Nat} {cs cs' : List AV} (hb : H b = some cs) (hn : cs.length = n) (h : SnapL H cs cs') : Snap H (.ptr b n off) (.iptr cs' off) := .ptr b n off cs cs' hb hn (by rw [h.1, hn]) h.2
theorem snap_iptr {H : Hp} {cs cs' : List AV} {off : Nat} (h : SnapL H cs cs') : Snap H (.iptr cs off) (.iptr cs' off) := .iptr cs cs' off h.1 h.2
theorem Dat.iptr {cs : List AV} {off : Nat} (h : ∀ x ∈ cs, Dat x) : Dat (.iptr cs off) := fun H => .iptr cs cs off rfl (fun i a c ha hc => by rw [ha] at hc; cases hc; exact h a (List.mem_of_getElem? ha) H)
theorem DatL.nil : ∀ x ∈ ([] : List AV), Dat x := by simp
theorem DatL.cons {x : AV} {l : List AV} (h : Dat x) (hl : ∀ y ∈ l, Dat y) : ∀ y ∈ x :: l, Dat y := fun y hy => (List.mem_cons.1 hy).elim (fun e => e ▸ h) (hl y)
/-- a row of cells as it stands -/
theorem snap_msl {H : Hp} {b n off len : Nat} {cs : List AV} {l : List AV} (hb : H b = some cs) (hn : cs.length = n) (hf : off + len ≤ n) (hl : l.length = len) (hc : ∀ y ∈ l, y.cells = [y]) (h : ∀ (i : Nat) (a c : AV), cs[off + i]? = some a → l[i]? = some c → Snap H a c) : Snap H (.msl b n 1 off len) (.sl 1 l) := by
  refine .msl b n 1 off len cs l hb hn (by omega) hl (fun y hy => by rw [hc y hy]; rfl) (fun i j y a c hy hc' ha => ?_)
  rw [hc y (List.mem_of_getElem? hy)] at hc'
  cases j with
  | zero => simp at hc'; subst hc'; exact h i a y (by simpa using ha) hy
  | succ j => simp at hc'
/-- a row of numbers -/
theorem snap_row {H : Hp} {b n len : Nat} {l : List Int} (hb : H b = some (l.map (AV.int .i64))) (hn : n = len) (hl : l.length = len) : Snap H (.msl b n 1 0 len) (encV l) := by
  subst hn
  refine snap_msl hb (by simp [hl]) (by omega) (by simp [hl]) (fun y hy => by simp at hy; obtain ⟨n, _, rfl⟩ := hy; rfl) (fun i a c ha hc => ?_)
  rw [Nat.zero_add] at ha
  rw [ha] at hc; cases hc
  simp at ha
  obtain ⟨n, _, rfl⟩ := ha
  exact .int _ _

theorem snapL_datL {H : Hp} : ∀ {l : List AV}, (∀ x ∈ l, Dat x) → SnapL H l l
  | [], _ => SnapL.nil
  | x :: l, h => SnapL.cons (h x (by simp) H) (snapL_datL (fun y hy => h y (by simp [hy])))
theorem mem_getD {α : Type} [Inhabited α] {l : List α} {k : Nat} (h : k < l.length) : l.getD k default ∈ l := by
  have : l.getD k default = l[k] := by simp [List.getD, h]
  rw [this]; exact List.getElem_mem h

theorem asrc_encV {H : Hp} {l : List Int} : asrc 1 H (encV l) = some (l.length, l.map (AV.int .i64)) := by
  unfold encV; rw [asrc_sl]
  congr 2
  · simp
  · induction l with
    | nil => rfl
    | cons a l ih => simp only [List.map_cons, List.flatMap_cons, ih]; rfl
theorem ones_int {l : List Int} : AV.ones (l.map (AV.int .i64)) = true := by
  simp [AV.ones, AV.one]
theorem ones_encV {l : List (List Int)} : AV.ones (l.map encV) = true := by
  simp [AV.ones, encV, AV.one]
theorem asrc_encVV {H : Hp} {l : List (List Int)} : asrc 1 H (encVV l) = some (l.length, l.map encV) := by
  unfold encVV; rw [asrc_sl]
  congr 2
  · simp
  · induction l with
    | nil => rfl
    | cons a l ih => simp only [List.map_cons, List.flatMap_cons, ih]; rfl
theorem alenN_encV {l : List Int} : alenN (encV l) = some l.length := by simp [alenN, encV]
theorem alenN_encVV {l : List (List Int)} : alenN (encVV l) = some l.length := by simp [alenN, encVV]
theorem ones_app {l m : List AV} : AV.ones (l ++ m) = (AV.ones l && AV.ones m) := by simp [AV.ones]
theorem one_encV {l : List Int} : (encV l).one = true := rfl
theorem one_encVV {l : List (List Int)} : (encVV l).one = true := rfl
theorem snap_esl {H : Hp} {l : List Int} (h : l.length = 0) : Snap H .esl (encV l) := by
  have : l = [] := List.length_eq_zero_iff.1 h
  subst this; exact .eslsl 1
theorem snap_esl' {H : Hp} {l : List (List Int)} (h : l.length = 0) : Snap H .esl (encVV l) := by
  have : l = [] := List.length_eq_zero_iff.1 h
  subst this; exact .eslsl 1
/-- a row of data -/
theorem snap_rowD {H : Hp} {b n len : Nat} {l : List AV} (hb : H b = some l) (hn : n = len) (hl : l.length = len) (hc : ∀ y ∈ l, y.cells = [y] ∧ Dat y) : Snap H (.msl b n 1 0 len) (.sl 1 l) := by
  subst hn
  refine snap_msl hb hl (by omega) hl (fun y hy => (hc y hy).1) (fun i a c ha hc' => ?_)
  rw [Nat.zero_add] at ha
  rw [ha] at hc'; cases hc'
  exact (hc a (List.mem_of_getElem? ha)).2 H
theorem snap_rowV {H : Hp} {b n len : Nat} {l : List (List Int)} (hb : H b = some (l.map encV)) (hn : n = len) (hl : l.length = len) : Snap H (.msl b n 1 0 len) (encVV l) :=
  snap_rowD hb hn (by simp [hl]) (fun y hy => by simp at hy; obtain ⟨n, _, rfl⟩ := hy; exact ⟨rfl, encV_dat n⟩)

theorem r_0 {T : Tm} {H : Hp} {K : AV → Prop} (h : K (.tup [])) : res1 T H K [] := h
theorem getElem?_map_lt {α : Type} [Inhabited α] {f : α → AV} {l : List α} {k : Nat} (h : k < l.length) : (l.map f)[k]? = some (f (l.getD k default)) := by
  simp [List.getD, h]
theorem aixS_msl {sz b m off len : Nat} {k : IntKind} {n : Int} : aixS sz (.msl b m sz off len) (.int k n) = if 0 ≤ n ∧ n < len then some (.ptr b m (off + n.toNat * sz)) else none := by simp [aixS]
theorem lput_map {f : Int → AV} {l : List Int} {k : Nat} {x : Int} (h : k < l.length) : lput (l.map f) k [f x] = (l.set k x).map f := by
  simp only [lput, List.map_set, List.length_cons, List.length_nil, Nat.zero_add]
  rw [List.set_eq_take_append_cons_drop, if_pos (by simpa using h)]
  simp

theorem w_rangeFb {P : Program} {T : Tm} {H : Hp} {nx : Nat} {K : CP} {g : Opd} {ps : List Nat} {a b : C2} {f : FuncId} {caps : List AV} (y y1 : Nat) (hy : nx = y) (hy1 : y + 1 = y1) (hg : ov T g = .func f caps)
    (h : ∀ (c0 : AV) (cj : AEx → AV), (∀ (args : List AV) (H' : Hp) (nx' : Nat) (K' : AV → Hp → Nat → Prop), H' y = some [c0] → args.length = ps.length →
        awp2 P a (updl T ps args) H' nx' (fun e T2 H2 nx2 => athen e (H2 y = some [c0] ∧ awp2 P b T2 (hdel H2 y) nx2 fun e T3 H3 nx3 => athen e (K' (.bool true) (hupd H3 y [c0]) nx3) (K' (.bool false) (hupd H3 y [cj e]) nx3)) False) →
        Yl P y args H' nx' K') →
      Fn P f (.yld y :: caps) (hupd H y [c0]) y1 fun _ H' nx' => (H' y = some [c0] ∧ K .normal T (hdel H' y) nx') ∨ ∃ e, e ≠ .normal ∧ H' y = some [cj e] ∧ K e T (hdel H' y) nx') : awp2 P (.rangeF g ps a b) T H nx K := by
  subst hy hy1
  exact w_rangeF hg h

theorem snapF_row {H : Hp} {b n len : Nat} {l : List Int} (hb : H b = some (l.map (AV.int .i64))) (hn : n = len) (hl : l.length = len) : SnapF H (.msl b n 1 0 len) (encV l) := by
  subst hn
  refine .msl b n 1 0 n _ _ hb (by simp [hl]) (by omega) (by simp [hl]) (fun y hy => by simp at hy; obtain ⟨n, _, rfl⟩ := hy; rfl) (fun i j y a c hy hc ha => ?_)
  rw [List.getElem?_map] at hy
  cases hi : l[i]? with
  | none => rw [hi] at hy; cases hy
  | some q =>
    rw [hi] at hy; cases hy
    cases j with
    | zero =>
      simp only [AV.cells, List.getElem?_cons_zero, Option.some.injEq] at hc; subst hc
      simp [hi] at ha
      subst ha; exact .int _ _
    | succ j => simp [AV.cells] at hc
theorem snapF_esl {H : Hp} {l : List Int} (h : l.length = 0) : SnapF H .esl (encV l) := by
  have : l = [] := List.length_eq_zero_iff.1 h
  subst this; exact .eslsl 1

end Go.Abs

/- Rows that grow. -/
set_option linter.unusedVariables false
namespace Go.Abs

/-- a row that is grown by append: nil, or a box of its own that it fills -/
inductive Row (H : Hp) (sz : Nat) : AV → List AV → Prop
  | nil : Row H sz .esl []
  | box (b len : Nat) (cs : List AV) (hb : H b = some cs) (hl : cs.length = len * sz) : Row H sz (.msl b (len * sz) sz 0 len) cs

def rowB : AV → Option Nat
  | .msl b _ _ _ _ => some b
  | _ => none

theorem rowB_msl {b n sz off len : Nat} : rowB (.msl b n sz off len) = some b := rfl
theorem rowB_esl : rowB .esl = none := rfl

theorem Row.len {H : Hp} {sz : Nat} {s : AV} {cs : List AV} (h : Row H sz s cs) : ∃ n : Nat, alenS s = some (.int .i64 n) ∧ cs.length = n * sz := by
  cases h with
  | nil => exact ⟨0, rfl, by simp⟩
  | box b len cs hb hl => exact ⟨len, rfl, hl⟩

theorem Row.lenS {H : Hp} {sz n : Nat} {s : AV} {cs : List AV} (h : Row H sz s cs) (hl : cs.length = n * sz) (hz : 0 < sz) : alenS s = some (.int .i64 n) := by
  obtain ⟨m, h1, h2⟩ := h.len
  have : m = n := Nat.eq_of_mul_eq_mul_right hz (by omega)
  subst this; exact h1

/-- the row's box is where it was -/
theorem Row.same {H H' : Hp} {sz : Nat} {s : AV} {cs : List AV} (h : Row H sz s cs) (hs : ∀ b, rowB s = some b → H' b = H b) : Row H' sz s cs := by
  cases h with
  | nil => exact .nil
  | box b len cs hb hl => exact .box b len cs ((hs b rfl).trans hb) hl

theorem Row.one {H : Hp} {sz : Nat} {s : AV} {cs : List AV} (h : Row H sz s cs) : s.one = true ∧ s.cells = [s] := by
  cases h <;> exact ⟨rfl, rfl⟩

theorem hupd_ne {H : Hp} {b x : Nat} {cs : List AV} (h : x ≠ b) : hupd H b cs x = H x := if_neg h
theorem hdel_ne {H : Hp} {b x : Nat} (h : x ≠ b) : hdel H b x = H x := if_neg h

variable {P : Program} {T : Tm} {H : Hp} {nx : Nat}

/-- append -/
theorem e_row {dm : DM} {K : SP} {l : List Op2} {d : Option Nat} {sz bytes k : Nat} {s x : Opd} {sv xv : AV} {cs new : List AV} (hd : dm2 dm T (.app sz bytes s x) = true) (hs : ov T s = sv) (hrow : Row H sz sv cs) (hx : ov T x = xv) (hsrc : asrc sz H xv = some (k, new)) (ho : AV.ones new = true) (hk : new.length = k * sz)
    (hz : 0 < sz) (h1 : (cs.length + k) * bytes ≤ 140737488355328) (h2 : cs.length + k ≤ 9223372036854775807)
    (next : ∀ (sv' : AV) (H' : Hp) (nx' : Nat), Row H' sz sv' (cs ++ new) → nx ≤ nx' → nx' ≤ nx + 1 → (∀ i, i < nx → rowB sv ≠ some i → H' i = H i) → (∀ b, rowB sv' = some b → rowB sv = some b ∨ b = nx ∧ nx' = nx + 1) → aops2 P dm l (updo T d sv') H' nx' K) :
    aops2 P dm (⟨d, none, .app sz bytes s x⟩ :: l) T H nx K := by
  cases hrow with
  | nil =>
    refine e_app0 hd hs hx hsrc ho (by simpa using h1) (by simpa using h2) ?_
    exact next _ _ _ (.box nx k new hupd_self' hk) (Nat.le_succ _) (Nat.le_refl _) (fun i hi _ => hupd_ne (by omega)) (fun b hb => by cases hb; exact .inr ⟨rfl, rfl⟩)
  | box b len cs hb hl =>
    have hle : len ≤ cs.length := by rw [hl]; exact Nat.le_mul_of_pos_right _ hz
    have hb1 : (len + k) * bytes ≤ 140737488355328 := Nat.le_trans (Nat.mul_le_mul_right _ (by omega)) h1
    refine e_app hd hs hb hx hsrc ho hl rfl hb1 (by omega) ?_
    exact next _ _ _ (.box b (len + k) (cs ++ new) hupd_self' (by rw [List.length_append, hl, hk, Nat.add_mul])) (Nat.le_refl _) (Nat.le_succ _) (fun i hi hne => hupd_ne (fun e => hne (by rw [e]; rfl))) (fun b' hb' => by cases hb'; exact .inl rfl)

/-- a row that has become data -/
theorem Row.snap {H : Hp} {sz : Nat} {s : AV} {elems : List AV} (h : Row H sz s (elems.flatMap AV.cells)) (hc : ∀ y ∈ elems, y.cells.length = sz) (hz : 0 < sz) (hd : ∀ y ∈ elems, ∀ c ∈ y.cells, Dat c) : Snap H s (.sl sz elems) := by
  obtain ⟨f1, f2⟩ := flatMap_cells_get elems hc
  generalize he : elems.flatMap AV.cells = cs at h
  cases h with
  | nil =>
    have : elems.length * sz = 0 := by rw [← f1, he]; rfl
    have : elems = [] := List.length_eq_zero_iff.1 (by
      rcases Nat.mul_eq_zero.1 this with h | h
      · exact h
      · omega)
    subst this; exact .eslsl sz
  | box b len cs hb hl =>
    have hlen : elems.length = len := Nat.eq_of_mul_eq_mul_right hz (by rw [← f1, he, hl])
    refine .msl b (len * sz) sz 0 len cs elems hb hl (by omega) hlen hc (fun i j y a c hy hc' ha => ?_)
    have hj : j < sz := by rw [← hc y (List.mem_of_getElem? hy)]; exact (List.getElem?_eq_some_iff.1 hc').1
    -- the cell of the row
    have key : ∀ (l : List AV) (i j : Nat) (y c : AV), (∀ z ∈ l, z.cells.length = sz) → l[i]? = some y → y.cells[j]? = some c → j < sz → (l.flatMap AV.cells)[i * sz + j]? = some c := by
      intro l
      induction l with
      | nil => intro i j y c _ h; simp at h
      | cons x l ih =>
        intro i j y c hl hy hc hj
        rw [List.flatMap_cons]
        cases i with
        | zero =>
          simp at hy; subst hy
          rw [Nat.zero_mul, Nat.zero_add, List.getElem?_append_left (by rw [hl x (by simp)]; exact hj)]; exact hc
        | succ i =>
          rw [List.getElem?_append_right (by rw [hl x (by simp), Nat.add_mul]; omega), hl x (by simp)]
          have := ih i j y c (fun z hz => hl z (by simp [hz])) (by simpa using hy) hc hj
          rw [← this]; congr 1; rw [Nat.add_mul]; omega
    have := key elems i j y c hc hy hc' hj
    rw [he, ← Nat.zero_add (i * sz)] at this
    rw [this] at ha; cases ha
    exact hd y (List.mem_of_getElem? hy) a (List.mem_of_getElem? hc') H

theorem cells_map_one {α : Type} {f : α → AV} (h : ∀ x, (f x).cells = [f x]) (l : List α) : (l.map f).flatMap AV.cells = l.map f := by
  induction l with
  | nil => rfl
  | cons a l ih => rw [List.map_cons, List.flatMap_cons, ih, h]; rfl

theorem Row.snapV {H : Hp} {s : AV} {l : List (List Int)} (h : Row H 1 s (l.map encV)) : Snap H s (encVV l) := by
  refine Row.snap (elems := l.map encV) (by rw [cells_map_one (fun _ => rfl)]; exact h) (fun y hy => ?_) Nat.one_pos (fun y hy c hc => ?_)
  · simp at hy; obtain ⟨n, _, rfl⟩ := hy; rfl
  · simp at hy; obtain ⟨n, _, rfl⟩ := hy
    simp only [cells_encV, List.mem_singleton] at hc; subst hc; exact encV_dat n
theorem Row.snapI {H : Hp} {s : AV} {l : List Int} (h : Row H 1 s (l.map (AV.int .i64))) : Snap H s (encV l) := by
  refine Row.snap (elems := l.map (AV.int .i64)) (by rw [cells_map_one (fun _ => rfl)]; exact h) (fun y hy => ?_) Nat.one_pos (fun y hy c hc => ?_)
  · simp at hy; obtain ⟨n, _, rfl⟩ := hy; rfl
  · simp at hy; obtain ⟨n, _, rfl⟩ := hy
    simp only [cells_int, List.mem_singleton] at hc; subst hc; exact .int

/-- a cut between two parts -/
theorem w_seqC {K : CP} {x y : C2} (M : SP) (h1 : awp2 P x T H nx fun e T H nx => athen e (M T H nx) (K e T H nx)) (h2 : ∀ T H nx, M T H nx → awp2 P y T H nx K) : awp2 P (.seq x y) T H nx K := by
  refine w_seq (awp2_mono x h1 (fun e T H nx h => ?_))
  cases e with
  | normal => exact h2 T H nx h
  | exit i => exact h
  | ret => exact h

end Go.Abs

/- The bundles of simp's rules. -/
set_option linter.unusedVariables false
namespace Go.Abs
theorem simB1 : (∀ l : List Int, (encV l).cells = [encV l]) ∧ (∀ l : List (List Int), (encVV l).cells = [encVV l]) ∧ (∀ x : Nat, noBoxes x = none) ∧
    (∀ (α β : Type) (f : α → β) (a : α) (l : List α), (a :: l).map f = f a :: l.map f) ∧ (∀ (α β : Type) (f : α → β), ([] : List α).map f = []) ∧ (∀ (α β : Type) (f : α → β) (a : α), (some a).map f = some (f a)) ∧ (∀ (α β : Type) (f : α → β), (none : Option α).map f = none) ∧
    (∀ n : Nat, 0 + n = n) ∧ (∀ n : Nat, n + 0 = n) ∧ (∀ p : Prop, (p ∧ p) = p) ∧ (∀ p : Prop, (p ∧ True) = p) ∧ (∀ p : Prop, (True ∧ p) = p) ∧ ((!true) = false) ∧ ((!false) = true) ∧
    (∀ (α : Type) (a : α) (l m : List α), (a :: l) ++ m = a :: (l ++ m)) ∧ (∀ (α : Type) (l : List α), [] ++ l = l) ∧ (∀ (α : Type) (l : List α), l ++ [] = l) :=
  ⟨fun _ => rfl, fun _ => rfl, fun _ => rfl, fun _ _ _ _ _ => rfl, fun _ _ _ => rfl, fun _ _ _ _ => rfl, fun _ _ _ => rfl, Nat.zero_add, Nat.add_zero, and_self, and_true, true_and, rfl, rfl, fun _ _ _ _ => rfl, fun _ _ => rfl, fun _ l => List.append_nil l⟩
theorem simB0 : (∀ (H : Hp) (b x : Nat) (cs : List AV), hupd H b cs x = if x = b then some cs else H x) ∧ (∀ (H : Hp) (b x : Nat), hdel H b x = if x = b then none else H x) := ⟨fun _ _ _ _ => rfl, fun _ _ _ => rfl⟩
theorem simB2 : (∀ (H : Hp) (b : Nat) (cs : List AV), hupd H b cs b = some cs) ∧ (∀ (H : Hp) (b x : Nat) (cs : List AV), x ≠ b → hupd H b cs x = H x) ∧ (∀ (H : Hp) (b : Nat), hdel H b b = none) ∧ (∀ (H : Hp) (b x : Nat), x ≠ b → hdel H b x = H x) ∧ (∀ a b c : Nat, a + b + c = a + (b + c)) :=
  ⟨fun _ _ _ => hupd_self', fun _ _ _ _ h => hupd_ne h, fun _ _ => hdel_self, fun _ _ _ h => hdel_ne h, Nat.add_assoc⟩
end Go.Abs

/- Loops that look for something; what lists answer; rows of anything. -/
set_option linter.unusedVariables false
namespace Go.Abs

/-- a loop over the numbers below n that goes on while p holds -/
theorem loopA {P : Program} {b : C2} {T : Tm} {H : Hp} {nx : Nat} {K : CP} (L : Nat → List (Nat × AV)) (n : Nat) (p : Nat → Prop) (hT : agr T (L 0))
    (step : ∀ k, k ≤ n → (∀ i, i < k → p i) → awp2 P b (tl (L k)) H nx fun e T H' nx' => athen e (k < n ∧ p k ∧ agr T (L (k + 1)) ∧ H' = H ∧ nx' = nx) (K e T H' nx')) : aloop (awp2 P b) T H nx K := by
  refine loop0 (X := Nat) L (fun k => k ≤ n ∧ ∀ i, i < k → p i) (fun k => n - k) 0 ⟨Nat.zero_le _, fun i h => (by omega)⟩ hT ?_
  rintro k ⟨h1, h2⟩
  refine awp2_mono b (step k h1 h2) (fun e T H' nx' h => ?_)
  cases e with
  | normal =>
    obtain ⟨g1, g2, g3, g4, g5⟩ := h
    refine ⟨k + 1, ⟨by omega, fun i hi => ?_⟩, by omega, g3, g4, g5⟩
    rcases Nat.lt_succ_iff_lt_or_eq.1 hi with h | rfl
    · exact h2 i h
    · exact g2
  | exit i => exact h
  | ret => exact h

theorem all_true {α : Type} [Inhabited α] {l : List α} {p : α → Bool} (h : ∀ i, i < l.length → p (l.getD i default) = true) : l.all p = true := by
  rw [List.all_eq_true]
  intro x hx
  obtain ⟨i, hi, e⟩ := List.getElem_of_mem hx
  have := h i hi
  rwa [show l.getD i default = x by simp [List.getD, hi, e]] at this
theorem all_false {α : Type} [Inhabited α] {l : List α} {p : α → Bool} {k : Nat} (hk : k < l.length) (h : p (l.getD k default) = false) : l.all p = false := by
  rw [Bool.eq_false_iff, ne_eq, List.all_eq_true]
  intro hh
  have := hh _ (mem_getD hk)
  rw [h] at this; cases this
theorem any_true {α : Type} [Inhabited α] {l : List α} {p : α → Bool} {k : Nat} (hk : k < l.length) (h : p (l.getD k default) = true) : l.any p = true := List.any_eq_true.2 ⟨_, mem_getD hk, h⟩
theorem any_false {α : Type} [Inhabited α] {l : List α} {p : α → Bool} (h : ∀ i, i < l.length → p (l.getD i default) = false) : l.any p = false := by
  rw [List.any_eq_false]
  intro x hx
  obtain ⟨i, hi, e⟩ := List.getElem_of_mem hx
  have := h i hi
  rw [show l.getD i default = x by simp [List.getD, hi, e]] at this
  simp [this]
theorem range_all_true {n : Nat} {p : Nat → Bool} (h : ∀ i, i < n → p i = true) : (List.range n).all p = true := List.all_eq_true.2 fun i hi => h i (List.mem_range.1 hi)
theorem range_all_false {n k : Nat} {p : Nat → Bool} (hk : k < n) (h : p k = false) : (List.range n).all p = false := by
  rw [Bool.eq_false_iff, ne_eq, List.all_eq_true]
  intro hh
  have := hh _ (List.mem_range.2 hk)
  rw [h] at this; cases this
theorem mem_true {α : Type} [Inhabited α] [DecidableEq α] {l : List α} {v : α} {k : Nat} (hk : k < l.length) (h : l.getD k default = v) : decide (v ∈ l) = true := by
  rw [decide_eq_true_iff, ← h]; exact mem_getD hk
theorem mem_false {α : Type} [Inhabited α] [DecidableEq α] {l : List α} {v : α} (h : ∀ i, i < l.length → l.getD i default ≠ v) : decide (v ∈ l) = false := by
  rw [decide_eq_false_iff_not]
  intro hm
  obtain ⟨i, hi, e⟩ := List.getElem_of_mem hm
  exact h i hi (by simp [List.getD, hi, e])

/-! ### rows of anything -/
def encL {α : Type} (sz : Nat) (f : α → AV) (l : List α) : AV := .sl sz (l.map f)
theorem encV_L (l : List Int) : encV l = encL 1 (AV.int .i64) l := rfl
theorem encVV_L (l : List (List Int)) : encVV l = encL 1 encV l := rfl
section
variable {α : Type} {sz : Nat} {f : α → AV} {l : List α}
theorem encL_dat (h : ∀ x ∈ l, ∀ c ∈ (f x).cells, Dat c) : Dat (encL sz f l) := Dat.sl (fun x hx c hc => by
  obtain ⟨y, hy, rfl⟩ := List.mem_map.1 hx
  exact h y hy c hc)
/-- elements of one cell -/
theorem encL_dat1 (hc : ∀ x, (f x).cells = [f x]) (h : ∀ x, Dat (f x)) : Dat (encL sz f l) := encL_dat (fun x _ c hx => by
  rw [hc, List.mem_singleton] at hx; subst hx; exact h x)
theorem encL_cells : (encL sz f l).cells = [encL sz f l] := rfl
theorem encL_one : (encL sz f l).one = true := rfl
theorem aixS_encL [Inhabited α] {k : IntKind} {n : Int} : aixS sz (encL sz f l) (.int k n) = if 0 ≤ n ∧ n < l.length then some (.iptr (f (l.getD n.toNat default)).cells 0) else none := aixS_map
theorem alenS_encL : alenS (encL sz f l) = some (.int .i64 l.length) := alenS_map
theorem alenN_encL : alenN (encL sz f l) = some l.length := by simp [alenN, encL]
theorem asls_encL_hi {k : Nat} (h : k ≤ l.length) : asls sz (encL sz f l) none (some (.int .i64 k)) none = some (encL sz f (l.take k)) := by
  simp [asls, abound, encL, h]
theorem asls_encL_lo {k : Nat} (h : k ≤ l.length) : asls sz (encL sz f l) (some (.int .i64 k)) none none = some (encL sz f (l.drop k)) := by
  simp [asls, abound, encL, h]
  rw [List.take_of_length_le (by simp)]
theorem ones_map (h : ∀ x, (f x).one = true) : AV.ones (l.map f) = true := by
  simp [AV.ones, h]
theorem asrc_encL {H : Hp} (hc : ∀ x, (f x).cells = [f x]) : asrc 1 H (encL 1 f l) = some (l.length, l.map f) := by
  unfold encL; rw [asrc_sl, cells_map_one hc]; simp
theorem Row.snapL' {H : Hp} {s : AV} (h : Row H 1 s (l.map f)) (hc : ∀ x, (f x).cells = [f x]) (hd : ∀ x ∈ l, Dat (f x)) : Snap H s (encL 1 f l) := by
  refine Row.snap (elems := l.map f) (by rw [cells_map_one hc]; exact h) (fun y hy => ?_) Nat.one_pos (fun y hy c hx => ?_)
  · obtain ⟨n, _, rfl⟩ := List.mem_map.1 hy; rw [hc]; rfl
  · obtain ⟨n, hn, rfl⟩ := List.mem_map.1 hy
    rw [hc, List.mem_singleton] at hx; subst hx; exact hd n hn
end

end Go.Abs

/- Numbers of other kinds, and bits. -/
set_option linter.unusedVariables false
namespace Go.Abs

theorem wrapU64 {a : Int} (h1 : 0 ≤ a) (h2 : a < 18446744073709551616) : IntKind.wrap .u64 a = a := by
  simp only [IntKind.wrap, IntKind.bits, IntKind.signed]; simp; omega
theorem wrapU8 {a : Int} : IntKind.wrap .u8 a = a % 256 := by
  simp only [IntKind.wrap, IntKind.bits, IntKind.signed]; simp

theorem bits_nat {k : IntKind} {a : Nat} (h : a < 2 ^ k.bits) : (BitVec.ofInt k.bits (a : Int)).toNat = a := by
  rw [BitVec.toNat_ofInt]
  have : ((2 ^ k.bits : Nat) : Int) = (2 : Int) ^ k.bits := by simp
  rw [Int.emod_eq_of_lt (by omega) (by omega)]; simp

theorem and_nat {k : IntKind} {a b : Nat} {tb tf : Bool} (ha : a < 2 ^ (k.bits - 1)) (hb : b < 2 ^ (k.bits - 1)) : abin2 .and tb tf (.int k a) (.int k b) = some (.int k ((a &&& b : Nat) : Int)) := by
  have h1 : 2 ^ (k.bits - 1) ≤ 2 ^ k.bits := Nat.pow_le_pow_right (by omega) (by omega)
  have h2 : (BitVec.ofInt k.bits (a : Int) &&& BitVec.ofInt k.bits (b : Int)).toNat = a &&& b := by
    rw [BitVec.toNat_and, bits_nat (by omega), bits_nat (by omega)]
  show (if (k = k) then aarith .and k a b else none) = _
  rw [if_pos rfl]
  simp only [aarith, h2]
  have h3 : a &&& b < 2 ^ (k.bits - 1) := Nat.lt_of_le_of_lt Nat.and_le_left ha
  congr 2
  generalize a &&& b = c at h3
  cases k <;> (simp only [IntKind.bits, IntKind.wrap, IntKind.signed] at h3 ⊢; simp at h3 ⊢; omega)

theorem or_nat {k : IntKind} {a b : Nat} {tb tf : Bool} (ha : a < 2 ^ (k.bits - 1)) (hb : b < 2 ^ (k.bits - 1)) : abin2 .or tb tf (.int k a) (.int k b) = some (.int k ((a ||| b : Nat) : Int)) := by
  have h1 : 2 ^ (k.bits - 1) ≤ 2 ^ k.bits := Nat.pow_le_pow_right (by omega) (by omega)
  have h2 : (BitVec.ofInt k.bits (a : Int) ||| BitVec.ofInt k.bits (b : Int)).toNat = a ||| b := by
    rw [BitVec.toNat_or, bits_nat (by omega), bits_nat (by omega)]
  show (if (k = k) then aarith .or k a b else none) = _
  rw [if_pos rfl]
  simp only [aarith, h2]
  have h3 : a ||| b < 2 ^ (k.bits - 1) := Nat.or_lt_two_pow ha hb
  congr 2
  generalize a ||| b = c at h3
  cases k <;> (simp only [IntKind.bits, IntKind.wrap, IntKind.signed] at h3 ⊢; simp at h3 ⊢; omega)

theorem shr_nat {k : IntKind} {a b : Nat} {tb tf : Bool} {k' : IntKind} (hb : b ≤ k.bits) : abin2 .shr tb tf (.int k a) (.int k' b) = some (.int k ((a / 2 ^ b : Nat) : Int)) := by
  have h : ¬ ((b : Int) < 0) := by omega
  simp only [abin2, ashift, h, if_false, or_true, if_true, Int.toNat_natCast, Nat.min_eq_left hb]
  congr 2
  rw [Int.fdiv_eq_ediv_of_nonneg _ (Int.le_of_lt (Int.pow_pos (by omega)))]
  simp

theorem shl_nat {k : IntKind} {a b : Nat} {tb tf : Bool} {k' : IntKind} (hb : b ≤ k.bits) (h : a * 2 ^ b < 2 ^ (k.bits - 1)) : abin2 .shl tb tf (.int k a) (.int k' b) = some (.int k ((a * 2 ^ b : Nat) : Int)) := by
  have h0 : ¬ ((b : Int) < 0) := by omega
  simp only [abin2, ashift, h0, if_false, true_or, if_true, Int.toNat_natCast, Nat.min_eq_left hb]
  congr 2
  have e : (a : Int) * 2 ^ b = ((a * 2 ^ b : Nat) : Int) := by simp
  rw [e]
  generalize a * 2 ^ b = c at h
  cases k <;> (simp only [IntKind.bits, IntKind.wrap, IntKind.signed] at h ⊢; simp at h ⊢; omega)

theorem mask_nat {n k : Nat} : n &&& (2 ^ k - 1) = n % 2 ^ k := Nat.and_two_pow_sub_one_eq_mod n k

/-- a copy into a row -/
theorem acopy_msl {H : Hp} {b n sz off ld ls m k : Nat} {s : AV} {cs new : List AV} (hd : alenN s = some ls) (hm : min ls ld = m) (h0 : m ≠ 0) (hb : H b = some cs) (hn : cs.length = n) (hs : asrc sz H (trunc m s) = some (k, new)) (hf : off + m * sz ≤ n) (ho : AV.ones new = true) :
    acopy sz (.msl b n sz off ld) s H = some (m, hupd H b (lput cs off new)) := by
  simp only [acopy, alenN] at hd ⊢
  rw [hd]
  simp only [hm, h0, if_false, hb, hs]
  rw [if_pos ⟨hn, trivial, hf, ho⟩]

end Go.Abs
