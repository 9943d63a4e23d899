/- Code without types: what is asked of the program's tables is asked once. -/
import Derived.Test.YtcbkggfipdldaaaXAbsB9
set_option linter.unusedVariables false
namespace Go.Abs
open Go.RowKit

inductive Opd where
  | t (n : Nat)
  | c (v : AV)
  deriving Inhabited

def Opd.of : Operand → Opd
  | .tmp n => .t n
  | x => .c (ev (fun _ => .undef) x)

def ov (T : Tm) : Opd → AV
  | .t n => T n
  | .c v => v

theorem ov_of {T : Tm} {x : Operand} : ov T (.of x) = ev T x := by cases x <;> rfl
theorem ov_of_map {T : Tm} {l : List Operand} : (l.map Opd.of).map (ov T) = l.map (ev T) := by simp [ov_of]
theorem ov_of_opt {T : Tm} {x : Option Operand} : (x.map Opd.of).map (ov T) = x.map (ev T) := by cases x <;> simp [ov_of]

inductive Ins where
  | dead
  | mov (x : Opd)
  | pick (c a b : Opd)
  | ld1 (a : Opd)
  | ldn (k : Nat) (a : Opd)
  | nilck (x : Opd)
  | bin (op : BinOp) (tb tf : Bool) (x y : Opd)
  | binS (op : BinOp) (ks : List TK) (x y : Opd)
  | un (op : UnOp) (x : Opd)
  | conv (k : IntKind) (x : Opd)
  | mkfn (f : FuncId) (caps : List Opd)
  | sls (sz : Nat) (x : Opd) (lo hi mx : Option Opd)
  | slstr (x : Opd) (lo hi : Option Opd)
  | fa (k : Nat) (p : Opd)
  | part1 (off : Nat) (x : Opd)
  | partn (off k : Nat) (x : Opd)
  | ixaA (len sz : Nat) (x i : Opd)
  | ixaS (sz : Nat) (x i : Opd)
  | ixA1 (len sz : Nat) (x i : Opd)
  | ixAn (len sz : Nat) (x i : Opd)
  | ixStr (x i : Opd)
  | ext (x : Opd) (i : Nat)
  | bld (z : List AV) (parts : List (Nat × Nat × Opd))
  | lenS (x : Opd)
  | lenStr (x : Opd)
  | lenC (n : Nat)
  | mx (x : Opd) (l : List Opd)
  | mn (x : Opd) (l : List Opd)
  | alloc (z : AV)
  | box (x : Opd)
  | bldS (sz len : Nat) (z : List AV) (parts : List (Nat × Nat × Opd))
  | mks (sz bytes : Nat) (z : List AV) (l c : Opd)
  | st (k : Nat) (p x : Opd)
  | app (sz bytes : Nat) (s x : Opd)
  | call (f : Opd) (args : List Opd)
  | mkm (h : Option Opd)
  | mput (k : MK) (m key x : Opd)
  | mget (k : MK) (z : AV) (ok : Bool) (m key : Opd)
  | mlen (m : Opd)
  | mrng (m : Opd)
  | mnxt (it : Opd)
  | cpy (sz : Nat) (d s : Opd)
  | clr (sz : Nat) (z : AV) (x : Opd)
  | snil (neg : Bool) (x : Opd)

def tfunc (P : Program) (t : TypeId) : Bool := match P.underlying t with | some (.func ..) => true | _ => false

def abin2 (op : BinOp) (tb tf : Bool) (x y : AV) : Option AV :=
  match x, y with
  | .int k a, .int k' b => if op = .shl ∨ op = .shr then ashift op k a b else if k = k' then aarith op k a b else none
  | .bool a, .bool b => if tb = true then (match op with | .eql => some (.bool (a == b)) | .neq => some (.bool (!(a == b))) | _ => none) else none
  | .str a, .str b => astrop op a b
  | .nilf, .nilf => if tf = true then (match op with | .eql => some (.bool true) | .neq => some (.bool false) | _ => none) else none
  | .func _ _, .nilf => if tf = true then (match op with | .eql => some (.bool false) | .neq => some (.bool true) | _ => none) else none
  | _, _ => none

theorem abin2_eq {P : Program} {op : BinOp} {t : TypeId} {x y : AV} {r : AV} (h : abin2 op (tbool P t) (tfunc P t) x y = some r) : abin P op t x y = some r := by
  unfold abin2 at h
  unfold abin
  split at h
  · exact h
  · exact h
  · exact h
  · split at h
    · rename_i hf
      unfold tfunc at hf
      split at hf
      · rename_i hu; simp only [hu]
        split at h <;> simp_all
      · cases hf
    · cases h
  · split at h
    · rename_i hf
      unfold tfunc at hf
      split at hf
      · rename_i hu; simp only [hu]
        split at h <;> simp_all
      · cases hf
    · cases h
  · cases h

def aixS (sz : Nat) (x i : AV) : Option AV := match i with
  | .int _ n => match x with
    | .sl s elems => if s = sz ∧ 0 ≤ n ∧ n < elems.length then some (.iptr (elems.getD n.toNat .undef).cells 0) else none
    | .msl b m s off len => if s = sz ∧ 0 ≤ n ∧ n < len then some (.ptr b m (off + n.toNat * s)) else none
    | _ => none
  | _ => none

def asls (sz : Nat) (x : AV) (lo hi mx : Option AV) : Option AV := match x with
  | .sl s elems =>
    match abound 0 lo, abound elems.length hi, mx with
    | some l, some h, none => if s = sz ∧ l ≤ h ∧ h ≤ elems.length then some (.sl s ((elems.take h).drop l)) else none
    | some l, some h, some m => match abound 0 (some m) with
      | some m => if l = 0 ∧ h = 0 ∧ m = 0 then some .esl else none
      | none => none
    | _, _, _ => none
  | .esl => match abound 0 lo, abound 0 hi, mx with
    | some 0, some 0, none => some .esl
    | _, _, _ => none
  | .msl b n s off len =>
    match abound 0 lo, abound len hi, mx with
    | some l, some h, none => if s = sz ∧ l ≤ h ∧ h ≤ len ∧ n ≠ 0 then (if l = 0 ∨ l < h then some (.msl b n s (off + l * s) (h - l)) else some (.sl s [])) else none
    | some l, some h, some m => match abound 0 (some m) with
      | some m => if l = 0 ∧ h = 0 ∧ m = 0 then some .esl else none
      | none => none
    | _, _, _ => none
  | _ => none

def aslstr (x : AV) (lo hi : Option AV) : Option AV := match x with
  | .str s => match abound 0 lo, abound s.size hi with
    | some l, some h => if l ≤ h ∧ h ≤ s.size then some (.str (s.extract l h)) else none
    | _, _ => none
  | _ => none

def afill2 (cells : List AV) : List (Nat × Nat × AV) → Option (List AV)
  | [] => some cells
  | (off, size, x) :: rest => if x.flat = true ∧ x.cells.length = size ∧ off + size ≤ cells.length then afill2 (lput cells off x.cells) rest else none

def acells (x : AV) (f : List AV → Option AV) : Option AV := match x with | .agg cs => f cs | _ => none
def aint (x : AV) (f : Int → Option AV) : Option AV := match x with | .int _ n => f n | _ => none

def alenS (x : AV) : Option AV := match x with
  | .sl _ elems => some (.int .i64 elems.length)
  | .esl => some (.int .i64 0)
  | .msl _ _ _ _ len => some (.int .i64 len)
  | _ => none

def ival (T : Tm) (H : Hp) : Ins → Option AV
  | .mov x => some (ov T x)
  | .pick c a b => match ov T c with | .bool t => some (if t = true then ov T a else ov T b) | _ => none
  | .ld1 a => rd1 H (ov T a)
  | .ldn k a => (rd H k (ov T a)).map .agg
  | .nilck x => match ov T x with | .ptr b n o => some (.ptr b n o) | .iptr c o => some (.iptr c o) | .func f c => some (.func f c) | _ => none
  | .bin op tb tf x y => abin2 op tb tf (ov T x) (ov T y)
  | .binS op ks x y => acells (ov T x) fun xs => acells (ov T y) fun ys => acmpS op ks xs ys
  | .un op x => aun op (ov T x)
  | .conv k x => aint (ov T x) fun n => some (.int k (k.wrap n))
  | .mkfn f caps => some (.func f (caps.map (ov T)))
  | .sls sz x lo hi mx => asls sz (ov T x) (lo.map (ov T)) (hi.map (ov T)) (mx.map (ov T))
  | .slstr x lo hi => aslstr (ov T x) (lo.map (ov T)) (hi.map (ov T))
  | .fa k p => apadd k (ov T p)
  | .part1 off x => acells (ov T x) fun cs => cs[off]?
  | .partn off k x => acells (ov T x) fun cs => if off + k ≤ cs.length then some (.agg ((cs.drop off).take k)) else none
  | .ixaA len sz x i => aint (ov T i) fun n => if 0 ≤ n ∧ n < len then apadd (n.toNat * sz) (ov T x) else none
  | .ixaS sz x i => aixS sz (ov T x) (ov T i)
  | .ixA1 len sz x i => acells (ov T x) fun cs => aint (ov T i) fun n => if 0 ≤ n ∧ n < len then cs[n.toNat * sz]? else none
  | .ixAn len sz x i => acells (ov T x) fun cs => aint (ov T i) fun n => if 0 ≤ n ∧ n < len then (if n.toNat * sz + sz ≤ cs.length then some (.agg ((cs.drop (n.toNat * sz)).take sz)) else none) else none
  | .ixStr x i => match ov T x with
    | .str s => aint (ov T i) fun n => if 0 ≤ n ∧ n < s.size then some (.int .u8 (s[n.toNat]?.getD 0).toNat) else none
    | _ => none
  | .ext x i => aextract (ov T x) i
  | .bld z parts => (afill2 z (parts.map fun p => (p.1, p.2.1, ov T p.2.2))).map .agg
  | .lenS x => alenS (ov T x)
  | .lenStr x => match ov T x with | .str s => some (.int .i64 s.size) | _ => none
  | .lenC n => some (.int .i64 n)
  | .mx x l => afold amax2 (ov T x) (l.map (ov T))
  | .mn x l => afold amin2 (ov T x) (l.map (ov T))
  | _ => none

def aapp (sz bytes : Nat) (s x : AV) (H : Hp) (nx : Nat) : Option (AV × Hp × Nat) :=
  match asrc sz H x with
  | none => none
  | some (k, new) =>
    if new.all AV.one = true then
      match s with
      | .esl => if k * bytes ≤ 140737488355328 ∧ k ≤ 9223372036854775807 then some (.msl nx (k * sz) sz 0 k, hupd H nx new, nx + 1) else none
      | .msl b n s off len => match H b with
        | some cs =>
          if cs.length = n ∧ s = sz then
            if off = 0 ∧ n = len * s ∧ (len + k) * bytes ≤ 140737488355328 ∧ len + k ≤ 9223372036854775807 then some (.msl b ((len + k) * s) s 0 (len + k), hupd H b (cs ++ new), nx)
            else if off + (len + k) * s ≤ n ∧ 0 < n then some (.msl b n s off (len + k), hupd H b (lput cs (off + len * s) new), nx)
            else none
          else none
        | none => none
      | _ => none
    else none

def ieff (T : Tm) (H : Hp) (nx : Nat) : Ins → Option (AV × Hp × Nat)
  | .alloc z => abox z H nx
  | .box x => abox (ov T x) H nx
  | .bldS sz len z parts => if len = 0 then (if parts.isEmpty = true then some (.esl, H, nx) else none) else
      match afill2 (zcells (.agg z) len) (parts.map fun p => (p.1, p.2.1, ov T p.2.2)) with
      | some cells => some (.msl nx cells.length sz 0 len, hupd H nx cells, nx + 1)
      | none => none
  | .mks sz bytes z l c => match ov T l, ov T c with
    | .int _ n, .int _ m => if 0 ≤ n ∧ n ≤ m ∧ m ≤ 9223372036854775807 ∧ bytes * m ≤ 281474976710656 then some (.msl nx (n.toNat * sz) sz 0 n.toNat, hupd H nx (zcells (.agg z) n.toNat), nx + 1) else none
    | _, _ => none
  | .st k p x => match ov T p with
    | .ptr b n off => match H b with
      | some cs => if cs.length = n ∧ (ov T x).flat = true ∧ (ov T x).cells.length = k ∧ off + k ≤ n then some (.tup [], hupd H b (lput cs off (ov T x).cells), nx) else none
      | none => none
    | _ => none
  | .app sz bytes s x => aapp sz bytes (ov T s) (ov T x) H nx
  | _ => none

def bndOk (lo hi mx : Option Operand) : Bool := !(mx.isSome && hi.isNone)

def placesOf (pl : List (Nat × Nat)) : List (Nat × Operand) → Option (List (Nat × Nat × Opd))
  | [] => some []
  | (i, x) :: l => match pl[i]?, placesOf pl l with
    | some (o, s), some r => some ((o, s, .of x) :: r)
    | _, _ => none

def placesOfA (sz : Nat) (l : List (Nat × Operand)) : List (Nat × Nat × Opd) := l.map fun p => (p.1 * sz, sz, .of p.2)

def comp1 (P : Program) : Op → Option Ins
  | .move x => some (.mov (.of x))
  | .assign x => some (.mov (.of x))
  | .pick c a b => some (.pick (.of c) (.of a) (.of b))
  | .load t a => if tok P t then (if tagg P t then (if 0 < P.cellsOf t then some (.ldn (P.cellsOf t) (.of a)) else none) else some (.ld1 (.of a))) else none
  | .nilCheck x => some (.nilck (.of x))
  | .binOp op t x y _ => match telem P t with | some _ => none | none => match tkS P t with | some ks => some (.binS op ks (.of x) (.of y)) | none => some (.bin op (tbool P t) (tfunc P t) (.of x) (.of y))
  | .unOp op _ x => some (.un op (.of x))
  | .convert s d x => if tok P s then (match tint P d with | some k => some (.conv k (.of x)) | none => none) else none
  | .makeFunc (.func f) first captured => if first.size = 0 then some (.mkfn f (captured.toList.map .of)) else none
  | .slice t x lo hi mx => if bndOk lo hi mx then (match P.underlying t with
    | some (.slice e) => if tok P e then some (.sls (P.cellsOf e) (.of x) (lo.map .of) (hi.map .of) (mx.map .of)) else none
    | some .string => match mx with | none => some (.slstr (.of x) (lo.map .of) (hi.map .of)) | some _ => none
    | _ => none) else none
  | .fieldAddr t x f => match foff P t f with | some k => some (.fa k (.of x)) | none => none
  | .field t x f => match P.underlying t with
    | some (.struct fs) => match fs[f]? with
      | some fd => if tok P fd.type then (if tagg P fd.type then some (.partn fd.offset (P.cellsOf fd.type) (.of x)) else some (.part1 fd.offset (.of x))) else none
      | none => none
    | _ => none
  | .indexAddr t x i => match P.underlying t with
    | some (.array len e) => if tok P e then some (.ixaA len (P.cellsOf e) (.of x) (.of i)) else none
    | some (.slice e) => if tok P e then some (.ixaS (P.cellsOf e) (.of x) (.of i)) else none
    | _ => none
  | .index t x i => match P.underlying t with
    | some (.array len e) => if tok P e then (if tagg P e then some (.ixAn len (P.cellsOf e) (.of x) (.of i)) else some (.ixA1 len (P.cellsOf e) (.of x) (.of i))) else none
    | some .string => some (.ixStr (.of x) (.of i))
    | _ => none
  | .extract x i => some (.ext (.of x) i)
  | .build t parts => match azero P t with
    | some z => if z.flat = true then
      match tplaces P t with
      | some pl => match placesOf pl parts.toList with
        | some ps => some (.bld z.cells ps)
        | none => none
      | none => match tarr P t with
        | some (_, e) => if tok P e = true then some (.bld z.cells (placesOfA (P.cellsOf e) parts.toList)) else none
        | none => none
      else none
    | none => none
  | .call { callee := .builtin .len, args := ⟨[x]⟩, argTypes := ⟨[t]⟩ } => match P.underlying t with
    | some (.slice _) => some (.lenS (.of x))
    | some .string => some (.lenStr (.of x))
    | some (.array n _) => some (.lenC n)
    | _ => none
  | .call { callee := .builtin .max, args := ⟨x :: l⟩, argTypes := _ } => some (.mx (.of x) (l.map .of))
  | .call { callee := .builtin .min, args := ⟨x :: l⟩, argTypes := _ } => some (.mn (.of x) (l.map .of))
  | _ => none

def comp2 (P : Program) : Op → Option Ins
  | .alloc e => match azero P e with | some z => some (.alloc z) | none => none
  | .box _ x => some (.box (.of x))
  | .buildSlice t len parts => match telem P t with
    | none => none
    | some e => if tok P e = true ∧ 0 < P.cellsOf e ∧ len * P.cellsOf e ≤ 16777216 then (match azero P e with
      | some z => if z.flat = true ∧ z.cells.length = P.cellsOf e then some (.bldS (P.cellsOf e) len z.cells (placesOfA (P.cellsOf e) parts.toList)) else none
      | none => none) else none
  | .makeSlice t l c => match telem P t with
    | none => none
    | some e => match azero P e with
      | some z => if tok P e = true ∧ z.flat = true ∧ z.cells.length = P.cellsOf e ∧ 0 < P.cellsOf e then some (.mks (P.cellsOf e) (tbytes P e) z.cells (.of l) (.of c)) else none
      | none => none
  | .store t p x => if tok P t = true ∧ 0 < P.cellsOf t then some (.st (P.cellsOf t) (.of p) (.of x)) else none
  | .call { callee := .builtin .append, args := ⟨[s, x]⟩, argTypes := ⟨[tS, tX]⟩ } => match telem P tS with
    | none => none
    | some e => if tok P e = true ∧ tok P tX = true ∧ tint P tX = none ∧ 0 < P.cellsOf e ∧ zok P e = true then some (.app (P.cellsOf e) (tbytes P e) (.of s) (.of x)) else none
  | _ => none

theorem afill2_places {T : Tm} (pl : List (Nat × Nat)) : ∀ (parts : List (Nat × Operand)) (ps : List (Nat × Nat × Opd)) (cells : List AV), placesOf pl parts = some ps →
    afill (fun i => pl[i]?) cells (parts.map fun p => (p.1, ev T p.2)) = afill2 cells (ps.map fun p => (p.1, p.2.1, ov T p.2.2))
  | [], ps, cells, h => by cases h; rfl
  | (i, x) :: l, ps, cells, h => by
    simp only [placesOf] at h
    split at h
    · rename_i o s r h1 h2
      cases h
      simp only [List.map_cons, afill, h1, afill2, ov_of]
      split
      · exact afill2_places pl l r _ h2
      · rfl
    · cases h

theorem afill2_placesA {T : Tm} (sz : Nat) : ∀ (parts : List (Nat × Operand)) (cells : List AV),
    afill (fun i => some (i * sz, sz)) cells (parts.map fun p => (p.1, ev T p.2)) = afill2 cells ((placesOfA sz parts).map fun p => (p.1, p.2.1, ov T p.2.2))
  | [], cells => rfl
  | (i, x) :: l, cells => by
    simp only [List.map_cons, afill, afill2, placesOfA, ov_of]
    split
    · exact afill2_placesA sz l _
    · rfl

theorem zcells_cells (z : AV) (k : Nat) : zcells (.agg z.cells) k = zcells z k := rfl

theorem ival_ok {P : Program} {op : Op} {i : Ins} {T : Tm} {H : Hp} {r : AV} (hc : comp1 P op = some i) (h : ival T H i = some r) : aval P T H op = some r := by
  cases op with
  | move x => cases hc; simp only [ival, ov_of] at h; exact h
  | assign x => cases hc; simp only [ival, ov_of] at h; exact h
  | pick c a b => cases hc; simp only [ival, ov_of] at h; exact h
  | load t a =>
    simp only [comp1] at hc
    simp only [aval, aload]
    split at hc
    · rename_i h1
      rw [if_pos h1]
      split at hc
      · rename_i h2
        rw [if_pos h2]
        split at hc
        · rename_i h3
          rw [if_pos h3]
          cases hc; simp only [ival, ov_of] at h; exact h
        · cases hc
      · rename_i h2
        rw [if_neg h2]
        cases hc; simp only [ival, ov_of] at h; exact h
    · cases hc
  | nilCheck x => cases hc; simp only [ival, ov_of] at h; exact h
  | binOp op t x y _ =>
    simp only [comp1] at hc
    split at hc
    · cases hc
    split at hc
    · rename_i ks hks
      cases hc
      simp only [ival, ov_of] at h
      simp only [aval]
      unfold acells at h
      split at h
      · rename_i cs hx
        split at h
        · rename_i cs' hy
          rw [hx, hy]
          simp only [abin, hks]; exact h
        · cases h
      · cases h
    · cases hc; simp only [ival, ov_of] at h; exact abin2_eq h
  | unOp op _ x => cases hc; simp only [ival, ov_of] at h; exact h
  | convert s d x =>
    simp only [comp1] at hc
    split at hc
    · rename_i h1
      split at hc
      · rename_i k hk
        cases hc
        simp only [ival, ov_of] at h
        simp only [aval, aconv]
        unfold aint at h
        split at h
        · rename_i hx; simp only [hx, h1, hk, if_true]; exact h
        · cases h
      · cases hc
    · cases hc
  | makeFunc fn first captured =>
    cases fn with
    | func f =>
      simp only [comp1] at hc
      split at hc
      · rename_i h1
        cases hc
        simp only [ival, ov_of_map] at h
        simp only [aval, if_pos h1]; exact h
      · cases hc
    | _ => cases hc
  | slice t x lo hi mx =>
    simp only [comp1] at hc
    split at hc
    · rename_i hb
      have hb' : ¬ (mx.isSome = true ∧ hi.isNone = true) := by
        rintro ⟨h1, h2⟩
        simp [bndOk, h1, h2] at hb
      split at hc
      · rename_i e hu
        split at hc
        · rename_i h1
          cases hc
          simp only [ival, ov_of, ov_of_opt] at h
          simp only [aval, if_neg hb', aslice, hu, h1, if_true]
          exact h
        · cases hc
      · rename_i hu
        split at hc
        · cases hc
          simp only [ival, ov_of, ov_of_opt] at h
          simp only [aval, if_neg hb', aslice, hu]
          unfold aslstr at h
          split at h
          · rename_i s hs
            rw [hs]
            simp only [Option.map_none]
            split at h
            · rename_i l h' e1 e2
              simp only [e1, e2]; exact h
            · cases h
          · cases h
        · cases hc
      · cases hc
    · cases hc
  | fieldAddr t x f =>
    simp only [comp1] at hc
    split at hc
    · rename_i k hk
      cases hc
      simp only [ival, ov_of] at h
      simp only [aval, afieldAddr, hk]; exact h
    · cases hc
  | field t x f =>
    simp only [comp1] at hc
    split at hc
    · rename_i fs hu
      split at hc
      · rename_i fd hfd
        split at hc
        · rename_i h1
          split at hc
          · rename_i h2
            cases hc
            simp only [ival, ov_of] at h
            unfold acells at h
            split at h
            · rename_i cs hx
              simp only [aval, afield, hx, hu, hfd, apart, h1, h2, if_true]; exact h
            · cases h
          · rename_i h2
            cases hc
            simp only [ival, ov_of] at h
            unfold acells at h
            split at h
            · rename_i cs hx
              simp only [aval, afield, hx, hu, hfd, apart, h1, h2, if_true]; exact h
            · cases h
        · cases hc
      · cases hc
    · cases hc
  | indexAddr t x i =>
    simp only [comp1] at hc
    split at hc
    · rename_i len e hu
      split at hc
      · rename_i h1
        cases hc
        simp only [ival, ov_of] at h
        unfold aint at h
        split at h
        · rename_i n hn
          simp only [aval, aindexAddr, hn, hu, h1, true_and]
          exact h
        · cases h
      · cases hc
    · rename_i e hu
      split at hc
      · rename_i h1
        cases hc
        simp only [ival, ov_of] at h
        unfold aixS at h
        split at h
        · rename_i n hn
          simp only [aval, aindexAddr, hn, hu, h1, if_true]
          split at h
          · rename_i s elems hx
            simp only [hx]
            split at h
            · rename_i hb
              obtain ⟨b1, b2, b3⟩ := hb
              rw [if_pos ⟨b1, b2⟩]
              have hlt : n.toNat < elems.length := by omega
              rw [List.getElem?_eq_getElem hlt]
              simp only [List.getD, List.getElem?_eq_getElem hlt, Option.getD_some] at h
              exact h
            · cases h
          · rename_i hx
            simp only [hx]; exact h
          · cases h
        · cases h
      · cases hc
    · cases hc
  | index t x i =>
    simp only [comp1] at hc
    split at hc
    · rename_i len e hu
      have hta : tarr P t = some (len, e) := by simp [tarr, hu]
      split at hc
      · rename_i h1
        split at hc
        · rename_i h2
          cases hc
          simp only [ival, ov_of] at h
          unfold acells at h
          split at h
          · rename_i cs hx
            unfold aint at h
            split at h
            · rename_i n hn
              simp only [aval, aindex, hx, hn, hta, apart, h1, h2, if_true]; exact h
            · cases h
          · cases h
        · rename_i h2
          cases hc
          simp only [ival, ov_of] at h
          unfold acells at h
          split at h
          · rename_i cs hx
            unfold aint at h
            split at h
            · rename_i n hn
              simp only [aval, aindex, hx, hn, hta, apart, h1, h2, if_true]; exact h
            · cases h
          · cases h
      · cases hc
    · rename_i hu
      cases hc
      simp only [ival, ov_of] at h
      split at h
      · rename_i s hs
        unfold aint at h
        split at h
        · rename_i n hn
          simp only [aval, aindex, hs, hn, hu]
          simp only at h
          split at h
          · rename_i hb
            rw [if_pos hb.1]
            have hlt : n.toNat < s.size := by omega
            have e : s[n.toNat]? = some s[n.toNat] := by simp [hlt]
            rw [e] at h ⊢
            exact h
          · cases h
        · cases h
      · cases h
    · cases hc
  | extract x i => cases hc; simp only [ival, ov_of] at h; exact h
  | build t parts =>
    simp only [comp1] at hc
    split at hc
    · rename_i z hz
      split at hc
      · rename_i hf
        split at hc
        · rename_i pl hpl
          split at hc
          · rename_i ps hps
            cases hc
            simp only [ival] at h
            rw [← afill2_places pl _ _ _ hps] at h
            simp only [aval, abuild, hz, hpl, if_pos hf]; exact h
          · cases hc
        · rename_i hpl
          split at hc
          · rename_i k e hta
            split at hc
            · rename_i h1
              cases hc
              simp only [ival] at h
              rw [← afill2_placesA] at h
              simp only [aval, abuild, hz, hpl, if_pos hf, hta, if_pos h1]; exact h
            · cases hc
          · cases hc
      · cases hc
    · cases hc
  | call c =>
    obtain ⟨callee, args, argTypes⟩ := c
    cases callee with
    | builtin b =>
      obtain ⟨args⟩ := args
      obtain ⟨argTypes⟩ := argTypes
      cases b with
      | len =>
        rcases args with _ | ⟨x, _ | ⟨y, l⟩⟩
        · cases hc
        · rcases argTypes with _ | ⟨t, _ | ⟨u, l⟩⟩
          · cases hc
          · simp only [comp1] at hc
            split at hc
            · rename_i e hu
              cases hc
              simp only [ival, ov_of] at h
              unfold alenS at h
              simp only [aval, alen, hu]
              split at h <;> rename_i hx <;> first | (simp only [hx]; exact h) | cases h
            · rename_i hu
              cases hc
              simp only [ival, ov_of] at h
              simp only [aval, alen, hu]
              split at h <;> rename_i hx <;> first | (simp only [hx]; exact h) | cases h
            · rename_i n e hu
              cases hc
              simp only [ival] at h
              simp only [aval, alen, hu]
              exact h
            · cases hc
          · cases hc
        · cases hc
      | max =>
        rcases args with _ | ⟨x, l⟩
        · cases hc
        · cases hc
          simp only [ival, ov_of, ov_of_map] at h; exact h
      | min =>
        rcases args with _ | ⟨x, l⟩
        · cases hc
        · cases hc
          simp only [ival, ov_of, ov_of_map] at h; exact h
      | _ => cases hc
    | _ => cases hc
  | _ => cases hc

theorem ieff_ok {P : Program} {op : Op} {i : Ins} {T : Tm} {H : Hp} {nx : Nat} {r : AV × Hp × Nat} (hc : comp2 P op = some i) (h : ieff T H nx i = some r) : aeff P T H nx op = some r := by
  cases op with
  | alloc e =>
    simp only [comp2] at hc
    split at hc
    · rename_i z hz
      cases hc
      simp only [aeff, aalloc, hz]; exact h
    · cases hc
  | box _ x => cases hc; simp only [ieff, ov_of] at h; exact h
  | buildSlice t len parts =>
    simp only [comp2] at hc
    split at hc
    · cases hc
    · rename_i e he
      split at hc
      · rename_i h1
        split at hc
        · rename_i z hz
          split at hc
          · rename_i h2
            cases hc
            simp only [ieff] at h
            simp only [aeff, abuildS, he, if_pos h1]
            split at h
            · rename_i hl
              rw [if_pos hl]
              split at h
              · rename_i hp
                have : parts.toList = [] := by
                  unfold placesOfA at hp
                  simpa using hp
                rw [this]; exact h
              · cases h
            · rename_i hl
              rw [if_neg hl]
              simp only [hz, if_pos h2]
              rw [zcells_cells, ← afill2_placesA] at h
              exact h
          · cases hc
        · cases hc
      · cases hc
  | makeSlice t l c =>
    simp only [comp2] at hc
    split at hc
    · cases hc
    · rename_i e he
      split at hc
      · rename_i z hz
        split at hc
        · rename_i h1
          cases hc
          simp only [ieff, ov_of] at h
          split at h
          · rename_i k n k' m hl hm
            split at h
            · rename_i hb
              simp only [aeff, amake, he, hl, hm, hz]
              rw [if_pos ⟨h1.1, h1.2.1, h1.2.2.1, h1.2.2.2, hb.1, hb.2.1, hb.2.2.1, hb.2.2.2⟩]
              rw [zcells_cells] at h
              exact h
            · cases h
          · cases h
        · cases hc
      · cases hc
  | store t p x =>
    simp only [comp2] at hc
    split at hc
    · rename_i h1
      cases hc
      simp only [ieff, ov_of] at h
      split at h
      · rename_i b n off hp
        split at h
        · rename_i cs hb
          split at h
          · rename_i h2
            simp only [aeff, astore, hp, hb]
            rw [if_pos ⟨h2.1, h1.1, h2.2.1, h2.2.2.1, h2.2.2.2, h1.2⟩]
            exact h
          · cases h
        · cases h
      · cases h
    · cases hc
  | call c =>
    obtain ⟨callee, args, argTypes⟩ := c
    cases callee with
    | builtin b =>
      obtain ⟨args⟩ := args
      obtain ⟨argTypes⟩ := argTypes
      cases b with
      | append =>
        rcases args with _ | ⟨x, _ | ⟨y, _ | ⟨z, l⟩⟩⟩
        · cases hc
        · cases hc
        · rcases argTypes with _ | ⟨t, _ | ⟨u, _ | ⟨v, l⟩⟩⟩
          · cases hc
          · cases hc
          · simp only [comp2] at hc
            split at hc
            · cases hc
            · rename_i e he
              split at hc
              · rename_i h1
                cases hc
                simp only [ieff, ov_of] at h
                simp only [aeff, aappend, he, if_pos h1]
                exact h
              · cases hc
          · cases hc
        · cases hc
      | _ => cases hc
    | _ => cases hc
  | _ => cases hc


def isp (i : Ins) (T : Tm) (H : Hp) (nx : Nat) (K : AV → Hp → Nat → Prop) : Prop := match i with
  | .mkm h => (h = none ∨ ∃ x k n, h = some x ∧ ov T x = .int k n) ∧ K (.mp nx) (hupd H nx [.omap [] []]) (nx + 1)
  | .mput k m key x => ∃ b ks vs r, ov T m = .mp b ∧ H b = some [.omap ks vs] ∧ kfit k (ov T key) = true ∧ mfind k (ov T key) ks = some r ∧ K (.tup []) (hupd H b [.omap (msetK (ov T key) r ks) (msetV (ov T x) r vs)]) nx
  | .mget k z ok m key => ∃ b ks vs r, ov T m = .mp b ∧ H b = some [.omap ks vs] ∧ kfit k (ov T key) = true ∧ mfind k (ov T key) ks = some r ∧ K (Go.Abs.mget z ok r vs) H nx
  | .mlen m => ∃ b ks vs, ov T m = .mp b ∧ H b = some [.omap ks vs] ∧ K (.int .i64 ks.length) H nx
  | .mrng m => ∃ b ks vs, ov T m = .mp b ∧ H b = some [.omap ks vs] ∧ K (.itr nx) (hupd H nx [.oiter b ks.length []]) (nx + 1)
  | .mnxt it => ∃ b m n0 seen ks vs, ov T it = .itr b ∧ H b = some [.oiter m n0 seen] ∧ H m = some [.omap ks vs] ∧
      (∀ i, i < ks.length → i ∉ seen → K (.tup [.bool true, ks.getD i .undef, vs.getD i .undef]) (hupd H b [.oiter m n0 (seen ++ [i])]) nx) ∧
      ((∀ i, i < n0 → i < ks.length → i ∈ seen) → K (.tup [.bool false]) H nx)
  | .cpy sz d s => ∃ n H', acopy sz (ov T d) (ov T s) H = some (n, H') ∧ K (.int .i64 n) H' nx
  | .clr sz z x => ∃ H', aclear sz z (ov T x) H = some H' ∧ K (.tup []) H' nx
  | .snil neg x => ∃ k, alenN (ov T x) = some k ∧ snilRes neg k fun r => K r H nx
  | _ => False

def comp3 (P : Program) : Op → Option Ins
  | .makeMap t r => match tmap P t with | some _ => some (.mkm (r.map .of)) | none => none
  | .mapUpdate t m k x => match tmap P t with
    | some (kt, _) => (mkk P kt).map fun mk => .mput mk (.of m) (.of k) (.of x)
    | none => none
  | .insert t m k x => match tmap P t with
    | some (kt, _) => (mkk P kt).map fun mk => .mput mk (.of m) (.of k) (.of x)
    | none => none
  | .lookup t m k ok => match tmap P t with
    | some (kt, et) => match mkk P kt, azero P et with
      | some mk, some z => some (.mget mk z ok (.of m) (.of k))
      | _, _ => none
    | none => none
  | .range t m => match tmap P t with | some _ => some (.mrng (.of m)) | none => none
  | .next it false => some (.mnxt (.of it))
  | .call { callee := .builtin .len, args := ⟨[x]⟩, argTypes := ⟨[t]⟩ } => match tmap P t with | some _ => some (.mlen (.of x)) | none => none
  | .binOp .eql t x (.const (.slice none 0 0)) _ => match telem P t with | some _ => some (.snil false (.of x)) | none => none
  | .binOp .neq t x (.const (.slice none 0 0)) _ => match telem P t with | some _ => some (.snil true (.of x)) | none => none
  | .call { callee := .builtin .copy, args := ⟨[d, s]⟩, argTypes := ⟨[tD, _]⟩ } => match telem P tD with
    | some e => if tok P e = true then some (.cpy (P.cellsOf e) (.of d) (.of s)) else none
    | none => none
  | .call { callee := .builtin .clear, args := ⟨[x]⟩, argTypes := ⟨[t]⟩ } => match telem P t with
    | some e => match azero P e with
      | some z => if 0 < P.cellsOf e then some (.clr (P.cellsOf e) z (.of x)) else none
      | none => none
    | none => none
  | _ => none

theorem isp_ok {P : Program} {op : Op} {i : Ins} {T : Tm} {H : Hp} {nx : Nat} {K : AV → Hp → Nat → Prop} (hc : comp3 P op = some i) (h : isp i T H nx K) : aspec P op T H nx K := by
  have put : ∀ t m k x, comp3 P (.mapUpdate t m k x) = some i → isp i T H nx K → aspec P (.mapUpdate t m k x) T H nx K := by
    intro t m k x hc h
    simp only [comp3] at hc
    split at hc
    · rename_i kt et ht
      cases hk : mkk P kt with
      | none => rw [hk] at hc; cases hc
      | some mk =>
        rw [hk] at hc; cases hc
        obtain ⟨b, ks, vs, r, h1, h2, h3, h4, h5⟩ := h
        simp only [ov_of] at h1 h3 h4 h5
        exact aspec_mapUpdate ht hk h1 h2 h3 h4 h5
    · cases hc
  unfold comp3 at hc
  split at hc
  · rename_i t r
    split at hc
    · rename_i p ht
      cases hc
      obtain ⟨h1, h2⟩ := h
      refine aspec_makeMap ?_ h2
      rcases h1 with h1 | ⟨x, k, n, h1, h3⟩
      · cases r with
        | none => exact .inl rfl
        | some r => cases h1
      · cases r with
        | none => cases h1
        | some r => cases h1; rw [ov_of] at h3; exact .inr ⟨r, n, k, p, rfl, h3, ht⟩
    · cases hc
  · rename_i t m k x
    exact put t m k x hc h
  · rename_i t m k x
    exact aspec_insert (put t m k x hc h)
  · rename_i t m k ok
    split at hc
    · rename_i kt et ht
      split at hc
      · rename_i mk z hk hz
        cases hc
        obtain ⟨b, ks, vs, r, h1, h2, h3, h4, h5⟩ := h
        simp only [ov_of] at h1 h3 h4
        exact aspec_lookup ht hk hz h1 h2 h3 h4 h5
      · cases hc
    · cases hc
  · rename_i t m
    split at hc
    · rename_i p ht
      cases hc
      obtain ⟨b, ks, vs, h1, h2, h3⟩ := h
      rw [ov_of] at h1
      exact aspec_mrange ht h1 h2 h3
    · cases hc
  · cases hc
    obtain ⟨b, m, n0, seen, ks, vs, h1, h2, h3, h4, h5⟩ := h
    rw [ov_of] at h1
    exact aspec_mnext h1 h2 h3 h4 h5
  · rename_i x t
    split at hc
    · rename_i p ht
      cases hc
      obtain ⟨b, ks, vs, h1, h2, h3⟩ := h
      rw [ov_of] at h1
      exact aspec_mlen ht h1 h2 h3
    · cases hc
  · rename_i t x ty
    split at hc
    · rename_i e ht
      cases hc
      obtain ⟨k, h1, h2⟩ := h
      rw [ov_of] at h1
      exact aspec_snil (neg := false) ht h1 h2
    · cases hc
  · rename_i t x ty
    split at hc
    · rename_i e ht
      cases hc
      obtain ⟨k, h1, h2⟩ := h
      rw [ov_of] at h1
      exact aspec_snil (neg := true) ht h1 h2
    · cases hc
  · rename_i d s tD tS
    split at hc
    · rename_i e ht
      split at hc
      · rename_i hte
        cases hc
        obtain ⟨n, H', h1, h2⟩ := h
        simp only [ov_of] at h1
        exact aspec_copy ht hte h1 h2
      · cases hc
    · cases hc
  · rename_i x t
    split at hc
    · rename_i e ht
      split at hc
      · rename_i z hz
        split at hc
        · rename_i hpos
          cases hc
          obtain ⟨H', h1, h2⟩ := h
          simp only [ov_of] at h1
          exact aspec_clear ht hz h1 hpos h2
        · cases hc
      · cases hc
    · cases hc
  · cases hc

end Go.Abs
